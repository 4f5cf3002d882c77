/- ViewKeys: for every input the law returns true; the card, tied. No condition. -/
import Derived.Test.YtaccppchhljnkaaDoorVAll
import Derived.Test.YtaccppchhljnkaaDoorAtU
import Derived.Test.YtaccppchhljnkaaDoorRows
import Derived.ProofKit
import Derived.SevenTiedAt
import Derived.Lib.SmallJoins
import Derived.OpenShut
import Derived.ShutString
import Derived.ChangeOld
import Derived.Below
/- ViewKeys: its walk. -/
set_option linter.unusedVariables false
set_option linter.unusedSimpArgs false
namespace Go.Proofs.YtaccppchhljnkaaDoor
open Go.RowKit Go.Shelf Go.Proofs.YtaccppchhljnkaaDoorW.PrintWords Go.Proofs.YtaccppchhljnkaaDoorW.PrintLast Go.Proofs.YtaccppchhljnkaaDoorW.PrintMore
theorem wf8x {x : Int} (h : (Lit.int .u8 x).wf = true) : 0 ≤ x ∧ x ≤ 255 := by simpa [Lit.wf, IntKind.min, IntKind.max, IntKind.signed, IntKind.bits] using h
theorem loadV_keys (w h pad : Nat) (s : AtS) (hnd : s.keys.Nodup) (k : ByteArray) (fw fh : Int) (t : List Int) : ∀ u ∈ (loadV w h pad s k fw fh t).2.keys, u ∈ s.keys ∨ u = k := by
  intro u hu
  unfold loadV at hu
  split at hu
  · exact .inl hu
  · split at hu
    · exact .inl hu
    · split at hu
      · exact .inl hu
      · split at hu
        · rename_i B s' hr
          have hu' : u ∈ s'.keys ++ [k] := hu
          rcases List.mem_append.1 hu' with h1 | h1
          · exact .inl ((room_keep hnd hr).2.1 u h1).1
          · exact .inr (List.mem_singleton.1 h1)
        · exact .inl hu
theorem doS_keys (w h pad : Nat) (s : AtS) (hnd : s.keys.Nodup) (o : Int) (k p q : Nat) (i : Int) : ∀ u ∈ (doS w h pad s o k p q i).keys, u ∈ s.keys ∨ u = nmA k := by
  intro u hu
  unfold doS at hu
  split at hu
  · unfold touchV at hu
    split at hu
    · have hu' : u ∈ s.keys.erase (nmA k) ++ [nmA k] := hu
      rcases List.mem_append.1 hu' with h1 | h1
      · exact .inl (List.mem_of_mem_erase h1)
      · exact .inr (List.mem_singleton.1 h1)
    · exact .inl hu
  · split at hu
    · unfold evictV at hu
      split at hu
      · exact .inl (List.mem_of_mem_erase (show u ∈ s.keys.erase (nmA k) from hu))
      · exact .inl hu
    · split at hu
      · exact loadV_keys w h pad s hnd _ _ _ _ u hu
      · exact loadV_keys w h pad s hnd _ _ _ _ u hu
theorem doS_sz (w h pad : Nat) (s : AtS) (hnd : s.keys.Nodup) (o : Int) (k p q : Nat) (i : Int) (hn : ∀ u ∈ s.keys, u.size ≤ 100) : ∀ u ∈ (doS w h pad s o k p q i).keys, u.size ≤ 100 := fun u hu =>
  (doS_keys w h pad s hnd o k p q i u hu).elim (hn u) (fun e => by rw [e]; show 2 ≤ 100; omega)
theorem str_line (l : List UInt8) (k : ByteArray) (a b c d : Int) : ((((((((((⟨l.toArray⟩ : ByteArray) ++ k) ++ ⟨#[32]⟩) ++ ⟨(Lib.itoa a).toArray⟩) ++ ⟨#[32]⟩) ++ ⟨(Lib.itoa b).toArray⟩) ++ ⟨#[32]⟩) ++ ⟨(Lib.itoa c).toArray⟩) ++ ⟨#[32]⟩) ++ ⟨(Lib.itoa d).toArray⟩) ++ ⟨#[10]⟩ = ⟨(l ++ (k.data.toList ++ partL [a, b, c, d] ++ [10])).toArray⟩ := by
  have hk : k = ⟨(k.data.toList).toArray⟩ := rfl
  generalize k.data.toList = kl at *
  subst hk
  rw [show (⟨#[32]⟩ : ByteArray) = ⟨([32] : List UInt8).toArray⟩ from rfl, show (⟨#[10]⟩ : ByteArray) = ⟨([10] : List UInt8).toArray⟩ from rfl]
  iterate 10 rw [str_app]
  simp [partL]
attribute [local go_sem] max2_max min2_min max_two min_two
set_option maxHeartbeats 8000000 in
set_option maxRecDepth 100000 in
theorem viewKeys_core (x y z : Int) (hx : 0 ≤ x ∧ x ≤ 255) (hy : 0 ≤ y ∧ y ≤ 255) (hz : 0 ≤ z ∧ z ≤ 255) (a : Option Addr) (cap : Nat) (l : List Ax) (W0 : World) (rd : Kd.C kax W0 a l.length l) (le : l.length ≤ cap) (wf : ∀ p ∈ l, (Lit.int .u8 p.1).wf = true ∧ (Lit.int .u8 p.2.1).wf = true ∧ (Lit.int .u8 p.2.2.1).wf = true ∧ (Lit.int .u8 p.2.2.2.1).wf = true ∧ (Lit.int .u8 p.2.2.2.2).wf = true) (hT : Tab W0) :
    Calls Tryd.prog 7 #[.int .u8 x, .int .u8 y, .int .u8 z, .slice a l.length cap] W0 fun e w' => e = .returned (.bool true) ∧ Below W0.heap.size W0 w' := by
  obtain ⟨W, hW⟩ : ∃ W : Nat, (W : Int) = max 1 (min (x % 70) 64) := ⟨(max 1 (min (x % 70) 64)).toNat, by omega⟩
  obtain ⟨H, hH⟩ : ∃ H : Nat, (H : Int) = max 1 (min (y % 70) 64) := ⟨(max 1 (min (y % 70) 64)).toNat, by omega⟩
  obtain ⟨pad, hpad⟩ : ∃ pad : Nat, (pad : Int) = max 0 (min (z % 7 - 1) 4) := ⟨(max 0 (min (z % 7 - 1) 4)).toNat, by omega⟩
  have hw1 : 1 ≤ W ∧ W ≤ 64 := by omega
  have hh1 : 1 ≤ H ∧ H ≤ 64 := by omega
  have hp4 : pad ≤ 4 := by omega
  have HAW := Lib.hid (awake23 W0 hT)
  have HNEW := Lib.hid (fun w => new_c w x y z hx hy hz W H pad hW hH hpad)
  obtain ⟨M, hM⟩ : ∃ M, min l.length 40 = M := ⟨_, rfl⟩
  have hMi : min (l.length : Int) 40 = (M : Int) := by omega
  have hMl : M ≤ l.length := by omega
  have hML : M ≤ 40 := by omega
  have hMc : M ≤ cap := by omega
  have hMc' : (M : Int) ≤ (cap : Int) := by omega
  obtain ⟨len, hlen⟩ : ∃ len, l.length = len := ⟨_, rfl⟩
  have HLEN := Lib.hid hlen
  rw [hlen] at le hMi hMl ⊢
  have RD := Lib.hid rd
  have WF := Lib.hid wf
  have HT0 := Lib.hid hT
  clear hx hy hz hW hH hpad hM rd wf hlen hT
  go_enter Tryd.func7, Tryd.ntmps7
  go_wp2_with fail
  refine HAW.out.mono ?_
  rintro e w1 ⟨rfl, hb1⟩
  have HB1 := Lib.hid hb1
  clear hb1 HAW
  go_wp2_with fail
  refine (HNEW.out w1).mono ?_
  rintro e w2 ⟨b, bm, rfl, h2⟩
  have H2 : Hid (Two (fun q => q < W0.heap.size) W0 w2 b bm W H pad (zeroS W) (zeroS W) (fun _ => none)) := Lib.hid (h2.rebase (fun q hq => Nat.lt_of_lt_of_le hq HB1.out.size) (Kept.of_below _ HB1.out) (fun q hq => hq))
  clear h2 HNEW
  have hsk : ∃ g, w2.cell? ⟨bm, 3, none⟩ = some (.pointer (some ⟨g, 0, none⟩)) := by
    obtain ⟨c, cm, h1, h2, _⟩ := H2.out
    exact ⟨cm.g, h2.raw.cell.2.2.2.1⟩
  obtain ⟨gs, c3⟩ := hsk
  go_upto_region 7 with (fail)
  clear c3
  go_loopw [35] (fun v wr => ∃ (j : Nat) (s : AtS) (F : ByteArray → Option FV), v = .int .i64 j ∧ j ≤ M ∧ Hid (Two (fun q => q < W0.heap.size) W0 wr b bm W H pad s s F) ∧ Hid (s.gone.length + s.keys.length ≤ j) ∧ Hid (∀ u ∈ s.keys, u.size ≤ 100)) (fun v _ => M - (intOf v).toNat)
  case atStart => exact ⟨0, zeroS W, _, rfl, Nat.zero_le _, H2, Lib.hid (Nat.le_refl _), Lib.hid (fun u hu => by cases hu)⟩
  case round =>
    obtain ⟨j, s, F, rfl, hj, HT, HC, HNK⟩ := hrel
    clear H2
    by_cases hjm : j < M
    · have hjm' : (j : Int) < (M : Int) := by omega
      obtain ⟨ad, eA⟩ := C_some RD.out (by rw [HLEN.out]; omega)
      subst eA
      have hbel : Below W0.heap.size W0 wr := HT.out.out (fun q hq => hq) (Nat.le_refl _)
      obtain ⟨⟨o, k, px, py, i⟩, hp⟩ : ∃ p, l.getD j (0, 0, 0, 0, 0) = p := ⟨_, rfl⟩
      obtain ⟨a0, a1, a2, a3, a4⟩ := ax_at (Kd.C_below RD.out hbel) j (by rw [HLEN.out]; omega) _ hp
      have hpm : (o, k, px, py, i) ∈ l := by
        rw [List.getD_eq_getElem?_getD, List.getElem?_eq_getElem (by rw [HLEN.out]; omega), Option.getD_some] at hp
        rw [← hp]; exact List.getElem_mem _
      obtain ⟨f0, f1, f2, f3, f4⟩ := WF.out _ hpm
      have r0 := wf8x f0; have r1 := wf8x f1; have r2 := wf8x f2; have r3 := wf8x f3; have r4 := wf8x f4
      obtain ⟨kn, rfl⟩ := Int.eq_ofNat_of_zero_le r1.1
      simp only at a0 a1 a2 a3 a4 r0 r1 r2 r3 r4
      have hbb := below_alloc (Below.refl _ wr) (.cells #[.int .u8 o, .int .u8 (kn : Int), .int .u8 px, .int .u8 py, .int .u8 i] 23)
      have HT1 := Lib.hid (HT.out.below hbb)
      have G1 := heap_alloc_new wr (.cells #[.int .u8 o, .int .u8 (kn : Int), .int .u8 px, .int .u8 py, .int .u8 i] 23)
      have hdo := do_c HT1.out o px py i kn (px % 14).toNat (py % 14).toNat r0 (by omega) r2 r3 r4 (by omega) (by omega) (by have := HC.out; omega)
      have HDO := Lib.hid hdo
      have HC1 : Hid ((doS W H pad s o kn (px % 14).toNat (py % 14).toNat i).gone.length + (doS W H pad s o kn (px % 14).toNat (py % 14).toNat i).keys.length ≤ j + 1) := Lib.hid (by
        have h1 := doS_le W H pad s HT.out.on.inv.nd o kn (px % 14).toNat (py % 14).toNat i
        have h2 := HC.out
        omega)
      have HNK1 := Lib.hid (doS_sz W H pad s HT.out.on.inv.nd o kn (px % 14).toNat (py % 14).toNat i HNK.out)
      clear hbb hdo hp hpm f0 f1 f2 f3 f4 r0 r1 r2 r3 r4 hbel
      go_upto_region 9 with (fail)
      clear a0 a1 a2 a3 a4
      generalize wr.alloc (.cells #[.int .u8 o, .int .u8 (kn : Int), .int .u8 px, .int .u8 py, .int .u8 i] 23) = w5 at *
      have a0 : w5.cell? ⟨wr.heap.size, 0, none⟩ = some (.int .u8 o) := (blk_cell G1 0).trans rfl
      have a1 : w5.cell? ⟨wr.heap.size, 1, none⟩ = some (.int .u8 kn) := (blk_cell G1 1).trans rfl
      have a2 : w5.cell? ⟨wr.heap.size, 2, none⟩ = some (.int .u8 px) := (blk_cell G1 2).trans rfl
      have a3 : w5.cell? ⟨wr.heap.size, 3, none⟩ = some (.int .u8 py) := (blk_cell G1 3).trans rfl
      have a4 : w5.cell? ⟨wr.heap.size, 4, none⟩ = some (.int .u8 i) := (blk_cell G1 4).trans rfl
      clear G1
      go_wp2_with fail
      refine HDO.out.mono ?_
      rintro e w6 ⟨rfl, F6, h6⟩
      have H6 := Lib.hid h6
      clear h6 HDO HT HT1 a0 a1 a2 a3 a4
      go_wp2_with fail
      go_roundw
      case rel => exact ⟨j + 1, _, F6, by go_num, by omega, H6, HC1, HNK1⟩
      case measure => simp [intOf]; omega
    · have hjm' : ¬ (j : Int) < (M : Int) := by omega
      have HC0 : Hid (s.gone.length + s.keys.length ≤ 40) := Lib.hid (by have := HC.out; omega)
      clear HC hjm
      go_wp2_with fail
      refine (keys_on HT.out.on).mono ?_
      rintro e w3 ⟨vo, rfl, hs3, hb3, hg3, -⟩
      obtain ⟨A3, cap3, rfl, hc3⟩ := hs3.isSlice
      obtain ⟨K, hK⟩ : ∃ K, s.keys.length = K := ⟨_, rfl⟩
      have hK32 : K ≤ 32 := by rw [← hK]; exact HT.out.on.inv.le
      rw [hK] at hs3 hg3 hc3 ⊢
      have H3 := Lib.hid (HT.out.on.below hb3)
      have HB3 : Hid (Below W0.heap.size W0 w3) := Lib.hid (H3.out.out (fun q hq => hq) (Nat.le_refl _))
      have HT3 : Hid (Tab w3) := Lib.hid (HT0.out.below HB3.out)
      have S3 := Lib.hid hs3; have HK := Lib.hid hK
      have HIV := Lib.hid HT.out.on.inv
      clear hs3 hb3 hg3 HT hK
      go_upto_region 13 with (fail)
      have hbs0 : (⟨#[]⟩ : ByteArray) = bs [] := rfl
      rw [hbs0]
      clear hbs0
      go_loopw [13, 47] (fun v13 v47 wr => ∃ (i : Nat) (l : List UInt8), v13 = .string (bs l) ∧ v47 = .int .i64 i ∧ i ≤ K ∧ Hid (l = kyL pad s (s.keys.take i) ∧ l.length ≤ i * 300) ∧ Hid (Below w3.heap.size w3 wr)) (fun _ v47 _ => K - (intOf v47).toNat)
      case atStart => exact ⟨0, [], rfl, rfl, Nat.zero_le _, Lib.hid ⟨rfl, Nat.zero_le _⟩, Lib.hid (Below.refl _ _)⟩
      case round =>
        obtain ⟨i, l, rfl, rfl, hi, HL, HI⟩ := hrel
        by_cases hik : i < K
        · have hik' : (i : Int) < (K : Int) := by omega
          obtain ⟨k, hk⟩ : ∃ k, s.keys[i]? = some k := ⟨s.keys[i]'(by rw [HK.out]; exact hik), List.getElem?_eq_getElem _⟩
          have hkm : k ∈ s.keys := List.mem_of_getElem? hk
          obtain ⟨g3, rfl, hck, -⟩ := (S3.out.kept (Kept.of_below (fun _ => False) HI.out) (fun _ _ h => h)).elem (i := i) (x := .string k) hik (by rw [List.getElem?_map, hk]; rfl)
          have hks := HNK.out k hkm
          have hkz : k.size ≤ maxLen := by unfold maxLen; omega
          obtain ⟨X, Y, m, n, hr, q1, q2, q3, q4, q5⟩ := HIV.out.nat hkm
          obtain ⟨RX, hRX⟩ : ∃ RX : Int, RX = (X : Int) + pad := ⟨_, rfl⟩
          obtain ⟨RY, hRY⟩ : ∃ RY : Int, RY = (Y : Int) + pad := ⟨_, rfl⟩
          obtain ⟨RM, hRM⟩ : ∃ RM : Int, RM = (m : Int) := ⟨_, rfl⟩
          obtain ⟨RN, hRN⟩ : ∃ RN : Int, RN = (n : Int) := ⟨_, rfl⟩
          have hpl : s.pl k = some ((X : Int), (Y : Int), (m : Int) + 2 * pad, (n : Int) + 2 * pad) := by rw [HIV.out.hasPl hkm, hr]
          have hrv : rectV pad (s.pl k) = (RX, RY, RM, RN) := by
            rw [hpl]
            show ((X : Int) + pad, (Y : Int) + pad, (m : Int) + 2 * pad - 2 * pad, (n : Int) + 2 * pad - 2 * pad) = _
            rw [show (m : Int) + 2 * (pad : Int) - 2 * pad = m from by omega, show (n : Int) + 2 * (pad : Int) - 2 * pad = n from by omega, hRX, hRY, hRM, hRN]
          have hrr : (0 ≤ RX ∧ RX ≤ 64) ∧ (0 ≤ RY ∧ RY ≤ 64) ∧ (0 ≤ RM ∧ RM ≤ 64) ∧ (0 ≤ RN ∧ RN ≤ 64) := by omega
          have HRC : Hid (∀ w', Below w3.heap.size w3 w' → Calls Tryd.prog 18 #[.pointer (some ⟨b, 0, none⟩), .string k] w' fun e w'' => e = .returned (.tuple #[.agg #[.int .i64 RX, .int .i64 RY, .int .i64 RM, .int .i64 RN], .bool (s.pl k).isSome]) ∧ Below w'.heap.size w' w'') := Lib.hid (fun w' hb => (rect_on (H3.out.below hb) k hkz).mono (by
            rintro e w'' ⟨rfl, hb', -⟩
            rw [hrv]
            exact ⟨rfl, hb'⟩))
          have HLN : Hid (lineL k (rectV pad (s.pl k)) = k.data.toList ++ partL [RX, RY, RM, RN] ++ [10]) := Lib.hid (by rw [hrv]; rfl)
          have HKK := Lib.hid (And.intro hkm hk)
          have D1 := Lib.hid (fun W => digits_c RX (by omega) (by omega) W)
          have D2 := Lib.hid (fun W => digits_c RY (by omega) (by omega) W)
          have D3 := Lib.hid (fun W => digits_c RM (by omega) (by omega) W)
          have D4 := Lib.hid (fun W => digits_c RN (by omega) (by omega) W)
          have l1 := itoa_len RX (by omega) (by omega)
          have l2 := itoa_len RY (by omega) (by omega)
          have l3 := itoa_len RM (by omega) (by omega)
          have l4 := itoa_len RN (by omega) (by omega)
          have hll := HL.out.2
          have hl0 : l.length ≤ 9600 := by omega
          have s0 : ¬ 9223372036854775807 < l.length + k.size := by omega
          have s1 : ¬ 9223372036854775807 < l.length + k.size + 1 := by omega
          have s2 : ¬ 9223372036854775807 < l.length + k.size + 1 + (Lib.itoa RX).length := by omega
          have s3 : ¬ 9223372036854775807 < l.length + k.size + 1 + (Lib.itoa RX).length + 1 := by omega
          have s4 : ¬ 9223372036854775807 < l.length + k.size + 1 + (Lib.itoa RX).length + 1 + (Lib.itoa RY).length := by omega
          have s5 : ¬ 9223372036854775807 < l.length + k.size + 1 + (Lib.itoa RX).length + 1 + (Lib.itoa RY).length + 1 := by omega
          have s6 : ¬ 9223372036854775807 < l.length + k.size + 1 + (Lib.itoa RX).length + 1 + (Lib.itoa RY).length + 1 + (Lib.itoa RM).length := by omega
          have s7 : ¬ 9223372036854775807 < l.length + k.size + 1 + (Lib.itoa RX).length + 1 + (Lib.itoa RY).length + 1 + (Lib.itoa RM).length + 1 := by omega
          have s8 : ¬ 9223372036854775807 < l.length + k.size + 1 + (Lib.itoa RX).length + 1 + (Lib.itoa RY).length + 1 + (Lib.itoa RM).length + 1 + (Lib.itoa RN).length := by omega
          have s9 : ¬ 9223372036854775807 < l.length + k.size + 1 + (Lib.itoa RX).length + 1 + (Lib.itoa RY).length + 1 + (Lib.itoa RM).length + 1 + (Lib.itoa RN).length + 1 := by omega
          have hL2 : (l ++ lineL k (rectV pad (s.pl k))).length ≤ (i + 1) * 300 := by
            have hkl : k.data.toList.length = k.size := by show k.data.toList.length = k.data.size; exact Array.length_toList
            rw [HLN.out]
            simp only [List.length_append, partL, List.map_cons, List.map_nil, List.flatten_cons, List.flatten_nil, List.length_cons, List.length_nil]
            omega
          have HL2 := Lib.hid hL2
          clear hk hkm hkz hr q1 q2 q3 q4 q5 hRX hRY hRM hRN hpl hrv hrr l1 l2 l3 l4 hll hl0 hL2 hks
          go_wp2_with fail
          refine (HRC.out wr HI.out).mono ?_
          rintro e w5 ⟨rfl, hb5⟩
          have bb5 := below_alloc hb5 (.cells #[.int .i64 RX, .int .i64 RY, .int .i64 RM, .int .i64 RN] 45)
          have G5 := heap_alloc_new w5 (.cells #[.int .i64 RX, .int .i64 RY, .int .i64 RM, .int .i64 RN] 45)
          have I5 := Lib.hid (HI.out.trans (bb5.mono HI.out.size))
          clear hb5 bb5 hck
          go_upto_region 16 with (fail)
          generalize w5.alloc (.cells #[.int .i64 RX, .int .i64 RY, .int .i64 RM, .int .i64 RN] 45) = w6 at *
          generalize w5.heap.size = b16 at *
          have r0 : w6.cell? ⟨b16, 0, none⟩ = some (.int .i64 RX) := (blk_cell G5 0).trans rfl
          have r1 : w6.cell? ⟨b16, 1, none⟩ = some (.int .i64 RY) := (blk_cell G5 1).trans rfl
          have r2 : w6.cell? ⟨b16, 2, none⟩ = some (.int .i64 RM) := (blk_cell G5 2).trans rfl
          have r3 : w6.cell? ⟨b16, 3, none⟩ = some (.int .i64 RN) := (blk_cell G5 3).trans rfl
          clear G5
          go_quiet ((first | (go_at_call_of 12 RX; exact Calls.quiet_of_same (D1.out _)) | (go_at_call_of 12 RY; exact Calls.quiet_of_same (D2.out _)) | (go_at_call_of 12 RM; exact Calls.quiet_of_same (D3.out _)) | (go_at_call_of 12 RN; exact Calls.quiet_of_same (D4.out _))))
          clear s0 s1 s2 s3 s4 s5 s6 s7 s8 s9 r0 r1 r2 r3
          go_wp2_with fail
          go_roundw
          case rel => exact ⟨i + 1, l ++ lineL k (rectV pad (s.pl k)), by rw [HLN.out]; exact congrArg Value.string (str_line l k RX RY RM RN), by go_num, by omega, Lib.hid ⟨by
            have e2 : s.keys.take (i + 1) = s.keys.take i ++ [k] := by rw [List.take_add_one, HKK.out.2]; rfl
            rw [HL.out.1, e2]
            unfold kyL
            rw [List.map_append, List.flatten_append]
            simp, HL2.out⟩, Lib.hid (below_drewN I5.out nq)⟩
          case measure => simp [intOf]; omega
        · have hik' : ¬ (i : Int) < (K : Int) := by omega
          obtain rfl : i = K := by omega
          have hl := HL.out.1
          rw [List.take_of_length_le (by rw [HK.out]; omega)] at hl
          have HL2 := Lib.hid hl
          clear hl
          go_wp2_with fail
          refine (vkeys_c (H3.out.below HI.out) (HT3.out.below HI.out) HNK.out).mono ?_
          rintro e w9 ⟨rfl, hb9⟩
          rw [← HL2.out]
          go_wp2_with fail
          go_ret
          exact ⟨rfl, HB3.out.trans ((HI.out.trans (hb9.mono HI.out.size)).mono HB3.out.size)⟩
end Go.Proofs.YtaccppchhljnkaaDoor
set_option linter.unusedVariables false
set_option linter.unusedSimpArgs false
namespace Go.Proofs.YtaccppchhljnkaaDoor
open Go.RowKit Go.Proofs.YtaccppchhljnkaaDoorW.PrintWords Go.Proofs.YtaccppchhljnkaaDoorW.PrintMore
theorem wfu8 {x : Int} (h : (Lit.int .u8 x).wf = true) : 0 ≤ x ∧ x ≤ 255 := by simpa [Lit.wf, IntKind.min, IntKind.max, IntKind.signed, IntKind.bits] using h
theorem wfi8 {x : Int} (h : (Lit.int .i8 x).wf = true) : -128 ≤ x ∧ x ≤ 127 := by simpa [Lit.wf, IntKind.min, IntKind.max, IntKind.signed, IntKind.bits] using h
theorem wfi16 {x : Int} (h : (Lit.int .i16 x).wf = true) : -32768 ≤ x ∧ x ≤ 32767 := by simpa [Lit.wf, IntKind.min, IntKind.max, IntKind.signed, IntKind.bits] using h

namespace viewKeys
open Go.ChangeShapes Go.WideShapes Go.ChangeAt Go.RowKit
open Go.ChangeMaps (open_string shut_string)
theorem own : ownKnob Tryd.prog.godebug = none := by kernel_rfl
theorem laidOut : laidOutB Tryd.prog = true := by kernel_rfl

set_option maxRecDepth 100000 in
theorem lifted (os : Os) (started : os.Started) (H : Type) (enc : TypeId × Value → H) :
    ReturnsInHanded {} Tryd.checked os 7 .any (fun w args => (Rows.viewKeysSpec.pre enc Tryd.prog Tryd.f7 [] false w args ∧ laidMetH Tryd.prog vLaid w) ∧ sizedMet enc Tryd.prog Tryd.f7 (OpenSpec.ofChange Rows.viewKeysSpec) false w args) (Rows.viewKeysSpec.post enc Tryd.prog Tryd.f7 false true false false) := by
  refine returnsInHanded_of_change_and (C := Tryd.checked) (X := fun w _ => laidMetH Tryd.prog vLaid w) (fun _ _ _ hh h => h.of_heap hh) own started (by kernel_rfl) Tryd.func7
    (ChangeSpec.witness_shaped (enc := enc) (C := Tryd.checked) (os := os) (X := fun w _ => laidMetH Tryd.prog vLaid w) false (World.doorLaid Tryd.prog 400 os) #[.int .u8 0, .int .u8 0, .int .u8 0, .slice none 0 0] 8 rfl (World.shaped_of_RefB (by kernel_rfl) (by kernel_rfl)) (by kernel_rfl) (by kernel_rfl) (by kernel_rfl) (door_met os _)) ?_
  intro W base args ds gs before hval0 hW hcnd _ hL _
  have hval : ∀ (j : Nat) t v, Tryd.f7.params[j]? = some t → args[j]? = some v → Value.okWide Tryd.prog W .any base t v := hval0
  have hW' := hW
  obtain ⟨p, q, hA0, hV, rfl, hfz, hnd⟩ := hW
  have hA : DataW.TrodAll enc Tryd.prog W 0 (fun _ => true) true Tryd.f7.params.toList args.toList ds p := hA0
  rw [Tryd.params7] at hA hval
  obtain ⟨v0, vs0, d0, ds0, p0, q0, hargs, rfl, rfl, h0, r0⟩ := trodAll_cons hA
  obtain ⟨v1, vs1, d1, ds1, p1, q1, rfl, rfl, rfl, h1, r1⟩ := trodAll_cons r0
  obtain ⟨v2, vs2, d2, ds2, p2, q2, rfl, rfl, rfl, h2, r2⟩ := trodAll_cons r1
  obtain ⟨v3, vs3, d3, ds3, p3, q3, rfl, rfl, rfl, h3, r3⟩ := trodAll_cons r2
  obtain ⟨rfl, rfl, rfl⟩ := trodAll_nil r3
  obtain rfl : args = #[v0, v1, v2, v3] := by cases args; simp_all
  obtain ⟨rfl, rfl⟩ := trodVars_none hV
  obtain ⟨a0, rfl, rfl, rfl, w0⟩ := open_int Tryd.underlying5 (hval 0 5 v0 rfl rfl) h0
  obtain ⟨a1, rfl, rfl, rfl, w1⟩ := open_int Tryd.underlying5 (hval 1 5 v1 rfl rfl) h1
  obtain ⟨a2, rfl, rfl, rfl, w2⟩ := open_int Tryd.underlying5 (hval 2 5 v2 rfl rfl) h2
  obtain ⟨a3, len3, cap3, rfl⟩ := okWide_slice Tryd.underlying36 (hval 3 36 v3 rfl rfl)
  have k3 := h3
  have lt3 : ∀ x ∈ p3, x.block < W.heap.size := by obtain ⟨m, hm⟩ := k3; exact DataW.trod_lt m _ _ _ hm
  obtain ⟨l3, rfl, rd3, le3, wf3⟩ := open_acts h3
  clear hA0 hval0
  refine (viewKeys_core a0 a1 a2 (wfu8 w0) (wfu8 w1) (wfu8 w2) a3 cap3 l3 W rd3 le3 wf3 (tab_of hL)).mono fun e W' ⟨he, bel⟩ => ?_
  subst he
  exact ⟨_, rfl, _, _, _, [], _, [], hW', trodAll_mk1 (shut_bool Tryd.underlying4 _), (trodAll_cons_mk (shut_int Tryd.underlying5 w0) (trodAll_cons_mk (shut_int Tryd.underlying5 w1) (trodAll_cons_mk (shut_int Tryd.underlying5 w2) (trodAll_cons_mk (Below.trod laidOut (by kernel_rfl) (of_decide_eq_true (by kernel_rfl)) k3 bel lt3) trodAll_mk0)))), rfl, bel.frame _, fun h => by cases h⟩

theorem over : Rows.viewKeysRow.holds Tryd.pinned (OpenSpec.ofChange Rows.viewKeysSpec) :=
  OpenClaim.holds_of_wide 7 Tryd.f7 rfl rfl rfl rfl rfl rfl rfl ⟨rfl, rfl, rfl, rfl, rfl⟩ rfl rfl rfl rfl rfl (by kernel_rfl) Tryd.func7 (by kernel_rfl)
    (of_decide_eq_true (by kernel_rfl)) (by unfold Func.isWrapper; first | (rw [if_pos (by decide +kernel)]; kernel_rfl) | (rw [if_neg (by decide +kernel)]; exact ⟨rfl, rfl⟩))
    (fun os started H enc _ => lifted os started H enc)

theorem proved : Rows.ViewKeysCardSaid :=
  Claim7.holds_tied_plain_at .later [] [.data, .data, .data] true (true, "9f61736623f24a406a096889e4604567b643a8a2236ce8bbd74d46cd243b27bf") false
    over (fun _ h => by cases h) (by kernel_rfl) (fun _ h => by cases h) viewKeys_row_tie rfl ⟨rfl, rfl⟩ (by kernel_rfl) rfl
    (fun f fn hf hfn => by
      obtain rfl : f = 7 := Option.some.inj ((show Tryd.prog.funcNamed Rows.viewKeysRow.func = some 7 by kernel_rfl).symm.trans hf) |>.symm
      obtain rfl : fn = Tryd.f7 := (Option.some.inj (Tryd.func7.symm.trans hfn)).symm
      exact ⟨by kernel_rfl, fun j t ht => by
        rw [Tryd.params7] at ht
        have hm := Array.mem_of_getElem? ht
        have hm2 : t = 5 ∨ t = 36 := by
          simp at hm
          exact hm
        rcases hm2 with rfl | rfl
        · exact (show Tryd.prog.wantsStandIn 5 = false by kernel_rfl)
        · exact (show Tryd.prog.wantsStandIn 36 = false by kernel_rfl)⟩)
    (by kernel_rfl)
end viewKeys
end Go.Proofs.YtaccppchhljnkaaDoor
