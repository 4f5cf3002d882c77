/- AtlasSize: its walk. -/
import Derived.Test.YtaccppchhljnkaaAwk
import Derived.Test.YtaccppchhljnkaaAtU
set_option linter.unusedVariables false
set_option linter.unusedSimpArgs false
namespace Go.Proofs.Ytaccppchhljnkaa
open Go.RowKit Go.Shelf Go.Proofs.YtaccppchhljnkaaW.PrintWords Go.Proofs.YtaccppchhljnkaaW.PrintLast Go.Proofs.YtaccppchhljnkaaW.PrintMore
theorem wf8x {x : Int} (h : (Lit.int .u8 x).wf = true) : 0 ≤ x ∧ x ≤ 255 := by simpa [Lit.wf, IntKind.min, IntKind.max, IntKind.signed, IntKind.bits] using h
def newK : ByteArray := ⟨#[110, 101, 119]⟩
theorem nm_new (n : Nat) : nmA n ≠ newK := fun h => by
  have := congrArg ByteArray.size h
  exact absurd (show 2 = 3 from this) (by decide)
theorem loadV_keys (w h pad : Nat) (s : AtS) (hnd : s.keys.Nodup) (k : ByteArray) (fw fh : Int) (t : List Int) : ∀ u ∈ (loadV w h pad s k fw fh t).2.keys, u ∈ s.keys ∨ u = k := by
  intro u hu
  unfold loadV at hu
  split at hu
  · exact .inl hu
  · split at hu
    · exact .inl hu
    · split at hu
      · exact .inl hu
      · split at hu
        · rename_i B s' hr
          have hu' : u ∈ s'.keys ++ [k] := hu
          rcases List.mem_append.1 hu' with h1 | h1
          · exact .inl ((room_keep hnd hr).2.1 u h1).1
          · exact .inr (List.mem_singleton.1 h1)
        · exact .inl hu
theorem doS_keys (w h pad : Nat) (s : AtS) (hnd : s.keys.Nodup) (o : Int) (k p q : Nat) (i : Int) : ∀ u ∈ (doS w h pad s o k p q i).keys, u ∈ s.keys ∨ u = nmA k := by
  intro u hu
  unfold doS at hu
  split at hu
  · unfold touchV at hu
    split at hu
    · have hu' : u ∈ s.keys.erase (nmA k) ++ [nmA k] := hu
      rcases List.mem_append.1 hu' with h1 | h1
      · exact .inl (List.mem_of_mem_erase h1)
      · exact .inr (List.mem_singleton.1 h1)
    · exact .inl hu
  · split at hu
    · unfold evictV at hu
      split at hu
      · exact .inl (List.mem_of_mem_erase (show u ∈ s.keys.erase (nmA k) from hu))
      · exact .inl hu
    · split at hu
      · exact loadV_keys w h pad s hnd _ _ _ _ u hu
      · exact loadV_keys w h pad s hnd _ _ _ _ u hu
theorem doS_new (w h pad : Nat) (s : AtS) (hnd : s.keys.Nodup) (o : Int) (k p q : Nat) (i : Int) (hn : ∀ u ∈ s.keys, u ≠ newK) : ∀ u ∈ (doS w h pad s o k p q i).keys, u ≠ newK := fun u hu =>
  (doS_keys w h pad s hnd o k p q i u hu).elim (hn u) (fun e => e ▸ nm_new k)
/-- What Load of a new key tells: nothing came of it, or it came last, and the first ones went. -/
theorem loadV_new (w h pad : Nat) (s : AtS) (hI : AtI w h pad s) (k : ByteArray) (hk : k ∉ s.keys) (fw fh : Int) (t : List Int) :
    ((loadV w h pad s k fw fh t).1 ≠ 0 ∧ (loadV w h pad s k fw fh t).2 = s) ∨
    ((loadV w h pad s k fw fh t).1 = 0 ∧ ¬ badF fw fh t.length ∧ ¬ ((w : Int) < fw + 2 * pad ∨ (h : Int) < fh + 2 * pad) ∧ ∃ i, i ≤ s.keys.length ∧ (loadV w h pad s k fw fh t).2.keys = s.keys.drop i ++ [k] ∧ (loadV w h pad s k fw fh t).2.gone = s.gone ++ s.keys.take i) := by
  unfold loadV
  rw [if_neg hk]
  by_cases hb : badF fw fh t.length
  · rw [if_pos hb]; exact .inl ⟨show (4 : Int) ≠ 0 by decide, rfl⟩
  · rw [if_neg hb]
    by_cases hz : (w : Int) < fw + 2 * pad ∨ (h : Int) < fh + 2 * pad
    · rw [if_pos hz]; exact .inl ⟨show (6 : Int) ≠ 0 by decide, rfl⟩
    · rw [if_neg hz]
      cases hr : room w h (fw + 2 * pad) (fh + 2 * pad) s with
      | none => exact .inl ⟨show (8 : Int) ≠ 0 by decide, rfl⟩
      | some x =>
        obtain ⟨B, s'⟩ := x
        obtain ⟨-, -, -, i, h1, h2, h3⟩ := room_keep hI.nd hr
        exact .inr ⟨rfl, hb, hz, i, h1, (by show s'.keys ++ [k] = _; rw [h2]), h3⟩
theorem loadV_size (w h pad : Nat) (s : AtS) (hI : AtI w h pad s) (k : ByteArray) (hk : k ∉ s.keys) (fw fh : Int) (t : List Int) (hb : ¬ badF fw fh t.length) :
    ((w : Int) < fw + 2 * pad ∨ (h : Int) < fh + 2 * pad) ∧ loadV w h pad s k fw fh t = (6, s) ∨
    ¬ ((w : Int) < fw + 2 * pad ∨ (h : Int) < fh + 2 * pad) ∧ (loadV w h pad s k fw fh t).1 = 0 ∧ ∃ i, i ≤ s.keys.length ∧ (loadV w h pad s k fw fh t).2.keys = s.keys.drop i ++ [k] := by
  have hb' := hb
  unfold badF at hb'
  by_cases hz : (w : Int) < fw + 2 * pad ∨ (h : Int) < fh + 2 * pad
  · refine .inl ⟨hz, ?_⟩
    unfold loadV
    rw [if_neg hk, if_neg hb, if_pos hz]
  · refine .inr ⟨hz, ?_⟩
    have h1 := loadV_new w h pad s hI k hk fw fh t
    have h2 : (loadV w h pad s k fw fh t).1 = 0 := by
      unfold loadV
      rw [if_neg hk, if_neg hb, if_neg hz]
      obtain ⟨B, s', hr, _⟩ := room_some (pad := pad) (m := fw + 2 * pad) (n := fh + 2 * pad) (by omega) (by omega) (by omega) (by omega) s.keys.length s rfl hI
      rw [hr]
    rcases h1 with h1 | ⟨-, -, -, i, h3, h4, -⟩
    · exact absurd h2 h1.1
    · exact ⟨h2, i, h3, h4⟩
attribute [local go_sem] max2_max min2_min max_two min_two
set_option maxHeartbeats 8000000 in
set_option maxRecDepth 100000 in
theorem atlasSize_core (x y z : Int) (hx : 0 ≤ x ∧ x ≤ 255) (hy : 0 ≤ y ∧ y ≤ 255) (hz : 0 ≤ z ∧ z ≤ 255) (a : Option Addr) (cap : Nat) (l : List Ax) (W0 : World) (rd : Kd.C kax W0 a l.length l) (le : l.length ≤ cap) (wf : ∀ p ∈ l, (Lit.int .u8 p.1).wf = true ∧ (Lit.int .u8 p.2.1).wf = true ∧ (Lit.int .u8 p.2.2.1).wf = true ∧ (Lit.int .u8 p.2.2.2.1).wf = true ∧ (Lit.int .u8 p.2.2.2.2).wf = true) (mm nn : Int) (hmm : 0 ≤ mm ∧ mm ≤ 255) (hnn : 0 ≤ nn ∧ nn ≤ 255) :
    Calls Try.prog 4 #[.int .u8 x, .int .u8 y, .int .u8 z, .slice a l.length cap, .int .u8 mm, .int .u8 nn] W0 fun e w' => e = .returned (.bool true) ∧ Below W0.heap.size W0 w' := by
  obtain ⟨W, hW⟩ : ∃ W : Nat, (W : Int) = max 1 (min (x % 70) 64) := ⟨(max 1 (min (x % 70) 64)).toNat, by omega⟩
  obtain ⟨H, hH⟩ : ∃ H : Nat, (H : Int) = max 1 (min (y % 70) 64) := ⟨(max 1 (min (y % 70) 64)).toNat, by omega⟩
  obtain ⟨pad, hpad⟩ : ∃ pad : Nat, (pad : Int) = max 0 (min (z % 7 - 1) 4) := ⟨(max 0 (min (z % 7 - 1) 4)).toNat, by omega⟩
  have hw1 : 1 ≤ W ∧ W ≤ 64 := by omega
  have hh1 : 1 ≤ H ∧ H ≤ 64 := by omega
  have hp4 : pad ≤ 4 := by omega
  have HAW := Lib.hid (awake16 W0)
  have HNEW := Lib.hid (fun w => new_c w x y z hx hy hz W H pad hW hH hpad)
  obtain ⟨M, hM⟩ : ∃ M, min l.length 40 = M := ⟨_, rfl⟩
  have hMi : min (l.length : Int) 40 = (M : Int) := by omega
  have hMl : M ≤ l.length := by omega
  have hML : M ≤ 40 := by omega
  have hMc : M ≤ cap := by omega
  have hMc' : (M : Int) ≤ (cap : Int) := by omega
  obtain ⟨len, hlen⟩ : ∃ len, l.length = len := ⟨_, rfl⟩
  have HLEN := Lib.hid hlen
  rw [hlen] at le hMi hMl ⊢
  have RD := Lib.hid rd
  have WF := Lib.hid wf
  clear hx hy hz hW hH hpad hM rd wf hlen
  go_enter Try.func4, Try.ntmps4
  go_wp2_with fail
  refine HAW.out.mono ?_
  rintro e w1 ⟨rfl, hb1⟩
  have HB1 := Lib.hid hb1
  clear hb1 HAW
  go_wp2_with fail
  refine (HNEW.out w1).mono ?_
  rintro e w2 ⟨b, bm, rfl, h2⟩
  have H2 : Hid (Two (fun q => q < W0.heap.size) W0 w2 b bm W H pad (zeroS W) (zeroS W) (fun _ => none)) := Lib.hid (h2.rebase (fun q hq => Nat.lt_of_lt_of_le hq HB1.out.size) (Kept.of_below _ HB1.out) (fun q hq => hq))
  clear h2 HNEW
  have hsk : ∃ g, w2.cell? ⟨bm, 3, none⟩ = some (.pointer (some ⟨g, 0, none⟩)) := by
    obtain ⟨c, cm, h1, h2, _⟩ := H2.out
    exact ⟨cm.g, h2.raw.cell.2.2.2.1⟩
  obtain ⟨gs, c3⟩ := hsk
  go_upto_region 7 with (fail)
  clear c3
  go_loopw [47] (fun v wr => ∃ (j : Nat) (s : AtS) (F : ByteArray → Option FV), v = .int .i64 j ∧ j ≤ M ∧ Hid (Two (fun q => q < W0.heap.size) W0 wr b bm W H pad s s F) ∧ Hid (s.gone.length + s.keys.length ≤ j) ∧ Hid (∀ u ∈ s.keys, u ≠ newK)) (fun v _ => M - (intOf v).toNat)
  case atStart => exact ⟨0, zeroS W, _, rfl, Nat.zero_le _, H2, Lib.hid (Nat.le_refl _), Lib.hid (fun u hu => by cases hu)⟩
  case round =>
    obtain ⟨j, s, F, rfl, hj, HT, HC, HNK⟩ := hrel
    clear H2
    by_cases hjm : j < M
    · have hjm' : (j : Int) < (M : Int) := by omega
      obtain ⟨ad, eA⟩ := C_some RD.out (by rw [HLEN.out]; omega)
      subst eA
      have hbel : Below W0.heap.size W0 wr := HT.out.out (fun q hq => hq) (Nat.le_refl _)
      obtain ⟨⟨o, k, px, py, i⟩, hp⟩ : ∃ p, l.getD j (0, 0, 0, 0, 0) = p := ⟨_, rfl⟩
      obtain ⟨a0, a1, a2, a3, a4⟩ := ax_at (Kd.C_below RD.out hbel) j (by rw [HLEN.out]; omega) _ hp
      have hpm : (o, k, px, py, i) ∈ l := by
        rw [List.getD_eq_getElem?_getD, List.getElem?_eq_getElem (by rw [HLEN.out]; omega), Option.getD_some] at hp
        rw [← hp]; exact List.getElem_mem _
      obtain ⟨f0, f1, f2, f3, f4⟩ := WF.out _ hpm
      have r0 := wf8x f0; have r1 := wf8x f1; have r2 := wf8x f2; have r3 := wf8x f3; have r4 := wf8x f4
      obtain ⟨kn, rfl⟩ := Int.eq_ofNat_of_zero_le r1.1
      simp only at a0 a1 a2 a3 a4 r0 r1 r2 r3 r4
      have hbb := below_alloc (Below.refl _ wr) (.cells #[.int .u8 o, .int .u8 (kn : Int), .int .u8 px, .int .u8 py, .int .u8 i] 35)
      have HT1 := Lib.hid (HT.out.below hbb)
      have G1 := heap_alloc_new wr (.cells #[.int .u8 o, .int .u8 (kn : Int), .int .u8 px, .int .u8 py, .int .u8 i] 35)
      have hdo := do_c HT1.out o px py i kn (px % 14).toNat (py % 14).toNat r0 (by omega) r2 r3 r4 (by omega) (by omega) (by have := HC.out; omega)
      have HDO := Lib.hid hdo
      have HC1 : Hid ((doS W H pad s o kn (px % 14).toNat (py % 14).toNat i).gone.length + (doS W H pad s o kn (px % 14).toNat (py % 14).toNat i).keys.length ≤ j + 1) := Lib.hid (by
        have h1 := doS_le W H pad s HT.out.on.inv.nd o kn (px % 14).toNat (py % 14).toNat i
        have h2 := HC.out
        omega)
      have HNK1 := Lib.hid (doS_new W H pad s HT.out.on.inv.nd o kn (px % 14).toNat (py % 14).toNat i HNK.out)
      clear hbb hdo hp hpm f0 f1 f2 f3 f4 r0 r1 r2 r3 r4 hbel
      go_upto_region 9 with (fail)
      clear a0 a1 a2 a3 a4
      generalize wr.alloc (.cells #[.int .u8 o, .int .u8 (kn : Int), .int .u8 px, .int .u8 py, .int .u8 i] 35) = w5 at *
      have a0 : w5.cell? ⟨wr.heap.size, 0, none⟩ = some (.int .u8 o) := (blk_cell G1 0).trans rfl
      have a1 : w5.cell? ⟨wr.heap.size, 1, none⟩ = some (.int .u8 kn) := (blk_cell G1 1).trans rfl
      have a2 : w5.cell? ⟨wr.heap.size, 2, none⟩ = some (.int .u8 px) := (blk_cell G1 2).trans rfl
      have a3 : w5.cell? ⟨wr.heap.size, 3, none⟩ = some (.int .u8 py) := (blk_cell G1 3).trans rfl
      have a4 : w5.cell? ⟨wr.heap.size, 4, none⟩ = some (.int .u8 i) := (blk_cell G1 4).trans rfl
      clear G1
      go_wp2_with fail
      refine HDO.out.mono ?_
      rintro e w6 ⟨rfl, F6, h6⟩
      have H6 := Lib.hid h6
      clear h6 HDO HT HT1 a0 a1 a2 a3 a4
      go_wp2_with fail
      go_roundw
      case rel => exact ⟨j + 1, _, F6, by go_num, by omega, H6, HC1, HNK1⟩
      case measure => simp [intOf]; omega
    · have hjm' : ¬ (j : Int) < (M : Int) := by omega
      have HC0 : Hid (s.gone.length + s.keys.length ≤ 40) := Lib.hid (by have := HC.out; omega)
      clear HC hjm
      obtain ⟨a, ha⟩ : ∃ a : Nat, (a : Int) = 1 + mm % 64 := ⟨(1 + mm % 64).toNat, by omega⟩
      obtain ⟨c, hc⟩ : ∃ c : Nat, (c : Int) = 1 + nn % 64 := ⟨(1 + nn % 64).toNat, by omega⟩
      have ha1 : 1 ≤ a ∧ a ≤ 64 := by omega
      have hc1 : 1 ≤ c ∧ c ≤ 64 := by omega
      obtain ⟨T, hT⟩ : ∃ T, a * c = T := ⟨_, rfl⟩
      have hT4 : T ≤ 4096 := by rw [← hT]; exact Nat.le_trans (Nat.mul_le_mul ha1.2 hc1.2) (by decide)
      have tm : mm.tmod 64 = mm % 64 := Int.tmod_eq_emod_of_nonneg hmm.1
      have tn : nn.tmod 64 = nn % 64 := Int.tmod_eq_emod_of_nonneg hnn.1
      have wm : IntKind.i64.wrap (mm % 64) = mm % 64 := by rw [IntKind.wrap_i64]; omega
      have wn : IntKind.i64.wrap (nn % 64) = nn % 64 := by rw [IntKind.wrap_i64]; omega
      have wm1 : IntKind.i64.wrap (1 + mm % 64) = (a : Int) := by rw [IntKind.wrap_i64]; omega
      have wn1 : IntKind.i64.wrap (1 + nn % 64) = (c : Int) := by rw [IntKind.wrap_i64]; omega
      have wac : IntKind.i64.wrap ((a : Int) * (c : Int)) = (T : Int) := by rw [← Int.natCast_mul, hT, IntKind.wrap_i64]; omega
      have hmk : ∀ W', (Instr.makeSlice 42 (.int .i64 (T : Int)) (.int .i64 (T : Int))).run Try.prog W' = .ok (.slice (some ⟨W'.heap.size, 0, none⟩) T T) (W'.alloc (.cells (Array.replicate T (.int .u8 0)) 5)) := fun W' => make8 T (by omega) W'
      have hnk : newK ∉ s.keys := fun h => HNK.out _ h rfl
      have hbad : ¬ badF (a : Int) (c : Int) (List.replicate T (0 : Int)).length := by
        unfold badF; rw [List.length_replicate, ← Int.natCast_mul, hT]; omega
      have HSZ := Lib.hid (loadV_size W H pad s HT.out.on.inv newK hnk a c (List.replicate T 0) hbad)
      have HG1 : Hid (s.gone.length ≤ 100000) := Lib.hid (by have := HC0.out; omega)
      have HAC := Lib.hid (And.intro ha1 hc1)
      clear hnk hbad hT ha hc HC0 HNK
      have bb0 := below_alloc (Below.refl _ wr) (.cells #[.int .i64 a, .int .i64 c, .slice none 0 0] 44)
      have G0 := heap_alloc_new wr (.cells #[.int .i64 a, .int .i64 c, .slice none 0 0] 44)
      go_upto_region 12 with (fail)
      generalize wr.alloc (.cells #[.int .i64 a, .int .i64 c, .slice none 0 0] 44) = w5 at *
      obtain ⟨gf, hgf⟩ : ∃ gf, wr.heap.size = gf := ⟨_, rfl⟩
      rw [hgf] at G0 ⊢
      have c0 : w5.cell? ⟨gf, 0, none⟩ = some (.int .i64 a) := (blk_cell G0 0).trans rfl
      have c1 : w5.cell? ⟨gf, 1, none⟩ = some (.int .i64 c) := (blk_cell G0 1).trans rfl
      have G1 := blk_below G0 (below_alloc (Below.refl _ w5) (.cells (Array.replicate T (.int .u8 0)) 5))
      have c2 : (w5.alloc (.cells (Array.replicate T (.int .u8 0)) 5)).cell? ⟨gf, 2, none⟩ = some (.slice none 0 0) := (blk_cell G1 2).trans rfl
      have f2 := blk_frozen G1 2
      have hlt5 := lt_in G0
      have hne : w5.heap.size ≠ gf := by omega
      go_upto_region 13 with (fail)
      obtain ⟨gt, hgt⟩ : ∃ gt, w5.heap.size = gt := ⟨_, rfl⟩
      rw [hgt] at hne ⊢
      have G6 : (w5.setCell ⟨gf, 2, none⟩ (.slice (some ⟨gt, 0, none⟩) T T)).heap[gf]? = some (.cells #[.int .i64 a, .int .i64 c, .slice (some ⟨gt, 0, none⟩) T T] 44 (0, 0)) := heap_setCell_in _ G0
      have B6 : Below wr.heap.size wr (w5.setCell ⟨gf, 2, none⟩ (.slice (some ⟨gt, 0, none⟩) T T)) := below_set bb0 (Nat.le_of_eq hgf)
      have s6 : (w5.setCell ⟨gf, 2, none⟩ (.slice (some ⟨gt, 0, none⟩) T T)).heap.size = gt := by rw [World.size_setCell]; exact hgt
      generalize w5.setCell ⟨gf, 2, none⟩ (.slice (some ⟨gt, 0, none⟩) T T) = w6 at *
      have B7 := below_alloc B6 (.cells (Array.replicate T (.int .u8 0)) 5)
      have G7 := blk_below G6 (below_alloc (Below.refl _ w6) (.cells (Array.replicate T (.int .u8 0)) 5))
      have X7 := heap_alloc_new w6 (.cells (Array.replicate T (.int .u8 0)) 5)
      rw [s6] at X7
      generalize w6.alloc (.cells (Array.replicate T (.int .u8 0)) 5) = w7 at *
      have h7 := HT.out.add (Q := fun q => q < W0.heap.size ∨ (wr.heap.size ≤ q ∧ q < w7.heap.size)) B7 (fun q hq => by
        rcases hq with hq | hq
        · have := HT.out.keptP.size; have := B7.size; exact ⟨by omega, .inl hq⟩
        · exact ⟨hq.2, .inr hq.1⟩)
      have K7 : Hid (Kept (fun q => ¬ q < W0.heap.size) W0 w7) := Lib.hid (HT.out.keptP.trans (Kept.of_below _ B7))
      obtain ⟨Q0, hQ0⟩ : ∃ Q0 : Nat → Prop, (fun q => q < W0.heap.size ∨ (wr.heap.size ≤ q ∧ q < w7.heap.size)) = Q0 := ⟨_, rfl⟩
      have HQP : Hid (∀ q, q < W0.heap.size → Q0 q) := Lib.hid (fun q hq => by rw [← hQ0]; exact .inl hq)
      have HQF : Hid (Q0 gf) := Lib.hid (by rw [← hQ0]; exact .inr ⟨Nat.le_of_eq hgf, lt_in G7⟩)
      have HQT : Hid (Q0 gt) := Lib.hid (by rw [← hQ0]; refine .inr ⟨?_, lt_in X7⟩; rw [hgf, ← hgt]; omega)
      rw [hQ0] at h7
      have H7 := Lib.hid h7
      have HG7 := Lib.hid G7
      have HX7 := Lib.hid X7
      have HLD : Hid (∀ w, Two Q0 w7 w b bm W H pad s s F → Calls Try.prog 15 #[.pointer (some ⟨b, 0, none⟩), .string ⟨#[110, 101, 119]⟩, .agg #[.int .i64 a, .int .i64 c, .slice (some ⟨gt, 0, none⟩) T T]] w fun e w' => e = .returned (.int .i64 (loadV W H pad s newK a c (List.replicate T 0)).1) ∧ Two Q0 w7 w' b bm W H pad (loadV W H pad s newK a c (List.replicate T 0)).2 s F) := Lib.hid (fun w h => by
        have h9 := h.get HQT.out HX7.out
        exact load_two h newK (by show 3 ≤ maxLen; unfold maxLen; omega) a c (by have := HAC.out; omega) (by have := HAC.out; omega) (some ⟨gt, 0, none⟩) T T (List.replicate T 0) (by simp) (by omega) (slO_lit (by rw [h9]; simp) (by simp) (by omega)) (fun q hq => by
          have : gt = q := by simpa [Value.ownBlock] using hq
          exact this ▸ HQT.out) (fun x hx => by have := (List.mem_replicate.1 hx).2; omega) HG1.out)
      have HCF : Hid (∀ w st, Two Q0 w7 w b bm W H pad st s F → w.cell? ⟨gf, 0, none⟩ = some (.int .i64 a) ∧ w.cell? ⟨gf, 1, none⟩ = some (.int .i64 c) ∧ w.cell? ⟨gf, 2, none⟩ = some (.slice (some ⟨gt, 0, none⟩) T T)) := Lib.hid (fun w st h => by
        have h9 := h.get HQF.out HG7.out
        exact ⟨(blk_cell h9 0).trans rfl, (blk_cell h9 1).trans rfl, (blk_cell h9 2).trans rfl⟩)
      clear h7 hQ0 hgf hgt hlt5 hne bb0 c0 c1 c2 f2 G0 G1 G6 G7 X7 B6 B7 s6 hmk HT
      clear tm tn wm wn wm1 wn1 wac
      go_wp2_with fail
      refine (keys_on H7.out.on).mono ?_
      rintro e w8 ⟨vo, rfl, hs8, hb8, -, -⟩
      obtain ⟨A8, cap8, rfl, hc8⟩ := hs8.isSlice
      obtain ⟨K, hK⟩ : ∃ K, s.keys.length = K := ⟨_, rfl⟩
      have hK32 : K ≤ 32 := by rw [← hK]; exact H7.out.on.inv.le
      rw [hK] at hc8 ⊢
      have HK := Lib.hid hK
      have H8 := Lib.hid (H7.out.below hb8)
      obtain ⟨d0, d1, d2⟩ := HCF.out _ _ H8.out
      clear hs8 hb8 hK
      go_wp2_with fail
      refine (HLD.out w8 H8.out).mono ?_
      rintro e w9 ⟨rfl, h9⟩
      have H9 := Lib.hid h9
      clear h9 d0 d1 d2
      obtain ⟨d0, d1, d2⟩ := HCF.out _ _ H9.out
      obtain ⟨m0, m1, m2⟩ := H9.out.mcell
      have HEND : Hid (∀ w st, Two Q0 w7 w b bm W H pad st s F → Below W0.heap.size W0 w) := Lib.hid (fun w st h => (h.rebase HQP.out K7.out (fun q hq => hq)).out (fun q hq => hq) (Nat.le_refl _))
      have u1 : IntKind.i64.wrap (2 * (pad : Int)) = 2 * (pad : Int) := by rw [IntKind.wrap_i64]; omega
      have u2 : IntKind.i64.wrap ((a : Int) + 2 * (pad : Int)) = (a : Int) + 2 * (pad : Int) := by have := HAC.out; rw [IntKind.wrap_i64]; omega
      have u3 : IntKind.i64.wrap ((c : Int) + 2 * (pad : Int)) = (c : Int) + 2 * (pad : Int) := by have := HAC.out; rw [IntKind.wrap_i64]; omega
      go_upto_region 15 with (fail)
      rcases HSZ.out with ⟨hz, hl⟩ | ⟨hz, hl, i, hi, hks⟩
      · have he : (loadV W H pad s newK a c (List.replicate T 0)).1 = 6 := by rw [hl]
        rw [he]
        rw [hl] at H9
        clear he hl HSZ
        by_cases h1 : (W : Int) < (a : Int) + 2 * (pad : Int)
        · have n1 := decide_eq_true h1
          by_cases h2 : (H : Int) < (c : Int) + 2 * (pad : Int)
          · have n2 := decide_eq_true h2
            clear hz
            go_quiet (fail)
            have H10 := Lib.hid (H9.out.below (below_drewN (Below.refl _ w9) nq))
            clear n1 n2
            go_wp2_with fail
            refine (keys_on H10.out.on).mono ?_
            rintro e w11 ⟨vo, rfl, hs11, hb11, -, -⟩
            obtain ⟨A11, cap11, rfl, hc11⟩ := hs11.isSlice
            rw [HK.out] at hc11 ⊢
            have H11 := Lib.hid (H10.out.below hb11)
            have kk : ((K : Int) == (K : Int)) = true := by simp
            clear hs11 hb11
            go_wp2_with fail
            go_ret
            exact ⟨rfl, HEND.out _ _ H11.out⟩
          · have n2 := decide_eq_false h2
            clear hz
            go_quiet (fail)
            have H10 := Lib.hid (H9.out.below (below_drewN (Below.refl _ w9) nq))
            clear n1 n2
            go_wp2_with fail
            refine (keys_on H10.out.on).mono ?_
            rintro e w11 ⟨vo, rfl, hs11, hb11, -, -⟩
            obtain ⟨A11, cap11, rfl, hc11⟩ := hs11.isSlice
            rw [HK.out] at hc11 ⊢
            have H11 := Lib.hid (H10.out.below hb11)
            have kk : ((K : Int) == (K : Int)) = true := by simp
            clear hs11 hb11
            go_wp2_with fail
            go_ret
            exact ⟨rfl, HEND.out _ _ H11.out⟩
        · have n1 := decide_eq_false h1
          have n2 := decide_eq_true (hz.resolve_left h1)
          clear hz
          go_quiet (fail)
          have H10 := Lib.hid (H9.out.below (below_drewN (Below.refl _ w9) nq))
          clear n1 n2
          go_wp2_with fail
          refine (keys_on H10.out.on).mono ?_
          rintro e w11 ⟨vo, rfl, hs11, hb11, -, -⟩
          obtain ⟨A11, cap11, rfl, hc11⟩ := hs11.isSlice
          rw [HK.out] at hc11 ⊢
          have H11 := Lib.hid (H10.out.below hb11)
          have kk : ((K : Int) == (K : Int)) = true := by simp
          clear hs11 hb11
          go_wp2_with fail
          go_ret
          exact ⟨rfl, HEND.out _ _ H11.out⟩
      · obtain ⟨s2, hs2⟩ : ∃ s2, (loadV W H pad s newK a c (List.replicate T 0)).2 = s2 := ⟨_, rfl⟩
        rw [hl]
        rw [hs2] at H9 hks
        have n1 := decide_eq_false (show ¬ (W : Int) < (a : Int) + 2 * (pad : Int) from fun h => hz (.inl h))
        have n2 := decide_eq_false (show ¬ (H : Int) < (c : Int) + 2 * (pad : Int) from fun h => hz (.inr h))
        have HKS := Lib.hid hks
        have HIX := Lib.hid hi
        clear hz hl hs2 hks hi HSZ
        go_quiet (fail)
        have H10 := Lib.hid (H9.out.below (below_drewN (Below.refl _ w9) nq))
        clear n1 n2
        go_wp2_with fail
        refine (keys_on H10.out.on).mono ?_
        rintro e w11 ⟨vo, rfl, hs11, hb11, -, -⟩
        obtain ⟨A11, cap11, rfl, hc11⟩ := hs11.isSlice
        obtain ⟨L, hL⟩ : ∃ L, s2.keys.length = L := ⟨_, rfl⟩
        have hLi : L = K - i + 1 := by rw [← hL, HKS.out, List.length_append, List.length_drop, HK.out]; rfl
        rw [hL] at hs11 hc11 ⊢
        have H11 := Lib.hid (H10.out.below hb11)
        have S11 := Lib.hid hs11
        have HLI := Lib.hid hLi
        clear hs11 hb11 hLi hL
        go_wp2_with fail
        refine (rect_on H11.out.on newK (by show 3 ≤ maxLen; unfold maxLen; omega)).mono ?_
        rintro e w12 ⟨rfl, hb12, -⟩
        have hso : (s2.pl newK).isSome = true := (H11.out.on.inv.mem newK).2 (by rw [HKS.out]; exact List.mem_append.2 (.inr (List.mem_singleton.2 rfl)))
        rw [hso]
        obtain ⟨rv, hrv⟩ : ∃ rv, rectV pad (s2.pl newK) = rv := ⟨_, rfl⟩
        rw [hrv]
        unfold Er
        have H12 := Lib.hid ((H11.out.below hb12).below (below_alloc (Below.refl _ w12) (.cells #[.int .i64 rv.1, .int .i64 rv.2.1, .int .i64 rv.2.2.1, .int .i64 rv.2.2.2] 39)))
        have S12 := S11.out.kept ((Kept.of_below (fun _ => False) hb12).trans (Kept.of_below (fun _ => False) (below_alloc (Below.refl _ w12) (.cells #[.int .i64 rv.1, .int .i64 rv.2.1, .int .i64 rv.2.2.1, .int .i64 rv.2.2.2] 39)))) (fun _ _ h => h)
        have hL1 : 0 < L := by have := HLI.out; omega
        obtain ⟨g11, rfl, hcl, -⟩ := S12.elem (i := L - 1) (x := .string newK) (by omega) (by
          rw [List.getElem?_map, HKS.out, List.getElem?_append_right (by rw [List.length_drop, HK.out, HLI.out]; omega), List.length_drop, HK.out, HLI.out, show K - i + 1 - 1 - (K - i) = 0 from by omega]; rfl)
        unfold newK at hcl
        have hLK : L ≤ K + 1 := by have := HLI.out; omega
        have v1 : IntKind.i64.wrap ((L : Int) - 1) = ((L - 1 : Nat) : Int) := by rw [IntKind.wrap_i64]; omega
        have v2 : IntKind.i64.wrap ((K : Int) + 1) = (K : Int) + 1 := by rw [IntKind.wrap_i64]; omega
        have hLK' : (L : Int) ≤ (K : Int) + 1 := by omega
        have hL1' : (0 : Int) < (L : Int) := by omega
        have hL2 : L - 1 < L := by omega
        clear S12 hso hrv hb12
        go_upto_region 19 with (fail)
        generalize w12.alloc (.cells #[.int .i64 rv.1, .int .i64 rv.2.1, .int .i64 rv.2.2.1, .int .i64 rv.2.2.2] 39) = w13 at *
        go_wp2_with fail
        go_ret
        exact ⟨rfl, HEND.out _ _ H12.out⟩
end Go.Proofs.Ytaccppchhljnkaa
