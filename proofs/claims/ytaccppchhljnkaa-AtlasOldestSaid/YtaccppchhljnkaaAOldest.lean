/- AtlasOldest: its walk. -/
import Derived.Test.YtaccppchhljnkaaAwk
import Derived.Test.YtaccppchhljnkaaAtU
set_option linter.unusedVariables false
set_option linter.unusedSimpArgs false
namespace Go.Proofs.Ytaccppchhljnkaa
open Go.RowKit Go.Shelf Go.Proofs.YtaccppchhljnkaaW.PrintWords Go.Proofs.YtaccppchhljnkaaW.PrintLast Go.Proofs.YtaccppchhljnkaaW.PrintMore
theorem wf8x {x : Int} (h : (Lit.int .u8 x).wf = true) : 0 ≤ x ∧ x ≤ 255 := by simpa [Lit.wf, IntKind.min, IntKind.max, IntKind.signed, IntKind.bits] using h
def newK : ByteArray := ⟨#[110, 101, 119]⟩
theorem nm_new (n : Nat) : nmA n ≠ newK := fun h => by
  have := congrArg ByteArray.size h
  exact absurd (show 2 = 3 from this) (by decide)
theorem loadV_keys (w h pad : Nat) (s : AtS) (hnd : s.keys.Nodup) (k : ByteArray) (fw fh : Int) (t : List Int) : ∀ u ∈ (loadV w h pad s k fw fh t).2.keys, u ∈ s.keys ∨ u = k := by
  intro u hu
  unfold loadV at hu
  split at hu
  · exact .inl hu
  · split at hu
    · exact .inl hu
    · split at hu
      · exact .inl hu
      · split at hu
        · rename_i B s' hr
          have hu' : u ∈ s'.keys ++ [k] := hu
          rcases List.mem_append.1 hu' with h1 | h1
          · exact .inl ((room_keep hnd hr).2.1 u h1).1
          · exact .inr (List.mem_singleton.1 h1)
        · exact .inl hu
theorem doS_keys (w h pad : Nat) (s : AtS) (hnd : s.keys.Nodup) (o : Int) (k p q : Nat) (i : Int) : ∀ u ∈ (doS w h pad s o k p q i).keys, u ∈ s.keys ∨ u = nmA k := by
  intro u hu
  unfold doS at hu
  split at hu
  · unfold touchV at hu
    split at hu
    · have hu' : u ∈ s.keys.erase (nmA k) ++ [nmA k] := hu
      rcases List.mem_append.1 hu' with h1 | h1
      · exact .inl (List.mem_of_mem_erase h1)
      · exact .inr (List.mem_singleton.1 h1)
    · exact .inl hu
  · split at hu
    · unfold evictV at hu
      split at hu
      · exact .inl (List.mem_of_mem_erase (show u ∈ s.keys.erase (nmA k) from hu))
      · exact .inl hu
    · split at hu
      · exact loadV_keys w h pad s hnd _ _ _ _ u hu
      · exact loadV_keys w h pad s hnd _ _ _ _ u hu
theorem doS_new (w h pad : Nat) (s : AtS) (hnd : s.keys.Nodup) (o : Int) (k p q : Nat) (i : Int) (hn : ∀ u ∈ s.keys, u ≠ newK) : ∀ u ∈ (doS w h pad s o k p q i).keys, u ≠ newK := fun u hu =>
  (doS_keys w h pad s hnd o k p q i u hu).elim (hn u) (fun e => e ▸ nm_new k)
/-- What Load of a new key tells: nothing came of it, or it came last, and the first ones went. -/
theorem loadV_new (w h pad : Nat) (s : AtS) (hI : AtI w h pad s) (k : ByteArray) (hk : k ∉ s.keys) (fw fh : Int) (t : List Int) :
    ((loadV w h pad s k fw fh t).1 ≠ 0 ∧ (loadV w h pad s k fw fh t).2 = s) ∨
    ((loadV w h pad s k fw fh t).1 = 0 ∧ ¬ badF fw fh t.length ∧ ¬ ((w : Int) < fw + 2 * pad ∨ (h : Int) < fh + 2 * pad) ∧ ∃ i, i ≤ s.keys.length ∧ (loadV w h pad s k fw fh t).2.keys = s.keys.drop i ++ [k] ∧ (loadV w h pad s k fw fh t).2.gone = s.gone ++ s.keys.take i) := by
  unfold loadV
  rw [if_neg hk]
  by_cases hb : badF fw fh t.length
  · rw [if_pos hb]; exact .inl ⟨show (4 : Int) ≠ 0 by decide, rfl⟩
  · rw [if_neg hb]
    by_cases hz : (w : Int) < fw + 2 * pad ∨ (h : Int) < fh + 2 * pad
    · rw [if_pos hz]; exact .inl ⟨show (6 : Int) ≠ 0 by decide, rfl⟩
    · rw [if_neg hz]
      cases hr : room w h (fw + 2 * pad) (fh + 2 * pad) s with
      | none => exact .inl ⟨show (8 : Int) ≠ 0 by decide, rfl⟩
      | some x =>
        obtain ⟨B, s'⟩ := x
        obtain ⟨-, -, -, i, h1, h2, h3⟩ := room_keep hI.nd hr
        exact .inr ⟨rfl, hb, hz, i, h1, (by show s'.keys ++ [k] = _; rw [h2]), h3⟩
attribute [local go_sem] max2_max min2_min max_two min_two
set_option maxHeartbeats 8000000 in
set_option maxRecDepth 100000 in
theorem atlasOldest_core (x y z : Int) (hx : 0 ≤ x ∧ x ≤ 255) (hy : 0 ≤ y ∧ y ≤ 255) (hz : 0 ≤ z ∧ z ≤ 255) (a : Option Addr) (cap : Nat) (l : List Ax) (W0 : World) (rd : Kd.C kax W0 a l.length l) (le : l.length ≤ cap) (wf : ∀ p ∈ l, (Lit.int .u8 p.1).wf = true ∧ (Lit.int .u8 p.2.1).wf = true ∧ (Lit.int .u8 p.2.2.1).wf = true ∧ (Lit.int .u8 p.2.2.2.1).wf = true ∧ (Lit.int .u8 p.2.2.2.2).wf = true) (ao ak ax ay ai : Int) (hao : 0 ≤ ao ∧ ao ≤ 255) (hak : 0 ≤ ak ∧ ak ≤ 255) (hax : 0 ≤ ax ∧ ax ≤ 255) (hay : 0 ≤ ay ∧ ay ≤ 255) (hai : 0 ≤ ai ∧ ai ≤ 255) :
    Calls Try.prog 6 #[.int .u8 x, .int .u8 y, .int .u8 z, .slice a l.length cap, Ac ao ak ax ay ai] W0 fun e w' => e = .returned (.bool true) ∧ Below W0.heap.size W0 w' := by
  obtain ⟨W, hW⟩ : ∃ W : Nat, (W : Int) = max 1 (min (x % 70) 64) := ⟨(max 1 (min (x % 70) 64)).toNat, by omega⟩
  obtain ⟨H, hH⟩ : ∃ H : Nat, (H : Int) = max 1 (min (y % 70) 64) := ⟨(max 1 (min (y % 70) 64)).toNat, by omega⟩
  obtain ⟨pad, hpad⟩ : ∃ pad : Nat, (pad : Int) = max 0 (min (z % 7 - 1) 4) := ⟨(max 0 (min (z % 7 - 1) 4)).toNat, by omega⟩
  have hw1 : 1 ≤ W ∧ W ≤ 64 := by omega
  have hh1 : 1 ≤ H ∧ H ≤ 64 := by omega
  have hp4 : pad ≤ 4 := by omega
  have HNEW := Lib.hid (fun w => new_c w x y z hx hy hz W H pad hW hH hpad)
  obtain ⟨M, hM⟩ : ∃ M, min l.length 40 = M := ⟨_, rfl⟩
  have hMi : min (l.length : Int) 40 = (M : Int) := by omega
  have hMl : M ≤ l.length := by omega
  have hML : M ≤ 40 := by omega
  have hMc : M ≤ cap := by omega
  have hMc' : (M : Int) ≤ (cap : Int) := by omega
  obtain ⟨len, hlen⟩ : ∃ len, l.length = len := ⟨_, rfl⟩
  have HLEN := Lib.hid hlen
  rw [hlen] at le hMi hMl ⊢
  have WF := Lib.hid wf
  clear hx hy hz hW hH hpad hM wf hlen
  go_enter Try.func6, Try.ntmps6
  have bbx := below_alloc (Below.refl _ W0) (.cells #[.int .u8 ao, .int .u8 ak, .int .u8 ax, .int .u8 ay, .int .u8 ai] 35)
  have Gx := heap_alloc_new W0 (.cells #[.int .u8 ao, .int .u8 ak, .int .u8 ax, .int .u8 ay, .int .u8 ai] 35)
  go_upto_region 1 with (fail)
  have RD := Lib.hid (Kd.C_below rd bbx)
  have HBX := Lib.hid bbx
  have HGX := Lib.hid Gx
  clear rd bbx Gx
  generalize W0.alloc (.cells #[.int .u8 ao, .int .u8 ak, .int .u8 ax, .int .u8 ay, .int .u8 ai] 35) = W1 at *
  have HAW := Lib.hid (awake16 W1)
  go_wp2_with fail
  refine HAW.out.mono ?_
  rintro e w1 ⟨rfl, hb1⟩
  have HB1 := Lib.hid hb1
  clear hb1 HAW
  go_wp2_with fail
  refine (HNEW.out w1).mono ?_
  rintro e w2 ⟨b, bm, rfl, h2⟩
  have H2 : Hid (Two (fun q => q < W1.heap.size) W1 w2 b bm W H pad (zeroS W) (zeroS W) (fun _ => none)) := Lib.hid (h2.rebase (fun q hq => Nat.lt_of_lt_of_le hq HB1.out.size) (Kept.of_below _ HB1.out) (fun q hq => hq))
  clear h2 HNEW
  have hsk : ∃ g, w2.cell? ⟨bm, 3, none⟩ = some (.pointer (some ⟨g, 0, none⟩)) := by
    obtain ⟨c, cm, h1, h2, _⟩ := H2.out
    exact ⟨cm.g, h2.raw.cell.2.2.2.1⟩
  obtain ⟨gs, c3⟩ := hsk
  go_upto_region 7 with (fail)
  clear c3
  go_loopw [45] (fun v wr => ∃ (j : Nat) (s : AtS) (F : ByteArray → Option FV), v = .int .i64 j ∧ j ≤ M ∧ Hid (Two (fun q => q < W1.heap.size) W1 wr b bm W H pad s s F) ∧ Hid (s.gone.length + s.keys.length ≤ j) ∧ Hid (∀ u ∈ s.keys, u ≠ newK)) (fun v _ => M - (intOf v).toNat)
  case atStart => exact ⟨0, zeroS W, _, rfl, Nat.zero_le _, H2, Lib.hid (Nat.le_refl _), Lib.hid (fun u hu => by cases hu)⟩
  case round =>
    obtain ⟨j, s, F, rfl, hj, HT, HC, HNK⟩ := hrel
    clear H2
    by_cases hjm : j < M
    · have hjm' : (j : Int) < (M : Int) := by omega
      obtain ⟨ad, eA⟩ := C_some RD.out (by rw [HLEN.out]; omega)
      subst eA
      have hbel : Below W1.heap.size W1 wr := HT.out.out (fun q hq => hq) (Nat.le_refl _)
      obtain ⟨⟨o, k, px, py, i⟩, hp⟩ : ∃ p, l.getD j (0, 0, 0, 0, 0) = p := ⟨_, rfl⟩
      obtain ⟨a0, a1, a2, a3, a4⟩ := ax_at (Kd.C_below RD.out hbel) j (by rw [HLEN.out]; omega) _ hp
      have hpm : (o, k, px, py, i) ∈ l := by
        rw [List.getD_eq_getElem?_getD, List.getElem?_eq_getElem (by rw [HLEN.out]; omega), Option.getD_some] at hp
        rw [← hp]; exact List.getElem_mem _
      obtain ⟨f0, f1, f2, f3, f4⟩ := WF.out _ hpm
      have r0 := wf8x f0; have r1 := wf8x f1; have r2 := wf8x f2; have r3 := wf8x f3; have r4 := wf8x f4
      obtain ⟨kn, rfl⟩ := Int.eq_ofNat_of_zero_le r1.1
      simp only at a0 a1 a2 a3 a4 r0 r1 r2 r3 r4
      have hbb := below_alloc (Below.refl _ wr) (.cells #[.int .u8 o, .int .u8 (kn : Int), .int .u8 px, .int .u8 py, .int .u8 i] 35)
      have HT1 := Lib.hid (HT.out.below hbb)
      have G1 := heap_alloc_new wr (.cells #[.int .u8 o, .int .u8 (kn : Int), .int .u8 px, .int .u8 py, .int .u8 i] 35)
      have hdo := do_c HT1.out o px py i kn (px % 14).toNat (py % 14).toNat r0 (by omega) r2 r3 r4 (by omega) (by omega) (by have := HC.out; omega)
      have HDO := Lib.hid hdo
      have HC1 : Hid ((doS W H pad s o kn (px % 14).toNat (py % 14).toNat i).gone.length + (doS W H pad s o kn (px % 14).toNat (py % 14).toNat i).keys.length ≤ j + 1) := Lib.hid (by
        have h1 := doS_le W H pad s HT.out.on.inv.nd o kn (px % 14).toNat (py % 14).toNat i
        have h2 := HC.out
        omega)
      have HNK1 := Lib.hid (doS_new W H pad s HT.out.on.inv.nd o kn (px % 14).toNat (py % 14).toNat i HNK.out)
      clear hbb hdo hp hpm f0 f1 f2 f3 f4 r0 r1 r2 r3 r4 hbel
      go_upto_region 9 with (fail)
      clear a0 a1 a2 a3 a4
      generalize wr.alloc (.cells #[.int .u8 o, .int .u8 (kn : Int), .int .u8 px, .int .u8 py, .int .u8 i] 35) = w5 at *
      have a0 : w5.cell? ⟨wr.heap.size, 0, none⟩ = some (.int .u8 o) := (blk_cell G1 0).trans rfl
      have a1 : w5.cell? ⟨wr.heap.size, 1, none⟩ = some (.int .u8 kn) := (blk_cell G1 1).trans rfl
      have a2 : w5.cell? ⟨wr.heap.size, 2, none⟩ = some (.int .u8 px) := (blk_cell G1 2).trans rfl
      have a3 : w5.cell? ⟨wr.heap.size, 3, none⟩ = some (.int .u8 py) := (blk_cell G1 3).trans rfl
      have a4 : w5.cell? ⟨wr.heap.size, 4, none⟩ = some (.int .u8 i) := (blk_cell G1 4).trans rfl
      clear G1
      go_wp2_with fail
      refine HDO.out.mono ?_
      rintro e w6 ⟨rfl, F6, h6⟩
      have H6 := Lib.hid h6
      clear h6 HDO HT HT1 a0 a1 a2 a3 a4
      go_wp2_with fail
      go_roundw
      case rel => exact ⟨j + 1, _, F6, by go_num, by omega, H6, HC1, HNK1⟩
      case measure => simp [intOf]; omega
    · have hjm' : ¬ (j : Int) < (M : Int) := by omega
      have HC0 : Hid (s.gone.length + s.keys.length ≤ 40) := Lib.hid (by have := HC.out; omega)
      clear HC hjm
      go_wp2_with fail
      refine (keys_on HT.out.on).mono ?_
      rintro e w3 ⟨vo, rfl, hs3, hb3, hg3, -⟩
      obtain ⟨A3, cap3, rfl, hc3⟩ := hs3.isSlice
      obtain ⟨K, hK⟩ : ∃ K, s.keys.length = K := ⟨_, rfl⟩
      have hK32 : K ≤ 32 := by rw [← hK]; exact HT.out.on.inv.le
      rw [hK] at hs3 hg3 hc3 ⊢
      have h3 := HT.out.add (Q := fun q => q < W1.heap.size ∨ (Value.slice A3 K cap3).ownBlock = some q) hb3 (fun q hq => by
        rcases hq with hq | hq
        · have := HT.out.keptP.size; have := hb3.size; exact ⟨by omega, .inl hq⟩
        · exact ⟨hs3.lt hq, .inr (hg3 q hq)⟩)
      have K3 : Hid (Kept (fun q => ¬ q < W1.heap.size) W1 w3) := Lib.hid (HT.out.keptP.trans (Kept.of_below _ hb3))
      obtain ⟨Q0, hQ0⟩ : ∃ Q0 : Nat → Prop, (fun q => q < W1.heap.size ∨ (Value.slice A3 K cap3).ownBlock = some q) = Q0 := ⟨_, rfl⟩
      have HQP : Hid (∀ q, q < W1.heap.size → Q0 q) := Lib.hid (fun q hq => by rw [← hQ0]; exact .inl hq)
      have HQO : Hid (∀ q, (Value.slice A3 K cap3).ownBlock = some q → Q0 q) := Lib.hid (fun q hq => by rw [← hQ0]; exact .inr hq)
      rw [hQ0] at h3
      have H3 := Lib.hid h3; have S3 := Lib.hid hs3; have HK := Lib.hid hK
      have HNN : Hid (newK ∉ s.keys) := Lib.hid (fun h => HNK.out _ h rfl)
      have HKL := Lib.hid HT.out.on.kl
      obtain ⟨G, hG⟩ : ∃ G, s.gone.length = G := ⟨_, rfl⟩
      have hG40 : G ≤ 40 := by have := HC0.out; omega
      have HG := Lib.hid hG
      have HIV := Lib.hid HT.out.on.inv
      clear h3 hs3 hK hQ0 hb3 hg3 HT HC0 HNK hG
      go_wp2_with fail
      refine (gone_on H3.out.on (by rw [HG.out]; omega)).mono ?_
      rintro e w4 ⟨vg, rfl, hs4, hb4, -, -⟩
      obtain ⟨A4, cap4, rfl, hc4⟩ := hs4.isSlice
      rw [HG.out] at hc4 ⊢
      have H4 := Lib.hid (H3.out.below hb4)
      obtain ⟨p, hp⟩ : ∃ p : Nat, (p : Int) = ax % 14 := ⟨(ax % 14).toNat, by omega⟩
      obtain ⟨q, hq⟩ : ∃ q : Nat, (q : Int) = ay % 14 := ⟨(ay % 14).toNat, by omega⟩
      have hpq : p ≤ 13 ∧ q ≤ 13 := by omega
      have hpq2 : p * q ≤ 169 := Nat.mul_le_mul hpq.1 hpq.2
      obtain ⟨kn, rfl⟩ := Int.eq_ofNat_of_zero_le hak.1
      have HFA := Lib.hid (fun (w : World) (st : AtS) (h : Two Q0 w3 w b bm W H pad st s F) => field_two h ao kn ax ay ai hax hay hai p q hp hq)
      have HLT : Hid (W1.heap.size ≤ w3.heap.size ∧ W0.heap.size < W1.heap.size) := Lib.hid ⟨K3.out.size, lt_in HGX.out⟩
      have gx := H4.out.get (q := W0.heap.size) (HQP.out _ HLT.out.2) (K3.out.get HGX.out (fun h => h HLT.out.2))
      have a0 : w4.cell? ⟨W0.heap.size, 0, none⟩ = some (.int .u8 ao) := (blk_cell gx 0).trans rfl
      have a1 : w4.cell? ⟨W0.heap.size, 1, none⟩ = some (.int .u8 kn) := (blk_cell gx 1).trans rfl
      have a2 : w4.cell? ⟨W0.heap.size, 2, none⟩ = some (.int .u8 ax) := (blk_cell gx 2).trans rfl
      have a3 : w4.cell? ⟨W0.heap.size, 3, none⟩ = some (.int .u8 ay) := (blk_cell gx 3).trans rfl
      have a4 : w4.cell? ⟨W0.heap.size, 4, none⟩ = some (.int .u8 ai) := (blk_cell gx 4).trans rfl
      clear hs4 hb4 gx hao hak hax hay hp hq
      go_wp2_with fail
      refine (HFA.out w4 _ H4.out).mono ?_
      rintro e w5 ⟨A5, cap5, rfl, Q5, h5, t5, hQ5, o5, k5⟩
      obtain ⟨T, hT⟩ : ∃ T, (List.range (p * q)).map (txA ai) = T := ⟨_, rfl⟩
      have hT8 : ∀ x ∈ T, 0 ≤ x ∧ x ≤ 255 := fun x hx => by
        rw [← hT] at hx
        obtain ⟨j, _, rfl⟩ := List.mem_map.1 hx
        exact txA_in ai j
      have hTl : T.length = p * q := by rw [← hT]; simp
      rw [hT] at t5
      have hld := load_two h5 newK (by show 3 ≤ maxLen; unfold maxLen; omega) p q (by omega) (by omega) A5 (p * q) cap5 T hTl (by omega) t5 o5 hT8 (by rw [HG.out]; omega)
      have HLN := Lib.hid (loadV_new W H pad s HIV.out newK HNN.out p q T)
      obtain ⟨ev, hev⟩ : ∃ ev, (loadV W H pad s newK p q T).1 = ev := ⟨_, rfl⟩
      obtain ⟨s2, hs2⟩ : ∃ s2, (loadV W H pad s newK p q T).2 = s2 := ⟨_, rfl⟩
      rw [hev, hs2] at hld HLN
      have HLD := Lib.hid hld
      have S5 := Lib.hid (S3.out.kept k5 (fun g hg hn => hn (HQO.out g hg)))
      have HEND : Hid (∀ w st, Two Q5 w5 w b bm W H pad st s F → Below W0.heap.size W0 w) := Lib.hid (fun w st h => HBX.out.trans ((((h.rebase hQ5 k5 (fun q hq => H3.out.lt q hq)).rebase HQP.out K3.out (fun q hq => hq)).out (fun q hq => hq) (Nat.le_refl _)).mono HBX.out.size))
      have HQ5 := Lib.hid hQ5
      clear hld hev hs2 hTl hT8 hT h5 t5 o5 k5 a0 a1 a2 a3 a4 hQ5
      obtain ⟨m, hm⟩ : ∃ m, p * q = m := ⟨_, rfl⟩
      rw [hm] at HLD hpq2 ⊢
      clear hm
      go_wp2_with fail
      unfold newK at HLD
      refine HLD.out.mono ?_
      rintro e w6 ⟨rfl, h6⟩
      have H6 := Lib.hid h6
      clear h6 HLD
      rcases HLN.out with ⟨hne, rfl⟩ | ⟨rfl, -, -, i, hi, hks, hgs⟩
      · have hne' : (ev != 0) = true := by simpa using hne
        clear hne
        go_wp2_with fail
        refine (keys_on H6.out.on).mono ?_
        rintro e w7 ⟨v7, rfl, hs7, hb7, -, -⟩
        obtain ⟨A7, cap7, rfl, hc7⟩ := hs7.isSlice
        rw [HK.out] at hc7 ⊢
        have H7 := Lib.hid (H6.out.below hb7)
        have kk : ((K : Int) == (K : Int)) = true := by simp
        have gg : ((G : Int) == (G : Int)) = true := by simp
        clear hs7 hb7
        go_wp2_with fail
        refine (gone_on H7.out.on (by rw [HG.out]; omega)).mono ?_
        rintro e w8 ⟨v8, rfl, hs8, hb8, -, -⟩
        obtain ⟨A8, cap8, rfl, hc8⟩ := hs8.isSlice
        rw [HG.out] at hc8 ⊢
        have H8 := Lib.hid (H7.out.below hb8)
        clear hs8 hb8
        go_wp2_with fail
        go_ret
        exact ⟨rfl, HEND.out _ _ H8.out⟩
      · have hz : ((0 : Int) != 0) = false := by decide
        have HKS := Lib.hid hks
        have HGS := Lib.hid hgs
        rw [HK.out] at hi
        have hkl : s2.keys.length = K - i + 1 := by rw [hks, List.length_append, List.length_drop, HK.out]; rfl
        have hgl : s2.gone.length = G + i := by rw [hgs, List.length_append, List.length_take, HG.out, HK.out]; omega
        have HL2 := Lib.hid hkl
        have HG2 := Lib.hid hgl
        clear hkl hgl hks hgs HLN
        go_upto_region 14 with (fail)
        obtain ⟨L, hL⟩ : ∃ L, K - i + 1 = L := ⟨_, rfl⟩
        obtain ⟨G2, hG2⟩ : ∃ G2, G + i = G2 := ⟨_, rfl⟩
        rw [hL] at HL2
        rw [hG2] at HG2
        have HLL := Lib.hid hL; have HGG := Lib.hid hG2
        have hGle : G ≤ G2 := by omega
        have hGle' : (G : Int) ≤ (G2 : Int) := by omega
        have HKY : Hid (∀ w, Two Q5 w5 w b bm W H pad s2 s F → Calls Try.prog 12 #[.pointer (some ⟨b, 0, none⟩)] w fun e w' => ∃ A cap, e = .returned (.slice A L cap) ∧ L ≤ cap ∧ SlO w' 9 1 (.slice A L cap) L (s2.keys.map Value.string) ∧ Two Q5 w5 w' b bm W H pad s2 s F ∧ Below w.heap.size w w') := Lib.hid (fun w h => (keys_on h.on).mono (by
          rintro e w' ⟨v, rfl, h1, h2, -, -⟩
          rw [HL2.out] at h1
          obtain ⟨A, cap, rfl, hc⟩ := h1.isSlice
          exact ⟨A, cap, rfl, hc, h1, h.below h2, h2⟩))
        have HGN : Hid (∀ w, Two Q5 w5 w b bm W H pad s2 s F → Calls Try.prog 17 #[.pointer (some ⟨b, 0, none⟩)] w fun e w' => ∃ A cap, e = .returned (.slice A G2 cap) ∧ G2 ≤ cap ∧ SlO w' 9 1 (.slice A G2 cap) G2 (s2.gone.map Value.string) ∧ Two Q5 w5 w' b bm W H pad s2 s F ∧ Below w.heap.size w w') := Lib.hid (fun w h => (gone_on h.on (by rw [HG2.out]; omega)).mono (by
          rintro e w' ⟨v, rfl, h1, h2, -, -⟩
          rw [HG2.out] at h1
          obtain ⟨A, cap, rfl, hc⟩ := h1.isSlice
          exact ⟨A, cap, rfl, hc, h1, h.below h2, h2⟩))
        clear hL hG2
        go_cut [17, 18] (fun v17 v18 wx => ∃ A7 c7 A8 c8, v17 = .slice A7 L c7 ∧ v18 = .slice A8 i c8 ∧ L ≤ c7 ∧ i ≤ c8 ∧ Hid (SlO wx 9 1 (.slice A7 L c7) L (s2.keys.map Value.string)) ∧ Hid (∀ j x, j < i → s2.gone[G + j]? = some x → ∃ ad : Addr, A8 = some ad ∧ wx.cell? (ad.add j) = some (.string x)) ∧ Hid (Two Q5 w5 wx b bm W H pad s2 s F))
        case first =>
          go_region_held3 (fun _ => True) (trivial) (first
            | (go_at_call 12; refine (HKY.out w6.drew (H6.out.below (below_drew (Below.refl _ _)))).mono ?_; rintro e w7 ⟨A7, c7, rfl, hc7, hs7, h7, -⟩; have H7 := Lib.hid h7; have S7 := Lib.hid hs7; clear h7 hs7)
            | (go_at_call 17; refine (HGN.out w7 H7.out).mono ?_; rintro e w8 ⟨A8, c8, rfl, hc8, hs8, h8, hb8⟩; have H8 := Lib.hid h8; have S8 := Lib.hid hs8; have S7' := Lib.hid (S7.out.kept (Kept.of_below (fun _ => False) hb8) (fun _ _ h => h)); clear h8 hs8 hb8))
          go_wp2_with fail
          · rename_i hcg
            go_meet
            case rel =>
              have hii : G2 - G = i := by have := HGG.out; omega
              refine ⟨A7, c7, A8, c8 - G, by first | rfl | trivial, by rw [hii, show c8 - G = 0 from by omega], hc7, by have := HGG.out; omega, S7', Lib.hid (fun j x hj hx => ?_), H8⟩
              have := HGG.out
              exact absurd hcg (by omega)
          · rename_i hcg
            go_meet
            case rel =>
              have hii : G2 - G = i := by have := HGG.out; omega
              refine ⟨A7, c7, Option.map (fun x => x.add G) A8, c8 - G, by first | rfl | trivial, by rw [hii], hc7, by have := HGG.out; omega, S7', Lib.hid (fun j x hj hx => ?_), H8⟩
              obtain ⟨g8, e8, hc, -⟩ := S8.out.elem (i := G + j) (x := .string x) (by have := HGG.out; omega) (by rw [List.getElem?_map, hx]; rfl)
              rw [e8]
              refine ⟨_, rfl, ?_⟩
              have ea : ((⟨g8, 0, none⟩ : Addr).add G).add j = ⟨g8, G + j, none⟩ := by by_cases hj0 : j = 0 <;> by_cases hG0 : G = 0 <;> simp [Addr.add, hj0, hG0]
              show w8.cell? (((⟨g8, 0, none⟩ : Addr).add G).add j) = _
              rw [ea]; exact hc
        case rest =>
          obtain ⟨A7, c7, A8, c8, rfl, rfl, hc7, hc8, S7, S8, H8⟩ := hcut
          have hw1 : IntKind.i64.wrap ((L : Int) + (i : Int)) = (K : Int) + 1 := by have := HLL.out; rw [IntKind.wrap_i64]; omega
          have hw2 : IntKind.i64.wrap ((K : Int) + 1) = (K : Int) + 1 := by rw [IntKind.wrap_i64]; omega
          have hw3 : (((K : Int) + 1) != ((K : Int) + 1)) = false := by simp
          have HIK := Lib.hid hi
          have HEN : Hid (Below W0.heap.size W0 wc) := Lib.hid (HEND.out _ _ H8.out)
          have S3c := Lib.hid (S5.out.kept H8.out.keptP (fun g hg hn => hn (HQ5.out _ (HQO.out g hg))))
          clear hGle hGle' hz
          go_upto_region 18 with (fail)
          clear hw1 hw2 hw3
          go_loopw [94] (fun v wr => ∃ j : Nat, v = .int .i64 j ∧ j ≤ K ∧ wr = wc) (fun v _ => K - (intOf v).toNat)
          case atStart => exact ⟨0, rfl, Nat.zero_le _, rfl⟩
          case round =>
            obtain ⟨j, rfl, hj, rfl⟩ := hrel
            by_cases hjk : j < K
            · have hjk' : (j : Int) < (K : Int) := by omega
              have hjl : j < s.keys.length := by rw [HK.out]; exact hjk
              obtain ⟨k, hk⟩ : ∃ k, s.keys[j]? = some k := ⟨_, List.getElem?_eq_getElem hjl⟩
              obtain ⟨g3, rfl, hc, -⟩ := S3c.out.elem (i := j) (x := .string k) hjk (by rw [List.getElem?_map, hk]; rfl)
              by_cases hji : j < i
              · have hji' : (j : Int) < (i : Int) := by omega
                obtain ⟨ad, rfl, hca⟩ := S8.out j k hji (by rw [HGS.out, List.getElem?_append_right (by rw [HG.out]; omega), HG.out, Nat.add_sub_cancel_left, List.getElem?_take_of_lt hji, hk])
                have hjc : j < c8 := by omega
                clear hk hjl
                go_wp2_with fail
                go_roundw
                case rel => exact ⟨j + 1, by go_num, by omega, by first | rfl | trivial⟩
                case measure => simp [intOf]; omega
              · have hji' : ¬ (j : Int) < (i : Int) := by omega
                have hij' : (i : Int) ≤ (j : Int) := by omega
                have hjL : j - i < L := by have := HLL.out; omega
                obtain ⟨g7, rfl, hc9, -⟩ := S7.out.elem (i := j - i) (x := .string k) hjL (by
                  rw [HKS.out, List.getElem?_map, List.getElem?_append_left (by rw [List.length_drop, HK.out]; omega), List.getElem?_drop, show i + (j - i) = j from by omega, hk]; rfl)
                have hws : IntKind.i64.wrap ((j : Int) - (i : Int)) = ((j - i : Nat) : Int) := by rw [IntKind.wrap_i64]; omega
                clear hk hjl
                go_wp2_with fail
                go_roundw
                case rel => exact ⟨j + 1, by go_num, by omega, by first | rfl | trivial⟩
                case measure => simp [intOf]; omega
            · have hjk' : ¬ (j : Int) < (K : Int) := by omega
              go_wp2_with fail
              go_ret
              exact ⟨rfl, HEN.out⟩
end Go.Proofs.Ytaccppchhljnkaa
