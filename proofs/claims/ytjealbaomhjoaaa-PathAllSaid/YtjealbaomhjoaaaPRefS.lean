/- punchcutlaw05.segs: its closure, and its walk. -/
import Derived.Test.YtjealbaomhjoaaaPFull
set_option linter.unusedVariables false
set_option linter.unusedSimpArgs false
namespace Go.Proofs.Ytjealbaomhjoaaa
open Go.RowKit Go.Proofs.Ytjealbaomhjoaaa.G Go.Proofs.YtjealbaomhjoaaaW.PrintWords Go.Proofs.YtjealbaomhjoaaaW.PrintMore
theorem cut_on (L : List S34) (k : Nat) (p : S36) (h : k + 1 < L.length) (hx : (L.getD (k + 1) z34).f2 = true) :
    cutL p (L.drop (k + 1)) = ⟨p, p, pt (L.getD (k + 1) z34), false⟩ :: cutL (pt (L.getD (k + 1) z34)) (L.drop (k + 2)) := by
  have e : L.drop (k + 1) = L.getD (k + 1) z34 :: L.drop (k + 2) := by
    rw [List.drop_eq_getElem_cons h, List.getD_eq_getElem?_getD, List.getElem?_eq_getElem h]; rfl
  rw [e, cutL_on _ _ _ hx]
theorem cut_off (L : List S34) (k : Nat) (p : S36) (h : k + 2 < L.length) (hx : (L.getD (k + 1) z34).f2 = false) :
    cutL p (L.drop (k + 1)) = ⟨p, pt (L.getD (k + 1) z34), pt (L.getD (k + 2) z34), true⟩ :: cutL (pt (L.getD (k + 2) z34)) (L.drop (k + 3)) := by
  have e : L.drop (k + 1) = L.getD (k + 1) z34 :: L.getD (k + 2) z34 :: L.drop (k + 3) := by
    rw [List.drop_eq_getElem_cons (show k + 1 < L.length by omega), List.drop_eq_getElem_cons h, List.getD_eq_getElem?_getD, List.getElem?_eq_getElem (show k + 1 < L.length by omega), List.getD_eq_getElem?_getD, List.getElem?_eq_getElem h]; rfl
  rw [e, cutL_off _ _ _ _ hx]
theorem full_head (c : List S34) (hc : c ≠ []) : ∃ x r, fullF c = x :: r ∧ x.f2 = true ∧ (fullF c).length = (allL c 0 c.length).length := by
  have hl : 0 < c.length := List.length_pos_iff.2 hc
  have hlen : (fullF c).length = (allL c 0 c.length).length := by
    unfold fullF
    rw [List.length_append, List.length_drop, List.length_take]; omega
  have hge := allL_ge c c.length 0
  by_cases hf : fiOn c < c.length
  · have hon := fi_on c hf
    have hall : allL c 0 c.length = allL c 0 (fiOn c) ++ allL c (fiOn c) (c.length - fiOn c) := by
      have := allL_add c (fiOn c) 0 (c.length - fiOn c)
      rw [Nat.zero_add, show fiOn c + (c.length - fiOn c) = c.length by omega] at this
      exact this
    obtain ⟨d, hd⟩ : ∃ d, c.length - fiOn c = d + 1 := ⟨c.length - fiOn c - 1, by omega⟩
    have he : exV (c.getD (fiOn c) z34) (c.getD ((fiOn c + 1) % c.length) z34) = [dbl (c.getD (fiOn c) z34)] := by unfold exV; rw [hon]; rfl
    refine ⟨dbl (c.getD (fiOn c) z34), allL c (fiOn c + 1) d ++ allL c 0 (fiOn c), ?_, hon, hlen⟩
    unfold fullF firstF
    rw [if_pos hf, hall, List.drop_left, List.take_left, hd, allL, Nat.mod_eq_of_lt hf, he]; rfl
  · have hfi : fiOn c = c.length := by have := fi_le c; omega
    have h0 : (c.getD 0 z34).f2 = false := fi_off c 0 (by omega)
    have hm : (c.getD (c.length - 1) z34).f2 = false := fi_off c (c.length - 1) (by omega)
    obtain ⟨d, hd⟩ : ∃ d, c.length = d + 1 := ⟨c.length - 1, by omega⟩
    have hall := allL_add c d 0 1
    rw [← hd, Nat.zero_add, allL, allL, List.append_nil, Nat.mod_eq_of_lt (show d < c.length by omega), show d + 1 = c.length from hd.symm, Nat.mod_self, exV, show d = c.length - 1 by omega, hm, h0] at hall
    have hall2 : allL c 0 c.length = (allL c 0 (c.length - 1) ++ [dbl (c.getD (c.length - 1) z34)]) ++ [mid (c.getD (c.length - 1) z34) (c.getD 0 z34)] := by rw [hall, List.append_assoc]; rfl
    refine ⟨mid (c.getD (c.length - 1) z34) (c.getD 0 z34), allL c 0 (c.length - 1) ++ [dbl (c.getD (c.length - 1) z34)], ?_, rfl, hlen⟩
    unfold fullF firstF
    rw [if_neg hf, hall2, List.length_append, List.length_singleton, Nat.add_sub_cancel, List.drop_left, List.take_left]; rfl
theorem ref_one (v : S34) (h : v.f2 = true) : fullF [v] = [dbl v] ∧ refF [v] = [⟨pt (dbl v), pt (dbl v), pt (dbl v), false⟩] := by
  have e : fullF [v] = [dbl v] := by
    have hf : fiOn [v] = 0 := by simp [fiOn, h]
    simp [fullF, firstF, hf, allL, exV, h]
  refine ⟨e, ?_⟩
  unfold refF
  rw [e]
  simp [cutL, dbl, h]
theorem lit38 (w W : World) (s : S38) : Kd.C k38 (w.alloc (.cells #[.int .i64 s.f0.f0, .int .i64 s.f0.f1, .int .i64 s.f1.f0, .int .i64 s.f1.f1, .int .i64 s.f2.f0, .int .i64 s.f2.f1, .bool s.f3] 38)) (some ⟨w.heap.size, 0, none⟩) 1 [s] := by
  have hr : Reps (k38.K (w.alloc (.cells #[.int .i64 s.f0.f0, .int .i64 s.f0.f1, .int .i64 s.f1.f0, .int .i64 s.f1.f1, .int .i64 s.f2.f0, .int .i64 s.f2.f1, .bool s.f3] 38))) k38.sz [s] [.int .i64 s.f0.f0, .int .i64 s.f0.f1, .int .i64 s.f1.f0, .int .i64 s.f1.f1, .int .i64 s.f2.f0, .int .i64 s.f2.f1, .bool s.f3] := (Reps.none _ _).snoc (k38_mk _ s) rfl
  obtain ⟨A, c, e, _, h⟩ := (OwnRow.lit (e := 38) w 0 hr (Nat.zero_le _) (by simp)).reads
  injection e with e1 e2 e3
  subst e1; exact h
attribute [local go_sem] cell_alloc in
set_option maxHeartbeats 1000000 in
set_option maxRecDepth 100000 in
theorem atk_c (w : World) (bL g c : Nat) (l : List S34) (i : Int) (h0 : 0 ≤ i) (h1 : i < (l.length : Int)) (hn : l.length ≤ 100000)
    (hL : Hid (w.heap[bL]? = some (.cells #[.slice (some ⟨g, 0, none⟩) l.length c] 28 (0, 0)))) (rd : Hid (Kd.C k34 w (some ⟨g, 0, none⟩) l.length l)) :
    Calls Try.prog 36 #[.int .i64 i, .pointer (some ⟨bL, 0, none⟩)] w fun e w' => e = .returned (.agg #[.int .i64 (pt (l.getD i.toNat z34)).f0, .int .i64 (pt (l.getD i.toNat z34)).f1]) ∧ Below w.heap.size w w' := by
  obtain ⟨k, rfl⟩ := Int.eq_ofNat_of_zero_le h0
  rw [Int.toNat_natCast]
  have hk : k < l.length := by omega
  obtain ⟨p0, p1, -⟩ := vert_at rd.out k hk
  obtain ⟨v, hv⟩ : ∃ v, l.getD k z34 = v := ⟨_, rfl⟩
  rw [hv] at p0 p1 ⊢
  simp only [add_plain] at p0 p1
  have cl : w.cell? ⟨bL, 0, none⟩ = some (.slice (some ⟨g, 0, none⟩) l.length c) := (blk_cell hL.out 0).trans rfl
  clear hv
  generalize l.length = n at *
  have l1 : bL < w.heap.size := World.block_lt_of_cell? w _ cl
  have l2 : g < w.heap.size := World.block_lt_of_cell? w _ p0
  have n1 : bL ≠ w.heap.size := by omega
  have n2 : g ≠ w.heap.size := by omega
  have hb := below_alloc (Below.refl _ w) (.cells #[.int .i64 0, .int .i64 0] 36)
  have q0 := pw_cell_below hb p0
  have q1 := pw_cell_below hb p1
  have q2 := pw_cell_below hb cl
  have HB := Lib.hid hb
  have g0 := heap_alloc_new w (.cells #[.int .i64 0, .int .i64 0] 36)
  clear hb rd hL
  go_enter Try.func36, Try.ntmps36
  go_wp2_with fail
  go_region_held3 (fun w' => w'.cell? ⟨bL, 0, none⟩ = some (.slice (some ⟨g, 0, none⟩) n c) ∧ w'.cell? ⟨g, k * 3, none⟩ = some (.int .i64 v.f0) ∧ w'.cell? ⟨g, k * 3 + 1, none⟩ = some (.int .i64 v.f1)) (go_keep) (fail)
  go_wp2_with fail
  have hz : ((w.alloc (.cells #[.int .i64 v.f0, .int .i64 v.f1] 36)).drew).heap[w.heap.size]? = some (.cells #[.int .i64 v.f0, .int .i64 v.f1] 36 (0, 0)) := heap_alloc_new w _
  refine bodyPost_ret (results_cell_row rfl _ _ w.heap.size 36 #[.int .i64 v.f0, .int .i64 v.f1] (0, 0) _ rfl hz Try.underlying36 rfl (by kernel_rfl)) rfl ?_
  exact ⟨rfl, below_drew (below_alloc (Below.refl _ w) _)⟩
attribute [local go_sem] cell_alloc in
set_option maxHeartbeats 4000000 in
set_option maxRecDepth 100000 in
theorem ref_c (ad : Addr) (cap : Nat) (c : List S34) (w : World) (rd : Kd.C k34 w (some ad) c.length c) (hle : c.length ≤ cap) (hn : c.length ≤ 1000) (hpos : 0 < c.length) :
    Calls Try.prog 19 #[.slice (some ad) c.length cap] w fun e w' => ∃ A c', e = .returned (.slice A (segF c).length c') ∧ (segF c).length ≤ c' ∧ Kd.C k38 w' A (segF c).length (segF c) ∧ Below w.heap.size w w' := by
  have hc : c ≠ [] := List.length_pos_iff.1 hpos
  rw [← ref_seg c hc]
  obtain ⟨x, r, hxr, hx, hfl⟩ := full_head c hc
  have hl2 := allL_len c c.length 0
  have hl1 := allL_ge c c.length 0
  have hfull := full_c ad cap c w rd hle hn hpos
  have HC0 : Hid (c.length = 1 → (c.getD 0 z34).f2 = true → fullF c = [dbl (c.getD 0 z34)] ∧ refF c = [⟨pt (dbl (c.getD 0 z34)), pt (dbl (c.getD 0 z34)), pt (dbl (c.getD 0 z34)), false⟩]) := Lib.hid (by
    intro h1 h2
    obtain ⟨v, rfl⟩ := List.length_eq_one_iff.1 h1
    exact ref_one v h2)
  obtain ⟨L, hL⟩ : ∃ L, fullF c ++ [x] = L := ⟨_, rfl⟩
  have href : refF c = cutL (pt x) (L.drop 1) := by unfold refF; rw [hxr, ← hL, hxr]; rfl
  have hL0 : L.getD 0 z34 = x := by rw [← hL, hxr]; rfl
  obtain ⟨n, hN⟩ : ∃ n, c.length = n := ⟨_, rfl⟩
  obtain ⟨m, hM⟩ : ∃ m, (fullF c).length = m := ⟨_, rfl⟩
  have hLm : L.length = m + 1 := by rw [← hL, List.length_append, hM]; rfl
  have hLl : (L.getD m z34).f2 = true := by
    rw [← hL, List.getD_eq_getElem?_getD, List.getElem?_append_right (by omega), show m - (fullF c).length = 0 by omega]; exact hx
  rw [hM] at hfl
  rw [← hfl, hN] at hl1 hl2
  have hm1 : 1 ≤ m := by omega
  have hm2 : m ≤ 2000 := by omega
  have RD := Lib.hid rd
  rw [hN] at hpos hle hn hfull ⊢
  have HN := Lib.hid hN; have HM := Lib.hid hM; have HX := Lib.hid hxr; have HL := Lib.hid hL; have HREF := Lib.hid href; have HL0 := Lib.hid hL0; have HLM := Lib.hid hLm; have HLL := Lib.hid hLl; have HFULL := Lib.hid hfull
  clear rd hN hM hxr hL href hL0 hLm hLl hfull hfl hl1 hl2 hx
  have hn0 : ((n : Int) == 0) = false := by simp; omega
  go_enter Try.func19, Try.ntmps19
  go_wp2_with fail
  refine HFULL.out.mono ?_
  rintro e w1 ⟨u, rfl, ho, hb⟩
  obtain ⟨g, c3, e3, -, hgl, -⟩ := Kd.R_form ho (by rw [HM.out]; omega)
  rw [HM.out] at e3
  subst e3
  have HO := Lib.hid ho; have HB := Lib.hid hb
  clear ho hb HFULL
  go_upto_region 4 with (fail)
  obtain ⟨x0, x1, x2⟩ := x
  have al := below_alloc (Below.refl _ w1) (.cells #[.slice (some ⟨g, 0, none⟩) m c3] 28)
  have HBL := Lib.hid (heap_alloc_new w1 (.cells #[.slice (some ⟨g, 0, none⟩) m c3] 28))
  have HO1 := Lib.hid (Kd.R_below HO.out al)
  have HB1 := Lib.hid (below_step HB.out al)
  have hbl : w.heap.size ≤ w1.heap.size := HB.out.size
  clear HO HB hgl al
  generalize w1.alloc (.cells #[.slice (some ⟨g, 0, none⟩) m c3] 28) = W1 at *
  generalize w1.heap.size = bL at *
  obtain ⟨A9, c9, e9, l9, r9⟩ := Kd.R_reads HO1.out
  rw [HM.out] at e9 l9
  injection e9 with e9 _ e10
  subst e9; subst e10
  obtain ⟨p0, p1, p2⟩ := vert_at r9 0 (by rw [HM.out]; omega)
  rw [HX.out] at p0 p1 p2
  simp only [List.getD_cons_zero, add_plain, Nat.zero_mul, Nat.zero_add] at p0 p1 p2
  have q0 : W1.cell? ⟨bL, 0, none⟩ = some (.slice (some ⟨g, 0, none⟩) m c3) := (blk_cell HBL.out 0).trans rfl
  have q1 := blk_frozen HBL.out 0
  have bg1 : bL ≠ g := by
    intro e
    have := Kd.R_ne HO1.out HBL.out (show 34 ≠ 28 by decide)
    exact this (by rw [e]; rfl)
  have n1 := World.new_ne W1 _ q0
  have n2 := World.new_ne W1 _ p0
  have HO2 := Lib.hid (Kd.R_below HO1.out (below_drew (Below.refl _ W1)))
  have HB2 := Lib.hid (below_drew HB1.out)
  have HBL2 := Lib.hid (blk_below HBL.out (below_drew (Below.refl _ W1)))
  clear r9 l9
  have hm0 : 0 < m := by omega
  have HLx : Hid (fullF c ++ [⟨x0, x1, x2⟩] = L) := HL
  go_cut [12] (fun _ wc => ∃ g1 c1, Hid (wc.heap[bL]? = some (.cells #[.slice (some ⟨g1, 0, none⟩) L.length c1] 28 (0, 0))) ∧ Hid (Kd.C k34 wc (some ⟨g1, 0, none⟩) L.length L) ∧ Hid (Below w.heap.size w wc))
  case first =>
    -- DEVCUT
    have HCM : Hid ((W1.alloc (.cells #[.int .i64 x0, .int .i64 x1, .bool x2] 34)).drew = W1.drew.alloc (.cells [Value.int .i64 x0, .int .i64 x1, .bool x2].toArray 34)) := Lib.hid rfl
    go_region_law (rw [HCM.out]; (refine Kd.R_append_step k34 (w0 := w) (W := W1.drew) w.heap.size (by rfl) (.tmp 12) (.tmp 16) 28 34 _ 24 (by rfl) Try.underlying28 info34 rfl (by decide) (by omega) (.slice (some ⟨g, 0, none⟩) m c3) (fullF c) ⟨x0, x1, x2⟩ [.int .i64 x0, .int .i64 x1, .bool x2] (fun _ => True) (fun _ => False) (by rfl) (by rfl) (k34_mkM _ _ _ ⟨x0, x1, x2⟩) (fun _ hk => hk.elim) (fun _ _ => trivial) HO2.out HB2.out HB2.out.size (by rw [HM.out]; omega) ?_); intro v1 w4 ho hb hg hat; have n1 := Lib.hid ho; have n2 := Lib.hid hb; have n3 := Lib.hid (blk_grown HBL2.out hg (Kd.R_ne HO2.out HBL2.out (show 34 ≠ 28 by decide))); obtain ⟨A5, c5, e5⟩ := Kd.R_slice ho; rw [List.length_append, HM.out, List.length_singleton] at e5; subst e5; clear ho hb hg hat; have q2 := (blk_cell n3.out 0).trans rfl; have q3 := blk_frozen n3.out 0)
    all_goals
      go_wp2_with fail
      go_meet
      case rel =>
        obtain ⟨g1, c1, e1, -, -, -⟩ := Kd.R_form n1.out (by simp)
        rw [List.length_append, HM.out, List.length_singleton] at e1
        injection e1 with e1 _ e3
        subst e1; subst e3
        have hs := Kd.R_set n1.out n3.out (by decide) 0 (.slice (some ⟨g1, 0, none⟩) (m + 1) c5)
        rw [HLx.out] at hs
        obtain ⟨A9, c9, e9, l9, r9⟩ := Kd.R_reads hs
        rw [HLM.out] at e9 l9 r9
        injection e9 with e9 _ _
        subst e9
        exact ⟨g1, c5, Lib.hid (by rw [HLM.out]; simpa using blk_set n3.out 0 (.slice (some ⟨g1, 0, none⟩) (m + 1) c5)), Lib.hid (by rw [HLM.out]; exact r9), Lib.hid (n2.out.setCell hbl _)⟩
    -- DEVEND
  case rest =>
    obtain ⟨g1, c1, HBL3, HC3, HB3⟩ := hcut
    clear HO1 HB1 HO2 HB2 HBL2 HBL p0 p1 p2 q0 q1 bg1 n1 n2
    have HRD := Lib.hid (Kd.C_below RD.out HB3.out)
    obtain ⟨y, hy⟩ : ∃ y, c.getD 0 z34 = y := ⟨_, rfl⟩
    obtain ⟨a0, a1, a2⟩ := vert_at HRD.out 0 (by rw [HN.out]; omega)
    rw [Nat.zero_mul, add_zero_ad, hy] at a0 a1 a2
    rw [hy] at HC0
    obtain ⟨y0, y1, y2⟩ := y
    have HY := Lib.hid hy
    clear hy
    have hn1 : (0 : Int) < (n : Int) := by omega
    have hn2 : 0 < n := hpos
    go_upto_region 7 with fail
    obtain ⟨b, hb⟩ : ∃ b, (decide (n = 1) && y2) = b := ⟨_, rfl⟩
    have HBB := Lib.hid hb; clear hb
    go_cut [27] (fun v27 W => v27 = .bool b ∧ W = wc)
    case first =>
      -- DEVCUT
      by_cases h1 : n = 1
      · have hb1 : ((n : Int) == 1) = true := by simp; omega
        have HD1 : Hid (decide (n = 1) = true) := Lib.hid (by simp [h1])
        clear h1
        go_wp2_with fail
        go_meet
        case rel => exact ⟨by rw [← HBB.out, HD1.out, Bool.true_and], rfl⟩
      · have hb1 : ((n : Int) == 1) = false := by simp; omega
        have HD1 : Hid (decide (n = 1) = false) := Lib.hid (by simp [h1])
        clear h1
        go_wp2_with fail
        go_meet
        case rel => exact ⟨by rw [← HBB.out, HD1.out, Bool.false_and], rfl⟩
      -- DEVEND
    case rest =>
      obtain ⟨rfl, rfl⟩ := hcut
      clear a0 a1 a2
      cases b with
      | true =>
        have h12 := HBB.out
        rw [Bool.and_eq_true, decide_eq_true_iff] at h12
        obtain ⟨h1, h2⟩ := h12
        have hP : Hid (L.getD (Int.toNat 0) z34 = ⟨x0, x1, x2⟩) := HL0
        obtain ⟨hc1, hc2⟩ := HC0.out (by rw [HN.out]; exact h1) h2
        have hxx : pt ⟨x0, x1, x2⟩ = pt (dbl ⟨y0, y1, y2⟩) := by
          have h := HX.out
          rw [hc1] at h
          injection h with h _
          rw [← h]
        rw [← hxx] at hc2
        have hL1 : 0 < L.length := by rw [HLM.out]; omega
        have HAT : Hid (∀ W, Hid (W.heap[bL]? = some (.cells #[.slice (some ⟨g1, 0, none⟩) L.length c1] 28 (0, 0))) → Hid (Kd.C k34 W (some ⟨g1, 0, none⟩) L.length L) → Calls Try.prog 36 #[.int .i64 0, .pointer (some ⟨bL, 0, none⟩)] W fun e w' => e = .returned (.agg #[.int .i64 x0, .int .i64 x1]) ∧ Below W.heap.size W w') := Lib.hid (fun W h1 h2 => by
          have := atk_c W bL g1 c1 L 0 (by omega) (by omega) (by rw [HLM.out]; omega) h1 h2
          rw [hP.out] at this
          exact this)
        have HREF2 : Hid (refF c = [⟨⟨x0, x1⟩, ⟨x0, x1⟩, ⟨x0, x1⟩, false⟩]) := Lib.hid hc2
        clear h1 h2 hP hc1 hc2 hxx hL1
        go_wp2_with fail
        refine (HAT.out _ HBL3 HC3).mono ?_
        rintro e w5 ⟨rfl, hb5⟩
        have G5 := Lib.hid (blk_below HBL3.out hb5)
        have C5 := Lib.hid (Kd.C_below HC3.out hb5)
        have B5 := Lib.hid (below_step HB3.out hb5)
        clear hb5
        go_wp2_with fail
        refine (HAT.out _ G5 C5).mono ?_
        rintro e w6 ⟨rfl, hb6⟩
        have G6 := Lib.hid (blk_below G5.out hb6)
        have C6 := Lib.hid (Kd.C_below C5.out hb6)
        have B6 := Lib.hid (below_step B5.out hb6)
        clear hb6
        go_wp2_with fail
        refine (HAT.out _ G6 C6).mono ?_
        rintro e w7 ⟨rfl, hb7⟩
        have B7 := Lib.hid (below_step B6.out hb7)
        clear hb7
        go_wp2_with fail
        go_ret
        rw [HREF2.out]
        exact ⟨some ⟨w7.heap.size, 0, none⟩, 1, rfl, Nat.le_refl _, lit38 w7 w7 ⟨⟨x0, x1⟩, ⟨x0, x1⟩, ⟨x0, x1⟩, false⟩, below_alloc B7.out _⟩
      | false =>
        clear HY HBB HC0 HRD
        obtain ⟨N, hNn⟩ : ∃ N, L.length = N := ⟨_, rfl⟩
        rw [hNn] at HBL3 HC3 HLM
        have hN2 : N = m + 1 := HLM.out
        have hN3 : N ≤ 2001 := by omega
        have hN4 : 2 ≤ N := by omega
        have HLAST : Hid ((L.getD (N - 1) z34).f2 = true) := Lib.hid (by rw [hN2]; exact HLL.out)
        have HNn := Lib.hid hNn
        clear hN2 hNn HLM HLL
        have HAT : Hid (∀ W (i : Int), 0 ≤ i → i < (N : Int) → Hid (W.heap[bL]? = some (.cells #[.slice (some ⟨g1, 0, none⟩) N c1] 28 (0, 0))) → Hid (Kd.C k34 W (some ⟨g1, 0, none⟩) N L) → Calls Try.prog 36 #[.int .i64 i, .pointer (some ⟨bL, 0, none⟩)] W fun e w' => e = .returned (.agg #[.int .i64 (pt (L.getD i.toNat z34)).f0, .int .i64 (pt (L.getD i.toNat z34)).f1]) ∧ Below W.heap.size W w') := Lib.hid (fun W i h0 h1 h2 h3 => by
          have := atk_c W bL g1 c1 L i h0 (by rw [HNn.out]; exact h1) (by rw [HNn.out]; omega)
          rw [HNn.out] at this
          exact this h2 h3)
        obtain ⟨w0, rfl⟩ : ∃ w0 : World, w0 = wc := ⟨_, rfl⟩
        go_wp2_with fail
        go_loopw [4, 6] (fun v4 v6 W => ∃ (k : Nat) (out : List S38) (u : Value), v4 = u ∧ v6 = .int .i64 k ∧ k < N ∧ Hid (out.length ≤ k) ∧ Hid (Kd.R k38 38 W w0.heap.size (fun _ => True) u out) ∧ Hid (out ++ cutL (pt (L.getD k z34)) (L.drop (k + 1)) = refF c) ∧ Hid (Below w0.heap.size w0 W)) (fun _ v6 _ => N - (intOf v6).toNat)
        case atStart => exact ⟨0, [], _, rfl, rfl, by omega, Lib.hid (Nat.le_refl _), Lib.hid (Kd.R_nil _ _ _ _ _), Lib.hid (by rw [HL0.out, List.nil_append]; exact HREF.out.symm), Lib.hid (Below.refl _ _)⟩
        case round =>
          obtain ⟨k, out, u, rfl, rfl, hk, HLEN, HO, HE, HB⟩ := hrel
          have HBr := Lib.hid (blk_below HBL3.out HB.out)
          have HCr := Lib.hid (Kd.C_below HC3.out HB.out)
          obtain ⟨A0, c0, e0⟩ := Kd.R_slice HO.out
          subst e0
          have cl := (blk_cell HBr.out 0).trans rfl
          by_cases hlt : k + 1 < N
          · have hkk : (k : Int) + 1 < (N : Int) := by omega
            obtain ⟨-, -, p2⟩ := vert_at (by have := HCr.out; rw [← HNn.out] at this; exact this) (k + 1) (by rw [HNn.out]; omega)
            simp only [add_plain] at p2
            by_cases hon : (L.getD (k + 1) z34).f2 = true
            · rw [hon] at p2
              have he := HE.out
              rw [cut_on L k _ (by rw [HNn.out]; omega) hon] at he
              obtain ⟨⟨P0, P1⟩, hP⟩ : ∃ P, pt (L.getD k z34) = P := ⟨_, rfl⟩
              obtain ⟨⟨Q0, Q1⟩, hQ⟩ : ∃ P, pt (L.getD (k + 1) z34) = P := ⟨_, rfl⟩
              rw [hP, hQ] at he
              have AP : Hid (∀ W, Hid (W.heap[bL]? = some (.cells #[.slice (some ⟨g1, 0, none⟩) N c1] 28 (0, 0))) → Hid (Kd.C k34 W (some ⟨g1, 0, none⟩) N L) → Calls Try.prog 36 #[.int .i64 ((k : Int)), .pointer (some ⟨bL, 0, none⟩)] W fun e w' => e = .returned (.agg #[.int .i64 P0, .int .i64 P1]) ∧ Below W.heap.size W w') := Lib.hid (fun W h1 h2 => by
                have := HAT.out W ((k : Int)) (by omega) (by omega) h1 h2
                rw [show ((k : Int)).toNat = k by omega, hP] at this
                exact this)
              have AQ : Hid (∀ W, Hid (W.heap[bL]? = some (.cells #[.slice (some ⟨g1, 0, none⟩) N c1] 28 (0, 0))) → Hid (Kd.C k34 W (some ⟨g1, 0, none⟩) N L) → Calls Try.prog 36 #[.int .i64 ((k : Int) + 1), .pointer (some ⟨bL, 0, none⟩)] W fun e w' => e = .returned (.agg #[.int .i64 Q0, .int .i64 Q1]) ∧ Below W.heap.size W w') := Lib.hid (fun W h1 h2 => by
                have := HAT.out W ((k : Int) + 1) (by omega) (by omega) h1 h2
                rw [show ((k : Int) + 1).toNat = k + 1 by omega, hQ] at this
                exact this)
              have HE2 := Lib.hid he
              have HP := Lib.hid hP; have HQ := Lib.hid hQ
              clear he hP hQ HE hon
              go_wp2_with fail
              refine (AP.out _ HBr HCr).mono ?_
              rintro e w5 ⟨rfl, hb5⟩
              have G5 := Lib.hid (blk_below HBr.out hb5)
              have C5 := Lib.hid (Kd.C_below HCr.out hb5)
              have B5 := Lib.hid (below_step HB.out hb5)
              have O5 := Lib.hid (Kd.R_below HO.out hb5)
              clear hb5
              go_wp2_with fail
              refine (AP.out _ G5 C5).mono ?_
              rintro e w6 ⟨rfl, hb6⟩
              have G6 := Lib.hid (blk_below G5.out hb6)
              have C6 := Lib.hid (Kd.C_below C5.out hb6)
              have B6 := Lib.hid (below_step B5.out hb6)
              have O6 := Lib.hid (Kd.R_below O5.out hb6)
              clear hb6
              go_wp2_with fail
              refine (AQ.out _ G6 C6).mono ?_
              rintro e w7 ⟨rfl, hb7⟩
              have G7 := Lib.hid (blk_below G6.out hb7)
              have C7 := Lib.hid (Kd.C_below C6.out hb7)
              have B7 := Lib.hid (below_step B6.out hb7)
              have O7 := Lib.hid (Kd.R_below O6.out hb7)
              clear hb7
              go_wp2_with (at_builtin; refine Kd.R_append k38 (w0 := w0) w0.heap.size rfl (.tmp 47) (.tmp 59) 30 38 _ 56 rfl Try.underlying30 info38 rfl (by decide) (by omega) (.slice A0 out.length c0) out ⟨⟨P0, P1⟩, ⟨P0, P1⟩, ⟨Q0, Q1⟩, false⟩ [.int .i64 P0, .int .i64 P1, .int .i64 P0, .int .i64 P1, .int .i64 Q0, .int .i64 Q1, .bool false] (fun _ => True) (fun _ => False) rfl rfl ?aP (fun _ hk => hk.elim) (fun _ _ => trivial) O7.out B7.out B7.out.size ?aL ?_; (case aP => exact k38_mkM _ _ _ (⟨⟨P0, P1⟩, ⟨P0, P1⟩, ⟨Q0, Q1⟩, false⟩)); (case aL => have := HLEN.out; omega); intro v1 w8 ho hb hg hat; have m1 := Lib.hid ho; have m2 := Lib.hid hb; clear ho hb hg hat)
              go_roundw
              case rel => exact ⟨k + 1, _, v1, rfl, by go_num, by omega, Lib.hid (by have := HLEN.out; rw [List.length_append, List.length_singleton]; omega), m1, Lib.hid (by rw [List.append_assoc, HQ.out]; exact HE2.out), m2⟩
              case measure => simp [intOf]; omega
            · have hon : (L.getD (k + 1) z34).f2 = false := by simpa using hon
              rw [hon] at p2
              have hk2 : k + 2 < N := by
                have := HLAST.out
                rcases Nat.lt_or_ge (k + 2) N with h | h
                · exact h
                · rw [show N - 1 = k + 1 by omega, hon] at this; cases this
              have he := HE.out
              rw [cut_off L k _ (by rw [HNn.out]; omega) hon] at he
              obtain ⟨⟨P0, P1⟩, hP⟩ : ∃ P, pt (L.getD k z34) = P := ⟨_, rfl⟩
              obtain ⟨⟨R0, R1⟩, hR⟩ : ∃ P, pt (L.getD (k + 1) z34) = P := ⟨_, rfl⟩
              obtain ⟨⟨Q0, Q1⟩, hQ⟩ : ∃ P, pt (L.getD (k + 2) z34) = P := ⟨_, rfl⟩
              rw [hP, hQ, hR] at he
              have AP : Hid (∀ W, Hid (W.heap[bL]? = some (.cells #[.slice (some ⟨g1, 0, none⟩) N c1] 28 (0, 0))) → Hid (Kd.C k34 W (some ⟨g1, 0, none⟩) N L) → Calls Try.prog 36 #[.int .i64 ((k : Int)), .pointer (some ⟨bL, 0, none⟩)] W fun e w' => e = .returned (.agg #[.int .i64 P0, .int .i64 P1]) ∧ Below W.heap.size W w') := Lib.hid (fun W h1 h2 => by
                have := HAT.out W ((k : Int)) (by omega) (by omega) h1 h2
                rw [show ((k : Int)).toNat = k by omega, hP] at this
                exact this)
              have AR : Hid (∀ W, Hid (W.heap[bL]? = some (.cells #[.slice (some ⟨g1, 0, none⟩) N c1] 28 (0, 0))) → Hid (Kd.C k34 W (some ⟨g1, 0, none⟩) N L) → Calls Try.prog 36 #[.int .i64 ((k : Int) + 1), .pointer (some ⟨bL, 0, none⟩)] W fun e w' => e = .returned (.agg #[.int .i64 R0, .int .i64 R1]) ∧ Below W.heap.size W w') := Lib.hid (fun W h1 h2 => by
                have := HAT.out W ((k : Int) + 1) (by omega) (by omega) h1 h2
                rw [show ((k : Int) + 1).toNat = k + 1 by omega, hR] at this
                exact this)
              have AQ : Hid (∀ W, Hid (W.heap[bL]? = some (.cells #[.slice (some ⟨g1, 0, none⟩) N c1] 28 (0, 0))) → Hid (Kd.C k34 W (some ⟨g1, 0, none⟩) N L) → Calls Try.prog 36 #[.int .i64 ((k : Int) + 2), .pointer (some ⟨bL, 0, none⟩)] W fun e w' => e = .returned (.agg #[.int .i64 Q0, .int .i64 Q1]) ∧ Below W.heap.size W w') := Lib.hid (fun W h1 h2 => by
                have := HAT.out W ((k : Int) + 2) (by omega) (by omega) h1 h2
                rw [show ((k : Int) + 2).toNat = k + 2 by omega, hQ] at this
                exact this)
              have HE2 := Lib.hid he
              have HP := Lib.hid hP; have HQ := Lib.hid hQ
              clear he hP hQ HE hR hon
              go_wp2_with fail
              refine (AP.out _ HBr HCr).mono ?_
              rintro e w5 ⟨rfl, hb5⟩
              have G5 := Lib.hid (blk_below HBr.out hb5)
              have C5 := Lib.hid (Kd.C_below HCr.out hb5)
              have B5 := Lib.hid (below_step HB.out hb5)
              have O5 := Lib.hid (Kd.R_below HO.out hb5)
              clear hb5
              go_wp2_with fail
              refine (AR.out _ G5 C5).mono ?_
              rintro e w6 ⟨rfl, hb6⟩
              have G6 := Lib.hid (blk_below G5.out hb6)
              have C6 := Lib.hid (Kd.C_below C5.out hb6)
              have B6 := Lib.hid (below_step B5.out hb6)
              have O6 := Lib.hid (Kd.R_below O5.out hb6)
              clear hb6
              go_wp2_with fail
              refine (AQ.out _ G6 C6).mono ?_
              rintro e w7 ⟨rfl, hb7⟩
              have G7 := Lib.hid (blk_below G6.out hb7)
              have C7 := Lib.hid (Kd.C_below C6.out hb7)
              have B7 := Lib.hid (below_step B6.out hb7)
              have O7 := Lib.hid (Kd.R_below O6.out hb7)
              clear hb7
              go_wp2_with (at_builtin; refine Kd.R_append k38 (w0 := w0) w0.heap.size rfl (.tmp 63) (.tmp 76) 30 38 _ 56 rfl Try.underlying30 info38 rfl (by decide) (by omega) (.slice A0 out.length c0) out ⟨⟨P0, P1⟩, ⟨R0, R1⟩, ⟨Q0, Q1⟩, true⟩ [.int .i64 P0, .int .i64 P1, .int .i64 R0, .int .i64 R1, .int .i64 Q0, .int .i64 Q1, .bool true] (fun _ => True) (fun _ => False) rfl rfl ?aP (fun _ hk => hk.elim) (fun _ _ => trivial) O7.out B7.out B7.out.size ?aL ?_; (case aP => exact k38_mkM _ _ _ (⟨⟨P0, P1⟩, ⟨R0, R1⟩, ⟨Q0, Q1⟩, true⟩)); (case aL => have := HLEN.out; omega); intro v1 w8 ho hb hg hat; have m1 := Lib.hid ho; have m2 := Lib.hid hb; clear ho hb hg hat)
              go_roundw
              case rel => exact ⟨k + 2, _, v1, rfl, by go_num, by omega, Lib.hid (by have := HLEN.out; rw [List.length_append, List.length_singleton]; omega), m1, Lib.hid (by rw [List.append_assoc, HQ.out]; exact HE2.out), m2⟩
              case measure => simp [intOf]; omega
          · have hkk : ¬ (k : Int) + 1 < (N : Int) := by omega
            have he := HE.out
            rw [List.drop_eq_nil_of_le (by rw [HNn.out]; omega), cutL, List.append_nil] at he
            have HE2 := Lib.hid he
            clear he HE
            go_wp2_with fail
            go_ret
            obtain ⟨A9, c9, e9, l9, r9⟩ := Kd.R_reads HO.out
            injection e9 with e1 _ e3
            subst e1; subst e3
            rw [← HE2.out]
            exact ⟨A0, c0, rfl, l9, r9, below_then HB3.out HB3.out.size HB.out⟩
end Go.Proofs.Ytjealbaomhjoaaa
