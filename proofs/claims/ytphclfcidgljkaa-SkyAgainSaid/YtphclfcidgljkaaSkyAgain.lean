/- SkyAgain: the walk. -/
import Derived.Test.YtphclfcidgljkaaSkyApart
import Derived.Test.YtphclfcidgljkaaTwo
set_option linter.unusedVariables false
set_option linter.unusedSimpArgs false
namespace Go.Proofs.Ytphclfcidgljkaa
open Go.RowKit Go.Proofs.YtphclfcidgljkaaW.PrintWords Go.Proofs.YtphclfcidgljkaaW.PrintLast Go.Proofs.YtphclfcidgljkaaW.PrintMore
theorem rb_nil (a b : Nat) : rbL a b [] = List.replicate a 0 := by
  apply List.ext_getElem (by simp [rbL])
  intro i h1 h2
  simp [rbL, rbF]
attribute [local go_sem high] eqRect eqTwo
attribute [local go_sem] cell_alloc max2_max min2_min max_two min_two
set_option maxHeartbeats 4000000 in
set_option maxRecDepth 100000 in
theorem skyAgain_core (x y : Int) (hx : -128 ≤ x ∧ x ≤ 127) (hy : -128 ≤ y ∧ y ≤ 127) (A : Option Addr) (cap : Nat) (l : List Bx) (W : World) (rd : Kd.C kbx W A l.length l) (le : l.length ≤ cap)
    (wf : ∀ p ∈ l, (Lit.int .u8 p.1).wf = true ∧ (Lit.int .u8 p.2.1).wf = true ∧ (Lit.int .u8 p.2.2.1).wf = true ∧ (Lit.int .u8 p.2.2.2.1).wf = true) :
    Calls Try.prog 6 #[.int .i8 x, .int .i8 y, .slice A l.length cap] W fun e w' => e = .returned (.bool true) ∧ Below W.heap.size W w' := by
  obtain ⟨hx0, hx1⟩ := hx
  obtain ⟨hy0, hy1⟩ := hy
  have HOF := Lib.hid (fun W' => of_c W' x y)
  have hsx : side x = 0 ∨ (side x : Int) ≤ x := by unfold side; omega
  have hsy : side y = 0 ∨ (side y : Int) ≤ y := by unfold side; omega
  have hax := side_le x
  have hbx := side_le y
  obtain ⟨a, ha⟩ : ∃ a, side x = a := ⟨_, rfl⟩
  obtain ⟨b, hb⟩ : ∃ b, side y = b := ⟨_, rfl⟩
  have HXA := Lib.hid ha
  have HYB := Lib.hid hb
  rw [ha] at HOF hsx hax
  rw [hb] at HOF hsy hbx
  clear ha hb
  have hmx := rd.2.1
  obtain ⟨n, hn⟩ : ∃ n, l.length = n := ⟨_, rfl⟩
  rw [hn] at rd le hmx ⊢
  have RD := Lib.hid rd; have HN := Lib.hid hn; have WF := Lib.hid wf
  clear rd hn wf
  obtain ⟨M, hM, hMn, hM60⟩ := min_cut n 60
  have hM' : min (n : Int) 60 = (M : Int) := hM
  clear hM
  have hMc : M ≤ cap := by omega
  have hMi : (M : Int) ≤ (cap : Int) := by omega
  have hM0 : (0 : Int) ≤ (M : Int) := by omega
  go_enter Try.func6, Try.ntmps6
  go_wp2_with fail
  refine (awake_c W).mono ?_
  rintro e w1 ⟨rfl, hb1⟩
  have B1 := Lib.hid hb1; clear hb1
  go_wp2_with fail
  refine (HOF.out w1).mono ?_
  rintro e w2 ⟨g, rfl, hg, hs, hb2⟩
  have B2 := Lib.hid (below_step B1.out hb2)
  have S2 := Lib.hid hs
  have hgW : W.heap.size ≤ g := by have := B1.out.size; omega
  clear hb2 hs HOF
  obtain ⟨w0, rfl⟩ : ∃ w0 : World, w0 = W := ⟨_, rfl⟩
  go_wp2_with fail
  go_loopw [8, 31] (fun v8 v31 W => ∃ (k : Nat) (u : Value) (hs : List Int) (rs : List Rc), v8 = u ∧ v31 = .int .i64 k ∧ k ≤ M ∧ Hid (SkyAt W g a b hs) ∧ Hid (Kd.R krc 31 W w0.heap.size (fun _ => True) u rs) ∧ Hid (Under a b hs rs ∧ rbL a b rs = hs) ∧ rs.length ≤ k ∧ Hid (Below w0.heap.size w0 W)) (fun _ v31 _ => M - (intOf v31).toNat)
  case atStart => exact ⟨0, _, _, [], rfl, rfl, Nat.zero_le _, S2, Lib.hid (Kd.R_nil _ _ _ _ _), Lib.hid ⟨fun q hq => by simp at hq, rb_nil a b⟩, Nat.le_refl _, B2⟩
  case round =>
    obtain ⟨k, u, hs, rs, rfl, rfl, hk, HS, HO, HU, hrk, HB⟩ := hrel
    by_cases hkM : k < M
    · have hkk : (k : Int) < (M : Int) := by omega
      obtain ⟨ad, eA⟩ := C_some RD.out (by omega)
      subst eA
      obtain ⟨bx, hbx⟩ : ∃ bx, l.getD k (0, 0, 0, 0, false) = bx := ⟨_, rfl⟩
      obtain ⟨p0, p1, p2, p3, p4⟩ := bx_at (Kd.C_below RD.out HB.out) k (by omega) bx hbx
      have hmem : bx ∈ l := by
        rw [← hbx, List.getD_eq_getElem?_getD, List.getElem?_eq_getElem (by rw [HN.out]; omega)]
        exact List.getElem_mem _
      obtain ⟨v0, v1, v2, v3⟩ := WF.out bx hmem
      obtain ⟨bW, bH, bX, bY, bF⟩ := bx
      obtain ⟨v00, v01⟩ := wf8 v0
      obtain ⟨v10, v11⟩ := wf8 v1
      have v00 : 0 ≤ bW := v00
      have v01 : bW ≤ 255 := v01
      have v10 : 0 ≤ bH := v10
      have v11 : bH ≤ 255 := v11
      have al := below_alloc (Below.refl _ wr) (.cells #[.int .u8 bW, .int .u8 bH, .int .u8 bX, .int .u8 bY, .bool bF] 29)
      have g1 := heap_alloc_new wr (.cells #[.int .u8 bW, .int .u8 bH, .int .u8 bX, .int .u8 bY, .bool bF] 29)
      have HS1 := Lib.hid (HS.out.below al)
      have HO1 := Lib.hid (Kd.R_below HO.out al)
      have HB1 := Lib.hid (below_step HB.out al)
      clear v0 v1 v2 v3 hmem hbx HS HO HB
      go_upto_region 10 with (fail)
      generalize wr.alloc (.cells #[.int .u8 bW, .int .u8 bH, .int .u8 bX, .int .u8 bY, .bool bF] 29) = W1 at *
      generalize wr.heap.size = bP at *
      have s0 : W1.cell? ⟨bP, 0, none⟩ = some (.int .u8 bW) := (blk_cell g1 0).trans rfl
      have s1 : W1.cell? ⟨bP, 1, none⟩ = some (.int .u8 bH) := (blk_cell g1 1).trans rfl
      clear p0 p1 p2 p3 p4 al g1
      have HF := Lib.hid (fit_c W1 g a b hs HS1.out (bW % 20) (bH % 20))
      go_wp2_with fail
      refine HF.out.mono ?_
      rintro e w5 ⟨rfl, hb5⟩
      have HS5 := Lib.hid (HS1.out.below hb5)
      have HO5 := Lib.hid (Kd.R_below HO1.out hb5)
      have HB5 := Lib.hid (below_step HB1.out hb5)
      obtain ⟨m, hm⟩ : ∃ m, bW % 20 = m := ⟨_, rfl⟩
      obtain ⟨nn, hnn⟩ : ∃ nn, bH % 20 = nn := ⟨_, rfl⟩
      rw [hm, hnn]
      clear hb5 s0 s1 HF HS1 HO1 HB1
      cases hf : fitQ a b hs m nn with
      | none =>
        rw [fitV]
        go_wp2_with fail
        go_roundw
        case rel => exact ⟨k + 1, _, hs, rs, rfl, by go_num, by omega, Lib.hid (HS5.out.below (below_alloc (Below.refl _ w5) _)), Lib.hid (Kd.R_below HO5.out (below_alloc (Below.refl _ w5) _)), HU, by omega, Lib.hid (below_alloc HB5.out _)⟩
        case measure => simp [intOf]; omega
      | some f =>
        obtain ⟨X, Y⟩ := f
        have hff := fit_facts hf
        have hok := fit_putOk hf
        have hov := fun i h1 h2 => fit_over hf HS5.out.len i h1 h2
        obtain ⟨f1, f2, f3, f4, f5, f6, f7, f8⟩ := hff
        have f5 : 0 ≤ X := f5
        have f6 : X + m ≤ a := f6
        have f8 : Y + nn ≤ b := f8
        have f9 : 0 ≤ Y := by
          have h7 : Y = mxF X m 0 0 hs := f7
          have := (mx_bound X m b hs 0 0 (fun y hy => (HS5.out.ys y hy).2) (by omega)).1
          omega
        have HOK := Lib.hid hok; have HOV := Lib.hid hov
        have HRB := Lib.hid (rb_put hf HS5.out.len HU.out.2)
        have hxa : (a : Int) ≤ x := by rcases hsx with h | h <;> omega
        have hyb : (b : Int) ≤ y := by rcases hsy with h | h <;> omega
        have c1 : ¬ X < 0 := by omega
        have c2 : ¬ Y < 0 := by omega
        have c3 : ¬ x < X + m := by omega
        have c4 : ¬ y < Y + nn := by omega
        clear hf hok hov f7 hm hnn
        rw [fitV]
        have al := below_alloc (Below.refl _ w5) (.cells #[.int .i64 X, .int .i64 Y, .int .i64 m, .int .i64 nn] 31)
        have g1 := heap_alloc_new w5 (.cells #[.int .i64 X, .int .i64 Y, .int .i64 m, .int .i64 nn] 31)
        have HS6 := Lib.hid (HS5.out.below al)
        have HO6 := Lib.hid (Kd.R_below HO5.out al)
        have HB6 := Lib.hid (below_step HB5.out al)
        have HG6 := Lib.hid g1
        clear HS5 HO5 HB5 al g1
        go_upto_region 11 with (fail)
        generalize w5.alloc (.cells #[.int .i64 X, .int .i64 Y, .int .i64 m, .int .i64 nn] 31) = W6 at *
        generalize w5.heap.size = b11 at *
        have r0 : W6.cell? ⟨b11, 0, none⟩ = some (.int .i64 X) := (blk_cell HG6.out 0).trans rfl
        have r1 : W6.cell? ⟨b11, 1, none⟩ = some (.int .i64 Y) := (blk_cell HG6.out 1).trans rfl
        have r2 : W6.cell? ⟨b11, 2, none⟩ = some (.int .i64 m) := (blk_cell HG6.out 2).trans rfl
        have r3 : W6.cell? ⟨b11, 3, none⟩ = some (.int .i64 nn) := (blk_cell HG6.out 3).trans rfl
        go_wp2_with fail
        refine (put_c W6 g a b hs HS6.out X Y m nn).mono ?_
        rintro e w7 ⟨rfl, hp, -⟩
        obtain ⟨hs7, hk7⟩ := hp HOK.out
        rw [decide_eq_true HOK.out]
        obtain ⟨ug, hug, -⟩ := HS6.out.row
        have HS7 := Lib.hid hs7
        have HO7 := Lib.hid (R_sky HO6.out hk7 hug rfl (by decide))
        have HB7 : Hid (Below w0.heap.size w0 w7) := Lib.hid (HB6.out.trans (hk7.below HB6.out.size (fun k hk => by subst hk; exact hgW)))
        have HG7 := Lib.hid (hk7.get HG6.out (blk_ne HG6.out hug (by decide)))
        have HU7 := Lib.hid (HU.out.1.put HS6.out.len f5 f1 f6 f9 f2 f8 HOV.out)
        clear hs7 hk7 hp hug r0 r1 r2 r3 HS6 HO6 HB6 HG6
        obtain ⟨Au, cu, eu, lu, cu2⟩ := Kd.R_reads HO7.out
        obtain ⟨nr, hnr⟩ : ∃ nr, rs.length = nr := ⟨_, rfl⟩
        rw [hnr] at eu lu cu2 hrk
        subst eu
        have HC7 := Lib.hid cu2
        have HNR := Lib.hid hnr
        clear cu2 hnr
        have r0 : w7.cell? ⟨b11, 0, none⟩ = some (.int .i64 X) := (blk_cell HG7.out 0).trans rfl
        have r1 : w7.cell? ⟨b11, 1, none⟩ = some (.int .i64 Y) := (blk_cell HG7.out 1).trans rfl
        have r2 : w7.cell? ⟨b11, 2, none⟩ = some (.int .i64 m) := (blk_cell HG7.out 2).trans rfl
        have r3 : w7.cell? ⟨b11, 3, none⟩ = some (.int .i64 nn) := (blk_cell HG7.out 3).trans rfl
        have HSX : Hid (∀ w9, Kept (fun k => (Value.slice Au nr cu).ownBlock = some k) w7 w9 → SkyAt w9 g a b (putN hs X.toNat m.toNat (Y + nn))) := Lib.hid (fun w9 hk => by
          obtain ⟨ug, hug, -⟩ := HS7.out.row
          refine HS7.out.kept hk (fun e => Kd.R_ne HO7.out hug (show 31 ≠ 51 by decide) e.symm) (fun k hk cells hc => ?_)
          exact Kd.R_ne HO7.out hc (show 31 ≠ 53 by decide) hk.symm)
        go_wp2_with (at_builtin; refine Kd.R_append krc (w0 := w0) w0.heap.size rfl (.tmp 54) (.tmp 56) 39 31 _ 32 rfl Try.underlying39 infoRect rfl (by decide) (by omega) (.slice Au nr cu) rs (X, Y, m, nn) [.int .i64 X, .int .i64 Y, .int .i64 m, .int .i64 nn] (fun _ => True) (fun _ => False) rfl rfl ?aP (fun _ hk => hk.elim) (fun _ _ => trivial) HO7.out HB7.out HB7.out.size ?aL ?_; (case aP => exact krc_mkM _ _ _ (X, Y, m, nn)); (case aL => rw [HNR.out]; omega); intro v1 w9 ho hb hg9 hat; have m1 := Lib.hid ho; have m2 := Lib.hid hb; have m3 := Lib.hid (HSX.out _ (Kept.of_grownBy hg9)); clear ho hb hg9 hat)
        go_roundw
        case rel => exact ⟨k + 1, v1, _, rs ++ [(X, Y, m, nn)], rfl, by go_num, by omega, m3, m1, Lib.hid ⟨HU7.out, HRB.out⟩, by rw [List.length_append, HNR.out, List.length_singleton]; omega, m2⟩
        case measure => simp [intOf]; omega
    · have hkk : ¬ (k : Int) < (M : Int) := by omega
      obtain ⟨Au, cu, eu, lu, cu2⟩ := Kd.R_reads HO.out
      obtain ⟨nr, hnr⟩ : ∃ nr, rs.length = nr := ⟨_, rfl⟩
      have HREB := Lib.hid (rebuild_c wr x y Au cu rs cu2 (by omega) (fun r hr => by
        obtain ⟨e1, e2, e3, e4, e5, e6, -⟩ := HU.out.1 r hr
        omega))
      rw [HXA.out, HYB.out, HU.out.2] at HREB
      rw [hnr] at eu HREB
      subst eu
      clear cu2 lu hnr
      go_wp2_with fail
      refine HREB.out.mono ?_
      rintro e w5 ⟨g5, rfl, hg5, hs5, hb5⟩
      have HS5 := Lib.hid (HS.out.below hb5)
      have HT5 := Lib.hid hs5
      have HB5 := Lib.hid (below_step HB.out hb5)
      clear hs5 hb5 HREB HS HB
      go_wp2_with fail
      refine (steps_c w5 g a b hs HS5.out).mono ?_
      rintro e w6 ⟨u6, rfl, ho6, hb6⟩
      obtain ⟨A6, c6, e6⟩ := Kd.R_slice ho6
      subst e6
      have HS6 := Lib.hid (HS5.out.below hb6)
      have HT6 := Lib.hid (HT5.out.below hb6)
      have HB6 := Lib.hid (below_step HB5.out hb6)
      clear ho6 hb6 HS5 HT5 HB5
      go_wp2_with fail
      refine (steps_c w6 g5 a b hs HT6.out).mono ?_
      rintro e w7 ⟨u7, rfl, ho7, hb7⟩
      obtain ⟨A7, c7, e7⟩ := Kd.R_slice ho7
      subst e7
      have HS7 := Lib.hid (HS6.out.below hb7)
      have HT7 := Lib.hid (HT6.out.below hb7)
      have HB7 := Lib.hid (below_step HB6.out hb7)
      clear ho7 hb7 HS6 HT6 HB6
      have hnn : (((stepsOf hs).length : Int) == ((stepsOf hs).length : Int)) = true := by simp
      go_wp2_with fail
      refine (steps_c w7 g a b hs HS7.out).mono ?_
      rintro e w8 ⟨u8, rfl, ho8, hb8⟩
      obtain ⟨A8, c8, e8, l8, r8⟩ := Kd.R_reads ho8
      subst e8
      have HT8 := Lib.hid (HT7.out.below hb8)
      have HB8 := Lib.hid (below_step HB7.out hb8)
      have hs64 : (stepsOf hs).length ≤ 64 := by
        obtain ⟨_, _, _, _, _, _, _, h⟩ := HS7.out.open
        exact h
      have HC8 := Lib.hid r8
      have HSTEP := Lib.hid (fun W' hb => steps_c W' g5 a b hs (HT8.out.below hb))
      clear ho8 hb8 r8 HS7 HT7 HB7 hnn
      generalize stepsOf hs = st at *
      obtain ⟨ns, hns⟩ : ∃ ns, st.length = ns := ⟨_, rfl⟩
      rw [hns] at HC8 l8 hs64 ⊢
      have HNS := Lib.hid hns
      clear hns
      go_wp2_with fail
      go_loopw [79] (fun v79 W => ∃ j : Nat, v79 = .int .i64 j ∧ j ≤ ns ∧ Hid (Below w8.heap.size w8 W)) (fun v79 _ => ns - (intOf v79).toNat)
      case atStart => exact ⟨0, rfl, Nat.zero_le _, Lib.hid (Below.refl _ _)⟩
      case round =>
        obtain ⟨j, rfl, hj, HI⟩ := hrel
        by_cases hjn : j < ns
        · have hjj : (j : Int) < (ns : Int) := by omega
          obtain ⟨ad8, eA⟩ := C_some HC8.out (by omega)
          subst eA
          obtain ⟨p0, p1⟩ := st_at (Kd.C_below HC8.out HI.out) j hjn
          obtain ⟨⟨px, py⟩, hp⟩ : ∃ p, st.getD j (0, 0) = p := ⟨_, rfl⟩
          rw [hp] at p0 p1
          have HP := Lib.hid hp
          have al := below_alloc (Below.refl _ wr) (.cells #[.int .i64 px, .int .i64 py] 44)
          have g1 := heap_alloc_new wr (.cells #[.int .i64 px, .int .i64 py] 44)
          have HI1 := Lib.hid (below_step HI.out al)
          clear hp
          go_upto_region 20 with (fail)
          generalize wr.alloc (.cells #[.int .i64 px, .int .i64 py] 44) = W1 at *
          generalize wr.heap.size = bP at *
          have s0 : W1.cell? ⟨bP, 0, none⟩ = some (.int .i64 px) := (blk_cell g1 0).trans rfl
          have s1 : W1.cell? ⟨bP, 1, none⟩ = some (.int .i64 py) := (blk_cell g1 1).trans rfl
          clear p0 p1 al g1
          have HI2 : Hid (Below w8.heap.size w8 W1.drew) := Lib.hid (below_drew HI1.out)
          go_region_with ((go_at_call 18; refine (HSTEP.out _ HI2.out).mono ?_; rintro e w9 ⟨u9, rfl, ho9, hb9⟩; obtain ⟨A9, c9, e9, l9, r9⟩ := Kd.R_reads ho9; rw [HNS.out] at e9 l9 r9; subst e9; obtain ⟨ad9, eA9⟩ := C_some r9 (by omega); subst eA9; obtain ⟨q0, q1⟩ := st_at r9 j hjn; rw [HP.out] at q0 q1; have HI9 := Lib.hid (below_step HI2.out hb9); have s0' : w9.cell? ⟨bP, 0, none⟩ = some (.int .i64 px) := pw_cell_below hb9 s0; have s1' : w9.cell? ⟨bP, 1, none⟩ = some (.int .i64 py) := pw_cell_below hb9 s1; clear ho9 r9))
          all_goals
            go_wp2_with fail
            go_roundw
            case rel => exact ⟨j + 1, by go_num, by omega, Lib.hid HI9.out⟩
            case measure => simp [intOf]; omega
        · have hjj : ¬ (j : Int) < (ns : Int) := by omega
          go_wp2_with fail
          go_ret
          exact ⟨rfl, (below_step HB8.out HI.out)⟩
end Go.Proofs.Ytphclfcidgljkaa
