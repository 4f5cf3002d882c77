/- The document's examples of layer 14 hold. -/
import Derived.Test.YtphclfcidgljkaaSkyPut
import Derived.Test.YtphclfcidgljkaaSkySteps
set_option linter.unusedVariables false
set_option linter.unusedSimpArgs false
namespace Go.Proofs.Ytphclfcidgljkaa
open Go.RowKit Go.Proofs.YtphclfcidgljkaaW.PrintWords Go.Proofs.YtphclfcidgljkaaW.PrintLast Go.Proofs.YtphclfcidgljkaaW.PrintMore
/-- A literal row of rectangles. -/
theorem krc_mk (w : World) (x : Rc) : krc.K w x [.int .i64 x.1, .int .i64 x.2.1, .int .i64 x.2.2.1, .int .i64 x.2.2.2] := krc.K_of_M (krc_mkM w 0 (fun _ => True) x)
theorem litRc (w : World) (x : Rc) : Kd.C krc (w.alloc (.cells #[.int .i64 x.1, .int .i64 x.2.1, .int .i64 x.2.2.1, .int .i64 x.2.2.2] 31)) (some ⟨w.heap.size, 0, none⟩) 1 [x] := by
  have hr : Reps (krc.K (w.alloc (.cells #[.int .i64 x.1, .int .i64 x.2.1, .int .i64 x.2.2.1, .int .i64 x.2.2.2] 31))) krc.sz [x] [.int .i64 x.1, .int .i64 x.2.1, .int .i64 x.2.2.1, .int .i64 x.2.2.2] := (Reps.none _ _).snoc (krc_mk _ x) rfl
  obtain ⟨A, c, e, _, h⟩ := (OwnRow.lit (e := 31) w 0 hr (Nat.zero_le _) (by simp)).reads
  injection e with e1 e2 e3
  subst e1; exact h
theorem aw0 : putN (List.replicate 8 0) (0 : Int).toNat (3 : Int).toNat (0 + 2) = [2, 2, 2, 0, 0, 0, 0, 0] := by rfl
theorem aw1 : PutOk ((8 : Nat) : Int) ((9 : Nat) : Int) (List.replicate 8 0) 0 0 3 2 := by decide
theorem aw2 : fitV 6 1 (fitQ ((8 : Nat) : Int) ((9 : Nat) : Int) [2, 2, 2, 0, 0, 0, 0, 0] 6 1) = .tuple #[.agg #[.int .i64 0, .int .i64 2, .int .i64 6, .int .i64 1], .bool true] := by kernel_rfl
theorem aw3 : fitV 5 1 (fitQ ((8 : Nat) : Int) ((9 : Nat) : Int) [2, 2, 2, 0, 0, 0, 0, 0] 5 1) = .tuple #[.agg #[.int .i64 3, .int .i64 0, .int .i64 5, .int .i64 1], .bool true] := by kernel_rfl
theorem aw4 : hiR ((8 : Nat) : Int) [2, 2, 2, 0, 0, 0, 0, 0] 2 = 2 := by kernel_rfl
theorem aw5 : hiR ((8 : Nat) : Int) [2, 2, 2, 0, 0, 0, 0, 0] 8 = -1 := by kernel_rfl
theorem aw6 : rbL 8 9 [(0, 0, 3, 2)] = [2, 2, 2, 0, 0, 0, 0, 0] := by kernel_rfl
theorem aw7 : (stepsOf [2, 2, 2, 0, 0, 0, 0, 0]).length = 2 := by kernel_rfl
attribute [local go_sem high] eqRect
attribute [local go_sem] cell_alloc
set_option maxHeartbeats 2000000 in
set_option maxRecDepth 100000 in
theorem awake_c (W : World) : Calls Try.prog 10 #[] W fun e w' => e = .returned (.bool true) ∧ Below W.heap.size W w' := by
  have HOF := Lib.hid (of_c W 8 9)
  have hs8 : side 8 = 8 := rfl
  have hs9 : side 9 = 9 := rfl
  rw [hs8, hs9] at HOF
  have HREB := Lib.hid (fun W' => rebuild_c W' 8 9)
  rw [hs8, hs9] at HREB
  clear hs8 hs9
  go_enter Try.func10, Try.ntmps10
  go_wp2_with fail
  refine HOF.out.mono ?_
  rintro e w1 ⟨g, rfl, hg, hs, hb⟩
  have B1 := Lib.hid hb
  have S1 := Lib.hid hs
  clear hb hs HOF
  go_wp2_with fail
  refine (put_c w1 g 8 9 (List.replicate 8 0) S1.out 0 0 3 2).mono ?_
  rintro e w2 ⟨rfl, hy, -⟩
  obtain ⟨hs2, hk2⟩ := hy aw1
  rw [aw0] at hs2
  have S2 := Lib.hid hs2
  have B2 : Hid (Below W.heap.size W w2) := Lib.hid (B1.out.trans (hk2.below B1.out.size (fun k hk => by subst hk; exact hg)))
  rw [decide_eq_true aw1]
  clear hs2 hk2 hy S1 B1
  go_wp2_with fail
  refine (fit_c w2 g 8 9 _ S2.out 6 1).mono ?_
  rintro e w3 ⟨rfl, hb3⟩
  rw [aw2]
  have S3 := Lib.hid (S2.out.below hb3)
  have B3 := Lib.hid (below_step B2.out hb3)
  clear hb3 S2 B2
  go_upto_region 6 with (fail)
  have al := below_alloc (Below.refl _ w3) (.cells #[.int .i64 0, .int .i64 2, .int .i64 6, .int .i64 1] 31)
  have g3 := heap_alloc_new w3 (.cells #[.int .i64 0, .int .i64 2, .int .i64 6, .int .i64 1] 31)
  have S4 := Lib.hid (S3.out.below al)
  have B4 := Lib.hid (below_step B3.out al)
  have G3 := Lib.hid g3
  clear al g3 S3 B3
  generalize w3.alloc (.cells #[.int .i64 0, .int .i64 2, .int .i64 6, .int .i64 1] 31) = W3 at *
  generalize w3.heap.size = b3 at *
  go_wp2_with fail
  refine (fit_c W3 g 8 9 _ S4.out 5 1).mono ?_
  rintro e w5 ⟨rfl, hb5⟩
  rw [aw3]
  have S5 := Lib.hid (S4.out.below hb5)
  have B5 := Lib.hid (below_step B4.out hb5)
  have G5 := Lib.hid (blk_below G3.out hb5)
  clear hb5 S4 B4 G3
  go_upto_region 7 with (fail)
  have al := below_alloc (Below.refl _ w5) (.cells #[.int .i64 3, .int .i64 0, .int .i64 5, .int .i64 1] 31)
  have g5 := heap_alloc_new w5 (.cells #[.int .i64 3, .int .i64 0, .int .i64 5, .int .i64 1] 31)
  have S6 := Lib.hid (S5.out.below al)
  have B6 := Lib.hid (below_step B5.out al)
  have G6 := Lib.hid (blk_below G5.out al)
  have H6 := Lib.hid g5
  clear al g5 S5 B5 G5
  generalize w5.alloc (.cells #[.int .i64 3, .int .i64 0, .int .i64 5, .int .i64 1] 31) = W6 at *
  generalize w5.heap.size = b5 at *
  go_wp2_with fail
  have HL := litRc W6 (0, 0, 3, 2)
  have al := below_alloc (Below.refl _ W6) (.cells #[.int .i64 0, .int .i64 0, .int .i64 3, .int .i64 2] 31)
  refine (HREB.out _ _ 1 [(0, 0, 3, 2)] HL (by simp) (by simp)).mono ?_
  rintro e w7 ⟨g7, rfl, hg7, hs7, hb7⟩
  rw [aw6] at hs7
  have S7 := Lib.hid (S6.out.below (below_step al hb7))
  have B7 := Lib.hid (below_step B6.out (below_step al hb7))
  have G7 := Lib.hid (blk_below G6.out (below_step al hb7))
  have H7 := Lib.hid (blk_below H6.out (below_step al hb7))
  have T7 := Lib.hid hs7
  clear al HL hs7 hb7 hg7 S6 B6 G6 H6
  have x0 : w7.cell? ⟨b3, 0, none⟩ = some (.int .i64 0) := (blk_cell G7.out 0).trans rfl
  have x1 : w7.cell? ⟨b3, 1, none⟩ = some (.int .i64 2) := (blk_cell G7.out 1).trans rfl
  have x2 : w7.cell? ⟨b3, 2, none⟩ = some (.int .i64 6) := (blk_cell G7.out 2).trans rfl
  have x3 : w7.cell? ⟨b3, 3, none⟩ = some (.int .i64 1) := (blk_cell G7.out 3).trans rfl
  have y0 : w7.cell? ⟨b5, 0, none⟩ = some (.int .i64 3) := (blk_cell H7.out 0).trans rfl
  have y1 : w7.cell? ⟨b5, 1, none⟩ = some (.int .i64 0) := (blk_cell H7.out 1).trans rfl
  have y2 : w7.cell? ⟨b5, 2, none⟩ = some (.int .i64 5) := (blk_cell H7.out 2).trans rfl
  have y3 : w7.cell? ⟨b5, 3, none⟩ = some (.int .i64 1) := (blk_cell H7.out 3).trans rfl
  go_wp2_with fail
  refine (high_c w7 g 8 9 _ S7.out 2).mono ?_
  rintro e w8 ⟨rfl, hb8⟩
  rw [aw4]
  have S8 := Lib.hid (S7.out.below hb8)
  have T8 := Lib.hid (T7.out.below hb8)
  have B8 := Lib.hid (below_step B7.out hb8)
  clear hb8
  go_wp2_with fail
  refine (high_c w8 g 8 9 _ S8.out 8).mono ?_
  rintro e w9 ⟨rfl, hb9⟩
  rw [aw5]
  have T9 := Lib.hid (T8.out.below hb9)
  have B9 := Lib.hid (below_step B8.out hb9)
  clear hb9
  go_wp2_with fail
  refine (steps_c w9 g7 8 9 _ T9.out).mono ?_
  rintro e w10 ⟨u, rfl, ho, hb10⟩
  obtain ⟨Au, cu, eu⟩ := Kd.R_slice ho
  rw [aw7] at eu
  subst eu
  have B10 := Lib.hid (below_step B9.out hb10)
  clear hb10 ho
  go_wp2_with fail
  go_ret
  exact ⟨rfl, B10.out⟩
end Go.Proofs.Ytphclfcidgljkaa
