/- Skylines: Of, Steps. -/
import Derived.Test.YtaccppchhljnkaaSkyFit
set_option linter.unusedVariables false
set_option linter.unusedSimpArgs false
namespace Go.Proofs.Ytaccppchhljnkaa
open Go.RowKit Go.Proofs.YtaccppchhljnkaaW.PrintWords Go.Proofs.YtaccppchhljnkaaW.PrintLast Go.Proofs.YtaccppchhljnkaaW.PrintMore
/-- A side of a page: what is asked, between 0 and 64. -/
def side (x : Int) : Nat := (max 0 (min x 64)).toNat
theorem side_le (x : Int) : side x ≤ 64 := by unfold side; omega
theorem mm_side (x : Int) : max (0 : Int) (min x 64) = (side x : Int) := by
  unfold side; omega
theorem max2_max (k k' : IntKind) (x y : Int) : Builtin.max2 (.int k x) (.int k' y) = pure (.int k (max x y)) := by
  rw [max2_int, mx_if]
theorem mn_if (a b : Int) : (if b < a then b else a) = min a b := by split <;> omega
theorem min2_min (k k' : IntKind) (x y : Int) : Builtin.min2 (.int k x) (.int k' y) = pure (.int k (min x y)) := by
  rw [min2_int, mn_if]
theorem stL_zeros : ∀ (n x : Nat), stL x (some 0) (List.replicate n 0) = []
  | 0, _ => rfl
  | n + 1, x => by rw [List.replicate_succ, stL, if_pos rfl, stL_zeros n (x + 1)]
theorem steps_zeros (n : Nat) (h : 0 < n) : stepsOf (List.replicate n 0) = [(0, 0)] := by
  obtain ⟨m, rfl⟩ : ∃ m, n = m + 1 := ⟨n - 1, by omega⟩
  rw [stepsOf, List.replicate_succ, stL, if_neg (by simp), stL_zeros]; rfl
theorem R_one (W : World) (base : Nat) (hb : base ≤ W.heap.size) : Kd.R kst 84 (W.alloc (.cells #[.int .i64 0, .int .i64 0] 84)) base (fun _ => True) (.slice (some ⟨W.heap.size, 0, none⟩) 1 1) [((0 : Int), (0 : Int))] := by
  have hr : Reps (kst.M (W.alloc (.cells #[.int .i64 0, .int .i64 0] 84)) base (fun k => True ∧ some k ≠ (Value.slice (some ⟨W.heap.size, 0, none⟩) 1 1).ownBlock)) kst.sz [((0 : Int), (0 : Int))] [.int .i64 0, .int .i64 0] := (Reps.none _ _).snoc (kst_mkM _ _ _ (0, 0)) rfl
  exact ⟨fun _ _ => trivial, OwnRow.lit (e := 84) W base hr hb (by simp)⟩
attribute [local go_sem] max2_max min2_min max_two min_two
set_option maxHeartbeats 1000000 in
set_option maxRecDepth 100000 in
theorem of_c (W : World) (x y : Int) :
    Calls Try.prog 24 #[.int .i64 x, .int .i64 y] W fun e w' => ∃ g, e = .returned (.pointer (some ⟨g, 0, none⟩)) ∧ W.heap.size ≤ g ∧ SkyAt w' g (side x) (side y) (List.replicate (side x) 0) ∧ Below W.heap.size W w' := by
  have hx := mm_side x
  have hy := mm_side y
  have hx1 := side_le x
  have hy1 := side_le y
  obtain ⟨a, ha⟩ : ∃ a, side x = a := ⟨_, rfl⟩
  obtain ⟨b, hb⟩ : ∃ b, side y = b := ⟨_, rfl⟩
  rw [ha] at hx hx1 ⊢
  rw [hb] at hy hy1 ⊢
  clear ha hb
  by_cases h0 : a = 0
  · have h1 : ¬ 0 < a := by omega
    have h2 : ¬ (0 : Int) < (a : Int) := by omega
    have hl : List.replicate a (0 : Int) = [] := by rw [h0]; rfl
    have HL := Lib.hid hl
    have h3 := Lib.hid h0
    clear h0 hl
    go_enter Try.func24, Try.ntmps24
    go_wp2_with fail
    all_goals
      go_ret
      refine ⟨W.heap.size, rfl, Nat.le_refl _, ?_, below_alloc (Below.refl _ _) _⟩
      rw [HL.out]
      exact ⟨⟨_, heap_alloc_new W _, Kd.R_nil _ _ _ _ _⟩, by rw [h3.out]; rfl, hx1, hy1, fun y hy => by simp at hy⟩
  · have h1 : 0 < a := by omega
    have h2 : (0 : Int) < (a : Int) := by omega
    have hs := Lib.hid (steps_zeros a h1)
    go_enter Try.func24, Try.ntmps24
    go_wp2_with fail
    all_goals
      go_ret
      have g0 := heap_alloc_new W (.cells #[.int .i64 (a : Int), .int .i64 (b : Int), .slice (some ⟨W.heap.size + 1, 0, none⟩) 1 1] 82)
      have hr := R_one (W.alloc (.cells #[.int .i64 (a : Int), .int .i64 (b : Int), .slice (some ⟨W.heap.size + 1, 0, none⟩) 1 1] 82)) 0 (Nat.zero_le _)
      rw [World.size_alloc] at hr
      exact ⟨W.heap.size, rfl, Nat.le_refl _, ⟨⟨_, blk_below g0 (below_alloc (Below.refl _ _) _), by rw [hs.out]; exact hr⟩, by simp, hx1, hy1, fun y hy => by rw [List.eq_of_mem_replicate hy]; omega⟩, below_alloc (below_alloc (Below.refl _ _) _) _⟩
end Go.Proofs.Ytaccppchhljnkaa
