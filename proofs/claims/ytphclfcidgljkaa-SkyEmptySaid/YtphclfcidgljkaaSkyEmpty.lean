/- SkyEmpty: the walk. -/
import Derived.Test.YtphclfcidgljkaaSkyAwake
set_option linter.unusedVariables false
set_option linter.unusedSimpArgs false
namespace Go.Proofs.Ytphclfcidgljkaa
open Go.RowKit Go.Proofs.YtphclfcidgljkaaW.PrintWords Go.Proofs.YtphclfcidgljkaaW.PrintLast Go.Proofs.YtphclfcidgljkaaW.PrintMore
theorem fit_zero (a b : Nat) (m n : Int) : fitQ a b (List.replicate a 0) m n = if m < 1 ∨ n < 1 ∨ (a : Int) < m ∨ (b : Int) < n then none else some (0, 0) := by
  unfold fitQ
  by_cases h : m < 1 ∨ n < 1 ∨ (a : Int) < m ∨ (b : Int) < n
  · rw [if_pos h, if_pos h]
  · rw [if_neg h, if_neg h, steps_zeros a (by omega)]
    have hm : mxF 0 m 0 0 (List.replicate a 0) = 0 := by
      have := mx_bound 0 m 0 (List.replicate a 0) 0 0 (fun y hy => by rw [List.eq_of_mem_replicate hy]; omega) (Int.le_refl _)
      omega
    simp only [fitF, hm]
    rw [if_pos ⟨by omega, by omega, fun b e => by cases e⟩]
attribute [local go_sem high] eqRect
attribute [local go_sem] cell_alloc max2_max min2_min max_two min_two
set_option maxHeartbeats 2000000 in
set_option maxRecDepth 100000 in
theorem skyEmpty_core (x y m n : Int) (hx : -128 ≤ x ∧ x ≤ 127) (hy : -128 ≤ y ∧ y ≤ 127) (hm : -32768 ≤ m ∧ m ≤ 32767) (hn : -32768 ≤ n ∧ n ≤ 32767) (W : World) :
    Calls Try.prog 7 #[.int .i8 x, .int .i8 y, .int .i16 m, .int .i16 n] W fun e w' => e = .returned (.bool true) ∧ Below W.heap.size W w' := by
  obtain ⟨hx0, hx1⟩ := hx
  obtain ⟨hy0, hy1⟩ := hy
  obtain ⟨hm0, hm1⟩ := hm
  obtain ⟨hn0, hn1⟩ := hn
  have hsx := mm_side x
  have hsy := mm_side y
  have HOF := Lib.hid (fun W' => of_c W' x y)
  obtain ⟨a, ha⟩ : ∃ a, side x = a := ⟨_, rfl⟩
  obtain ⟨b, hb⟩ : ∃ b, side y = b := ⟨_, rfl⟩
  rw [ha] at HOF hsx
  rw [hb] at HOF hsy
  have hz := fit_zero a b m n
  have HZ := Lib.hid hz
  clear ha hb hz
  go_enter Try.func7, Try.ntmps7
  go_wp2_with fail
  refine (awake_c W).mono ?_
  rintro e w1 ⟨rfl, hb1⟩
  have B1 := Lib.hid hb1; clear hb1
  go_wp2_with fail
  refine (HOF.out w1).mono ?_
  rintro e w2 ⟨g, rfl, hg, hs, hb2⟩
  have B2 := Lib.hid (below_step B1.out hb2)
  have S2 := Lib.hid hs
  clear hb2 hs HOF
  go_wp2_with fail
  refine (fit_c w2 g a b _ S2.out m n).mono ?_
  rintro e w3 ⟨rfl, hb3⟩
  have B3 := Lib.hid (below_step B2.out hb3)
  rw [HZ.out]
  clear hb3 HZ
  by_cases h1 : m < 1
  · rw [if_pos (.inl h1), fitV]
    go_wp2_with fail
    go_ret
    exact ⟨rfl, below_alloc B3.out _⟩
  · by_cases h2 : n < 1
    · rw [if_pos (.inr (.inl h2)), fitV]
      go_wp2_with fail
      go_ret
      exact ⟨rfl, below_alloc B3.out _⟩
    · by_cases h3 : (a : Int) < m
      · rw [if_pos (.inr (.inr (.inl h3))), fitV]
        go_wp2_with fail
        go_ret
        exact ⟨rfl, below_alloc B3.out _⟩
      · by_cases h4 : (b : Int) < n
        · rw [if_pos (.inr (.inr (.inr h4))), fitV]
          go_wp2_with fail
          go_ret
          exact ⟨rfl, below_alloc B3.out _⟩
        · rw [if_neg (by omega), fitV]
          go_wp2_with fail
          go_ret
          exact ⟨rfl, below_alloc B3.out _⟩
end Go.Proofs.Ytphclfcidgljkaa
