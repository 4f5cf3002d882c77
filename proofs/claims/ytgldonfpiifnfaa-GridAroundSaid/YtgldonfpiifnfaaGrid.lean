/- Contracts of the package grid. -/
import Derived.Test.YtgldonfpiifnfaaProg
import Derived.Test.YtgldonfpiifnfaaBase
import Derived.WalkLawsBesides
import Derived.Laws.StructEq
import Derived.WalkSpells
import Derived.Outline
import Derived.Laws.Rows
import Derived.Deep.DeepCutAuto
import Derived.Deep.CutBlock
import Derived.Deep.RegionWith
import Derived.Deep.DeepMust
import Derived.BigQuiet
import Derived.Deep.QuietTactic
set_option linter.unusedVariables false
set_option linter.unusedSimpArgs false
namespace Go.Proofs.Ytgldonfpiifnfaa
open Go.RowKit
open Go.IntWalk (wrap64_in)

abbrev vi (n : Int) : Value := .int .i64 n
/-- A grid's value. -/
abbrev gv (X Y P W H S : Int) : Value := .agg #[vi X, vi Y, vi P, vi W, vi H, vi S]
abbrev pv (X Y : Int) : Value := .agg #[vi X, vi Y]

def inB (n lo hi : Int) : Bool := decide (lo ≤ n) && decide (n ≤ hi)
def checkF (X Y P W H S : Int) : Int :=
  if !inB W 1 24 || !inB H 1 24 then 6 else if !inB X (-255) 255 || !inB Y (-255) 255 || !inB P 1 16 || !inB S 1 64 then 4 else 0

theorem in_c (n lo hi : Int) (w : World) :
    Calls Try.prog 45 #[vi n, vi lo, vi hi] w fun e w' => e = .returned (.bool (inB n lo hi)) ∧ w = w' := by
  by_cases h1 : lo ≤ n
  · by_cases h2 : n ≤ hi
    all_goals
      go_enter Try.func45, Try.ntmps45
      go_wp2
      go_ret
      exact ⟨by simp [inB, h1, h2], rfl⟩
  · go_enter Try.func45, Try.ntmps45
    go_wp2
    go_ret
    exact ⟨by simp [inB]; omega, rfl⟩

set_option maxHeartbeats 1000000 in
theorem check_c (X Y P W H S : Int) (w : World) :
    Calls Try.prog 23 #[gv X Y P W H S] w fun e w' => e = .returned (vi (checkF X Y P W H S)) ∧ Kept (fun _ => False) w w' := by
  have hk := Kept.alloc (fun _ => False) w (.cells #[vi X, vi Y, vi P, vi W, vi H, vi S] 35)
  have HK := Lib.hid hk; clear hk
  have hcW := Lib.hid (fun w => in_c W 1 24 w)
  have hcH := Lib.hid (fun w => in_c H 1 24 w)
  have hcX := Lib.hid (fun w => in_c X (-255) 255 w)
  have hcY := Lib.hid (fun w => in_c Y (-255) 255 w)
  have hcP := Lib.hid (fun w => in_c P 1 16 w)
  have hcS := Lib.hid (fun w => in_c S 1 64 w)
  unfold checkF
  generalize inB W 1 24 = bW at *
  generalize inB H 1 24 = bH at *
  generalize inB X (-255) 255 = bX at *
  generalize inB Y (-255) 255 = bY at *
  generalize inB P 1 16 = bP at *
  generalize inB S 1 64 = bS at *
  go_enter Try.func23, Try.ntmps23
  go_wp2_with ((first | (go_at_call_of 45 W; refine (hcW.out _).mono ?_) | (go_at_call_of 45 H; refine (hcH.out _).mono ?_) | (go_at_call_of 45 X; refine (hcX.out _).mono ?_) | (go_at_call_of 45 Y; refine (hcY.out _).mono ?_) | (go_at_call_of 45 P; refine (hcP.out _).mono ?_) | (go_at_call_of 45 S; refine (hcS.out _).mono ?_)); rintro e w' ⟨rfl, rfl⟩)
  all_goals
    go_ret
    exact ⟨rfl, HK.out⟩

/-- A product of two bounded numbers. -/
theorem mul_bound {a b A B : Int} (ha0 : -A ≤ a) (ha1 : a ≤ A) (hb0 : 0 ≤ b) (hb1 : b ≤ B) (hA : 0 ≤ A) : -(A * B) ≤ a * b ∧ a * b ≤ A * B := by
  have h1 : a * b ≤ A * b := Int.mul_le_mul_of_nonneg_right ha1 hb0
  have h2 : A * b ≤ A * B := Int.mul_le_mul_of_nonneg_left hb1 hA
  have h3 : -A * b ≤ a * b := Int.mul_le_mul_of_nonneg_right ha0 hb0
  rw [Int.neg_mul] at h3
  omega

/-- A texel's middle, on one axis. -/
def centreF (P a n : Int) : Int := a * 32 + n * P * 32 + P * 32 / 2
set_option maxHeartbeats 1000000 in
theorem centre1_c (b : Nat) (P a n : Int) (w : World) (hP0 : 1 ≤ P) (hP1 : P ≤ 16) (ha0 : -1000 ≤ a) (ha1 : a ≤ 1000) (hn0 : -1000 ≤ n) (hn1 : n ≤ 1000) (hc : w.cell? ⟨b, 2, none⟩ = some (vi P)) :
    Calls Try.prog 46 #[vi a, vi n, .pointer (some ⟨b, 0, none⟩)] w fun e w' => e = .returned (vi (centreF P a n)) ∧ w = w' := by
  obtain ⟨hm0, hm1⟩ := mul_bound (a := n) (b := P) (A := 1000) (B := 16) hn0 hn1 (by omega) hP1 (by omega)
  go_enter Try.func46, Try.ntmps46
  go_wp2
  go_ret
  exact ⟨by simp [centreF], rfl⟩

/-- What a texel holds. -/
def codeN (S eight : Int) : Int := if eight < 256 * S then eight * 127 / (256 * S) else 127
def codeF (S sign eight : Int) : Int := 128 + sign * codeN S eight
theorem codeN_bound (S eight : Int) (hS : 1 ≤ S) (h0 : 0 ≤ eight) : 0 ≤ codeN S eight ∧ codeN S eight ≤ 127 := by
  unfold codeN
  split
  · exact ⟨Int.ediv_nonneg (by omega) (by omega), by
      have : eight * 127 / (256 * S) ≤ 256 * S * 127 / (256 * S) := Int.ediv_le_ediv (by omega) (by omega)
      rw [Int.mul_ediv_cancel_left _ (by omega)] at this
      exact this⟩
  · omega
set_option maxHeartbeats 1000000 in
theorem code_c (X Y P W H S sign eight : Int) (w : World) (hS0 : 1 ≤ S) (hS1 : S ≤ 64) (hs0 : -1 ≤ sign) (hs1 : sign ≤ 1) (h0 : 0 ≤ eight) (h1 : eight ≤ 70000) :
    Calls Try.prog 26 #[gv X Y P W H S, vi sign, vi eight] w fun e w' => e = .returned (.int .u8 (codeF S sign eight)) ∧ Kept (fun _ => False) w w' := by
  have hk := Kept.alloc (fun _ => False) w (.cells #[vi X, vi Y, vi P, vi W, vi H, vi S] 35)
  have HK := Lib.hid hk; clear hk
  obtain ⟨hb0, hb1⟩ := codeN_bound S eight hS0 h0
  by_cases hlt : eight < 256 * S
  · have e1 : codeN S eight = eight * 127 / (256 * S) := if_pos hlt
    rw [e1] at hb0 hb1
    go_enter Try.func26, Try.ntmps26
    go_wp2
    go_ret
    refine ⟨?_, HK.out⟩
    unfold codeF
    rw [e1]
    generalize eight * 127 / (256 * S) = q at *
    obtain rfl | rfl | rfl : sign = -1 ∨ sign = 0 ∨ sign = 1 := by omega
    all_goals
      simp [wrap64]
      try omega
  · have e1 : codeN S eight = 127 := if_neg hlt
    rw [e1] at hb0 hb1
    go_enter Try.func26, Try.ntmps26
    go_wp2
    go_ret
    refine ⟨?_, HK.out⟩
    unfold codeF
    rw [e1]
    obtain rfl | rfl | rfl : sign = -1 ∨ sign = 0 ∨ sign = 1 := by omega
    all_goals simp

/-- A function of a grid's texels. -/
theorem each_c (X Y P W H S : Int) (w : World) :
    Calls Try.prog 27 #[gv X Y P W H S] w fun e w' => e = .returned (.func (.func 47) #[] #[.pointer (some ⟨w.heap.size, 0, none⟩)]) ∧ w' = w.alloc (.cells #[vi X, vi Y, vi P, vi W, vi H, vi S] 35) := by
  have hmf : ∀ (fn : Fn) (first cap : Array Value) (w : World), (Instr.makeFunc fn first cap).run Try.prog w = .ok (.func fn first cap) w := fun _ _ _ _ => rfl
  go_enter Try.func27, Try.ntmps27
  go_wp2
  go_ret
  exact ⟨rfl, rfl⟩

theorem floor_form (n wide : Int) (hw : 1 ≤ wide) : (n.tmod wide + wide).tmod wide = n % wide ∧ (n - n % wide).tdiv wide = n / wide := by
  have h0 : -wide < n.tmod wide := by
    have := Int.lt_tmod_of_pos n (show 0 < wide by omega)
    omega
  have h1 : (n.tmod wide + wide) % wide = n % wide := by
    rw [Int.tmod_def, show n - wide * n.tdiv wide + wide = n + wide * (1 - n.tdiv wide) by rw [Int.mul_sub]; omega, Int.add_mul_emod_self_left]
  refine ⟨?_, ?_⟩
  · rw [Int.tmod_eq_emod_of_nonneg (by omega), h1]
  · have h2 : n - n % wide = wide * (n / wide) := by have := Int.mul_ediv_add_emod n wide; omega
    rw [h2, Int.mul_tdiv_cancel_left _ (by omega)]

set_option maxHeartbeats 1000000 in
theorem floor_c (b : Nat) (n wide : Int) (w : World) (hw0 : 1 ≤ wide) (hw1 : wide ≤ 100000) (hn0 : -1000000 ≤ n) (hn1 : n ≤ 1000000) (hc : w.cell? ⟨b, 0, none⟩ = some (vi wide)) :
    Calls Try.prog 48 #[vi n, .pointer (some ⟨b, 0, none⟩)] w fun e w' => e = .returned (vi (n / wide)) ∧ ∃ m, w' = w.drewN m := by
  go_enter Try.func48, Try.ntmps48
  go_upto_region 1 with fail
  go_quiet (fail)
  have hf := floor_form n wide hw0
  have hb0 : -wide < n.tmod wide := by
    have := Int.lt_tmod_of_pos n (show 0 < wide by omega)
    omega
  have hb1 : n.tmod wide < wide := Int.tmod_lt_of_pos n (by omega)
  have hm0 : 0 ≤ n % wide := Int.emod_nonneg _ (by omega)
  have hm1 : n % wide < wide := Int.emod_lt_of_pos _ (by omega)
  have hq0 : -1000001 ≤ n / wide := by
    have h1 := Int.mul_ediv_add_emod n wide
    rcases Int.lt_or_le (n / wide) 0 with h | h
    · have : wide * (n / wide) ≤ 1 * (n / wide) := Int.mul_le_mul_of_nonpos_right hw0 (by omega)
      have : n / wide ≥ n / 1 := by
        rcases Int.lt_or_le n 0 with hn | hn
        · rw [Int.ediv_one]
          have h5 : wide * n ≤ 1 * n := Int.mul_le_mul_of_nonpos_right hw0 (by omega)
          exact (Int.le_ediv_iff_mul_le (by omega)).2 (by rw [Int.mul_comm]; omega)
        · have := Int.ediv_nonneg hn (show 0 ≤ wide by omega)
          omega
      rw [Int.ediv_one] at this
      omega
    · omega
  have hq1 : n / wide ≤ 1000000 := by
    rcases Int.lt_or_le n 0 with h | h
    · have := Int.ediv_neg_of_neg_of_pos h (show 0 < wide by omega)
      omega
    · have := Int.ediv_le_self wide h
      omega
  rw [wrap64_in (n.tmod wide + wide) ⟨by omega, by omega⟩, hf.1, wrap64_in (n - n % wide) ⟨by omega, by omega⟩, hf.2, wrap64_in (n / wide) ⟨by omega, by omega⟩]
  clear hf hb0 hb1 hm0 hm1
  go_wp2
  go_ret
  exact ⟨rfl, _, rfl⟩

set_option maxHeartbeats 1000000 in
theorem check9_c (X Y P W H S : Int) (w : World) :
    Calls Try.prog 24 #[gv X Y P W H S] w fun e w' => e = .returned (vi (checkF X Y P W H S)) ∧ Kept (fun _ => False) w w' := by
  have hk := Kept.alloc (fun _ => False) w (.cells #[vi X, vi Y, vi P, vi W, vi H, vi S] 35)
  have HK := Lib.hid hk; clear hk
  go_enter Try.func24, Try.ntmps24
  go_wp2
  all_goals
    go_ret
    refine ⟨?_, HK.out⟩
    simp [checkF, inB]
    omega

set_option maxHeartbeats 1000000 in
theorem spec_c (X Y P W H S : Int) (w : World) (hX0 : 0 ≤ X) (hX1 : X ≤ 255) (hY0 : 0 ≤ Y) (hY1 : Y ≤ 255) (hP0 : 0 ≤ P) (hP1 : P ≤ 255) (hW0 : 0 ≤ W) (hW1 : W ≤ 255) (hH0 : 0 ≤ H) (hH1 : H ≤ 255) (hS0 : 0 ≤ S) (hS1 : S ≤ 255) :
    Calls Try.prog 22 #[.agg #[.int .u8 X, .int .u8 Y, .int .u8 P, .int .u8 W, .int .u8 H, .int .u8 S]] w fun e w' => e = .returned (gv (X - 128) (Y - 128) (1 + P % 16) (1 + W % 10) (1 + H % 10) (1 + S % 64)) ∧ Kept (fun _ => False) w w' := by
  go_enter Try.func22, Try.ntmps22
  go_wp2
  have hB := heap_alloc_new (w.alloc (.cells #[.int .u8 X, .int .u8 Y, .int .u8 P, .int .u8 W, .int .u8 H, .int .u8 S] 37)) (.cells #[vi (X - 128), vi (Y - 128), vi (1 + P % 16), vi (1 + W % 10), vi (1 + H % 10), vi (1 + S % 64)] 35)
  rw [World.size_alloc] at hB
  refine bodyPost_ret (results_cell_row rfl _ _ (w.heap.size + 1) 35 #[vi (X - 128), vi (Y - 128), vi (1 + P % 16), vi (1 + W % 10), vi (1 + H % 10), vi (1 + S % 64)] (0, 0) _ rfl hB Try.underlying35 rfl (by kernel_rfl)) rfl ?_
  exact ⟨rfl, (Kept.alloc _ _ _).trans (Kept.alloc _ _ _)⟩

end Go.Proofs.Ytgldonfpiifnfaa
