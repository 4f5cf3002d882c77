/- Contracts of the package grid: Centre, At, Around; down; the loop over a grid's texels. -/
import Derived.Test.YtgldonfpiifnfaaGrid
import Derived.Test.YtgldonfpiifnfaaNe
import Derived.Test.YtgldonfpiifnfaaIterBase
import Derived.Deep.RegionWith
set_option linter.unusedVariables false
set_option linter.unusedSimpArgs false
namespace Go.Proofs.Ytgldonfpiifnfaa
open Go.RowKit Go.Shelf
open Go.IntWalk (wrap64_in)
attribute [local go_sem] Oper.semAt_some

/-- A block of cells, in a walk. -/
theorem gv_cells {w : World} {b : Nat} {X Y P W H S : Int} {t : TypeId} {f : Nat × Nat} (h : w.heap[b]? = some (.cells #[vi X, vi Y, vi P, vi W, vi H, vi S] t f)) :
    w.cell? ⟨b, 0, none⟩ = some (vi X) ∧ w.cell? ⟨b, 1, none⟩ = some (vi Y) ∧ w.cell? ⟨b, 2, none⟩ = some (vi P) ∧ w.cell? ⟨b, 3, none⟩ = some (vi W) ∧ w.cell? ⟨b, 4, none⟩ = some (vi H) ∧ w.cell? ⟨b, 5, none⟩ = some (vi S) := by
  refine ⟨?_, ?_, ?_, ?_, ?_, ?_⟩ <;> simp [World.cell?, h]

set_option maxHeartbeats 1000000 in
theorem centre_c (X Y P W H S i k : Int) (w : World) (hP0 : 1 ≤ P) (hP1 : P ≤ 16) (hX0 : -1000 ≤ X) (hX1 : X ≤ 1000) (hY0 : -1000 ≤ Y) (hY1 : Y ≤ 1000) (hi0 : -1000 ≤ i) (hi1 : i ≤ 1000) (hk0 : -1000 ≤ k) (hk1 : k ≤ 1000) :
    Calls Try.prog 25 #[gv X Y P W H S, vi i, vi k] w fun e w' => e = .returned (pv (centreF P X i) (centreF P Y k)) ∧ Kept (fun _ => False) w w' := by
  have hmf : ∀ (fn : Fn) (first cap : Array Value) (w : World), (Instr.makeFunc fn first cap).run Try.prog w = .ok (.func fn first cap) w := fun _ _ _ _ => rfl
  have hk := Kept.alloc (fun _ => False) w (.cells #[vi X, vi Y, vi P, vi W, vi H, vi S] 35)
  have hk2 := Kept.alloc (fun _ => False) (w.alloc (.cells #[vi X, vi Y, vi P, vi W, vi H, vi S] 35)) (.cells #[vi 0, vi 0] 46)
  have hb1 := hk2.get (heap_alloc_new w (.cells #[vi X, vi Y, vi P, vi W, vi H, vi S] 35)) (by simp)
  have hb2 := heap_alloc_new (w.alloc (.cells #[vi X, vi Y, vi P, vi W, vi H, vi S] 35)) (.cells #[vi 0, vi 0] 46)
  rw [World.size_alloc] at hb2
  have HK := Lib.hid (hk.trans hk2)
  have HB1 := Lib.hid hb1
  have HB2 := Lib.hid hb2
  clear hk hk2 hb1 hb2
  have hx := Lib.hid (fun (b : Nat) (W : World) => centre1_c b P X i W hP0 hP1 hX0 hX1 hi0 hi1)
  have hy := Lib.hid (fun (b : Nat) (W : World) => centre1_c b P Y k W hP0 hP1 hY0 hY1 hk0 hk1)
  generalize centreF P X i = rx at *
  generalize centreF P Y k = ry at *
  go_enter Try.func25, Try.ntmps25
  go_upto_region 2 with fail
  clear hmf
  generalize (w.alloc (.cells #[vi X, vi Y, vi P, vi W, vi H, vi S] 35)).alloc (.cells #[vi 0, vi 0] 46) = w1 at *
  have hd := Kept.drew (fun _ => False) w1
  obtain ⟨c0, c1, c2, _, _, _⟩ := gv_cells (hd.get HB1.out (by simp))
  have hb2 := hd.get HB2.out (by simp)
  have HC2 := Lib.hid c2
  have d0 : w1.drew.cell? ⟨w.heap.size + 1, 0, none⟩ = some (vi 0) := by simp [World.cell?, hb2]
  have d1 : w1.drew.cell? ⟨w.heap.size + 1, 1, none⟩ = some (vi 0) := by simp [World.cell?, hb2]
  have f0 : w1.drew.frozen? ⟨w.heap.size + 1, 0, none⟩ = false := by simp [World.frozen?, hb2]
  have f1 : w1.drew.frozen? ⟨w.heap.size + 1, 1, none⟩ = false := by simp [World.frozen?, hb2]
  have d2 : w1.cell? ⟨w.heap.size + 1, 1, none⟩ = some (vi 0) := d1
  have f2 : w1.frozen? ⟨w.heap.size + 1, 1, none⟩ = false := f1
  clear c2 hb2
  go_region_with ((first | (go_at_call_of 46 X; refine (hx.out _ _ HC2.out).mono ?_) | (go_at_call_of 46 Y; refine (hy.out _ _ HC2.out).mono ?_)); rintro e w' ⟨rfl, rfl⟩)
  all_goals
    go_wp2_with fail
    have h1 := heap_setCell_same w1 (w.heap.size + 1) 0 _ _ (vi rx) HB2.out
    have h2 := heap_setCell_same _ (w.heap.size + 1) 1 _ _ (vi ry) h1
    have hf := (HK.out.andThen (Kept.setCell (· = w.heap.size + 1) w1 ⟨w.heap.size + 1, 0, none⟩ (vi rx) rfl) (U := fun _ => False) (fun _ _ h => h) (fun _ _ h => by omega)).andThen (Kept.setCell (· = w.heap.size + 1) _ ⟨w.heap.size + 1, 1, none⟩ (vi ry) rfl) (U := fun _ => False) (fun _ _ h => h) (fun _ _ h => by omega)
    refine bodyPost_ret (results_cell_row rfl _ _ (w.heap.size + 1) 46 #[vi rx, vi ry] (0, 0) _ rfl h2 Try.underlying46 rfl (by kernel_rfl)) rfl ?_
    exact ⟨rfl, hf.trans (Kept.drew _ _)⟩

/-- down: rounded down. -/
theorem down_c (a b : Int) (w : World) (hb0 : 1 ≤ b) (hb1 : b ≤ 100000) (ha0 : -1000000 ≤ a) (ha1 : a ≤ 1000000) :
    Calls Try.prog 29 #[vi a, vi b] w fun e w' => e = .returned (vi (a / b)) ∧ w = w' := by
  have h1 := Int.mul_ediv_add_emod a b
  have h2 := Int.emod_nonneg a (show b ≠ 0 by omega)
  have h3 := Int.emod_lt_of_pos a (show 0 < b by omega)
  have h4 := Int.mul_tdiv_add_tmod a b
  have h5 : -b < a.tmod b := by
    have := Int.lt_tmod_of_pos a (show 0 < b by omega)
    omega
  have h6 : a.tmod b < b := Int.tmod_lt_of_pos a (by omega)
  have hq : a.tdiv b = a / b ∨ a.tdiv b = a / b + 1 := by
    rcases Int.lt_or_le (a.tmod b) 0 with h | h
    · right
      have e : b * (a / b + 1 - a.tdiv b) = a.tmod b - a % b + b := by rw [Int.mul_sub, Int.mul_add]; omega
      have : a / b + 1 - a.tdiv b = 0 := by
        have l1 : b * (a / b + 1 - a.tdiv b) < b * 1 := by omega
        have l2 : b * (-1) < b * (a / b + 1 - a.tdiv b) := by omega
        have l3 := Int.lt_of_mul_lt_mul_left l1 (by omega)
        have l4 := Int.lt_of_mul_lt_mul_left l2 (by omega)
        omega
      omega
    · left
      have e : b * (a / b - a.tdiv b) = a.tmod b - a % b := by rw [Int.mul_sub]; omega
      have l1 : b * (a / b - a.tdiv b) < b * 1 := by omega
      have l2 : b * (-1) < b * (a / b - a.tdiv b) := by omega
      have l3 := Int.lt_of_mul_lt_mul_left l1 (by omega)
      have l4 := Int.lt_of_mul_lt_mul_left l2 (by omega)
      omega
  have hA : a / b * b ≤ a := by rw [Int.mul_comm]; omega
  have hA' : a < a / b * b + b := by rw [Int.mul_comm (a / b) b]; omega
  have hB : (a / b + 1) * b = a / b * b + b := by rw [Int.add_mul]; omega
  have hq0 : -1000001 ≤ a / b ∧ a / b ≤ 1000000 := by
    rcases Int.lt_or_le a 0 with h | h
    · have l1 := Int.ediv_neg_of_neg_of_pos h (show 0 < b by omega)
      have l2 : a ≤ a / b := (Int.le_ediv_iff_mul_le (by omega)).2 (by
        have h5 : b * a ≤ 1 * a := Int.mul_le_mul_of_nonpos_right hb0 (by omega)
        rw [Int.mul_comm]; omega)
      omega
    · have l1 := Int.ediv_nonneg h (show 0 ≤ b by omega)
      have l2 := Int.ediv_le_self b h
      omega
  obtain ⟨hq0, hq1⟩ := hq0
  have ht0 : -1000001 ≤ a.tdiv b := by omega
  have ht1 : a.tdiv b ≤ 1000001 := by omega
  have HQ := Lib.hid hq
  have HB := Lib.hid hB
  clear h1 h2 h3 h4 h5 h6 hq hB
  go_enter Try.func29, Try.ntmps29
  go_wp2
  go_loopw [5] (fun s wr => ∃ q : Int, s = vi q ∧ Hid (q = a / b ∨ q = a / b + 1) ∧ wr = w) (fun s _ => (intOf s - a / b).toNat)
  case atStart => exact ⟨_, rfl, HQ, rfl⟩
  case round =>
    obtain ⟨q, rfl, hq, rfl⟩ := hrel
    rcases hq.out with rfl | rfl
    · go_wp2
      go_ret
      exact ⟨rfl, rfl⟩
    · have hC : a < (a / b + 1) * b := by rw [HB.out]; exact hA'
      have hC2 : (a / b + 1) * b ≤ 2000000 := by rw [HB.out]; omega
      go_wp2
      go_roundw
      case rel => exact ⟨a / b, by go_num, Lib.hid (.inl rfl), by trivial⟩
      case measure => simp [intOf]; omega

end Go.Proofs.Ytgldonfpiifnfaa
