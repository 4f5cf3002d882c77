/- The document's examples of layer 15 hold. -/
import Derived.Test.YtgldonfpiifnfaaLru
namespace Go.Proofs.Ytgldonfpiifnfaa
open Go.RowKit

set_option maxHeartbeats 400000 in
theorem awake15 (w : World) : Calls Try.prog 15 #[] w fun e w' => e = .returned (.bool true) ∧ Kept (fun _ => False) w w' := by
  have hL0 := Lib.hid (LAt.made w 67 3)
  have hP0 : Past w.heap.size w.heap.size (.slice none 0 0) := ⟨Nat.le_refl _, by simp [Value.ownBlock]⟩
  have hK0 := Lib.hid (Kept.alloc (fun _ => False) w (.cells #[.slice none 0 0] 67))
  have hP0 := Lib.hid hP0
  go_enter Try.func15, Try.ntmps15
  go_wp2_with fail
  refine (use_int w.heap.size _ [] 1 _ (by simp) hL0.out).mono ?_
  rintro e w1 ⟨rfl, v1, hL1, hk1, hl1⟩
  obtain ⟨hP1, hK1⟩ := hP0.out.step rfl hK0.out hk1 (fun _ h => h) hl1
  replace hL1 := Lib.hid (show LAt w1 67 3 w.heap.size v1 ([1].map (Value.int .i64)) from hL1)
  have hP1 := Lib.hid hP1; have hK1 := Lib.hid hK1; clear hk1 hl1
  rw [show decide ((1 : Int) ∈ ([] : List Int)) = false from rfl]
  go_wp2_with fail
  refine (use_int w.heap.size _ [1] 2 _ (by simp) hL1.out).mono ?_
  rintro e w2 ⟨rfl, v2, hL2, hk2, hl2⟩
  obtain ⟨hP2, hK2⟩ := hP1.out.step rfl hK1.out hk2 (fun _ h => h) hl2
  replace hL2 := Lib.hid (show LAt w2 67 3 w.heap.size v2 ([1, 2].map (Value.int .i64)) from hL2)
  have hP2 := Lib.hid hP2; have hK2 := Lib.hid hK2; clear hk2 hl2 hP1 hK1 hL1
  rw [show decide ((2 : Int) ∈ ([1] : List Int)) = false from rfl]
  go_wp2_with fail
  refine (use_int w.heap.size _ [1, 2] 1 _ (by simp) hL2.out).mono ?_
  rintro e w3 ⟨rfl, v3, hL3, hk3, hl3⟩
  obtain ⟨hP3, hK3⟩ := hP2.out.step rfl hK2.out hk3 (fun _ h => h) hl3
  replace hL3 := Lib.hid (show LAt w3 67 3 w.heap.size v3 ([2, 1].map (Value.int .i64)) from hL3)
  have hK3 := Lib.hid hK3; clear hk3 hl3 hP2 hK2 hL2 hP3
  rw [show decide ((1 : Int) ∈ ([1, 2] : List Int)) = true from rfl]
  go_wp2_with fail
  refine (oldest_cons_int w.heap.size _ 2 [1] _ hL3.out).mono ?_
  rintro e w4 ⟨rfl, rfl⟩
  go_wp2_with fail
  refine (len_int w.heap.size _ [2, 1] _ hL3.out).mono ?_
  rintro e w4 ⟨rfl, rfl⟩
  go_wp2_with fail
  refine (has_int w.heap.size _ [2, 1] 1 _ hL3.out).mono ?_
  rintro e w4 ⟨rfl, rfl⟩
  rw [show decide ((1 : Int) ∈ ([2, 1] : List Int)) = true from rfl]
  go_wp2_with fail
  refine (has_int w.heap.size _ [2, 1] 3 _ hL3.out).mono ?_
  rintro e w4 ⟨rfl, rfl⟩
  rw [show decide ((3 : Int) ∈ ([2, 1] : List Int)) = false from rfl]
  go_wp2_with fail
  go_ret
  exact ⟨rfl, hK3.out⟩
end Go.Proofs.Ytgldonfpiifnfaa
