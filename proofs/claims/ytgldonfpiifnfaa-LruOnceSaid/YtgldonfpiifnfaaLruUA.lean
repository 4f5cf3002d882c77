/- Keys in the order of their last use, in plain Lean. -/
import Derived.Test.YtgldonfpiifnfaaBase
namespace Go.Proofs.Ytgldonfpiifnfaa

/-- The keys in the order of their last use, of the first j. -/
def UA (X : Nat → Int) : Nat → List Int
  | 0 => []
  | j + 1 => (UA X j).erase (X j) ++ [X j]
theorem UA_len (X : Nat → Int) (j : Nat) : (UA X j).length ≤ j := by
  induction j with
  | zero => simp [UA]
  | succ j ih =>
    have := List.length_erase_le (a := X j) (l := UA X j)
    simp [UA]; omega
theorem nodup_use {l : List Int} (h : l.Nodup) (x : Int) : (l.erase x ++ [x]).Nodup := by
  rw [List.nodup_append]
  refine ⟨h.erase _, by simp, ?_⟩
  intro a ha b hb
  simp at hb
  subst hb
  rintro rfl
  exact h.not_mem_erase ha
theorem UA_nodup (X : Nat → Int) (j : Nat) : (UA X j).Nodup := by
  induction j with
  | zero => simp [UA]
  | succ j ih => exact nodup_use ih _

end Go.Proofs.Ytgldonfpiifnfaa
