/- Small words for the rows: what a slice of whole numbers that came in gives to a walk. -/
import Derived.Test.YtgldonfpiifnfaaBase
import Derived.ProofKit
import Derived.OpenShut
import Derived.ShutString
import Derived.ChangeOld
set_option linter.unusedVariables false
namespace Go.Proofs.Ytgldonfpiifnfaa
open Go.ChangeShapes Go.WideShapes Go.ChangeAt Go.RowKit

/-- A slice of whole numbers that came in: nil, or a row of cap cells. -/
def IsRow (k : IntKind) (w : World) (a : Option Addr) (len cap : Nat) (zs : List Int) : Prop :=
  (a = none ∧ len = 0 ∧ cap = 0 ∧ zs = []) ∨
  ∃ x, a = some x ∧ len ≤ cap ∧ cap ≤ maxLen ∧ zs.length = cap ∧ (∀ i, i < zs.length → w.cell? (x.add i) = some (.int k (zs.getD i 0))) ∧ ∀ n ∈ zs, (Lit.int k n).wf = true

/-- As the walks take it. -/
structure Reads (k : IntKind) (w : World) (a : Option Addr) (len cap : Nat) (X : Nat → Int) : Prop where
  le : len ≤ cap
  cap : cap ≤ 9223372036854775807
  wf : ∀ j, (Lit.int k (X j)).wf = true
  cells : len = 0 ∨ ∃ b off, a = some ⟨b, off, none⟩ ∧ b < w.heap.size ∧ ∀ j, j < len → w.cell? ⟨b, off + j, none⟩ = some (.int k (X j))

theorem wf_zero (k : IntKind) : (Lit.int k 0).wf = true := by cases k <;> decide

theorem IsRow.reads {k : IntKind} {w : World} {a : Option Addr} {len cap : Nat} {zs : List Int} (h : IsRow k w a len cap zs) : Reads k w a len cap (fun j => zs.getD j 0) := by
  rcases h with ⟨rfl, rfl, rfl, rfl⟩ | ⟨x, rfl, hl, hm, hz, hc, hw⟩
  · exact ⟨Nat.le_refl _, by omega, fun j => by simpa using wf_zero k, .inl rfl⟩
  · refine ⟨hl, by simpa [maxLen] using hm, fun j => ?_, ?_⟩
    · by_cases hj : j < zs.length
      · exact hw _ (by simp [List.getD_eq_getElem?_getD, List.getElem?_eq_getElem hj])
      · simpa [List.getD_eq_getElem?_getD, List.getElem?_eq_none (Nat.le_of_not_lt hj)] using wf_zero k
    · by_cases h0 : len = 0
      · exact .inl h0
      · obtain ⟨b, off, rfl, hcell⟩ := ints_at hc (by omega)
        refine .inr ⟨b, off, rfl, ?_, fun j hj => hcell j (by omega)⟩
        exact World.block_lt_of_cell? w _ (hcell 0 (by omega))

end Go.Proofs.Ytgldonfpiifnfaa
