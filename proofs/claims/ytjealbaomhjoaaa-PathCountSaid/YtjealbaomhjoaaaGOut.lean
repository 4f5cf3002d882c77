/- The law's outline of dots: its contract. -/
import Derived.Test.YtjealbaomhjoaaaGl
set_option linter.unusedVariables false
set_option linter.unusedSimpArgs false
namespace Go.Proofs.Ytjealbaomhjoaaa
open Go.RowKit Go.Proofs.Ytjealbaomhjoaaa.G Go.Proofs.YtjealbaomhjoaaaW.PrintWords Go.Proofs.YtjealbaomhjoaaaW.PrintMore
theorem outline_any (l : List (List S66)) (a : Option Addr) (cap : Nat) (w : World) (rd : Kd.C (Kd.slice 66 k66) w a l.length l) (le : l.length ≤ cap) :
    Calls Try.prog 16 #[.slice a l.length cap] w fun e w' => ∃ A c, e = .returned (.agg #[.slice A (olF l).length c]) ∧ Kd.S (Kd.slice 34 k34) 28 w' w.heap.size (fun _ => True) (.slice A (olF l).length c) (olF l) ∧ Below w.heap.size w w' := by
  obtain ⟨K, hK⟩ := ol_f l
  refine (punchcutlaw04_Outline.calls K a cap l (olF l) w rd le (hK K (Nat.le_refl _))).mono ?_
  rintro e w' ⟨v, rfl, hs, hb⟩
  obtain ⟨A, c, rfl⟩ := Kd.S_slice hs
  exact ⟨A, c, rfl, hs, hb⟩
end Go.Proofs.Ytjealbaomhjoaaa
