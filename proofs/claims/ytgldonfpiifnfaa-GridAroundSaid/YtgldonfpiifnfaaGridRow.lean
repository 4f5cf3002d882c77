/- Structs of six whole numbers, as a law's arguments. -/
import Derived.Test.YtgldonfpiifnfaaProg
import Derived.Lib.SmallJoins
namespace Go.Proofs.Ytgldonfpiifnfaa
open Go.Joins Go.ChangeShapes Go.WideShapes Go.RowKit Go.Deep
section
variable {H : Type} {enc : TypeId × Value → H} {P : Program} {w : World} {base : Nat} {spare : Nat → Bool} {held : Bool}
theorem open_six {r : Reach} {b0 : Nat} {t : TypeId} {f0 f1 f2 f3 f4 f5 : Field} {v : Value} {d : DataW H} {p : List MemPlace} (q : IntKind) (hs : P.underlying t = some (.struct #[f0, f1, f2, f3, f4, f5])) (hone : oneCellFields P #[f0, f1, f2, f3, f4, f5] = true) (hC : P.cellsOf t = 6)
    (hq : P.underlying f0.type = some (.int q) ∧ P.underlying f1.type = some (.int q) ∧ P.underlying f2.type = some (.int q) ∧ P.underlying f3.type = some (.int q) ∧ P.underlying f4.type = some (.int q) ∧ P.underlying f5.type = some (.int q))
    (hv : Value.okWide P w r b0 t v) (h : DataW.Trod enc P w base spare held t v d p) :
    ∃ x0 x1 x2 x3 x4 x5 : Int, v = .agg #[.int q x0, .int q x1, .int q x2, .int q x3, .int q x4, .int q x5] ∧
      (Lit.int q x0).wf = true ∧ (Lit.int q x1).wf = true ∧ (Lit.int q x2).wf = true ∧ (Lit.int q x3).wf = true ∧ (Lit.int q x4).wf = true ∧ (Lit.int q x5).wf = true := by
  obtain ⟨cs, rfl, hsz⟩ := okWide_struct hs hv
  obtain ⟨l⟩ := cs
  match l, hsz.trans hC with
  | [c0, c1, c2, c3, c4, c5], _ =>
    obtain ⟨fuel, hf⟩ := h
    obtain ⟨xs, n, _, _, _, hlen, hg⟩ := DataW.trod_struct hs hf
    obtain ⟨o0, k0⟩ := hone_of hone 0 f0 rfl
    obtain ⟨o1, k1⟩ := hone_of hone 1 f1 rfl
    obtain ⟨o2, k2⟩ := hone_of hone 2 f2 rfl
    obtain ⟨o3, k3⟩ := hone_of hone 3 f3 rfl
    obtain ⟨o4, k4⟩ := hone_of hone 4 f4 rfl
    obtain ⟨o5, k5⟩ := hone_of hone 5 f5 rfl
    have one : ∀ {f : Field} {c : Value} {y : Option (DataW H × List MemPlace)}, P.underlying f.type = some (.int q) → y.isSome → DataW.trod enc P w base spare held n f.type [c] = y → ∃ x : Int, c = .int q x ∧ (Lit.int q x).wf = true := by
      intro f c y hu hy hh
      obtain ⟨y, rfl⟩ := Option.isSome_iff_exists.1 hy
      obtain ⟨x, hx, _, hw⟩ := DataW.trod_int hu hh
      injection hx with hx
      exact ⟨x, hx, hw⟩
    have g0 := hg 0 f0 rfl; have g1 := hg 1 f1 rfl; have g2 := hg 2 f2 rfl; have g3 := hg 3 f3 rfl; have g4 := hg 4 f4 rfl; have g5 := hg 5 f5 rfl
    have hl6 : xs.length = 6 := hlen
    obtain ⟨x0, rfl, w0⟩ := one (y := xs[0]?) hq.1 (by simp; omega) (by simpa [Value.cells, o0, k0] using g0)
    obtain ⟨x1, rfl, w1⟩ := one (y := xs[1]?) hq.2.1 (by simp; omega) (by simpa [Value.cells, o1, k1] using g1)
    obtain ⟨x2, rfl, w2⟩ := one (y := xs[2]?) hq.2.2.1 (by simp; omega) (by simpa [Value.cells, o2, k2] using g2)
    obtain ⟨x3, rfl, w3⟩ := one (y := xs[3]?) hq.2.2.2.1 (by simp; omega) (by simpa [Value.cells, o3, k3] using g3)
    obtain ⟨x4, rfl, w4⟩ := one (y := xs[4]?) hq.2.2.2.2.1 (by simp; omega) (by simpa [Value.cells, o4, k4] using g4)
    obtain ⟨x5, rfl, w5⟩ := one (y := xs[5]?) hq.2.2.2.2.2 (by simp; omega) (by simpa [Value.cells, o5, k5] using g5)
    exact ⟨x0, x1, x2, x3, x4, x5, rfl, w0, w1, w2, w3, w4, w5⟩
end
end Go.Proofs.Ytgldonfpiifnfaa
