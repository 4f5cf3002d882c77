/- A point by value, as a law's argument. -/
import Derived.Test.YtjealbaomhjoaaaProg
import Derived.Lib.SmallJoins
namespace Go.Proofs.Ytjealbaomhjoaaa
open Go.Joins Go.ChangeShapes Go.WideShapes Go.RowKit Go.Deep
section
variable {H : Type} {enc : TypeId × Value → H} {P : Program} {w : World} {base : Nat} {spare : Nat → Bool} {held : Bool}
theorem open_point {r : Reach} {b0 : Nat} {t : TypeId} {f0 f1 f2 : Field} {v : Value} {d : DataW H} {p : List MemPlace} (q : IntKind) (hs : P.underlying t = some (.struct #[f0, f1, f2])) (hone : oneCellFields P #[f0, f1, f2] = true) (hC : P.cellsOf t = 3)
    (h0 : P.underlying f0.type = some (.int q)) (h1 : P.underlying f1.type = some (.int q)) (h2 : P.underlying f2.type = some .bool)
    (hv : Value.okWide P w r b0 t v) (h : DataW.Trod enc P w base spare held t v d p) : ∃ (x y : Int) (b : Bool), v = .agg #[.int q x, .int q y, .bool b] := by
  obtain ⟨cs, rfl, hsz⟩ := okWide_struct hs hv
  obtain ⟨l⟩ := cs
  match l, hsz.trans hC with
  | [c0, c1, c2], _ =>
    obtain ⟨fuel, hf⟩ := h
    obtain ⟨xs, n, _, _, _, hlen, hg⟩ := DataW.trod_struct hs hf
    obtain ⟨o0, k0⟩ := hone_of hone 0 f0 rfl
    obtain ⟨o1, k1⟩ := hone_of hone 1 f1 rfl
    obtain ⟨o2, k2⟩ := hone_of hone 2 f2 rfl
    have g0 := hg 0 f0 rfl
    have g1 := hg 1 f1 rfl
    have g2 := hg 2 f2 rfl
    have hl3 : xs.length = 3 := hlen
    rw [List.getElem?_eq_getElem (show 0 < xs.length by omega)] at g0
    rw [List.getElem?_eq_getElem (show 1 < xs.length by omega)] at g1
    rw [List.getElem?_eq_getElem (show 2 < xs.length by omega)] at g2
    obtain ⟨x0, e0, _⟩ := DataW.trod_int h0 (by simpa [Value.cells, o0, k0] using g0)
    obtain ⟨x1, e1, _⟩ := DataW.trod_int h1 (by simpa [Value.cells, o1, k1] using g1)
    obtain ⟨x2, e2, _⟩ := DataW.trod_bool h2 (by simpa [Value.cells, o2, k2] using g2)
    injection e0 with e0
    injection e1 with e1
    injection e2 with e2
    subst e0; subst e1; subst e2
    exact ⟨x0, x1, x2, rfl⟩
end
theorem open_vertex {H : Type} {enc : TypeId × Value → H} {w : World} {base : Nat} {spare : Nat → Bool} {held : Bool} {r : Reach} {b0 : Nat} {v : Value} {d : DataW H} {p : List MemPlace}
    (hv : Value.okWide Try.prog w r b0 34 v) (h : DataW.Trod enc Try.prog w base spare held 34 v d p) :
    ∃ (x y : Int) (b : Bool), v = .agg #[.int .i64 x, .int .i64 y, .bool b] :=
  open_point .i64 Try.underlying34 (by kernel_rfl) (by kernel_rfl) Try.underlying3 Try.underlying3 Try.underlying4 hv h
end Go.Proofs.Ytjealbaomhjoaaa
