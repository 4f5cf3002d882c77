/- A map's entry, taken and stored. -/
import Derived.Test.YtaccppchhljnkaaAtM
import Derived.WideKeyEntry
set_option linter.unusedVariables false
set_option linter.unusedSimpArgs false
namespace Go.Proofs.Ytaccppchhljnkaa
open Go.RowKit
open Go.Maps (Keyed IsMap Tidy)
open Go.WideMaps (KeyLaw)
open Go.ChangeShapes Go.WideShapes Go.MapKept Go.ChangeMaps
section
variable {κ ε : Type} {P : Program} {k : TypeId} {w w2 : World} {b n sz : Nat} {L : κ → Lit} {E : ε → Value} {f : κ → Option ε}
theorem MapIs.move (h : MapIs P k w b L E n f sz) (hb : w2.heap[b]? = w.heap[b]?) : MapIs P k w2 b L E n f sz := by
  obtain ⟨D, ⟨es, clock, h1, h2⟩, h3⟩ := h
  exact ⟨D, ⟨es, clock, hb.trans h1, h2⟩, h3⟩
theorem kept_setBlock (w : World) (b : Nat) (o : Obj) : Kept (· = b) w (setBlock w b o) := by
  refine ⟨rfl, rfl, rfl, by simp [setBlock], fun k hk hs => ?_⟩
  simp only [setBlock]
  rw [Array.getElem?_setIfInBounds_ne (fun e => hs e.symm)]
theorem get_setBlock {w : World} {b : Nat} {o o' : Obj} (h : w.heap[b]? = some o') : (setBlock w b o).heap[b]? = some o := by
  have := lt_in h
  simp [setBlock, this]
theorem MapIs.entry [DecidableEq κ] {t e : TypeId} (h : MapIs P k w b L E n f sz) (K : KeyLaw P k) (hL : ∀ x y, L x = L y → x = y) (hI : ∀ x, WideAt.IsKeyLit (L x)) (ht : P.underlying t = some (.map k e)) {z : Value} (hz : ∀ u : World, (zeroValue e).run P u = .ok z u) (hn : n < maxLen) {key : Value} {x : κ} (hkey : keyOf P k key = some (L x)) (y : ε) :
    ∃ (v0 : Value) (st : Nat) (w1 : World), (Instr.mapEntry t (.map (some b)) key).run P w = .ok (.tuple #[v0, goInt st]) w1 ∧ Kept (· = b) w w1 ∧
      ∀ w2 : World, w2.heap[b]? = w1.heap[b]? → ∃ w3, (Instr.entryStore t (.map (some b)) (goInt st) (E y)).run P w2 = .ok () w3 ∧ MapIs P k w3 b L E (n + 1) (fun u => if u = x then some y else f u) (if (f x).isSome then sz else sz + 1) ∧ Kept (· = b) w2 w3 := by
  obtain ⟨w', hu, hm, hk⟩ := h.store (Keyed.of_law K) hL hI ht hn hkey y
  obtain ⟨D, ⟨es, clock, h1, F, h3⟩, h4⟩ := h
  obtain ⟨v0, st, es1, clock1, r1, _, r2⟩ := WideElems.entry_then_store K ht hz h1 F hkey
  refine ⟨v0, st, _, r1, kept_setBlock _ _ _, fun w2 hw2 => ?_⟩
  have hb1 := get_setBlock (o := .map es1 clock1) h1
  obtain ⟨es', clock', q1, q2⟩ := r2 w2 (E y) (hw2.trans hb1)
  rw [hu] at q2
  injection q2 with _ q2
  subst q2
  refine ⟨_, q1, hm.move ?_, kept_setBlock _ _ _⟩
  rw [get_setBlock h1, get_setBlock (hw2.trans hb1)]
end
end Go.Proofs.Ytaccppchhljnkaa
