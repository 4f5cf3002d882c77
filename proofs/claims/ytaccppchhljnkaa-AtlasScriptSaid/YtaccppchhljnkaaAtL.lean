/- Stores of whole structs, clear, and still regions: laws at the operations. -/
import Derived.Test.YtaccppchhljnkaaAtM
import Derived.StillTailTactics
import Derived.RegionTactic
import Derived.BigRegion
import Derived.Lib.SliceRun
set_option linter.unusedVariables false
set_option linter.unusedSimpArgs false
namespace Go.Proofs.Ytaccppchhljnkaa
open Go.RowKit Go.Proofs.YtaccppchhljnkaaW.PrintWords Go.Proofs.YtaccppchhljnkaaW.PrintLast Go.Proofs.YtaccppchhljnkaaW.PrintMore
theorem setCells_cons (W : World) (g o : Nat) (v : Value) (vs : List Value) : W.setCells g o (v :: vs) = (W.setCell ⟨g, o, none⟩ v).setCells g (o + 1) vs := rfl
theorem heap_setCells_at {g : Nat} {e : TypeId} : ∀ (seg : List Value) (off : Nat) (W : World) (cur : Array Value), W.heap[g]? = some (.cells cur e (0, 0)) → off + seg.length ≤ cur.size →
    (W.setCells g off seg).heap[g]? = some (.cells (splice cur.toList off seg).toArray e (0, 0)) ∧ Kept (· = g) W (W.setCells g off seg)
  | [], off, W, cur, h, _ => ⟨by rw [show W.setCells g off [] = W from rfl, h]; simp [splice], Kept.refl _ _⟩
  | v :: vs, off, W, cur, h, hl => by
    rw [setCells_cons]
    obtain ⟨h1, h2⟩ := heap_setCells_at vs (off + 1) _ _ (heap_setCell_in (off := off) v h) (by simp at hl ⊢; omega)
    refine ⟨?_, (Kept.setCell (· = g) W _ _ rfl).trans h2⟩
    rw [h1]
    congr 3
    have e := list_seg_step cur.toList off v vs (by simp at hl ⊢; omega)
    simpa [splice, Array.toList_setIfInBounds, Nat.add_assoc] using e
/-- A store of a whole struct over a whole block. -/
theorem wpList_store_all {P : Program} {ops : Array Oper} {rest : List Oper} {o : Oper} {a : Act} {Q : Exit → Act → World → Prop} {W : World} (hN : o.dst = none) (hgd : o.guard = none) (t : TypeId) (p x : Operand) (ho : o.op = .store t p x) {g : Nat} {e : TypeId} {cur : Array Value} (u : Value) (seg : List Value)
    (haddr : a.eval p = .pointer (some ⟨g, 0, none⟩)) (hx : a.eval x = u) (hu : u.cells.toList = seg) (ht : (P.info? t).map (·.size) = some seg.length) (hh : W.heap[g]? = some (.cells cur e (0, 0))) (hfit : seg.length = cur.size) (h1 : ∀ q ∈ seg, q.oneCell' = true)
    (h : ∀ w', w'.heap[g]? = some (.cells seg.toArray e (0, 0)) → Kept (· = g) W w' → wpList P ops Q rest a w') : wpList P ops Q (o :: rest) a W := by
  refine wpList_plain hgd fun K hK => ?_
  have hrun := run_store_run (P := P) (o := 0) t u seg hh hu ht (by omega) h1
  obtain ⟨h2, h3⟩ := heap_setCells_at seg 0 W cur hh (by omega)
  unfold Oper.wp execOp
  simp only [ho, haddr, hx, Sem.run_bind, Sem.run_pure, Result.andThen_ok, hrun]
  show K (a.put o.dst undef) _
  rw [hN]
  refine hK a _ (h _ ?_ h3)
  rw [h2]
  have : cur.toList.drop seg.length = [] := List.drop_eq_nil_of_le (by simp; omega)
  simp [splice, this]
/-- clear of a row's part. -/
theorem wpList_clear {P : Program} {ops : Array Oper} {rest : List Oper} {o : Oper} {a : Act} {Q : Exit → Act → World → Prop} {W : World} (hN : o.dst = none) (hgd : o.guard = none) (t : TypeId) (x : Operand) (ho : o.op = Op.call { callee := Callee.builtin Builtin.clear, args := #[x], argTypes := #[t] })
    (e : TypeId) (z : Value) (ht : P.underlying t = some (.slice e)) (hv : ∀ w, (zeroValue e).run P w = .ok z w) (hz : z.cells = #[z]) (h1 : z.oneCell' = true) {g off n c : Nat} {ty : TypeId} {cur : Array Value}
    (hx : a.eval x = .slice (some ⟨g, off, none⟩) n c) (hh : W.heap[g]? = some (.cells cur ty (0, 0))) (hn : 0 < n) (hfit : off + n ≤ cur.size)
    (h : ∀ w', w'.heap[g]? = some (.cells (splice cur.toList off (List.replicate n z)).toArray ty (0, 0)) → Kept (· = g) W w' → wpList P ops Q rest a w') : wpList P ops Q (o :: rest) a W := by
  refine wpList_plain hgd fun K hK => ?_
  have hrun := Lib.run_clear_slice (P := P) W t e o.type z ht hv hz h1 g off n c hn (fun j hj => by rw [cell_of_row W g (off + j) cur ty (0, 0) hh]; simp; omega) (fun j hj => free_in hh)
  obtain ⟨h2, h3⟩ := heap_setCells_at (List.replicate n z) off W cur hh (by simpa using hfit)
  unfold Oper.wp execOp
  simp only [ho, resolve, invoke, builtin, Sem.run_bind, Sem.run_pure, Result.andThen_ok, List.map_toArray, List.map_cons, List.map_nil, hx, hrun]
  show K (a.put o.dst _) _
  rw [hN]
  exact hK a _ (h _ h2 h3)
end Go.Proofs.Ytaccppchhljnkaa
