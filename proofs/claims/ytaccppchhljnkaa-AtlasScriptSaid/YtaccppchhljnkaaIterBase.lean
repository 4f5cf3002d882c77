/- A loop over an iterator, in the words of the frames: what the loop's own book-keeping leaves alone. -/
import Derived.Test.YtaccppchhljnkaaMaps
import Derived.RangeFuncBox
import Derived.RangeFuncWrites
import Derived.RangeFuncLeaves
import Derived.Shelf.Abstract
import Derived.OwnWalkIn
import Derived.TacticsInMore
import Derived.LoopNIn
import Derived.LoopIn
set_option linter.unusedVariables false
namespace Go.Proofs.Ytaccppchhljnkaa
open Go.RowKit Go.Shelf

/-- What a loop over an iterator may turn of its own: blocks from B on that hold no cells. -/
def Own (B : Nat) (S : Nat → Prop) (W : World) : Prop := ∀ k, S k → B ≤ k ∧ ∃ o : Obj, W.heap[k]? = some o ∧ o.isCells = false
theorem own_from {β : Type} {B : Nat} {I : β → World → Prop} (h : ∀ s S W W', I s W → Kept S W W' → Own B S W → I s W') : OwnFrom B I := by
  intro s W W' row hs hg hr
  refine h s (fun k => row = some k) W W' hs (Kept.of_grownBy hg) (fun k hk => hr k hk)
theorem Own.cells {B : Nat} {S : Nat → Prop} {W : World} (h : Own B S W) {b : Nat} {cs : Array Value} {t : TypeId} {fz : Nat × Nat} (hb : W.heap[b]? = some (.cells cs t fz)) : ¬ S b := by
  intro hs
  obtain ⟨_, o, ho, hc⟩ := h b hs
  rw [hb] at ho
  injection ho with ho
  subst ho
  cases hc
theorem Own.lt {B : Nat} {S : Nat → Prop} {W : World} (h : Own B S W) {b : Nat} (hb : b < B) : ¬ S b := fun hs => by have := (h b hs).1; omega
theorem Own.slo {B : Nat} {S : Nat → Prop} {W : World} (h : Own B S W) {e : TypeId} {size : Nat} {v : Value} {n : Nat} {xs : List Value} (hs : SlO W e size v n xs) : ∀ g, v.ownBlock = some g → ¬ S g := by
  intro g hg
  rcases hs.2 with ⟨rfl, _⟩ | ⟨g', cap, cur, rfl, hh, _⟩
  · simp [Value.ownBlock] at hg
  · have : g' = g := by simpa [Value.ownBlock] using hg
    subst this
    exact h.cells hh
theorem Own.lat {B : Nat} {S : Nat → Prop} {W W' : World} (h : Own B S W) (hk : Kept S W W') {t e : TypeId} {b : Nat} {v : Value} {cs : List Value} (hL : LAt W t e b v cs) : LAt W' t e b v cs :=
  hL.kept hk (h.cells hL.1) (h.slo hL.2)
theorem Own.kept {B : Nat} {S T : Nat → Prop} {w W W' : World} (h : Own B S W) (hk : Kept S W W') (hB : w.heap.size ≤ B) (h0 : Kept T w W) : Kept T w W' :=
  h0.andThen hk (fun _ _ h => h) (fun k hk' hs => by have := (h k hs).1; omega)

/-- The end of a function that holds one loop over an iterator. -/
theorem leaveM {n : Nat} {P : Program} {fn : Func} {R : Ending → World → Prop} {tmps : Array Value} {D : Nat} {W : World} {v : Value} (hK : W.heap[D]? = some (.deferred (some [])))
    (hr : (results fn tmps).run P (W.putObj D (.deferred none)) = .ok v (W.putObj D (.deferred none))) (hR : R (.returned v) (W.putObj D (.deferred none))) :
    bodyPostM Fence.wide n P fn R .ret { tmps := tmps, defers := [{ target := .collected D, args := #[] }] } W :=
  ⟨by simp, .inl ⟨_, _, rfl, run_takeDeferred hK, v, hr, hR⟩⟩
theorem kept_putObj (S : Nat → Prop) (W : World) (D : Nat) (o : Obj) (hS : S D) : Kept S W (W.putObj D o) :=
  ⟨rfl, rfl, rfl, by simp [World.putObj], fun k hk hs => World.putObj_heap_other (fun e => hs (e ▸ hS))⟩

/-- What a body that goes on must keep: the blocks of T. -/
def Keeps (T : Nat → Prop) (W W' : World) : Prop := Kept (fun k => ¬ T k) W W'
theorem Keeps.trans {T : Nat → Prop} {A B C : World} (h : Keeps T A B) (k : Keeps T B C) : Keeps T A C := Kept.trans h k
theorem Keeps.putObj {T : Nat → Prop} {n : Nat} (hT : ∀ k, T k → k < n) (W : World) (l : Nat) (o o' : Obj) (hl : n ≤ l) (_ : W.heap[l]? = some o) (_ : o.isCells = false) (_ : o.isWalk = false) : Keeps T W (W.putObj l o') :=
  kept_putObj _ W l o' (fun h => by have := hT l h; omega)
theorem keepsFrom_of_kept {S : Nat → Prop} {B : Nat} {W W' : World} (h : Kept S W W') (hS : ∀ k, S k → ∀ o : Obj, W.heap[k]? = some o → B ≤ k → o.isCells = true) : KeepsFrom B W W' :=
  ⟨h.size, fun k o hB hk ho => h.get hk (fun hs => by rw [hS k hs o hk hB] at ho; cases ho)⟩

/-- The first k of a family. -/
def upto {α : Type} (f : Nat → α) (k : Nat) : List α := (List.range k).map f
theorem upto_succ {α : Type} (f : Nat → α) (k : Nat) : upto f (k + 1) = upto f k ++ [f k] := by simp [upto, List.range_succ]
theorem upto_length {α : Type} (f : Nat → α) (k : Nat) : (upto f k).length = k := by simp [upto]
theorem upto_getD {α : Type} [Inhabited α] (xs : List α) (k : Nat) (hk : k ≤ xs.length) : upto (fun j => xs.getD j default) k = xs.take k := by
  apply List.ext_getElem
  · simp [upto, hk]
  · intro i h1 h2
    have : i < xs.length := by simp [upto] at h1; omega
    simp [upto, this]

/-! The laws at the operations, in a round. -/
section
variable {F : Fence} {n : Nat} {P : Program} (w : World) {ops : Array Oper} {rest : List Oper} {o : Oper} {a : Act} {Q : Exit → Act → World → Prop}
theorem wpListIn_append_sl (hgd : o.guard = none) (s x : Operand) (t : TypeId)
    (ho : o.op = .call { callee := .builtin .append, args := #[s, x], argTypes := #[t, t] })
    (e : TypeId) (i : TypeInfo) (z : Value) (size bytes : Nat) (ht : P.underlying t = some (.slice e)) (hi : P.info? e = some i) (hz : i.zero = some z)
    (hsize : i.size = size) (hby : i.bytes = bytes) (hzs : z.cells.size = size) (hsz : 0 < size)
    (v : Value) (k : Nat) (xs : List Value) (hs : a.eval s = v) (hown : SlO w e size v k xs)
    (ad : Addr) (m c : Nat) (news : List Value) (hx : a.eval x = .slice (some ad) m c) (hl : news.length = m * size) (hnews : ∀ j u, news[j]? = some u → w.cell? (ad.add j) = some u) (h1 : ∀ u ∈ news, u.oneCell' = true)
    (h63 : k + m ≤ maxLen) (hbytes : (k + m) * bytes ≤ 140737488355328)
    (h : ∀ A cap w', SlO w' e size (.slice A (k + m) cap) (k + m) (xs ++ news) → w.grownBy w' v.ownBlock → (Value.ownBlock (.slice A (k + m) cap) = v.ownBlock ∨ Value.ownBlock (.slice A (k + m) cap) = some w.heap.size) → wpListIn F n P ops Q rest (a.put o.dst (.slice A (k + m) cap)) w') : wpListIn F n P ops Q (o :: rest) a w := by
  refine wpListIn_plain hgd fun K hK' => ?_
  obtain ⟨v', w', hrun, h2, h3, h4, _⟩ := run_append_sl (P := P) w t o.type e i z size bytes ht hi hz hsize hby hzs hsz v k xs hown ad m c news hl hnews h1 h63 hbytes
  obtain ⟨A, cap, rfl, _⟩ := h2.isSlice
  unfold Oper.wpIn
  refine ⟨?_, ?_⟩
  · simp [Oper.about, ho, resolve, Target.leads, Sem.run_pure]
  · rw [Oper.semAt_plain F _ _ (by rw [ho]; intro c hc'; cases hc')]
    simp [execOp, ho, resolve, invoke, builtin, hs, hx, hrun, Result.andThen]
    exact hK' _ _ (h A cap w' h2 h3 h4)
theorem wpListIn_store_is {κ ε : Type} [DecidableEq κ] (hg : o.guard = none) (m x v : Operand) (t : TypeId) (hop : o.op = Op.mapUpdate t m x v)
    (k e : TypeId) (K : Go.Maps.Keyed P k) (ht : P.underlying t = some (.map k e)) (L : κ → Lit) (hL : ∀ x y, L x = L y → x = y) (hI : ∀ x, WideAt.IsKeyLit (L x)) (E : ε → Value) (b c : Nat) (f : κ → Option ε) (sz : Nat)
    (hm : a.eval m = .map (some b)) (hown : MapIs P k w b L E c f sz) (hn : c < maxLen) (key : Value) (hx : a.eval x = key) (q : κ) (hkey : keyOf P k key = some (L q)) (y : ε) (hv : a.eval v = E y)
    (hK : ∀ w', MapIs P k w' b L E (c + 1) (fun u => if u = q then some y else f u) (if (f q).isSome then sz else sz + 1) → Kept (· = b) w w' → wpListIn F n P ops Q rest (a.put o.dst undef) w') :
    wpListIn F n P ops Q (o :: rest) a w := by
  refine wpListIn_plain hg fun K' hK' => ?_
  obtain ⟨w', hrun, r1, r2⟩ := hown.store K hL hI ht hn hkey y
  unfold Oper.wpIn
  refine ⟨?_, ?_⟩
  · simp [Oper.about, hop]
  · rw [Oper.semAt_plain F _ _ (by rw [hop]; intro c hc'; cases hc')]
    simp [execOp, hop, hm, hx, hv, hrun, Result.andThen]
    exact hK' _ _ (hK w' r1 r2)
theorem wpListIn_delete_is {κ ε : Type} [DecidableEq κ] (hg : o.guard = none) (m x : Operand) (t k : TypeId) (hop : o.op = Op.call { callee := Callee.builtin Builtin.delete, args := #[m, x], argTypes := #[t, k] })
    (e : TypeId) (K : Go.Maps.Keyed P k) (ht : P.underlying t = some (.map k e)) (L : κ → Lit) (hL : ∀ x y, L x = L y → x = y) (E : ε → Value) (b c : Nat) (f : κ → Option ε) (sz : Nat)
    (hm : a.eval m = .map (some b)) (hown : MapIs P k w b L E c f sz) (key : Value) (hx : a.eval x = key) (q : κ) (hkey : keyOf P k key = some (L q))
    (hK : ∀ w', MapIs P k w' b L E c (fun u => if u = q then none else f u) (sz - if (f q).isSome then 1 else 0) → Kept (· = b) w w' → wpListIn F n P ops Q rest (a.put o.dst (.tuple #[])) w') :
    wpListIn F n P ops Q (o :: rest) a w := by
  refine wpListIn_plain hg fun K' hK' => ?_
  obtain ⟨w', hrun, r1, r2⟩ := hown.drop K hL ht hkey o.type
  unfold Oper.wpIn
  refine ⟨?_, ?_⟩
  · simp [Oper.about, hop, resolve, Target.leads, Sem.run_pure]
  · rw [Oper.semAt_plain F _ _ (by rw [hop]; intro c hc'; cases hc')]
    simp [execOp, hop, resolve, invoke, builtin, hm, hx, hrun, Result.andThen]
    exact hK' _ _ (hK w' r1 r2)
end

end Go.Proofs.Ytaccppchhljnkaa
