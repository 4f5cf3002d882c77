/- A region that draws its order, inside the round of a loop over an iterator: by the plain laws. -/
import Derived.Test.YtaccppchhljnkaaIterBase
import Derived.Deep.RegionHeld
import Derived.OrdersHeld
import Derived.OrdersIn
set_option linter.unusedVariables false
set_option linter.unusedSimpArgs false
namespace Go.Proofs.Ytaccppchhljnkaa
open Go.RowKit
def noDefer (o : Oper) : Bool := match o.op with
  | .defer _ => false
  | _ => true
theorem rowsIn_wide {n : Nat} {P : Program} {row : String} {args : Array Value} {w : World} {R : Value → World → Prop} (h : Rows P row args w R) : RowsIn Fence.wide n P row args w R :=
  fun c cs _ => let ⟨v, w', r, s⟩ := h c cs; ⟨v, w', r, stepsIn_wide.2 s⟩
theorem opIn_of_op {l n : Nat} {P : Program} {o : Oper} {a : Act} {w : World} {K : Act → World → Prop} {Q : Exit → Act → World → Prop} (hd : noDefer o = true) (h : o.wp P a w K Q) : o.wpIn (Fence.wide.inRound l) n P a w K Q := by
  refine ⟨fun _ _ => trivial, ?_⟩
  rw [Oper.semAt_eq _ _ _ (fun c e => by unfold noDefer at hd; rw [e] at hd; cases hd)]
  unfold Oper.wp at h
  generalize (execOp a.eval o).run P w = r at h ⊢
  cases r with
  | ok x w' =>
    cases x with
    | value v => exact h
    | skip => exact h
    | defer d => exact h
    | enter f args => exact ⟨fun e => (by cases e), (callsIn_wide (n := n - 1)).2 h⟩
    | row r args => exact ⟨fun e => (by cases e), rowsIn_wide h⟩
    | _ => exact h.elim
  | halt x w' => cases x <;> exact h
theorem opsIn_of_ops {l n : Nat} {P : Program} {ops : Array Oper} {Q : Exit → Act → World → Prop} (hd : ops.all noDefer = true) (hq : ¬ LetsOut Q) : ∀ (is : List Nat) (a : Act) (w : World), wpOps P ops Q is a w → wpOpsIn (Fence.wide.inRound l) n P ops Q is a w
  | [], a, w, h => h
  | i :: rest, a, w, h => by
    unfold wpOps at h
    unfold wpOpsIn
    cases ho : ops[i]? with
    | none =>
      rw [ho] at h
      exact opsIn_of_ops hd hq rest a w h
    | some o =>
      rw [ho] at h
      simp only at h ⊢
      have hdo : noDefer o = true := by
        obtain ⟨hi, e⟩ := Array.getElem?_eq_some_iff.1 ho
        exact e ▸ Array.all_eq_true.1 hd i hi
      split
      · rename_i hw
        rw [if_pos hw] at h
        exact opIn_of_op hdo (Oper.wp_mono (fun a w h => opsIn_of_ops hd hq rest a w h) (h.resolve_right (fun h => hq h.2)))
      · rename_i hw
        rw [if_neg hw] at h
        exact ⟨fun _ _ => trivial, opsIn_of_ops hd hq rest _ w h⟩
theorem regionIn_of_any {l n id : Nat} {P : Program} {ops : Array Oper} {Q : Exit → Act → World → Prop} {a : Act} {w : World} (hm : P.follows .mixedOrders = true) (hd : ops.all noDefer = true) (hq : ¬ LetsOut Q)
    (h : wpAny P .any ops Q ops.size (Array.replicate ops.size false) a w.drew) : (Code.region id ops true).wpIn (Fence.wide.inRound l) n P Q a w :=
  wpIn_region_draw fun t => by
    simp only [Region.schedule, hm, Bool.true_or, if_true]
    exact opsIn_of_ops hd hq _ _ _ (wpAny_sound ops.size t _ a _ h)
theorem regionIn_of_held {l n id : Nat} {P : Program} {ops : Array Oper} {Q : Exit → Act → World → Prop} {a : Act} {w : World} (S : World → Prop) (hm : P.follows .mixedOrders = true) (hd : ops.all noDefer = true) (hq : ¬ LetsOut Q) (hS : S w.drew)
    (h : S w.drew → wpAnyH P .any ops Q S ops.size (Array.replicate ops.size false) a w.drew) : (Code.region id ops true).wpIn (Fence.wide.inRound l) n P Q a w :=
  regionIn_of_any hm hd hq (wpAny_of_held _ _ _ _ (h hS))
end Go.Proofs.Ytaccppchhljnkaa
