/- Joined: Fin, AShP, Show, AScript, LAtlasScript. No condition. -/
import Derived.Test.YtaccppchhljnkaaBase
import Derived.BigQuiet
import Derived.StillTail
import Derived.Test.YtaccppchhljnkaaAtPg
import Derived.Test.YtaccppchhljnkaaAtF
import Derived.Test.YtaccppchhljnkaaAwk
import Derived.Test.YtaccppchhljnkaaAtU
import Derived.Test.YtaccppchhljnkaaRows
import Derived.ProofKit
import Derived.OpenShut
import Derived.ShutString
import Derived.ChangeOld
import Derived.Below
/- A region that only reads, by the values that its operations come to: each operation is looked at once, over a look-up of values; the frame is put together once. -/
set_option linter.unusedVariables false
set_option linter.unusedSimpArgs false
namespace Go.Proofs.Ytaccppchhljnkaa
open Go.RowKit
/-- The frame behind a list of operations that come to these values. -/
def runA (a : Act) : List Oper → List Value → Act
  | o :: l, v :: vs => runA (a.put o.dst v) l vs
  | _, _ => a
/-- What a slot holds behind them. -/
def evF (a : Act) : List Oper → List Value → Tmp → Value
  | o :: l, v :: vs, t => if l.any (fun o' => o'.dst == some t) then evF a l vs t else if o.dst == some t then v else a.eval (.tmp t)
  | _, _, t => a.eval (.tmp t)
def evO (a : Act) (l : List Oper) (vs : List Value) : Operand → Value
  | .tmp t => evF a l vs t
  | x => a.eval x
def ssaB (ops : Array Oper) : List Oper → Bool
  | [] => true
  | o :: l => (o.looksAt ops).all (fun t => !(o :: l).any (fun o' => o'.dst == some t)) && ssaB ops l
/-- Each slot is written once. -/
def onceB : List Oper → Bool
  | [] => true
  | o :: l => (match o.dst with | some d => !l.any (fun o' => o'.dst == some d) | none => true) && onceB l
def insB (n : Nat) (l : List Oper) : Bool := l.all fun o => match o.dst with | some d => decide (d < n) | none => true
theorem runA_eval_out {x : Operand} : ∀ (l : List Oper) (vs : List Value) (a : Act), (∀ t, x = .tmp t → l.any (fun o' => o'.dst == some t) = false) → (runA a l vs).eval x = a.eval x
  | [], vs, a, _ => by cases vs <;> rfl
  | o :: l, [], a, _ => rfl
  | o :: l, v :: vs, a, h => by
    show (runA (a.put o.dst v) l vs).eval x = _
    rw [runA_eval_out l vs _ (fun t e => by have := h t e; simp only [List.any_cons, Bool.or_eq_false_iff] at this; exact this.2)]
    refine Act.eval_put fun d hd e => ?_
    have := h d e
    simp [hd] at this
theorem any_of {l : List Oper} {t : Tmp} (h : l.any (fun o' => o'.dst == some t) = true) : ∃ o ∈ l, o.dst = some t := by
  obtain ⟨o, h1, h2⟩ := List.any_eq_true.1 h
  exact ⟨o, h1, by simpa using h2⟩
theorem put_size (a : Act) (x : Option Tmp) (v : Value) : (a.put x v).tmps.size = a.tmps.size := by cases x <;> simp [Act.put]
theorem evF_out : ∀ (l : List Oper) (vs : List Value) (a : Act) (t : Tmp), l.any (fun o' => o'.dst == some t) = false → evF a l vs t = a.eval (.tmp t)
  | [], vs, a, t, _ => by cases vs <;> rfl
  | o :: l, [], a, t, _ => rfl
  | o :: l, v :: vs, a, t, h => by
    simp only [List.any_cons, Bool.or_eq_false_iff] at h
    show (if _ then _ else if _ then _ else _) = _
    rw [h.2, h.1]; rfl
theorem runA_eval : ∀ (l : List Oper) (vs : List Value) (a : Act) (t : Tmp), l.length = vs.length → insB a.tmps.size l = true → onceB l = true → (runA a l vs).eval (.tmp t) = evF a l vs t
  | [], [], a, t, _, _, _ => rfl
  | o :: l, v :: vs, a, t, hl, hi, h1 => by
    have hi' : insB (a.put o.dst v).tmps.size l = true := by
      rw [put_size]
      unfold insB at hi ⊢
      simp only [List.all_cons, Bool.and_eq_true] at hi
      exact hi.2
    simp only [onceB, Bool.and_eq_true] at h1
    show (runA (a.put o.dst v) l vs).eval (.tmp t) = _
    rw [runA_eval l vs _ t (by simpa using hl) hi' h1.2]
    show _ = (if _ then _ else if _ then _ else _)
    by_cases hL : l.any (fun o' => o'.dst == some t) = true
    · rw [if_pos hL]
      -- the values are the same whatever the slot held
      have : ∀ (l : List Oper) (vs : List Value) (a b : Act), l.length = vs.length → l.any (fun o' => o'.dst == some t) = true → evF a l vs t = evF b l vs t := by
        intro l
        induction l with
        | nil => intro vs a b _ h; simp at h
        | cons o l ih =>
          intro vs a b hl h
          cases vs with
          | nil => simp at hl
          | cons v vs =>
            show (if _ then _ else if _ then _ else _) = (if _ then _ else if _ then _ else _)
            by_cases hl2 : l.any (fun o' => o'.dst == some t) = true
            · rw [if_pos hl2, if_pos hl2]
              exact ih vs a b (by simpa using hl) hl2
            · rw [if_neg hl2, if_neg hl2]
              have h3 : (o.dst == some t) = true := by
                simp only [List.any_cons, Bool.or_eq_true] at h
                rcases h with h | h
                · exact h
                · exact absurd h hl2
              rw [if_pos h3, if_pos h3]
      exact this l vs _ _ (by simpa using hl) hL
    · rw [if_neg hL, evF_out l vs _ t (by simpa using hL)]
      by_cases hd : (o.dst == some t) = true
      · rw [if_pos hd]
        have hd' : o.dst = some t := by simpa using hd
        have hs : t < a.tmps.size := by
          unfold insB at hi
          simp only [List.all_cons, Bool.and_eq_true, hd'] at hi
          simpa using hi.1
        rw [hd']
        simp [Act.eval, Act.put, hs]
      · rw [if_neg hd]
        exact Act.eval_put fun d hd2 e => hd (by injection e with e; subst e; simp [hd2])
section
variable {P : Program} {ops : Array Oper} {C : World → Prop}
/-- What one operation comes to, over the look-up. -/
def StepOK (P : Program) (ops : Array Oper) (C : World → Prop) (ρ : Operand → Value) (o : Oper) (v : Value) : Prop :=
  ((match o.guard with | none => true | some (j, want) => match (ops[j]?).bind (·.dst) with | some t => (match ρ (.tmp t) with | .bool b => b == want | _ => false) | none => false) = true ∧ ∀ w, C w → Oper.quietUpon P C w v ((execOp ρ o).run P w)) ∨
  ((match o.guard with | none => true | some (j, want) => match (ops[j]?).bind (·.dst) with | some t => (match ρ (.tmp t) with | .bool b => b == want | _ => false) | none => false) = false ∧ v = undef)
def StepsOK (P : Program) (ops : Array Oper) (C : World → Prop) (ρ : Operand → Value) : List Oper → List Value → Prop
  | o :: l, v :: vs => StepOK P ops C ρ o v ∧ StepsOK P ops C ρ l vs
  | [], [] => True
  | _, _ => False
theorem StepsOK.cons {ρ : Operand → Value} {o : Oper} {v : Value} {l : List Oper} {vs : List Value} (h : StepOK P ops C ρ o v) (k : StepsOK P ops C ρ l vs) : StepsOK P ops C ρ (o :: l) (v :: vs) := ⟨h, k⟩
theorem StepsOK.nil {ρ : Operand → Value} : StepsOK P ops C ρ [] [] := trivial
theorem yield_ev (fin : Act) (j : Nat) (want : Bool) : (yielded ops fin.tmps j == some want) = (match (ops[j]?).bind (·.dst) with | some t => (match fin.eval (.tmp t) with | .bool b => b == want | _ => false) | none => false) := by
  unfold yielded
  cases h : (ops[j]?).bind (·.dst) with
  | none => simp
  | some t =>
    simp only [Option.bind_some, Act.eval]
    rw [Array.getD_eq_getD_getElem?]
    cases h2 : fin.tmps[t]? with
    | none => simp [undef]
    | some v => cases v <;> simp
theorem runA_same (o : Oper) (hs : ∀ cs b, o.op ≠ .select cs b) : ∀ (l : List Oper) (vs : List Value) (a : Act), (o.looksAt ops).all (fun t => !l.any (fun o' => o'.dst == some t)) = true →
    execOp (runA a l vs).eval o = execOp a.eval o ∧ Region.wanted o (yielded ops (runA a l vs).tmps) = Region.wanted o (yielded ops a.tmps)
  | [], vs, a, _ => by cases vs <;> exact ⟨rfl, rfl⟩
  | o' :: l, [], a, _ => ⟨rfl, rfl⟩
  | o' :: l, v :: vs, a, h => by
    have h2 : (o.looksAt ops).all (fun t => !l.any (fun o' => o'.dst == some t)) = true := by
      rw [List.all_eq_true] at h ⊢
      intro t ht
      have := h t ht
      simp only [List.any_cons, Bool.not_or, Bool.and_eq_true] at this
      exact this.2
    have h3 : ∀ d, o'.dst = some d → d ∉ o.looksAt ops := fun d hd hm => by
      rw [List.all_eq_true] at h
      have := h d hm
      simp [hd] at this
    obtain ⟨r1, r2⟩ := runA_same o hs l vs (a.put o'.dst v) h2
    exact ⟨r1.trans (execOp_put o hs a o'.dst v h3), r2.trans (wanted_put o a o'.dst v h3)⟩
theorem wpQuiet_runA {Q : Act → Prop} (L : List Oper) (VS : List Value) (A : Act) (hsel : ∀ o ∈ L, ∀ cs b, o.op ≠ .select cs b) (hlen : L.length = VS.length) (hins : insB A.tmps.size L = true) (honce : onceB L = true)
    (hssa : ssaB ops L = true) (hst : StepsOK P ops C (evO A L VS) L VS) (hQ : Q (runA A L VS)) : wpQuiet P ops C Q L A := by
  have key : (evO A L VS) = (runA A L VS).eval := by
    funext x
    cases x with
    | tmp t => exact (runA_eval L VS A t hlen hins honce).symm
    | _ => rfl
  rw [key] at hst
  generalize hfin : runA A L VS = fin at hst hQ
  clear key hins honce
  revert hsel hssa hst hlen
  revert hfin
  revert A VS
  induction L with
  | nil => intro VS A hfin _ _ _ _; cases VS <;> (subst hfin; exact hQ)
  | cons o l ih =>
    intro VS A hfin hsel hlen hssa hst
    cases VS with
    | nil => simp at hlen
    | cons v vs =>
      obtain ⟨h1, h2⟩ := hst
      simp only [ssaB, Bool.and_eq_true] at hssa
      have hfin' : runA (A.put o.dst v) l vs = fin := hfin
      have hs := hsel o (by simp)
      obtain ⟨e1, e2⟩ := runA_same (ops := ops) o hs (o :: l) (v :: vs) A hssa.1
      rw [hfin] at e1 e2
      have hrest : wpQuiet P ops C Q l (A.put o.dst v) := ih vs _ hfin' (fun o ho => hsel o (by simp [ho])) (by simpa using hlen) hssa.2 h2
      show if _ then _ else _
      rw [← e2]
      have hw : Region.wanted o (yielded ops fin.tmps) = (match o.guard with | none => true | some (j, want) => match (ops[j]?).bind (·.dst) with | some t => (match fin.eval (.tmp t) with | .bool b => b == want | _ => false) | none => false) := by
        unfold Region.wanted
        cases o.guard with
        | none => rfl
        | some p => exact yield_ev fin p.1 p.2
      rw [hw]
      rcases h1 with ⟨g1, g2⟩ | ⟨g1, rfl⟩
      · rw [if_pos g1]
        refine ⟨v, fun w hw => ?_, hrest⟩
        unfold Oper.quietAt
        rw [← e1]
        exact g2 w hw
      · rw [if_neg (by rw [g1]; decide)]
        exact hrest
theorem wp_region_fin {id : Nat} {Q : Exit → Act → World → Prop} {a : Act} {w : World} {l : List Oper} (vs : List Value) (hm : P.follows .mixedOrders = true) (hB : Region.lexB .any l.toArray = true)
    (hchk : (decide (l.length = vs.length) && (insB a.tmps.size l && (onceB l && ssaB l.toArray l))) = true) (hst : StepsOK P l.toArray (fun w' => ∃ n, w' = w.drewN n) (evO a l vs) l vs)
    (hQ : ∀ w', (∃ n, w' = w.drewN n) → Q .normal (runA a l vs) w') : (Code.region id l.toArray true).wp P Q a w := by
  simp only [Bool.and_eq_true, decide_eq_true_eq] at hchk
  obtain ⟨h1, h2, h3, h4⟩ := hchk
  have hns : Region.noSelect l.toArray = true := by
    unfold Region.lexB at hB
    simp only [Bool.and_eq_true] at hB
    exact hB.1
  refine wp_region_quiet_lit hm hB ?_
  refine wpQuiet_runA l vs a (fun o ho cs b => ?_) h1 h2 h3 h4 hst hQ
  obtain ⟨j, hj⟩ := List.mem_iff_getElem?.1 ho
  exact Region.noSelect_spec hns j o cs b (by simpa using hj)
theorem wp_have_lexB {id : Nat} {Q : Exit → Act → World → Prop} {a : Act} {w : World} {l : List Oper} (hB : Region.lexB .any l.toArray = true) (h : Region.lexB .any l.toArray = true → (Code.region id l.toArray true).wp P Q a w) : (Code.region id l.toArray true).wp P Q a w := h hB
theorem noSelect_lex {l : List Oper} (hB : Region.lexB .any l.toArray = true) : Region.noSelect l.toArray = true := by
  unfold Region.lexB at hB
  simp only [Bool.and_eq_true] at hB
  exact hB.1
/-- The same in any class of worlds. -/
theorem wp_region_finC {id : Nat} {Q : Exit → Act → World → Prop} {a : Act} {w : World} {l : List Oper} (vs : List Value) (C : World → Prop) (hm : P.follows .mixedOrders = true) (hB : Region.lexB .any l.toArray = true)
    (hchk : (decide (l.length = vs.length) && (insB a.tmps.size l && (onceB l && ssaB l.toArray l))) = true) (hC : C w.drew) (hst : StepsOK P l.toArray C (evO a l vs) l vs)
    (hQ : ∀ w', C w' → Q .normal (runA a l vs) w') : (Code.region id l.toArray true).wp P Q a w := by
  simp only [Bool.and_eq_true, decide_eq_true_eq] at hchk
  obtain ⟨h1, h2, h3, h4⟩ := hchk
  refine wp_region_quiet (C := C) hm hB hC ?_
  refine wpQuiet_runA l vs a (fun o ho cs b => ?_) h1 h2 h3 h4 hst hQ
  obtain ⟨j, hj⟩ := List.mem_iff_getElem?.1 ho
  exact Region.noSelect_spec (noSelect_lex hB) j o cs b (by simpa using hj)
theorem wpStill_of_quiet {w : World} {Q : Act → Prop} : ∀ (l : List Oper) (a : Act), wpQuiet P ops (fun w' => w' = w) Q l a → wpStill P ops w Q l a
  | [], a, h => h
  | o :: l, a, h => by
    show if _ then _ else _
    have h : if Region.wanted o (yielded ops a.tmps) = true then o.quiet P a (fun w' => w' = w) (wpQuiet P ops (fun w' => w' = w) Q l) else wpQuiet P ops (fun w' => w' = w) Q l (a.put o.dst undef) := h
    by_cases hw : Region.wanted o (yielded ops a.tmps) = true
    · rw [if_pos hw] at h ⊢
      obtain ⟨v, h1, h2⟩ := h
      have h3 := h1 w rfl
      unfold Oper.quietAt at h3
      unfold Oper.still
      cases hr : (execOp a.eval o).run P w with
      | ok nx w' =>
        rw [hr] at h3
        cases nx with
        | value u => obtain ⟨e1, e2⟩ := h3; exact ⟨e1, e2 ▸ wpStill_of_quiet l _ h2⟩
        | skip => obtain ⟨e1, e2⟩ := h3; exact ⟨e1, e2 ▸ wpStill_of_quiet l _ h2⟩
        | enter f args => obtain ⟨e1, e2⟩ := h3; exact ⟨e1, v, e2, wpStill_of_quiet l _ h2⟩
        | _ => exact h3.elim
      | halt h' w' => rw [hr] at h3; exact h3.elim
    · rw [if_neg hw] at h ⊢
      exact wpStill_of_quiet l _ h
/-- Reads, and what stands behind them in the text's order. -/
theorem wp_region_finT {id : Nat} {Q : Exit → Act → World → Prop} {a : Act} {w : World} {l : List Oper} (n : Nat) (vs : List Value) (hm : P.follows .mixedOrders = true) (hB : Region.lexTailB .any l.toArray n = true) (hns : Region.noSelect l.toArray = true)
    (hchk : (decide ((l.take n).length = vs.length) && (insB a.tmps.size (l.take n) && (onceB (l.take n) && ssaB l.toArray (l.take n)))) = true) (hst : StepsOK P l.toArray (fun w' => w' = w.drew) (evO a (l.take n) vs) (l.take n) vs)
    (hQ : wpList P l.toArray Q (l.drop n) (runA a (l.take n) vs) w.drew) : (Code.region id l.toArray true).wp P Q a w := by
  simp only [Bool.and_eq_true, decide_eq_true_eq] at hchk
  obtain ⟨h1, h2, h3, h4⟩ := hchk
  refine wp_region_still_tail n hm hB ?_
  refine wpStill_of_quiet _ _ ?_
  refine wpQuiet_runA (l.take n) vs a (fun o ho cs b => ?_) h1 h2 h3 h4 hst hQ
  obtain ⟨j, hj⟩ := List.mem_iff_getElem?.1 (List.mem_of_mem_take ho)
  exact Region.noSelect_spec hns j o cs b (by simpa using hj)
theorem cellD {w : World} {a : Addr} {v : Value} (h : w.cell? a = some v) : ∀ w', (∃ n, w' = w.drewN n) → w'.cell? a = some v := fun w' ⟨n, e⟩ => by rw [e]; exact h
/-! Kinds of operations. -/
section
variable {ρ : Operand → Value} {o : Oper} {v : Value}
def GuardIs (ops : Array Oper) (ρ : Operand → Value) (o : Oper) : Bool := match o.guard with | none => true | some (j, want) => match (ops[j]?).bind (·.dst) with | some t => (match ρ (.tmp t) with | .bool b => b == want | _ => false) | none => false
theorem ok_off (hg : GuardIs ops ρ o = false) (hv : v = undef) : StepOK P ops C ρ o v := .inr ⟨hg, hv⟩
theorem ok_run (hg : GuardIs ops ρ o = true) (hr : ∀ w, (execOp ρ o).run P w = .ok (.value v) w) : StepOK P ops C ρ o v := .inl ⟨hg, fun w _ => by rw [hr w]; exact ⟨rfl, rfl⟩⟩
theorem ok_eq {v0 : Value} (hg : GuardIs ops ρ o = true) (hr : ∀ w, (execOp ρ o).run P w = .ok (.value v0) w) (he : v0 = v) : StepOK P ops C ρ o v := ok_run hg (he ▸ hr)
theorem ok_load {t : TypeId} {x : Operand} {a : Addr} (hg : GuardIs ops ρ o = true) (ho : o.op = .load t x) (hx : ρ x = .pointer (some a)) (ht : ∀ w, (isAgg t).run P w = .ok false w) (hc : ∀ w, C w → w.cell? a = some v) : StepOK P ops C ρ o v :=
  .inl ⟨hg, fun w hw => by
    have : (execOp ρ o).run P w = .ok (.value v) w := by
      obtain ⟨dst, op, type, pos, after, guard⟩ := o
      obtain rfl : op = .load t x := ho
      simp [execOp, hx, Instr.loadAt, Instr.sureAddr, loadVar, ht w, hc w hw, Result.andThen]
    rw [this]; exact ⟨rfl, rfl⟩⟩
theorem ok_in {v : Value} (hg : GuardIs ops ρ o = true) (hr : ∀ w, C w → (execOp ρ o).run P w = .ok (.value v) w) : StepOK P ops C ρ o v := .inl ⟨hg, fun w hw => by rw [hr w hw]; exact ⟨rfl, rfl⟩⟩
theorem ok_call {f : FuncId} {args : Array Value} (hg : GuardIs ops ρ o = true) (hr : ∀ w, (execOp ρ o).run P w = .ok (.enter f args) w) (hk : ∀ w, C w → Calls P f args w (fun e w'' => e = .returned v ∧ C w'')) : StepOK P ops C ρ o v :=
  .inl ⟨hg, fun w hw => by rw [hr w]; exact ⟨rfl, hk w hw⟩⟩
theorem ok_loadRow {t u : TypeId} {x : Operand} {g : Nat} {cs : Array Value} {d : TypeDesc} {fr : Nat × Nat} (hg : GuardIs ops ρ o = true) (ho : o.op = .load t x) (hx : ρ x = .pointer (some ⟨g, 0, none⟩)) (hu : P.underlying t = some d) (hd : (match d with | .struct _ | .array _ _ => true | _ => false) = true) (hi : (P.info? t).map (·.size) = some cs.size)
    (hc : ∀ w, C w → w.heap[g]? = some (.cells cs u fr)) : StepOK P ops C ρ o (.agg cs) :=
  ok_in hg (fun w hw => by
    obtain ⟨dst, op, type, pos, after, guard⟩ := o
    obtain rfl : op = .load t x := ho
    simp [execOp, hx, Instr.loadAt, Instr.sureAddr, run_loadVar_row w g u t cs fr d (hc w hw) hu hd hi, Result.andThen])
theorem ok_strNe {t t' : TypeId} {x y : Operand} {k : ByteArray} (hg : GuardIs ops ρ o = true) (ho : o.op = .binOp .neq t x y t') (hx : ρ x = .string k) (hy : ρ y = .string k) : StepOK P ops C ρ o (.bool false) :=
  ok_in hg (fun w hw => by
    obtain ⟨dst, op, type, pos, after, guard⟩ := o
    obtain rfl : op = .binOp .neq t x y t' := ho
    simp [execOp, hx, hy, eqGuard, binOp, Op.stringOp, Result.andThen])
theorem ok_aggNe {t t' : TypeId} {x y : Operand} {A B : Array Value} (hg : GuardIs ops ρ o = true) (ho : o.op = .binOp .neq t x y t') (hx : ρ x = .agg A) (hy : ρ y = .agg B) (hge : ∀ w, (eqGuard .neq t x y (.agg A) (.agg B)).run P w = .ok () w) (he : ∀ w, (Op.equal t (.agg A) (.agg B)).run P w = .ok true w) : StepOK P ops C ρ o (.bool false) :=
  ok_in hg (fun w hw => by
    obtain ⟨dst, op, type, pos, after, guard⟩ := o
    obtain rfl : op = .binOp .neq t x y t' := ho
    simp [execOp, hx, hy, hge w, binOp, he w, Result.andThen])
theorem wpList_store_one {rest : List Oper} {a : Act} {w : World} {Q : Exit → Act → World → Prop} {t : TypeId} {x y : Operand} {ad : Addr} {v old : Value} (hgd : o.guard = none) (ho : o.op = .store t x y) (hd : o.dst = none) (hx : a.eval x = .pointer (some ad)) (hy : a.eval y = v)
    (hv : v.cells = #[v]) (hs : ∀ w, (sizeOf t).run P w = .ok 1 w) (hst : (store (ad.add 0) v).run P w = .ok () (w.setCell ad v)) (h : wpList P ops Q rest a (w.setCell ad v)) : wpList P ops Q (o :: rest) a w := by
  refine wpList_plain hgd fun K hK => ?_
  have : (execOp a.eval o).run P w = .ok (.value undef) (w.setCell ad v) ∨ (execOp a.eval o).run P w = .ok .skip (w.setCell ad v) := by
    obtain ⟨dst, op, type, pos, after, guard⟩ := o
    obtain rfl : op = .store t x y := ho
    simp [execOp, hx, hy, Instr.storeAt, Instr.sureAddr, storeVar, hs w, hv, storeCells, hst, Result.andThen]
  unfold Oper.wp
  rcases this with h1 | h1
  · rw [h1]
    have hk := hK _ _ h
    rw [show a = a.put o.dst undef by rw [hd]; rfl] at hk
    simpa [Oper.upon] using hk
  · rw [h1]
    have hk := hK _ _ h
    rw [show a = a.put o.dst undef by rw [hd]; rfl] at hk
    simpa [Oper.upon] using hk
end
end
end Go.Proofs.Ytaccppchhljnkaa

/- What a page shows, key by key, texel by texel: plain laws. -/
set_option linter.unusedVariables false
set_option linter.unusedSimpArgs false
namespace Go.Proofs.Ytaccppchhljnkaa
/-- The first keys alone. -/
def tkS (s : AtS) (i : Nat) : AtS := ⟨s.keys.take i, s.pl, s.fd, s.gone, s.l⟩
def wtF (w pad : Nat) (s : AtS) (i : Nat) (k : ByteArray) (n p : Nat) : Int := if inB w pad (s.at k) p ∧ ixB w pad (s.at k) p < n then (s.fd k).getD (ixB w pad (s.at k) p) 0 else pgF w pad (tkS s i) p
def wtL (w h pad : Nat) (s : AtS) (i : Nat) (k : ByteArray) (n : Nat) : List Int := (List.range (w * h)).map (wtF w pad s i k n)
theorem wtL_len (w h pad : Nat) (s : AtS) (i : Nat) (k : ByteArray) (n : Nat) : (wtL w h pad s i k n).length = w * h := by simp [wtL]
theorem wt_zero (w h pad : Nat) (s : AtS) (i : Nat) (k : ByteArray) : wtL w h pad s i k 0 = pgL w h pad (tkS s i) := by
  unfold wtL pgL
  refine List.map_congr_left (fun p _ => ?_)
  unfold wtF
  rw [if_neg (by omega)]
theorem tk_zero (w h pad : Nat) (s : AtS) : pgL w h pad (tkS s 0) = List.replicate (w * h) 0 := by
  unfold pgL
  refine List.ext_getElem (by simp) (fun p h1 h2 => ?_)
  rw [List.getElem_map, List.getElem_replicate]
  exact pg_out (fun k hk => by cases hk)
theorem tk_all (w h pad : Nat) (s : AtS) : pgL w h pad (tkS s s.keys.length) = pgL w h pad s := by
  unfold tkS
  rw [List.take_length]
/-- Where a texel of a field lies in the page. -/
theorem at_pos (w : Nat) (X Y m pad j p : Nat) (hm : 1 ≤ m) (hX : X + m + 2 * pad ≤ w) :
    p = (Y + pad + j / m) * w + (X + pad) + j % m ↔ (X + pad ≤ p % w ∧ p % w < X + pad + m ∧ Y + pad ≤ p / w ∧ (p / w - (Y + pad)) * m + (p % w - (X + pad)) = j) := by
  have hjm := Nat.div_add_mod j m
  have hjl := Nat.mod_lt j (show m > 0 by omega)
  have hd := Nat.div_add_mod p w
  constructor
  · intro h
    have e1 : p / w = Y + pad + j / m := by
      refine Nat.div_eq_of_lt_le ?_ ?_
      · omega
      · rw [Nat.add_mul, Nat.one_mul]; omega
    rw [e1, Nat.mul_comm] at hd
    have e2 : p % w = X + pad + j % m := by omega
    refine ⟨by omega, by omega, by rw [e1]; exact Nat.le_add_right _ _, ?_⟩
    rw [e1, e2, Nat.add_sub_cancel_left, Nat.add_sub_cancel_left, Nat.mul_comm]
    exact hjm
  · rintro ⟨h1, h2, h3, h4⟩
    have hlt : p % w - (X + pad) < m := by omega
    have e1 : j / m = p / w - (Y + pad) := by
      rw [← h4, Nat.mul_comm, Nat.mul_add_div (by omega), Nat.div_eq_of_lt hlt, Nat.add_zero]
    have e2 : j % m = p % w - (X + pad) := by
      rw [← h4, Nat.mul_comm, Nat.mul_add_mod, Nat.mod_eq_of_lt hlt]
    rw [e1, e2, show Y + pad + (p / w - (Y + pad)) = p / w from by omega, Nat.mul_comm]
    omega
theorem in_ix (w : Nat) (X Y m n pad p : Nat) : inB w pad ((X : Int), (Y : Int), (m : Int) + 2 * pad, (n : Int) + 2 * pad) p ↔ (X + pad ≤ p % w ∧ p % w < X + pad + m ∧ Y + pad ≤ p / w ∧ p / w < Y + pad + n) := by
  unfold inB
  constructor
  · rintro ⟨h1, h2, h3, h4⟩
    have h1 : (X : Int) + pad ≤ (p % w : Nat) := h1
    have h2 : ((p % w : Nat) : Int) < (X : Int) + ((m : Int) + 2 * pad) - pad := h2
    have h3 : (Y : Int) + pad ≤ (p / w : Nat) := h3
    have h4 : ((p / w : Nat) : Int) < (Y : Int) + ((n : Int) + 2 * pad) - pad := h4
    omega
  · rintro ⟨h1, h2, h3, h4⟩
    refine ⟨?_, ?_, ?_, ?_⟩
    · show (X : Int) + pad ≤ (p % w : Nat); omega
    · show ((p % w : Nat) : Int) < (X : Int) + ((m : Int) + 2 * pad) - pad; omega
    · show (Y : Int) + pad ≤ (p / w : Nat); omega
    · show ((p / w : Nat) : Int) < (Y : Int) + ((n : Int) + 2 * pad) - pad; omega
theorem ix_eq (w : Nat) (X Y m n pad p : Nat) (h : inB w pad ((X : Int), (Y : Int), (m : Int) + 2 * pad, (n : Int) + 2 * pad) p) : ixB w pad ((X : Int), (Y : Int), (m : Int) + 2 * pad, (n : Int) + 2 * pad) p = (p / w - (Y + pad)) * m + (p % w - (X + pad)) := by
  obtain ⟨h1, h2, h3, h4⟩ := (in_ix ..).1 h
  show (((p / w : Nat) : Int) - ((Y : Int) + pad)).toNat * ((m : Int) + 2 * pad - 2 * pad).toNat + (((p % w : Nat) : Int) - ((X : Int) + pad)).toNat = _
  rw [show (m : Int) + 2 * (pad : Int) - 2 * pad = (m : Int) from by omega, Int.toNat_natCast, show ((p / w : Nat) : Int) - ((Y : Int) + pad) = ((p / w - (Y + pad) : Nat) : Int) from by omega, show ((p % w : Nat) : Int) - ((X : Int) + pad) = ((p % w - (X + pad) : Nat) : Int) from by omega, Int.toNat_natCast, Int.toNat_natCast]
theorem wt_step {w h pad : Nat} {s : AtS} {i : Nat} {k : ByteArray} {X Y m n j : Nat} {x : Int} (hr : s.at k = ((X : Int), (Y : Int), (m : Int) + 2 * pad, (n : Int) + 2 * pad)) (hm : 1 ≤ m) (hX : X + m + 2 * pad ≤ w) (hj : j < m * n) (hx : (s.fd k)[j]? = some x) :
    (wtL w h pad s i k j).set ((Y + pad + j / m) * w + (X + pad) + j % m) x = wtL w h pad s i k (j + 1) := by
  refine list_ext_getD (by simp [wtL]) (fun p hp => ?_)
  have hp' : p < w * h := by simpa [wtL] using hp
  have hg : ∀ c, (wtL w h pad s i k c).getD p 0 = wtF w pad s i k c p := fun c => by
    rw [List.getD_eq_getElem?_getD, List.getElem?_eq_getElem (by rw [wtL_len]; exact hp')]
    simp [wtL]
  have hpos := at_pos w X Y m pad j p hm hX
  rw [hg, List.getD_eq_getElem?_getD, List.getElem?_set]
  have hjn : j / m < n := Nat.div_lt_of_lt_mul hj
  by_cases e : p = (Y + pad + j / m) * w + (X + pad) + j % m
  · rw [if_pos e.symm, if_pos (by rw [wtL_len, ← e]; exact hp')]
    obtain ⟨h1, h2, h3, h4⟩ := hpos.1 e
    have hin : inB w pad (s.at k) p := by
      rw [hr, in_ix]
      refine ⟨h1, h2, h3, ?_⟩
      have hlt : p % w - (X + pad) < m := by omega
      have : j / m = p / w - (Y + pad) := by
        rw [← h4, Nat.mul_comm, Nat.mul_add_div (by omega), Nat.div_eq_of_lt hlt, Nat.add_zero]
      omega
    have hix : ixB w pad (s.at k) p = j := by
      rw [hr] at hin ⊢
      rw [ix_eq _ _ _ _ _ _ _ hin]; exact h4
    unfold wtF
    rw [hix, if_pos ⟨hin, by omega⟩, List.getD_eq_getElem?_getD, hx]
  · rw [if_neg (fun h => e h.symm), ← List.getD_eq_getElem?_getD, hg]
    unfold wtF
    by_cases hin : inB w pad (s.at k) p
    · have hne : ixB w pad (s.at k) p ≠ j := fun hix => by
        rw [hr] at hin hix
        obtain ⟨h1, h2, h3, h4⟩ := (in_ix ..).1 hin
        rw [ix_eq _ _ _ _ _ _ _ hin] at hix
        exact e (hpos.2 ⟨h1, h2, h3, hix⟩)
      by_cases hl : ixB w pad (s.at k) p < j
      · rw [if_pos ⟨hin, hl⟩, if_pos ⟨hin, by omega⟩]
      · rw [if_neg (fun h => hl h.2), if_neg (fun h => by have := h.2; omega)]
    · rw [if_neg (fun h => hin h.1), if_neg (fun h => hin h.1)]
theorem wt_end {w h pad : Nat} {s : AtS} (hI : AtI w h pad s) {i : Nat} {k : ByteArray} (hi : s.keys[i]? = some k) {X Y m n : Nat} (hr : s.at k = ((X : Int), (Y : Int), (m : Int) + 2 * pad, (n : Int) + 2 * pad)) (hm : 1 ≤ m) :
    wtL w h pad s i k (m * n) = pgL w h pad (tkS s (i + 1)) := by
  have hil : i < s.keys.length := by
    by_cases c : i < s.keys.length
    · exact c
    · rw [List.getElem?_eq_none (by omega)] at hi; cases hi
  have hks : s.keys.take (i + 1) = s.keys.take i ++ [k] := by
    rw [List.take_add_one, hi]; rfl
  have hkm : k ∈ s.keys := List.mem_of_getElem? hi
  unfold wtL pgL
  refine List.map_congr_left (fun p _ => ?_)
  unfold wtF
  have hone : ∀ q ∈ s.keys.take i, inB w pad (s.at k) p → ¬ inB w pad (s.at q) p := fun q hq h1 h2 => by
    have e := in_one hI hkm (List.mem_of_mem_take hq) h1 h2
    subst e
    have hnd := hI.nd
    have h9 : (s.keys.take (i + 1)).Nodup := hnd.sublist (List.take_sublist _ _)
    rw [hks, List.nodup_append] at h9
    exact h9.2.2 _ hq _ (List.mem_singleton.2 rfl) rfl
  have hf : pgF w pad (tkS s (i + 1)) p = match (s.keys.take i ++ [k]).find? (fun k => decide (inB w pad (s.at k) p)) with
    | some k => (s.fd k).getD (ixB w pad (s.at k) p) 0
    | none => 0 := by
    rw [← hks]; rfl
  rw [hf, List.find?_append]
  by_cases hin : inB w pad (s.at k) p
  · have h0 : (s.keys.take i).find? (fun k => decide (inB w pad (s.at k) p)) = none := by
      rw [List.find?_eq_none]
      intro q hq
      simpa using hone q hq hin
    have hlt : ixB w pad (s.at k) p < m * n := by
      rw [hr] at hin ⊢
      obtain ⟨h1, h2, h3, h4⟩ := (in_ix ..).1 hin
      rw [ix_eq _ _ _ _ _ _ _ hin]
      have h5 : p / w - (Y + pad) + 1 ≤ n := by omega
      have h6 := Nat.mul_le_mul_right m h5
      rw [Nat.add_mul, Nat.one_mul] at h6
      rw [Nat.mul_comm m n]
      omega
    rw [if_pos ⟨hin, hlt⟩, h0, Option.none_or, List.find?_cons_of_pos (by simpa using hin)]
  · rw [if_neg (fun h => hin h.1)]
    have h1 : [k].find? (fun k => decide (inB w pad (s.at k) p)) = none := by
      rw [List.find?_eq_none]
      intro q hq
      rw [List.mem_singleton.1 hq]
      simpa using hin
    rw [h1, Option.or_none]
    rfl
end Go.Proofs.Ytaccppchhljnkaa

/- The model and its atlas show the same. -/
set_option linter.unusedVariables false
set_option linter.unusedSimpArgs false
namespace Go.Proofs.Ytaccppchhljnkaa
open Go.RowKit Go.Shelf Go.Proofs.YtaccppchhljnkaaW.PrintWords Go.Proofs.YtaccppchhljnkaaW.PrintLast Go.Proofs.YtaccppchhljnkaaW.PrintMore
/-- What a walk of 'shows' reads of the model, at any world behind which nothing of it is written. -/
structure ShF (w : World) (bm W H pad K G : Nat) (s : AtS) (Ak : Option Addr) (ck : Nat) (Ag : Option Addr) (cg bP bF : Nat) : Prop where
  cell : ∀ w', Below w.heap.size w w' → w'.cell? ⟨bm, 0, none⟩ = some (.int .i64 W) ∧ w'.cell? ⟨bm, 1, none⟩ = some (.int .i64 H) ∧ w'.cell? ⟨bm, 2, none⟩ = some (.int .i64 pad) ∧ w'.cell? ⟨bm, 4, none⟩ = some (.slice Ak K ck) ∧ w'.cell? ⟨bm, 5, none⟩ = some (.map (some bP)) ∧ w'.cell? ⟨bm, 6, none⟩ = some (.map (some bF)) ∧ w'.cell? ⟨bm, 7, none⟩ = some (.slice Ag G cg)
  ks : ∀ w', Below w.heap.size w w' → SlO w' 9 1 (.slice Ak K ck) K (s.keys.map Value.string)
  gs : ∀ w', Below w.heap.size w w' → SlO w' 9 1 (.slice Ag G cg) G (s.gone.map Value.string)
  lp : ∀ w', Below w.heap.size w w' → ∀ k ∈ s.keys, (Instr.lookup 30 (.map (some bP)) (.string k) false).run Try.prog w' = .ok (Er (s.at k)) w'
  lf : ∀ k ∈ s.keys, ∀ m n : Nat, (s.at k).2.2.1 = (m : Int) + 2 * pad → (s.at k).2.2.2 = (n : Int) + 2 * pad → (s.fd k).length = m * n → ∃ A cap, ∀ w', Below w.heap.size w w' → (Instr.lookup 31 (.map (some bF)) (.string k) false).run Try.prog w' = .ok (Ef m n (.slice A (m * n) cap)) w' ∧ SlO w' 5 1 (.slice A (m * n) cap) (m * n) ((s.fd k).map (Value.int .u8))
theorem zeroFld (w : World) : (zeroValue 44).run Try.prog w = .ok (Ef 0 0 (.slice none 0 0)) w := by kernel_rfl
theorem shF_of {P : Nat → Prop} {W0 w : World} {b bm W H pad : Nat} {s : AtS} {F : ByteArray → Option FV} (h : Two P W0 w b bm W H pad s s F) {K G : Nat} (hK : s.keys.length = K) (hG : s.gone.length = G) :
    ∃ Ak ck Ag cg bP bF, K ≤ ck ∧ G ≤ cg ∧ ShF w bm W H pad K G s Ak ck Ag cg bP bF := by
  obtain ⟨c, cm, g1, g2, g3, g4, g5, g6⟩ := h
  obtain ⟨Ak, ck, ek, hck⟩ := g2.raw.ks.isSlice
  obtain ⟨Ag, cg, eg, hcg⟩ := g2.raw.gs.isSlice
  rw [hK] at ek hck
  rw [hG] at eg hcg
  have hkl := g1.kl
  refine ⟨Ak, ck, Ag, cg, cm.bP, cm.bF, hck, hcg, fun w' hb => ?_, fun w' hb => ?_, fun w' hb => ?_, fun w' hb k hk => ?_, fun k hk m n e1 e2 e3 => ?_⟩
  · obtain ⟨c0, c1, c2, c3, c4, c5, c6, c7⟩ := (g2.below hb).raw.cell
    rw [ek] at c4
    rw [eg] at c7
    exact ⟨c0, c1, c2, c4, c5, c6, c7⟩
  · have := (g2.below hb).raw.ks
    rw [ek, hK] at this
    exact this
  · have := (g2.below hb).raw.gs
    rw [eg, hG] at this
    exact this
  · have := (g2.below hb).raw.mp.look Try.strKeyed Try.underlying30 (zeroRect w') (key_of (hkl k hk))
    rw [this, g1.inv.hasPl hk]
    rfl
  · have hs : (F k).isSome = true := (g2.fk k).2 hk
    obtain ⟨x, hx⟩ := Option.isSome_iff_exists.1 hs
    obtain ⟨A, nn, cap, x1, x2, x3, x4, x5, x6⟩ := g6 k x hx
    obtain rfl : m * n = nn := by rw [← x4, e3]
    refine ⟨A, cap, fun w' hb => ⟨?_, ?_⟩⟩
    · have := (g2.below hb).raw.mf.look Try.strKeyed Try.underlying31 (zeroFld w') (key_of (hkl k hk))
      rw [this, hx]
      show Result.ok (Ev x) w' = _
      unfold Ev
      rw [x1, x2, x3, e1, e2, show (m : Int) + 2 * (pad : Int) - 2 * pad = m from by omega, show (n : Int) + 2 * (pad : Int) - 2 * pad = n from by omega]
    · exact x5.kept (Kept.of_below (fun _ => False) hb) (fun _ _ h => h)
section
variable {P : Program} {ops : Array Oper} {o : Oper} {a : Act} {w w' : World} {K : Act → World → Prop} {Q : Exit → Act → World → Prop} {v : Value}
theorem ready_run (hw : Region.wanted o (yielded ops a.tmps) = true) (hr : (execOp a.eval o).run P w = .ok (.value v) w' ∨ ((execOp a.eval o).run P w = .ok .skip w' ∧ v = undef)) (h : K (a.put o.dst v) w') :
    if Region.wanted o (yielded ops a.tmps) = true then Oper.wp P o a w K Q else K (a.put o.dst undef) w := by
  rw [if_pos hw]
  unfold Oper.wp
  rcases hr with hr | ⟨hr, rfl⟩
  · rw [hr]; simp only [Oper.upon]; exact h
  · rw [hr]; simp only [Oper.upon]; exact h
theorem AllReadyH.kons {md : Region.Mode} {S : World → Prop} {fuel : Nat} {listed : Array Bool} {i : Nat} {rs : List Nat} (ho : (ops[i]?).isSome = true)
    (h : ∀ K' : Act → World → Prop, Shut (∀ a w, S w → (S w → wpAnyH P md ops Q S fuel (listed.setIfInBounds i true) a w) → K' a w) → if Region.wanted (ops.getD i default) (yielded ops a.tmps) = true then Oper.wp P (ops.getD i default) a w K' Q else K' (a.put (ops.getD i default).dst undef) w)
    (hs : AllReadyH P md ops Q S fuel listed a w rs) : AllReadyH P md ops Q S fuel listed a w (i :: rs) :=
  AllReadyH.cons (o := ops.getD i default) (by
    obtain ⟨x, hx⟩ := Option.isSome_iff_exists.1 ho
    rw [Array.getD_eq_getD_getElem?, hx]; rfl) h hs
theorem AllReadyH.go {md : Region.Mode} {S : World → Prop} {fuel : Nat} {listed : Array Bool} {i : Nat} (ho : (ops[i]?).isSome = true) (hw : Region.wanted (ops.getD i default) (yielded ops a.tmps) = true)
    (hr : (execOp a.eval (ops.getD i default)).run P w = .ok (.value v) w' ∨ ((execOp a.eval (ops.getD i default)).run P w = .ok .skip w' ∧ v = undef)) (hS : S w')
    (h : wpAnyH P md ops Q S fuel (listed.setIfInBounds i true) (a.put (ops.getD i default).dst v) w') : AllReadyH P md ops Q S fuel listed a w [i] :=
  AllReadyH.kons ho (fun K hK => ready_run hw hr (hK.out _ _ hS (fun _ => h))) AllReadyH.nil
theorem AllReadyH.split {md : Region.Mode} {S : World → Prop} {fuel : Nat} {listed : Array Bool} {i : Nat} {rs : List Nat} (h : AllReadyH P md ops Q S fuel listed a w [i]) (hs : AllReadyH P md ops Q S fuel listed a w rs) : AllReadyH P md ops Q S fuel listed a w (i :: rs) := fun j hj => by
  rcases List.mem_cons.1 hj with rfl | hj
  · exact h _ (by simp)
  · exact hs j hj
theorem store_exec {t : TypeId} {x y : Operand} {g : Nat} {cs : Array Value} (ho : o.op = .store t x y) (hx : a.eval x = .pointer (some ⟨g, 0, none⟩)) (hy : a.eval y = .agg cs) (hst : (Instr.storeAt t (.pointer (some ⟨g, 0, none⟩)) (.agg cs)).run P w = .ok () w') :
    (execOp a.eval o).run P w = .ok .skip w' := by
  obtain ⟨dst, op, type, pos, after, guard⟩ := o
  obtain rfl : op = .store t x y := ho
  simp [execOp, hx, hy, hst, Result.andThen]
theorem load_exec {t : TypeId} {x : Operand} {ad : Addr} (ho : o.op = .load t x) (hx : a.eval x = .pointer (some ad)) (ht : ∀ w, (isAgg t).run P w = .ok false w) (hc : w.cell? ad = some v) : (execOp a.eval o).run P w = .ok (.value v) w := by
  obtain ⟨dst, op, type, pos, after, guard⟩ := o
  obtain rfl : op = .load t x := ho
  simp [execOp, hx, Instr.loadAt, Instr.sureAddr, loadVar, ht w, hc, Result.andThen]
theorem look_exec {t : TypeId} {x y : Operand} {m k : Value} (ho : o.op = .lookup t x y false) (hx : a.eval x = m) (hy : a.eval y = k) (hl : (Instr.lookup t m k false).run P w = .ok v w) : (execOp a.eval o).run P w = .ok (.value v) w := by
  obtain ⟨dst, op, type, pos, after, guard⟩ := o
  obtain rfl : op = .lookup t x y false := ho
  simp [execOp, hx, hy, hl, Result.andThen]
theorem store_row {g : Nat} {t : TypeId} {cs old : Array Value} (hb : w.heap[g]? = some (.cells old t (0, 0))) (hn : cs.size = old.size) (hs : ∀ w, (sizeOf t).run P w = .ok cs.size w) (h1 : ∀ v ∈ cs.toList, v.oneCell' = true) :
    ∃ w', (Instr.storeAt t (.pointer (some ⟨g, 0, none⟩)) (.agg cs)).run P w = .ok () w' ∧ w'.heap[g]? = some (.cells cs t (0, 0)) ∧ Kept (· = g) w w' := by
  have h := run_storeCells_at P g 0 t cs.toList 0 old w hb (by simp [hn]) h1
  have e : (old.toList.take (0 + 0) ++ cs.toList ++ old.toList.drop (0 + 0 + cs.toList.length)).toArray = cs := by
    rw [List.drop_eq_nil_of_le (by simp [hn])]
    simp
  rw [e] at h
  refine ⟨_, ?_, setRow_heap w g old cs t (0, 0) hb, rfl, rfl, rfl, by simp, fun k _ hk => setRow_other w g k cs hk⟩
  simp [Instr.storeAt, Instr.sureAddr, storeVar, Value.cells, hs w, h, Result.andThen]
end
theorem store_rect {w : World} {g : Nat} (x y m n : Int) (hb : w.heap[g]? = some (.cells #[.int .i64 0, .int .i64 0, .int .i64 0, .int .i64 0] 39 (0, 0))) :
    ∃ w', (Instr.storeAt 39 (.pointer (some ⟨g, 0, none⟩)) (.agg #[.int .i64 x, .int .i64 y, .int .i64 m, .int .i64 n])).run Try.prog w = .ok () w' ∧ w'.heap[g]? = some (.cells #[.int .i64 x, .int .i64 y, .int .i64 m, .int .i64 n] 39 (0, 0)) ∧ Kept (· = g) w w' :=
  store_row hb (by simp) (fun _ => by kernel_rfl) (by simp [Value.oneCell'])
theorem store_field {w : World} {g : Nat} (m n : Int) (A : Option Addr) (N cf : Nat) (hb : w.heap[g]? = some (.cells #[.int .i64 0, .int .i64 0, .slice none 0 0] 44 (0, 0))) :
    ∃ w', (Instr.storeAt 44 (.pointer (some ⟨g, 0, none⟩)) (.agg #[.int .i64 m, .int .i64 n, .slice A N cf])).run Try.prog w = .ok () w' ∧ w'.heap[g]? = some (.cells #[.int .i64 m, .int .i64 n, .slice A N cf] 44 (0, 0)) ∧ Kept (· = g) w w' :=
  store_row hb (by simp) (fun _ => by kernel_rfl) (by simp [Value.oneCell'])
theorem cellB {w : World} {a : Addr} {v : Value} (h : w.cell? a = some v) : ∀ w', Below w.heap.size w w' → w'.cell? a = some v := fun w' hb => pw_cell_below hb h
theorem heapB {w : World} {g : Nat} {o : Obj} (h : w.heap[g]? = some o) : ∀ w', Below w.heap.size w w' → w'.heap[g]? = some o := fun w' hb => (hb.block g (lt_in h)).trans h
theorem eqRectS (w : World) (x y m n : Int) : (Op.equal 39 (.agg #[.int .i64 x, .int .i64 y, .int .i64 m, .int .i64 n]) (.agg #[.int .i64 x, .int .i64 y, .int .i64 m, .int .i64 n])).run Try.prog w = .ok true w := by
  have := eqRect 9998 w x x y y m m n n
  simpa [Op.equal, Op.maxDepth] using this
theorem index_one {P : Program} {t e : TypeId} {g K c i : Nat} (hu : P.underlying t = some (.slice e)) (hs : ∀ w, (sizeOf e).run P w = .ok 1 w) (hi : i < K) (w : World) : (Instr.indexAt t (.slice (some ⟨g, 0, none⟩) K c) (.int .i64 (i : Int))).run P w = .ok (.pointer (some ⟨g, i, none⟩)) w := by
  have h1 : (0 : Int) ≤ (i : Int) := by omega
  have h2 : (i : Int) < (K : Int) := by omega
  simp [Instr.indexAt, asIntOf, run_underlying hu, h1, h2, hs w, Addr.add, Result.andThen]
  rw [if_pos hi]
  by_cases h0 : i = 0
  · subst h0; simp
  · simp [h0]
section
variable {P : Program} {ops : Array Oper} {C : World → Prop} {ρ : Operand → Value} {o : Oper} {v : Value}
theorem ok_index {t : TypeId} {x y : Operand} {X Y : Value} (hg : GuardIs ops ρ o = true) (ho : o.op = .indexAddr t x y) (hx : ρ x = X) (hy : ρ y = Y) (hr : ∀ w, (Instr.indexAt t X Y).run P w = .ok v w) : StepOK P ops C ρ o v :=
  ok_run hg (fun w => by
    obtain ⟨dst, op, type, pos, after, guard⟩ := o
    obtain rfl : op = .indexAddr t x y := ho
    simp [execOp, hx, hy, hr w, Result.andThen])
theorem ok_bin {t t' : TypeId} {b : BinOp} {x y : Operand} {X Y : Value} (hg : GuardIs ops ρ o = true) (ho : o.op = .binOp b t x y t') (hx : ρ x = X) (hy : ρ y = Y) (hge : ∀ w, (eqGuard b t x y X Y).run P w = .ok () w) (hr : ∀ w, (binOp b t X Y).run P w = .ok v w) : StepOK P ops C ρ o v :=
  ok_run hg (fun w => by
    obtain ⟨dst, op, type, pos, after, guard⟩ := o
    obtain rfl : op = .binOp b t x y t' := ho
    simp [execOp, hx, hy, hge w, hr w, Result.andThen])
end
theorem cellE {w : World} {a : Addr} {v : Value} (h : w.cell? a = some v) : ∀ w', w' = w.drew → w'.cell? a = some v := fun w' e => by rw [e]; exact h
theorem store_u8 {P : Program} {w : World} {g i : Nat} {x : Int} {cs : Array Value} {t : TypeId} (hb : w.heap[g]? = some (.cells cs t (0, 0))) (hi : i < cs.size) : (store ((⟨g, i, none⟩ : Addr).add 0) (.int .u8 x)).run P w = .ok () (w.setCell ⟨g, i, none⟩ (.int .u8 x)) := by
  have hadd : (⟨g, i, none⟩ : Addr).add 0 = ⟨g, i, none⟩ := by unfold Addr.add; split <;> simp_all
  have hcell : w.cell? ⟨g, i, none⟩ = some cs[i] := by simp [World.cell?, hb, hi]
  have hfro : w.frozen? ⟨g, i, none⟩ = false := by simp [World.frozen?, hb]
  rw [hadd, run_store P w _ (.int .u8 x) _ rfl, hcell]
  simp [hfro]
theorem obj_ne2 {W : World} {x y : Nat} {c1 c2 : Array Value} {t1 t2 : TypeId} {f1 f2 : Nat × Nat} (h1 : W.heap[x]? = some (.cells c1 t1 f1)) (h2 : W.heap[y]? = some (.cells c2 t2 f2)) (hne : t1 ≠ t2) : x ≠ y :=
  obj_ne h1 h2 (fun h => by injection h with _ h _; exact hne h)
set_option maxHeartbeats 8000000 in
set_option maxRecDepth 100000 in
theorem shows_c {P : Nat → Prop} {W0 w : World} {b bm W H pad : Nat} {s : AtS} {F : ByteArray → Option FV} (h : Two P W0 w b bm W H pad s s F) (hgl : s.gone.length ≤ 1000) :
    Calls Try.prog 22 #[.pointer (some ⟨bm, 0, none⟩), .pointer (some ⟨b, 0, none⟩)] w fun e w' => e = .returned (.bool true) ∧ Below w.heap.size w w' := by
  have hdim : (1 ≤ W ∧ W ≤ 64) ∧ (1 ≤ H ∧ H ≤ 64) ∧ pad ≤ 4 := by
    obtain ⟨c, cm, g1, _⟩ := h
    exact ⟨g1.w1, g1.h1, g1.p4⟩
  obtain ⟨hw1, hh1, hp4⟩ := hdim
  obtain ⟨K, hK⟩ : ∃ K, s.keys.length = K := ⟨_, rfl⟩
  obtain ⟨G, hG⟩ : ∃ G, s.gone.length = G := ⟨_, rfl⟩
  obtain ⟨Ak, ck, Ag, cg, bP, bF, hck, hcg, hsh⟩ := shF_of h hK hG
  have hK32 : K ≤ 32 := by rw [← hK]; exact h.on.inv.le
  rw [hG] at hgl
  obtain ⟨T, hT⟩ : ∃ T, W * H = T := ⟨_, rfl⟩
  have hT4 : T ≤ 4096 := by rw [← hT]; exact Nat.le_trans (Nat.mul_le_mul hw1.2 hh1.2) (by decide)
  have H0 := Lib.hid h; have SH := Lib.hid hsh; have HK := Lib.hid hK; have HG := Lib.hid hG; have HTT := Lib.hid hT
  have HIV := Lib.hid h.on.inv; have HKL := Lib.hid h.on.kl
  have wt : IntKind.i64.wrap ((W : Int) * (H : Int)) = (T : Int) := by rw [← Int.natCast_mul, hT, IntKind.wrap_i64]; omega
  have hmk : ∀ W', (Instr.makeSlice 42 (.int .i64 (T : Int)) (.int .i64 (T : Int))).run Try.prog W' = .ok (.slice (some ⟨W'.heap.size, 0, none⟩) T T) (W'.alloc (.cells (Array.replicate T (.int .u8 0)) 5)) := fun W' => make8 T (by omega) W'
  clear h hsh hK hG hT
  go_enter Try.func22, Try.ntmps22
  go_wp2_with fail
  refine (keys_on H0.out.on).mono ?_
  rintro e w1 ⟨v1, rfl, hs1, hb1, -, -⟩
  obtain ⟨A1, c1, rfl, hc1⟩ := hs1.isSlice
  rw [HK.out] at hs1 hc1 ⊢
  have B1 := Lib.hid hb1; have S1 := Lib.hid hs1
  clear hs1 hb1
  go_wp2_with fail
  refine (gone_on (H0.out.below B1.out).on (by rw [HG.out]; omega)).mono ?_
  rintro e w2 ⟨v2, rfl, hs2, hb2, -, -⟩
  obtain ⟨A2, c2, rfl, hc2⟩ := hs2.isSlice
  rw [HG.out] at hs2 hc2 ⊢
  have B2 := Lib.hid (below_step B1.out hb2); have S2 := Lib.hid hs2
  replace S1 := Lib.hid (S1.out.kept (Kept.of_below (fun _ => False) hb2) (fun _ _ h => h))
  clear hs2 hb2 B1
  go_wp2_with fail
  refine (page_on (H0.out.below B2.out).on).mono ?_
  rintro e w3 ⟨A3, c3, rfl, hs3, hb3, -, -⟩
  rw [HTT.out] at hs3 ⊢
  obtain ⟨_, _, e4, hc3⟩ := hs3.isSlice
  injection e4 with e5 e6 e7
  subst e5 e7
  unfold Ef
  have bb3 := below_alloc hb3 (.cells #[.int .i64 W, .int .i64 H, .slice A3 T c3] 44)
  have G3 := heap_alloc_new w3 (.cells #[.int .i64 W, .int .i64 H, .slice A3 T c3] 44)
  have B4 := Lib.hid (below_step B2.out bb3)
  have hk3 := Kept.of_below (fun _ => False) (below_alloc (Below.refl _ w3) (.cells #[.int .i64 W, .int .i64 H, .slice A3 T c3] 44))
  have S3 := Lib.hid (hs3.kept hk3 (fun _ _ h => h))
  replace S1 := Lib.hid (S1.out.kept (Kept.of_below (fun _ => False) bb3) (fun _ _ h => h))
  replace S2 := Lib.hid (S2.out.kept (Kept.of_below (fun _ => False) bb3) (fun _ _ h => h))
  clear hs3 hb3 e6 bb3 hk3 B2
  go_upto_region 2 with (fail)
  generalize w3.alloc (.cells #[.int .i64 W, .int .i64 H, .slice A3 T c3] 44) = w4 at *
  generalize w3.heap.size = b7 at *
  have p0 : w4.cell? ⟨b7, 0, none⟩ = some (.int .i64 W) := (blk_cell G3 0).trans rfl
  have p1 : w4.cell? ⟨b7, 1, none⟩ = some (.int .i64 H) := (blk_cell G3 1).trans rfl
  have p2 : w4.cell? ⟨b7, 2, none⟩ = some (.slice A3 T c3) := (blk_cell G3 2).trans rfl
  obtain ⟨m0, m1, m2, m4, m5, m6, m7⟩ := SH.out.cell w4 B4.out
  have n1 : ((K : Int) != (K : Int)) = false := by simp
  have n2 : ((G : Int) != (G : Int)) = false := by simp
  have n3 : ((W : Int) != (W : Int)) = false := by simp
  have n4 : ((H : Int) != (H : Int)) = false := by simp
  have n5 : ((T : Int) != (T : Int)) = false := by simp
  go_cut [77] from 27 to 77 (fun v77 wc => v77 = .bool false ∧ ∃ nq, wc = w4.drewN nq)
  case first =>
    rename_i J1 K1 hJ1 hK1
    refine wp_region_fin (vs := [(.slice A1 K c1), (.int .i64 ((K : Int))), (.pointer (some ⟨bm, 0, none⟩)), (.pointer (some ⟨bm, 0, none⟩)), (.pointer (some ⟨bm, 4, none⟩)), (.slice Ak K ck), (.int .i64 ((K : Int))), (.bool false), (.bool false), (.slice A2 G c2), (.int .i64 ((G : Int))), (.pointer (some ⟨bm, 0, none⟩)), (.pointer (some ⟨bm, 0, none⟩)), (.pointer (some ⟨bm, 7, none⟩)), (.slice Ag G cg), (.int .i64 ((G : Int))), (.bool false), (.bool false), (.bool false), (.pointer (some ⟨b7, 0, none⟩)), (.int .i64 ((W : Int))), (.pointer (some ⟨bm, 0, none⟩)), (.pointer (some ⟨bm, 0, none⟩)), (.pointer (some ⟨bm, 0, none⟩)), (.int .i64 ((W : Int))), (.bool false), (.bool false), (.bool false), (.pointer (some ⟨b7, 1, none⟩)), (.int .i64 ((H : Int))), (.pointer (some ⟨bm, 0, none⟩)), (.pointer (some ⟨bm, 0, none⟩)), (.pointer (some ⟨bm, 1, none⟩)), (.int .i64 ((H : Int))), (.bool false), (.bool false), (.bool false), (.pointer (some ⟨b7, 2, none⟩)), (.slice A3 T c3), (.int .i64 ((T : Int))), (.pointer (some ⟨bm, 0, none⟩)), (.pointer (some ⟨bm, 0, none⟩)), (.pointer (some ⟨bm, 0, none⟩)), (.int .i64 ((W : Int))), (.pointer (some ⟨bm, 0, none⟩)), (.pointer (some ⟨bm, 0, none⟩)), (.pointer (some ⟨bm, 1, none⟩)), (.int .i64 ((H : Int))), (.int .i64 ((T : Int))), (.bool false), (.bool false)]) (by kernel_rfl) (by as_aux_lemma => kernel_rfl) ?hchk ?hst ?_
    case hchk => as_aux_lemma => kernel_rfl
    case hst =>
      as_aux_lemma =>
      refine StepsOK.cons (ok_run (by kernel_rfl) (fun _ => by kernel_rfl)) ?_
      refine StepsOK.cons (ok_run (by kernel_rfl) (fun _ => by kernel_rfl)) ?_
      refine StepsOK.cons (ok_run (by kernel_rfl) (fun _ => by kernel_rfl)) ?_
      refine StepsOK.cons (ok_run (by kernel_rfl) (fun _ => by kernel_rfl)) ?_
      refine StepsOK.cons (ok_run (by kernel_rfl) (fun _ => by kernel_rfl)) ?_
      refine StepsOK.cons (ok_load (t := 29) (x := .tmp 31) (a := ⟨bm, 4, none⟩) (by kernel_rfl) rfl (by kernel_rfl) (fun _ => by kernel_rfl) (cellD m4)) ?_
      refine StepsOK.cons (ok_run (by kernel_rfl) (fun _ => by kernel_rfl)) ?_
      refine StepsOK.cons (ok_eq (v0 := (.bool (((K : Int) : Int) != ((K : Int) : Int)))) (by kernel_rfl) (fun _ => by kernel_rfl) (by rw [n1])) ?_
      refine StepsOK.cons (ok_run (by kernel_rfl) (fun _ => by kernel_rfl)) ?_
      refine StepsOK.cons (ok_run (by kernel_rfl) (fun _ => by kernel_rfl)) ?_
      refine StepsOK.cons (ok_run (by kernel_rfl) (fun _ => by kernel_rfl)) ?_
      refine StepsOK.cons (ok_run (by kernel_rfl) (fun _ => by kernel_rfl)) ?_
      refine StepsOK.cons (ok_run (by kernel_rfl) (fun _ => by kernel_rfl)) ?_
      refine StepsOK.cons (ok_run (by kernel_rfl) (fun _ => by kernel_rfl)) ?_
      refine StepsOK.cons (ok_load (t := 29) (x := .tmp 40) (a := ⟨bm, 7, none⟩) (by kernel_rfl) rfl (by kernel_rfl) (fun _ => by kernel_rfl) (cellD m7)) ?_
      refine StepsOK.cons (ok_run (by kernel_rfl) (fun _ => by kernel_rfl)) ?_
      as_aux_lemma =>
      refine StepsOK.cons (ok_eq (v0 := (.bool (((G : Int) : Int) != ((G : Int) : Int)))) (by kernel_rfl) (fun _ => by kernel_rfl) (by rw [n2])) ?_
      refine StepsOK.cons (ok_run (by kernel_rfl) (fun _ => by kernel_rfl)) ?_
      refine StepsOK.cons (ok_run (by kernel_rfl) (fun _ => by kernel_rfl)) ?_
      refine StepsOK.cons (ok_run (by kernel_rfl) (fun _ => by kernel_rfl)) ?_
      refine StepsOK.cons (ok_load (t := 3) (x := .tmp 46) (a := ⟨b7, 0, none⟩) (by kernel_rfl) rfl (by kernel_rfl) (fun _ => by kernel_rfl) (cellD p0)) ?_
      refine StepsOK.cons (ok_run (by kernel_rfl) (fun _ => by kernel_rfl)) ?_
      refine StepsOK.cons (ok_run (by kernel_rfl) (fun _ => by kernel_rfl)) ?_
      refine StepsOK.cons (ok_run (by kernel_rfl) (fun _ => by kernel_rfl)) ?_
      refine StepsOK.cons (ok_load (t := 3) (x := .tmp 50) (a := ⟨bm, 0, none⟩) (by kernel_rfl) rfl (by kernel_rfl) (fun _ => by kernel_rfl) (cellD m0)) ?_
      refine StepsOK.cons (ok_eq (v0 := (.bool (((W : Int) : Int) != ((W : Int) : Int)))) (by kernel_rfl) (fun _ => by kernel_rfl) (by rw [n3])) ?_
      refine StepsOK.cons (ok_run (by kernel_rfl) (fun _ => by kernel_rfl)) ?_
      refine StepsOK.cons (ok_run (by kernel_rfl) (fun _ => by kernel_rfl)) ?_
      refine StepsOK.cons (ok_run (by kernel_rfl) (fun _ => by kernel_rfl)) ?_
      refine StepsOK.cons (ok_load (t := 3) (x := .tmp 55) (a := ⟨b7, 1, none⟩) (by kernel_rfl) rfl (by kernel_rfl) (fun _ => by kernel_rfl) (cellD p1)) ?_
      refine StepsOK.cons (ok_run (by kernel_rfl) (fun _ => by kernel_rfl)) ?_
      refine StepsOK.cons (ok_run (by kernel_rfl) (fun _ => by kernel_rfl)) ?_
      as_aux_lemma =>
      refine StepsOK.cons (ok_run (by kernel_rfl) (fun _ => by kernel_rfl)) ?_
      refine StepsOK.cons (ok_load (t := 3) (x := .tmp 59) (a := ⟨bm, 1, none⟩) (by kernel_rfl) rfl (by kernel_rfl) (fun _ => by kernel_rfl) (cellD m1)) ?_
      refine StepsOK.cons (ok_eq (v0 := (.bool (((H : Int) : Int) != ((H : Int) : Int)))) (by kernel_rfl) (fun _ => by kernel_rfl) (by rw [n4])) ?_
      refine StepsOK.cons (ok_run (by kernel_rfl) (fun _ => by kernel_rfl)) ?_
      refine StepsOK.cons (ok_run (by kernel_rfl) (fun _ => by kernel_rfl)) ?_
      refine StepsOK.cons (ok_run (by kernel_rfl) (fun _ => by kernel_rfl)) ?_
      refine StepsOK.cons (ok_load (t := 42) (x := .tmp 64) (a := ⟨b7, 2, none⟩) (by kernel_rfl) rfl (by kernel_rfl) (fun _ => by kernel_rfl) (cellD p2)) ?_
      refine StepsOK.cons (ok_run (by kernel_rfl) (fun _ => by kernel_rfl)) ?_
      refine StepsOK.cons (ok_run (by kernel_rfl) (fun _ => by kernel_rfl)) ?_
      refine StepsOK.cons (ok_run (by kernel_rfl) (fun _ => by kernel_rfl)) ?_
      refine StepsOK.cons (ok_run (by kernel_rfl) (fun _ => by kernel_rfl)) ?_
      refine StepsOK.cons (ok_load (t := 3) (x := .tmp 69) (a := ⟨bm, 0, none⟩) (by kernel_rfl) rfl (by kernel_rfl) (fun _ => by kernel_rfl) (cellD m0)) ?_
      refine StepsOK.cons (ok_run (by kernel_rfl) (fun _ => by kernel_rfl)) ?_
      refine StepsOK.cons (ok_run (by kernel_rfl) (fun _ => by kernel_rfl)) ?_
      refine StepsOK.cons (ok_run (by kernel_rfl) (fun _ => by kernel_rfl)) ?_
      refine StepsOK.cons (ok_load (t := 3) (x := .tmp 73) (a := ⟨bm, 1, none⟩) (by kernel_rfl) rfl (by kernel_rfl) (fun _ => by kernel_rfl) (cellD m1)) ?_
      as_aux_lemma =>
      refine StepsOK.cons (ok_eq (v0 := (.int .i64 (IntKind.i64.wrap (((W : Int) : Int) * ((H : Int) : Int))))) (by kernel_rfl) (fun _ => by kernel_rfl) (by rw [wt])) ?_
      refine StepsOK.cons (ok_eq (v0 := (.bool (((T : Int) : Int) != ((T : Int) : Int)))) (by kernel_rfl) (fun _ => by kernel_rfl) (by rw [n5])) ?_
      refine StepsOK.cons (ok_run (by kernel_rfl) (fun _ => by kernel_rfl)) ?_
      exact StepsOK.nil
    rintro w' ⟨nq, rfl⟩
    exact hK1 _ _ (Met.intro (hJ1 _ _ ⟨(.slice A1 K c1), (.int .i64 ((K : Int))), (.pointer (some ⟨bm, 0, none⟩)), (.pointer (some ⟨bm, 0, none⟩)), (.pointer (some ⟨bm, 4, none⟩)), (.slice Ak K ck), (.int .i64 ((K : Int))), (.bool false), (.bool false), (.slice A2 G c2), (.int .i64 ((G : Int))), (.pointer (some ⟨bm, 0, none⟩)), (.pointer (some ⟨bm, 0, none⟩)), (.pointer (some ⟨bm, 7, none⟩)), (.slice Ag G cg), (.int .i64 ((G : Int))), (.bool false), (.bool false), (.bool false), (.pointer (some ⟨b7, 0, none⟩)), (.int .i64 ((W : Int))), (.pointer (some ⟨bm, 0, none⟩)), (.pointer (some ⟨bm, 0, none⟩)), (.pointer (some ⟨bm, 0, none⟩)), (.int .i64 ((W : Int))), (.bool false), (.bool false), (.bool false), (.pointer (some ⟨b7, 1, none⟩)), (.int .i64 ((H : Int))), (.pointer (some ⟨bm, 0, none⟩)), (.pointer (some ⟨bm, 0, none⟩)), (.pointer (some ⟨bm, 1, none⟩)), (.int .i64 ((H : Int))), (.bool false), (.bool false), (.bool false), (.pointer (some ⟨b7, 2, none⟩)), (.slice A3 T c3), (.int .i64 ((T : Int))), (.pointer (some ⟨bm, 0, none⟩)), (.pointer (some ⟨bm, 0, none⟩)), (.pointer (some ⟨bm, 0, none⟩)), (.int .i64 ((W : Int))), (.pointer (some ⟨bm, 0, none⟩)), (.pointer (some ⟨bm, 0, none⟩)), (.pointer (some ⟨bm, 1, none⟩)), (.int .i64 ((H : Int))), (.int .i64 ((T : Int))), (.bool false), (.bool false), ⟨rfl, nq, rfl⟩, by as_aux_lemma => kernel_rfl⟩))
  case rest =>
  obtain ⟨rfl, nq, rfl⟩ := hcut
  clear p0 p1 p2 m2 m4 m5 m6 m7 n1 n2 n3 n4 n5
  have q0 : (w4.drewN nq).cell? ⟨bm, 0, none⟩ = some (.int .i64 W) := m0
  have q1 : (w4.drewN nq).cell? ⟨bm, 1, none⟩ = some (.int .i64 H) := m1
  go_upto_region 4 with (fail)
  go_cut [8] (fun v8 wc => ∃ gW, v8 = .slice (some ⟨gW, 0, none⟩) T T ∧ Hid (w4.heap.size ≤ gW) ∧ Hid (wc.heap[gW]? = some (.cells (Array.replicate T (.int .u8 0)) 5 (0, 0))) ∧ Hid (Below w4.heap.size w4 wc))
  case first =>
    go_region_held3 (fun w' => w'.cell? ⟨bm, 0, none⟩ = some (.int .i64 W) ∧ w'.cell? ⟨bm, 1, none⟩ = some (.int .i64 H)) (first | assumption | exact ⟨m0, m1⟩ | exact ⟨q0, q1⟩ | exact ⟨cell_alloc (w := w4.drewN (nq + 1)) m0, cell_alloc (w := w4.drewN (nq + 1)) m1⟩) (fail)
    all_goals
      go_wp2_with fail
      go_meet
      case rel => exact ⟨w4.heap.size, by first | rfl | trivial, Lib.hid (Nat.le_refl _), Lib.hid (heap_alloc_new (w4.drewN (nq + 1)) _), Lib.hid (below_alloc (below_drewN (Below.refl _ w4) (nq + 1)) _)⟩
  case rest =>
  obtain ⟨gW, rfl, HGW, HW0, B5⟩ := hcut
  obtain ⟨w5, hw5⟩ : ∃ x, x = wc := ⟨_, rfl⟩
  subst hw5
  have HN1 : Hid (∀ q, (Value.slice A1 K c1).ownBlock = some q → q ≠ gW) := Lib.hid (fun q hq => by have := S1.out.lt hq; have := HGW.out; omega)
  have HN2 : Hid (∀ q, (Value.slice A2 G c2).ownBlock = some q → q ≠ gW) := Lib.hid (fun q hq => by have := S2.out.lt hq; have := HGW.out; omega)
  have HN3 : Hid (∀ q, (Value.slice A3 T c3).ownBlock = some q → q ≠ gW) := Lib.hid (fun q hq => by have := S3.out.lt hq; have := HGW.out; omega)
  have HN7 : Hid (b7 ≠ gW) := Lib.hid (by have := lt_in G3; have := HGW.out; omega)
  have HG0 : Hid (w.heap.size ≤ gW) := Lib.hid (Nat.le_trans B4.out.size HGW.out)
  replace B4 := Lib.hid (below_step B4.out B5.out)
  replace S1 := Lib.hid (S1.out.kept (Kept.of_below (fun _ => False) B5.out) (fun _ _ h => h))
  replace S2 := Lib.hid (S2.out.kept (Kept.of_below (fun _ => False) B5.out) (fun _ _ h => h))
  replace S3 := Lib.hid (S3.out.kept (Kept.of_below (fun _ => False) B5.out) (fun _ _ h => h))
  have G5 := Lib.hid (blk_below G3 B5.out)
  have HBR : Hid (∀ wr, Kept (fun q => q = gW) w5 wr → Below w.heap.size w wr) := Lib.hid (fun wr hk => B4.out.trans (hk.below B4.out.size (fun q hq => by subst hq; exact HG0.out)))
  clear q0 q1 m0 m1 G3 hmk wt B5 HGW
  obtain ⟨m0, m1, m2, m4, m5, m6, m7⟩ := SH.out.cell w5 B4.out
  go_upto_region 6 with (fail)
  clear m0 m1 m2 m4 m5 m6 m7
  go_loopw [93] (fun v wr => ∃ i : Nat, v = .int .i64 i ∧ i ≤ K ∧ Hid (Kept (fun q => q = gW) w5 wr) ∧ Hid (wr.heap[gW]? = some (.cells ((pgL W H pad (tkS s i)).map (Value.int .u8)).toArray 5 (0, 0)))) (fun v _ => K - (intOf v).toNat)
  case atStart => exact ⟨0, rfl, Nat.zero_le _, Lib.hid (Kept.refl _ _), Lib.hid (by rw [tk_zero, HTT.out]; simpa using HW0.out)⟩
  case round =>
    obtain ⟨i, rfl, hi, HR, HW⟩ := hrel
    have BR := Lib.hid (HBR.out wr HR.out)
    by_cases hik : i < K
    · have hik' : (i : Int) < (K : Int) := by omega
      have hil : i < s.keys.length := by rw [HK.out]; exact hik
      obtain ⟨k, hk⟩ : ∃ k, s.keys[i]? = some k := ⟨_, List.getElem?_eq_getElem hil⟩
      have hkm : k ∈ s.keys := List.mem_of_getElem? hk
      obtain ⟨gk, rfl, hck1, -⟩ := (SH.out.ks wr BR.out).elem (i := i) (x := .string k) hik (by rw [List.getElem?_map, hk]; rfl)
      obtain ⟨X, Y, m, n, hr, q1, q2, q3, q4, q5⟩ := HIV.out.nat hkm
      obtain ⟨Af, cf, hlf⟩ := SH.out.lf k hkm m n (by rw [hr]) (by rw [hr]) q5
      have hlp := fun w' hb => SH.out.lp w' hb k hkm
      obtain ⟨x0, hx0⟩ : ∃ x, (s.fd k)[0]? = some x := ⟨_, List.getElem?_eq_getElem (by rw [q5]; exact Nat.mul_pos (by omega) (by omega))⟩
      obtain ⟨gt, rfl, -, -⟩ := (hlf wr BR.out).2.elem (i := 0) (x := .int .u8 x0) (Nat.mul_pos (by omega) (by omega)) (by rw [List.getElem?_map, hx0]; rfl)
      clear hx0
      obtain ⟨N, hN⟩ : ∃ N, m * n = N := ⟨_, rfl⟩
      rw [hN] at hlf
      unfold Ef at hlf
      rw [hr] at hlp
      unfold Er at hlp
      simp only at hlp
      obtain ⟨PM, hPM⟩ : ∃ PM : Int, (m : Int) + 2 * pad = PM := ⟨_, rfl⟩
      obtain ⟨PN, hPN⟩ : ∃ PN : Int, (n : Int) + 2 * pad = PN := ⟨_, rfl⟩
      rw [hPM, hPN] at hlp
      have HSW : Hid (∀ w', Below wr.heap.size wr w' → w'.cell? ⟨bm, 5, none⟩ = some (.map (some bP)) ∧ w'.cell? ⟨bm, 6, none⟩ = some (.map (some bF)) ∧ (Instr.lookup 30 (.map (some bP)) (.string k) false).run Try.prog w' = .ok (.agg #[.int .i64 X, .int .i64 Y, .int .i64 PM, .int .i64 PN]) w' ∧ (Instr.lookup 31 (.map (some bF)) (.string k) false).run Try.prog w' = .ok (.agg #[.int .i64 m, .int .i64 n, .slice (some ⟨gt, 0, none⟩) N cf]) w') := Lib.hid (fun w' hb => by
        have hb' := BR.out.trans (hb.mono BR.out.size)
        obtain ⟨c0, c1, c2, c4, c5, c6, c7⟩ := SH.out.cell w' hb'
        exact ⟨c5, c6, hlp w' hb', (hlf w' hb').1⟩)
      have HLF := Lib.hid hlf
      have HKR : Hid (k ∈ s.keys ∧ s.keys[i]? = some k ∧ s.at k = ((X : Int), (Y : Int), (m : Int) + 2 * pad, (n : Int) + 2 * pad) ∧ 1 ≤ m ∧ 1 ≤ n ∧ X + m + 2 * pad ≤ W ∧ Y + n + 2 * pad ≤ H ∧ (s.fd k).length = m * n ∧ m * n = N) := Lib.hid ⟨hkm, hk, hr, q1, q2, q3, q4, q5, hN⟩
      obtain ⟨_, _, _, m4, _⟩ := SH.out.cell wr BR.out
      clear hlf hlp hPM hPN hN hr q1 q2 q3 q4 q5 hkm hk hil
      go_upto_region 8 with (fail)
      clear hck1 m4
      go_cut [11, 12] from 98 to 109 (fun v11 v12 wx => ∃ g1 g2, v11 = .pointer (some ⟨g1, 0, none⟩) ∧ v12 = .pointer (some ⟨g2, 0, none⟩) ∧ Hid (wx.heap[g1]? = some (.cells #[.int .i64 X, .int .i64 Y, .int .i64 PM, .int .i64 PN] 39 (0, 0))) ∧ Hid (wx.heap[g2]? = some (.cells #[.int .i64 m, .int .i64 n, .slice (some ⟨gt, 0, none⟩) N cf] 44 (0, 0))) ∧ Hid (Below wr.heap.size wr wx))
      case first =>
        rename_i J1 K1 hJ1 hK1
        have hS0 : Below wr.heap.size wr wr.drew := below_drew (Below.refl _ _)
        refine wp_region_noPanic ?_
        refine wp_region_held_drew (S := fun w' => Below wr.heap.size wr w') (by kernel_rfl) hS0 (fun _ => ?_)
        refine wpAnyH_take (i := 0) (oi := _) (v := (.pointer (some ⟨bm, 0, none⟩))) rfl (by kernel_rfl) (by kernel_rfl) (by kernel_rfl) (fun _ _ _ h => h) (Or.inl ⟨by kernel_rfl, fun w' hSw => by kernel_rfl⟩) hS0 ?_
        refine wpAnyH_take (i := 1) (oi := _) (v := (.pointer (some ⟨bm, 0, none⟩))) rfl (by kernel_rfl) (by kernel_rfl) (by kernel_rfl) (fun _ _ _ h => h) (Or.inl ⟨by kernel_rfl, fun w' hSw => by kernel_rfl⟩) hS0 ?_
        refine wpAnyH_take (i := 2) (oi := _) (v := (.pointer (some ⟨bm, 5, none⟩))) rfl (by kernel_rfl) (by kernel_rfl) (by kernel_rfl) (fun _ _ _ h => h) (Or.inl ⟨by kernel_rfl, fun w' hSw => by kernel_rfl⟩) hS0 ?_
        refine wpAnyH_take (i := 3) (oi := _) (v := (.map (some bP))) rfl (by kernel_rfl) (by kernel_rfl) (by kernel_rfl) (fun _ _ _ h => h) (Or.inl ⟨by kernel_rfl, fun w' hSw => load_exec (x := .tmp 100) (ad := ⟨bm, 5, none⟩) rfl (by kernel_rfl) (fun _ => by kernel_rfl) (HSW.out w' hSw).1⟩) hS0 ?_
        refine wpAnyH_take (i := 4) (oi := _) (v := (.string k)) rfl (by kernel_rfl) (by kernel_rfl) (by kernel_rfl) (fun _ _ _ h => h) (Or.inl ⟨by kernel_rfl, fun w' hSw => by kernel_rfl⟩) hS0 ?_
        refine wpAnyH_take (i := 5) (oi := _) (v := (.agg #[.int .i64 X, .int .i64 Y, .int .i64 PM, .int .i64 PN])) rfl (by kernel_rfl) (by kernel_rfl) (by kernel_rfl) (fun _ _ _ h => h) (Or.inl ⟨by kernel_rfl, fun w' hSw => look_exec (x := .tmp 101) (y := .tmp 102) rfl (by kernel_rfl) (by kernel_rfl) (HSW.out w' hSw).2.2.1⟩) hS0 ?_
        refine wpAnyH_take (i := 6) (oi := _) (v := (.pointer (some ⟨bm, 0, none⟩))) rfl (by kernel_rfl) (by kernel_rfl) (by kernel_rfl) (fun _ _ _ h => h) (Or.inl ⟨by kernel_rfl, fun w' hSw => by kernel_rfl⟩) hS0 ?_
        refine wpAnyH_take (i := 7) (oi := _) (v := (.pointer (some ⟨bm, 0, none⟩))) rfl (by kernel_rfl) (by kernel_rfl) (by kernel_rfl) (fun _ _ _ h => h) (Or.inl ⟨by kernel_rfl, fun w' hSw => by kernel_rfl⟩) hS0 ?_
        refine wpAnyH_take (i := 8) (oi := _) (v := (.pointer (some ⟨bm, 6, none⟩))) rfl (by kernel_rfl) (by kernel_rfl) (by kernel_rfl) (fun _ _ _ h => h) (Or.inl ⟨by kernel_rfl, fun w' hSw => by kernel_rfl⟩) hS0 ?_
        refine wpAnyH_take (i := 9) (oi := _) (v := (.map (some bF))) rfl (by kernel_rfl) (by kernel_rfl) (by kernel_rfl) (fun _ _ _ h => h) (Or.inl ⟨by kernel_rfl, fun w' hSw => load_exec (x := .tmp 106) (ad := ⟨bm, 6, none⟩) rfl (by kernel_rfl) (fun _ => by kernel_rfl) (HSW.out w' hSw).2.1⟩) hS0 ?_
        refine wpAnyH_take (i := 10) (oi := _) (v := (.string k)) rfl (by kernel_rfl) (by kernel_rfl) (by kernel_rfl) (fun _ _ _ h => h) (Or.inl ⟨by kernel_rfl, fun w' hSw => by kernel_rfl⟩) hS0 ?_
        refine wpAnyH_take (i := 11) (oi := _) (v := (.agg #[.int .i64 m, .int .i64 n, .slice (some ⟨gt, 0, none⟩) N cf])) rfl (by kernel_rfl) (by kernel_rfl) (by kernel_rfl) (fun _ _ _ h => h) (Or.inl ⟨by kernel_rfl, fun w' hSw => look_exec (x := .tmp 107) (y := .tmp 108) rfl (by kernel_rfl) (by kernel_rfl) (HSW.out w' hSw).2.2.2⟩) hS0 ?_
        have hb0 := hS0
        obtain ⟨w0, hw0⟩ : ∃ x, x = wr.drew := ⟨_, rfl⟩
        rw [← hw0] at hb0 ⊢
        refine wpAnyH_ready (rs := [12, 13]) (by kernel_rfl) (by simp) ?_
        refine AllReadyH.split ?_ ?_
        · obtain ⟨w1, hW⟩ : ∃ x, x = w0.alloc (.cells #[.int .i64 0, .int .i64 0, .int .i64 0, .int .i64 0] 39) := ⟨_, rfl⟩
          obtain ⟨g1, hg1⟩ : ∃ g, g = w0.heap.size := ⟨_, rfl⟩
          have hG1 : w1.heap[g1]? = some (.cells #[.int .i64 0, .int .i64 0, .int .i64 0, .int .i64 0] 39 (0, 0)) := by rw [hW, hg1]; exact heap_alloc_new _ _
          have hb1 : Below wr.heap.size wr w1 := by rw [hW]; exact below_alloc hb0 _
          have hge1 : wr.heap.size ≤ g1 := by rw [hg1]; exact hb0.size
          refine AllReadyH.go (v := .pointer (some ⟨g1, 0, none⟩)) (w' := w1) (by kernel_rfl) (by kernel_rfl) (by rw [hW, hg1]; exact .inl (by kernel_rfl)) hb1 ?_
          refine wpAnyH_ready (rs := [13]) (by kernel_rfl) (by simp) ?_
          obtain ⟨w2, hW⟩ : ∃ x, x = w1.alloc (.cells #[.int .i64 0, .int .i64 0, .slice none 0 0] 44) := ⟨_, rfl⟩
          obtain ⟨g2, hg2⟩ : ∃ g, g = w1.heap.size := ⟨_, rfl⟩
          have hG2 : w2.heap[g2]? = some (.cells #[.int .i64 0, .int .i64 0, .slice none 0 0] 44 (0, 0)) := by rw [hW, hg2]; exact heap_alloc_new _ _
          have hb2 : Below wr.heap.size wr w2 := by rw [hW]; exact below_alloc hb1 _
          have hge2 : wr.heap.size ≤ g2 := by rw [hg2]; exact hb1.size
          have hne : g1 ≠ g2 := by have := lt_in hG1; omega
          replace hG1 := blk_below hG1 (show Below w1.heap.size w1 w2 by rw [hW]; exact below_alloc (Below.refl _ _) _)
          refine AllReadyH.go (v := .pointer (some ⟨g2, 0, none⟩)) (w' := w2) (by kernel_rfl) (by kernel_rfl) (by rw [hW, hg2]; exact .inl (by kernel_rfl)) hb2 ?_
          refine wpAnyH_ready (rs := [14]) (by kernel_rfl) (by simp) ?_
          have hsr := store_rect X Y PM PN hG1
          refine Exists.elim hsr (fun w3 h3 => ?_)
          have hst := h3.1
          have hG := h3.2.1
          have hk := h3.2.2
          clear hsr h3
          replace hG2 := hk.get hG2 (fun e => hne e.symm)
          replace hG1 := hG
          have hb3 : Below wr.heap.size wr w3 := hb2.trans (hk.below hb2.size (fun q hq => by subst hq; exact hge1))
          refine AllReadyH.go (v := undef) (w' := w3) (by kernel_rfl) (by kernel_rfl) (.inr ⟨store_exec (t := 39) (x := .tmp 11) (y := .tmp 103) (by kernel_rfl) (by kernel_rfl) (by kernel_rfl) hst, rfl⟩) hb3 ?_
          refine wpAnyH_ready (rs := [15]) (by kernel_rfl) (by simp) ?_
          have hsr := store_field m n (some ⟨gt, 0, none⟩) N cf hG2
          refine Exists.elim hsr (fun w4 h3 => ?_)
          have hst := h3.1
          have hG := h3.2.1
          have hk := h3.2.2
          clear hsr h3
          replace hG1 := hk.get hG1 (fun e => hne e)
          replace hG2 := hG
          have hb4 : Below wr.heap.size wr w4 := hb3.trans (hk.below hb3.size (fun q hq => by subst hq; exact hge2))
          refine AllReadyH.go (v := undef) (w' := w4) (by kernel_rfl) (by kernel_rfl) (.inr ⟨store_exec (t := 44) (x := .tmp 12) (y := .tmp 109) (by kernel_rfl) (by kernel_rfl) (by kernel_rfl) hst, rfl⟩) hb4 ?_
          refine wpAnyH_done (by kernel_rfl) ?_ _
          refine NoPanic.normal ?_
          exact hK1 _ _ (Met.intro (hJ1 _ _ ⟨.pointer (some ⟨g1, 0, none⟩), .pointer (some ⟨g2, 0, none⟩), (.pointer (some ⟨bm, 0, none⟩)), (.pointer (some ⟨bm, 0, none⟩)), (.pointer (some ⟨bm, 5, none⟩)), (.map (some bP)), (.string k), (.agg #[.int .i64 X, .int .i64 Y, .int .i64 PM, .int .i64 PN]), (.pointer (some ⟨bm, 0, none⟩)), (.pointer (some ⟨bm, 0, none⟩)), (.pointer (some ⟨bm, 6, none⟩)), (.map (some bF)), (.string k), (.agg #[.int .i64 m, .int .i64 n, .slice (some ⟨gt, 0, none⟩) N cf]), ⟨g1, g2, rfl, rfl, Lib.hid hG1, Lib.hid hG2, Lib.hid hb4⟩, by kernel_rfl⟩))
        · obtain ⟨w1, hW⟩ : ∃ x, x = w0.alloc (.cells #[.int .i64 0, .int .i64 0, .slice none 0 0] 44) := ⟨_, rfl⟩
          obtain ⟨g2, hg2⟩ : ∃ g, g = w0.heap.size := ⟨_, rfl⟩
          have hG2 : w1.heap[g2]? = some (.cells #[.int .i64 0, .int .i64 0, .slice none 0 0] 44 (0, 0)) := by rw [hW, hg2]; exact heap_alloc_new _ _
          have hb1 : Below wr.heap.size wr w1 := by rw [hW]; exact below_alloc hb0 _
          have hge2 : wr.heap.size ≤ g2 := by rw [hg2]; exact hb0.size
          refine AllReadyH.go (v := .pointer (some ⟨g2, 0, none⟩)) (w' := w1) (by kernel_rfl) (by kernel_rfl) (by rw [hW, hg2]; exact .inl (by kernel_rfl)) hb1 ?_
          refine wpAnyH_ready (rs := [12]) (by kernel_rfl) (by simp) ?_
          obtain ⟨w2, hW⟩ : ∃ x, x = w1.alloc (.cells #[.int .i64 0, .int .i64 0, .int .i64 0, .int .i64 0] 39) := ⟨_, rfl⟩
          obtain ⟨g1, hg1⟩ : ∃ g, g = w1.heap.size := ⟨_, rfl⟩
          have hG1 : w2.heap[g1]? = some (.cells #[.int .i64 0, .int .i64 0, .int .i64 0, .int .i64 0] 39 (0, 0)) := by rw [hW, hg1]; exact heap_alloc_new _ _
          have hb2 : Below wr.heap.size wr w2 := by rw [hW]; exact below_alloc hb1 _
          have hge1 : wr.heap.size ≤ g1 := by rw [hg1]; exact hb1.size
          have hne : g1 ≠ g2 := by have := lt_in hG2; omega
          replace hG2 := blk_below hG2 (show Below w1.heap.size w1 w2 by rw [hW]; exact below_alloc (Below.refl _ _) _)
          refine AllReadyH.go (v := .pointer (some ⟨g1, 0, none⟩)) (w' := w2) (by kernel_rfl) (by kernel_rfl) (by rw [hW, hg1]; exact .inl (by kernel_rfl)) hb2 ?_
          refine wpAnyH_ready (rs := [14]) (by kernel_rfl) (by simp) ?_
          have hsr := store_rect X Y PM PN hG1
          refine Exists.elim hsr (fun w3 h3 => ?_)
          have hst := h3.1
          have hG := h3.2.1
          have hk := h3.2.2
          clear hsr h3
          replace hG2 := hk.get hG2 (fun e => hne e.symm)
          replace hG1 := hG
          have hb3 : Below wr.heap.size wr w3 := hb2.trans (hk.below hb2.size (fun q hq => by subst hq; exact hge1))
          refine AllReadyH.go (v := undef) (w' := w3) (by kernel_rfl) (by kernel_rfl) (.inr ⟨store_exec (t := 39) (x := .tmp 11) (y := .tmp 103) (by kernel_rfl) (by kernel_rfl) (by kernel_rfl) hst, rfl⟩) hb3 ?_
          refine wpAnyH_ready (rs := [15]) (by kernel_rfl) (by simp) ?_
          have hsr := store_field m n (some ⟨gt, 0, none⟩) N cf hG2
          refine Exists.elim hsr (fun w4 h3 => ?_)
          have hst := h3.1
          have hG := h3.2.1
          have hk := h3.2.2
          clear hsr h3
          replace hG1 := hk.get hG1 (fun e => hne e)
          replace hG2 := hG
          have hb4 : Below wr.heap.size wr w4 := hb3.trans (hk.below hb3.size (fun q hq => by subst hq; exact hge2))
          refine AllReadyH.go (v := undef) (w' := w4) (by kernel_rfl) (by kernel_rfl) (.inr ⟨store_exec (t := 44) (x := .tmp 12) (y := .tmp 109) (by kernel_rfl) (by kernel_rfl) (by kernel_rfl) hst, rfl⟩) hb4 ?_
          refine wpAnyH_done (by kernel_rfl) ?_ _
          refine NoPanic.normal ?_
          exact hK1 _ _ (Met.intro (hJ1 _ _ ⟨.pointer (some ⟨g1, 0, none⟩), .pointer (some ⟨g2, 0, none⟩), (.pointer (some ⟨bm, 0, none⟩)), (.pointer (some ⟨bm, 0, none⟩)), (.pointer (some ⟨bm, 5, none⟩)), (.map (some bP)), (.string k), (.agg #[.int .i64 X, .int .i64 Y, .int .i64 PM, .int .i64 PN]), (.pointer (some ⟨bm, 0, none⟩)), (.pointer (some ⟨bm, 0, none⟩)), (.pointer (some ⟨bm, 6, none⟩)), (.map (some bF)), (.string k), (.agg #[.int .i64 m, .int .i64 n, .slice (some ⟨gt, 0, none⟩) N cf]), ⟨g1, g2, rfl, rfl, Lib.hid hG1, Lib.hid hG2, Lib.hid hb4⟩, by kernel_rfl⟩))
      case rest =>
      obtain ⟨g1, g2, rfl, rfl, HG1, HG2, HB8⟩ := hcut
      obtain ⟨w8, hw8⟩ : ∃ x, x = wc := ⟨_, rfl⟩
      subst hw8
      obtain ⟨hkm, hki, hr, q1, q2, q3, q4, q5, q6⟩ := HKR.out
      have hkz : k.size ≤ maxLen := HKL.out k hkm
      obtain ⟨RX, hRX⟩ : ∃ RX, X + pad = RX := ⟨_, rfl⟩
      obtain ⟨RY, hRY⟩ : ∃ RY, Y + pad = RY := ⟨_, rfl⟩
      have hpl : s.pl k = some ((X : Int), (Y : Int), (m : Int) + 2 * pad, (n : Int) + 2 * pad) := by rw [HIV.out.hasPl hkm, hr]
      have hrv : Er (rectV pad (s.pl k)) = .agg #[.int .i64 RX, .int .i64 RY, .int .i64 m, .int .i64 n] := by
        rw [hpl]
        show Value.agg #[.int .i64 ((X : Int) + pad), .int .i64 ((Y : Int) + pad), .int .i64 ((m : Int) + 2 * pad - 2 * pad), .int .i64 ((n : Int) + 2 * pad - 2 * pad)] = _
        rw [show (m : Int) + 2 * (pad : Int) - 2 * pad = m from by omega, show (n : Int) + 2 * (pad : Int) - 2 * pad = n from by omega, ← hRX, ← hRY, Int.natCast_add, Int.natCast_add]
      have hso : (s.pl k).isSome = true := by rw [hpl]; rfl
      have BR8 := Lib.hid (below_step BR.out HB8.out)
      have HRC : Hid (Calls Try.prog 13 #[.pointer (some ⟨b, 0, none⟩), .string k] w8 fun e w' => e = .returned (.tuple #[.agg #[.int .i64 RX, .int .i64 RY, .int .i64 m, .int .i64 n], .bool true]) ∧ Below w8.heap.size w8 w') := Lib.hid ((rect_on (H0.out.below BR8.out).on k hkz).mono (by
        rintro e w' ⟨rfl, hb, -⟩
        rw [hrv, hso]
        exact ⟨rfl, hb⟩))
      have HFC : Hid (∀ w9, Below w.heap.size w w9 → Calls Try.prog 14 #[.pointer (some ⟨b, 0, none⟩), .string k] w9 fun e w' => ∃ A cap, e = .returned (.tuple #[.agg #[.int .i64 m, .int .i64 n, .slice A N cap], .bool true]) ∧ SlO w' 5 1 (.slice A N cap) N ((s.fd k).map (Value.int .u8)) ∧ Below w9.heap.size w9 w') := Lib.hid (fun w9 hw9 => (field_on (H0.out.below hw9).on k hkz hkm).mono (by
        rintro e w' ⟨m', n', A, cap, e1, e2, e3, -, -, rfl, hs, hb, -, -⟩
        rw [hr] at e1 e2
        have e1 : (m : Int) + 2 * pad = (m' : Int) + 2 * pad := e1
        have e2 : (n : Int) + 2 * pad = (n' : Int) + 2 * pad := e2
        obtain rfl : m = m' := by omega
        obtain rfl : n = n' := by omega
        rw [q6] at hs ⊢
        exact ⟨A, cap, rfl, hs, hb⟩))
      have HRP : Hid (X + pad = RX ∧ Y + pad = RY) := Lib.hid ⟨hRX, hRY⟩
      clear hkm hki hr q1 q2 q3 q4 q5 q6 hkz hpl hrv hso hRX hRY
      go_wp2_with fail
      refine HRC.out.mono ?_
      rintro e w9 ⟨rfl, hb9⟩
      have bb9 := below_alloc hb9 (.cells #[.int .i64 RX, .int .i64 RY, .int .i64 m, .int .i64 n] 39)
      have G13 := Lib.hid (heap_alloc_new w9 (.cells #[.int .i64 RX, .int .i64 RY, .int .i64 m, .int .i64 n] 39))
      have G1 := Lib.hid (blk_below HG1.out bb9)
      have G2 := Lib.hid (blk_below HG2.out bb9)
      have HB9 := Lib.hid (below_step HB8.out bb9)
      have BR9 := Lib.hid (below_step BR8.out bb9)
      clear hb9 bb9 HG1 HG2 HB8 BR8 HRC
      go_upto_region 10 with (fail)
      generalize w9.alloc (.cells #[.int .i64 RX, .int .i64 RY, .int .i64 m, .int .i64 n] 39) = w10 at *
      generalize w9.heap.size = g13 at *
      go_wp2_with fail
      refine (HFC.out w10 BR9.out).mono ?_
      rintro e w11 ⟨A5, c5, rfl, hs5, hb11⟩
      have bb11 := below_alloc hb11 (.cells #[.int .i64 m, .int .i64 n, .slice A5 N c5] 44)
      have G15 := Lib.hid (heap_alloc_new w11 (.cells #[.int .i64 m, .int .i64 n, .slice A5 N c5] 44))
      have S5 := Lib.hid (hs5.kept (Kept.of_below (fun _ => False) (below_alloc (Below.refl _ w11) (.cells #[.int .i64 m, .int .i64 n, .slice A5 N c5] 44))) (fun _ _ h => h))
      replace G1 := Lib.hid (blk_below G1.out bb11)
      replace G2 := Lib.hid (blk_below G2.out bb11)
      replace G13 := Lib.hid (blk_below G13.out bb11)
      replace HB9 := Lib.hid (below_step HB9.out bb11)
      replace BR9 := Lib.hid (below_step BR9.out bb11)
      clear hs5 hb11 bb11 HFC
      go_upto_region 11 with (fail)
      generalize w11.alloc (.cells #[.int .i64 m, .int .i64 n, .slice A5 N c5] 44) = w12 at *
      generalize w11.heap.size = g15 at *
      obtain ⟨xX, hxX⟩ := HRP.out
      obtain ⟨ga, rfl, hca, -⟩ := ((S1.out.kept HR.out (fun q hq h => HN1.out q hq h)).kept (Kept.of_below (fun _ => False) HB9.out) (fun _ _ h => h)).elem (i := i) (x := .string k) hik (by rw [List.getElem?_map, HKR.out.2.1]; rfl)
      obtain ⟨_, _, m2, _⟩ := SH.out.cell w12 BR9.out
      have r10 : w12.cell? ⟨g1, 0, none⟩ = some (.int .i64 X) := (blk_cell G1.out 0).trans rfl
      have r11 : w12.cell? ⟨g1, 1, none⟩ = some (.int .i64 Y) := (blk_cell G1.out 1).trans rfl
      have r20 : w12.cell? ⟨g2, 0, none⟩ = some (.int .i64 m) := (blk_cell G2.out 0).trans rfl
      have r21 : w12.cell? ⟨g2, 1, none⟩ = some (.int .i64 n) := (blk_cell G2.out 1).trans rfl
      have uX : IntKind.i64.wrap ((X : Int) + (pad : Int)) = (RX : Int) := by rw [IntKind.wrap_i64]; have := HKR.out; omega
      have uY : IntKind.i64.wrap ((Y : Int) + (pad : Int)) = (RY : Int) := by rw [IntKind.wrap_i64]; have := HKR.out; omega
      have hix : ∀ w : World, (Instr.indexAt 29 (.slice (some ⟨ga, 0, none⟩) K c1) (.int .i64 (i : Int))).run Try.prog w = .ok (.pointer (some ⟨ga, i, none⟩)) w := fun w => index_one Try.underlying29 (fun _ => by kernel_rfl) hik w
      have hN31 : N ≤ 140737488351232 := by
        obtain ⟨-, -, -, -, -, q3, q4, -, q6⟩ := HKR.out
        have : m * n ≤ 64 * 64 := Nat.mul_le_mul (by omega) (by omega)
        omega
      have SF := Lib.hid ((HLF.out w12 BR9.out).2)
      have hsame : ∀ w', Below w12.heap.size w12 w' → Calls Try.prog 23 #[.agg #[.int .i64 m, .int .i64 n, .slice (some ⟨gt, 0, none⟩) N cf], .agg #[.int .i64 m, .int .i64 n, .slice A5 N c5]] w' (fun e w'' => e = .returned (.bool true) ∧ Below w12.heap.size w12 w'') := fun w' hb =>
        (same_yes w' m n (some ⟨gt, 0, none⟩) A5 N cf c5 (s.fd k) hN31 (SF.out.kept (Kept.of_below (fun _ => False) hb) (fun _ _ h => h)) (S5.out.kept (Kept.of_below (fun _ => False) hb) (fun _ _ h => h))).mono (by
          rintro e w'' ⟨rfl, hb2⟩
          exact ⟨rfl, below_step hb hb2⟩)
      go_cut [164] from 122 to 164 (fun v W => v = .bool false ∧ Hid (Below w12.heap.size w12 W))
      case first =>
        rename_i J1 K1 hJ1 hK1
        refine wp_region_finC (vs := [(.slice (some ⟨ga, 0, none⟩) K c1), (.int .i64 ((i : Int))), (.pointer (some ⟨ga, i, none⟩)), (.string k), (.string k), (.bool false), (.bool false), (.bool true), (.bool false), (.bool false), (.bool false), (.bool true), (.bool false), (.bool false), (.bool false), (.agg #[.int .i64 RX, .int .i64 RY, .int .i64 m, .int .i64 n]), (.pointer (some ⟨g1, 0, none⟩)), (.int .i64 ((X : Int))), (.pointer (some ⟨bm, 0, none⟩)), (.pointer (some ⟨bm, 0, none⟩)), (.pointer (some ⟨bm, 2, none⟩)), (.int .i64 ((pad : Int))), (.int .i64 ((RX : Int))), (.pointer (some ⟨g1, 1, none⟩)), (.int .i64 ((Y : Int))), (.pointer (some ⟨bm, 0, none⟩)), (.pointer (some ⟨bm, 0, none⟩)), (.pointer (some ⟨bm, 2, none⟩)), (.int .i64 ((pad : Int))), (.int .i64 ((RY : Int))), (.pointer (some ⟨g2, 0, none⟩)), (.int .i64 ((m : Int))), (.pointer (some ⟨g2, 1, none⟩)), (.int .i64 ((n : Int))), (.agg #[.int .i64 RX, .int .i64 RY, .int .i64 m, .int .i64 n]), (.bool false), (.bool false), (.bool false), (.agg #[.int .i64 m, .int .i64 n, .slice (some ⟨gt, 0, none⟩) N cf]), (.agg #[.int .i64 m, .int .i64 n, .slice A5 N c5]), (.bool true), (.bool false), (.bool false)]) (fun W => Below w12.heap.size w12 W) (by kernel_rfl) (by as_aux_lemma => kernel_rfl) ?hchk (below_drew (Below.refl _ _)) ?hst ?_
        case hchk => as_aux_lemma => kernel_rfl
        case hst =>
          as_aux_lemma =>
          refine StepsOK.cons (ok_run (by kernel_rfl) (fun _ => by kernel_rfl)) ?_
          refine StepsOK.cons (ok_run (by kernel_rfl) (fun _ => by kernel_rfl)) ?_
          refine StepsOK.cons (ok_index (t := 29) (x := .tmp 122) (y := .tmp 123) (by kernel_rfl) rfl (by kernel_rfl) (by kernel_rfl) hix) ?_
          refine StepsOK.cons (ok_load (t := 9) (x := .tmp 124) (a := ⟨ga, i, none⟩) (by kernel_rfl) rfl (by kernel_rfl) (fun _ => by kernel_rfl) (cellB hca)) ?_
          refine StepsOK.cons (ok_run (by kernel_rfl) (fun _ => by kernel_rfl)) ?_
          refine StepsOK.cons (ok_strNe (k := k) (x := .tmp 125) (y := .tmp 126) (by kernel_rfl) rfl (by kernel_rfl) (by kernel_rfl)) ?_
          refine StepsOK.cons (ok_run (by kernel_rfl) (fun _ => by kernel_rfl)) ?_
          refine StepsOK.cons (ok_run (by kernel_rfl) (fun _ => by kernel_rfl)) ?_
          refine StepsOK.cons (ok_run (by kernel_rfl) (fun _ => by kernel_rfl)) ?_
          refine StepsOK.cons (ok_run (by kernel_rfl) (fun _ => by kernel_rfl)) ?_
          refine StepsOK.cons (ok_run (by kernel_rfl) (fun _ => by kernel_rfl)) ?_
          refine StepsOK.cons (ok_run (by kernel_rfl) (fun _ => by kernel_rfl)) ?_
          refine StepsOK.cons (ok_run (by kernel_rfl) (fun _ => by kernel_rfl)) ?_
          refine StepsOK.cons (ok_run (by kernel_rfl) (fun _ => by kernel_rfl)) ?_
          refine StepsOK.cons (ok_run (by kernel_rfl) (fun _ => by kernel_rfl)) ?_
          refine StepsOK.cons (ok_loadRow (t := 39) (x := .tmp 13) (by kernel_rfl) rfl (by kernel_rfl) Try.underlying39 rfl (by kernel_rfl) (heapB G13.out)) ?_
          as_aux_lemma =>
          refine StepsOK.cons (ok_run (by kernel_rfl) (fun _ => by kernel_rfl)) ?_
          refine StepsOK.cons (ok_load (t := 3) (x := .tmp 138) (a := ⟨g1, 0, none⟩) (by kernel_rfl) rfl (by kernel_rfl) (fun _ => by kernel_rfl) (cellB r10)) ?_
          refine StepsOK.cons (ok_run (by kernel_rfl) (fun _ => by kernel_rfl)) ?_
          refine StepsOK.cons (ok_run (by kernel_rfl) (fun _ => by kernel_rfl)) ?_
          refine StepsOK.cons (ok_run (by kernel_rfl) (fun _ => by kernel_rfl)) ?_
          refine StepsOK.cons (ok_load (t := 3) (x := .tmp 142) (a := ⟨bm, 2, none⟩) (by kernel_rfl) rfl (by kernel_rfl) (fun _ => by kernel_rfl) (cellB m2)) ?_
          refine StepsOK.cons (ok_eq (v0 := (.int .i64 (IntKind.i64.wrap (((X : Int) : Int) + ((pad : Int) : Int))))) (by kernel_rfl) (fun _ => by kernel_rfl) (by rw [uX])) ?_
          refine StepsOK.cons (ok_run (by kernel_rfl) (fun _ => by kernel_rfl)) ?_
          refine StepsOK.cons (ok_load (t := 3) (x := .tmp 145) (a := ⟨g1, 1, none⟩) (by kernel_rfl) rfl (by kernel_rfl) (fun _ => by kernel_rfl) (cellB r11)) ?_
          refine StepsOK.cons (ok_run (by kernel_rfl) (fun _ => by kernel_rfl)) ?_
          refine StepsOK.cons (ok_run (by kernel_rfl) (fun _ => by kernel_rfl)) ?_
          refine StepsOK.cons (ok_run (by kernel_rfl) (fun _ => by kernel_rfl)) ?_
          refine StepsOK.cons (ok_load (t := 3) (x := .tmp 149) (a := ⟨bm, 2, none⟩) (by kernel_rfl) rfl (by kernel_rfl) (fun _ => by kernel_rfl) (cellB m2)) ?_
          refine StepsOK.cons (ok_eq (v0 := (.int .i64 (IntKind.i64.wrap (((Y : Int) : Int) + ((pad : Int) : Int))))) (by kernel_rfl) (fun _ => by kernel_rfl) (by rw [uY])) ?_
          refine StepsOK.cons (ok_run (by kernel_rfl) (fun _ => by kernel_rfl)) ?_
          refine StepsOK.cons (ok_load (t := 3) (x := .tmp 152) (a := ⟨g2, 0, none⟩) (by kernel_rfl) rfl (by kernel_rfl) (fun _ => by kernel_rfl) (cellB r20)) ?_
          as_aux_lemma =>
          refine StepsOK.cons (ok_run (by kernel_rfl) (fun _ => by kernel_rfl)) ?_
          refine StepsOK.cons (ok_load (t := 3) (x := .tmp 154) (a := ⟨g2, 1, none⟩) (by kernel_rfl) rfl (by kernel_rfl) (fun _ => by kernel_rfl) (cellB r21)) ?_
          refine StepsOK.cons (ok_run (by kernel_rfl) (fun _ => by kernel_rfl)) ?_
          refine StepsOK.cons (ok_aggNe (x := .tmp 137) (y := .tmp 156) (A := #[.int .i64 RX, .int .i64 RY, .int .i64 m, .int .i64 n]) (B := #[.int .i64 RX, .int .i64 RY, .int .i64 m, .int .i64 n]) (by kernel_rfl) rfl (by kernel_rfl) (by kernel_rfl) (fun _ => by kernel_rfl) (fun w => eqRectS w _ _ _ _)) ?_
          refine StepsOK.cons (ok_run (by kernel_rfl) (fun _ => by kernel_rfl)) ?_
          refine StepsOK.cons (ok_run (by kernel_rfl) (fun _ => by kernel_rfl)) ?_
          refine StepsOK.cons (ok_loadRow (t := 44) (x := .tmp 12) (by kernel_rfl) rfl (by kernel_rfl) Try.underlying44 rfl (by kernel_rfl) (heapB G2.out)) ?_
          refine StepsOK.cons (ok_loadRow (t := 44) (x := .tmp 15) (by kernel_rfl) rfl (by kernel_rfl) Try.underlying44 rfl (by kernel_rfl) (heapB G15.out)) ?_
          refine StepsOK.cons (ok_call (f := 23) (args := #[.agg #[.int .i64 m, .int .i64 n, .slice (some ⟨gt, 0, none⟩) N cf], .agg #[.int .i64 m, .int .i64 n, .slice A5 N c5]]) (by kernel_rfl) (fun _ => by kernel_rfl) hsame) ?_
          refine StepsOK.cons (ok_run (by kernel_rfl) (fun _ => by kernel_rfl)) ?_
          refine StepsOK.cons (ok_run (by kernel_rfl) (fun _ => by kernel_rfl)) ?_
          exact StepsOK.nil
        intro w' hw'
        exact hK1 _ _ (Met.intro (hJ1 _ _ ⟨(.slice (some ⟨ga, 0, none⟩) K c1), (.int .i64 ((i : Int))), (.pointer (some ⟨ga, i, none⟩)), (.string k), (.string k), (.bool false), (.bool false), (.bool true), (.bool false), (.bool false), (.bool false), (.bool true), (.bool false), (.bool false), (.bool false), (.agg #[.int .i64 RX, .int .i64 RY, .int .i64 m, .int .i64 n]), (.pointer (some ⟨g1, 0, none⟩)), (.int .i64 ((X : Int))), (.pointer (some ⟨bm, 0, none⟩)), (.pointer (some ⟨bm, 0, none⟩)), (.pointer (some ⟨bm, 2, none⟩)), (.int .i64 ((pad : Int))), (.int .i64 ((RX : Int))), (.pointer (some ⟨g1, 1, none⟩)), (.int .i64 ((Y : Int))), (.pointer (some ⟨bm, 0, none⟩)), (.pointer (some ⟨bm, 0, none⟩)), (.pointer (some ⟨bm, 2, none⟩)), (.int .i64 ((pad : Int))), (.int .i64 ((RY : Int))), (.pointer (some ⟨g2, 0, none⟩)), (.int .i64 ((m : Int))), (.pointer (some ⟨g2, 1, none⟩)), (.int .i64 ((n : Int))), (.agg #[.int .i64 RX, .int .i64 RY, .int .i64 m, .int .i64 n]), (.bool false), (.bool false), (.bool false), (.agg #[.int .i64 m, .int .i64 n, .slice (some ⟨gt, 0, none⟩) N cf]), (.agg #[.int .i64 m, .int .i64 n, .slice A5 N c5]), (.bool true), (.bool false), (.bool false), ⟨rfl, Lib.hid hw'⟩, by as_aux_lemma => kernel_rfl⟩))
      case rest =>
      obtain ⟨rfl, HB12⟩ := hcut
      obtain ⟨w13, hw13⟩ : ∃ x, x = wc := ⟨_, rfl⟩
      subst hw13
      replace G2 := Lib.hid (blk_below G2.out HB12.out)
      replace G13 := Lib.hid (blk_below G13.out HB12.out)
      have HB13 := Lib.hid (below_step HB9.out HB12.out)
      have HW13 := Lib.hid (blk_below HW.out HB13.out)
      have HR13 : Hid (Kept (fun q => q = gW) w5 w13) := Lib.hid (HR.out.trans (Kept.of_below _ HB13.out))
      have HG2L : Hid (g2 < w13.heap.size ∧ g2 ≠ gW ∧ g13 ≠ gW) := Lib.hid ⟨lt_in G2.out, obj_ne2 G2.out HW13.out (by decide), obj_ne2 G13.out HW13.out (by decide)⟩
      have c22 : w13.cell? ⟨g2, 2, none⟩ = some (.slice (some ⟨gt, 0, none⟩) N cf) := (blk_cell G2.out 2).trans rfl
      clear HB12 HB9 HSW BR9 S5 SF hsame r10 r11 r20 r21 uX uY hix hca m2 xX hxX G1 G15
      go_upto_region 14 with (fail)
      clear c22
      go_loopw [168] (fun v wr => ∃ j : Nat, v = .int .i64 j ∧ j ≤ N ∧ Hid (Kept (fun q => q = gW) w13 wr) ∧ Hid (wr.heap[gW]? = some (.cells ((wtL W H pad s i k j).map (Value.int .u8)).toArray 5 (0, 0)))) (fun v _ => N - (intOf v).toNat)
      case atStart => exact ⟨0, rfl, Nat.zero_le _, Lib.hid (Kept.refl _ _), Lib.hid (by rw [wt_zero]; exact HW13.out)⟩
      case round =>
        obtain ⟨j, rfl, hj, HRJ, HWJ⟩ := hrel
        have BRJ := Lib.hid (HBR.out wr (HR13.out.trans HRJ.out))
        by_cases hjn : j < N
        · have hjn' : (j : Int) < (N : Int) := by omega
          obtain ⟨hkm, hki, hr, q1, q2, q3, q4, q5, q6⟩ := HKR.out
          have hjl : j < (s.fd k).length := by rw [q5, q6]; exact hjn
          obtain ⟨x, hx⟩ : ∃ x, (s.fd k)[j]? = some x := ⟨_, List.getElem?_eq_getElem hjl⟩
          obtain ⟨gt', eg, ct, -⟩ := ((HLF.out wr BRJ.out).2).elem (i := j) (x := .int .u8 x) hjn (by rw [List.getElem?_map, hx]; rfl)
          injection eg with eg
          injection eg with eg
          subst eg
          have G2J := HRJ.out.get G2.out (fun e => HG2L.out.2.1 e)
          have G13J := HRJ.out.get G13.out (fun e => HG2L.out.2.2 e)
          obtain ⟨m0, _, _, _⟩ := SH.out.cell wr BRJ.out
          have r20 : wr.cell? ⟨g2, 0, none⟩ = some (.int .i64 m) := (blk_cell G2J 0).trans rfl
          have r130 : wr.cell? ⟨g13, 0, none⟩ = some (.int .i64 RX) := (blk_cell G13J 0).trans rfl
          have r131 : wr.cell? ⟨g13, 1, none⟩ = some (.int .i64 RY) := (blk_cell G13J 1).trans rfl
          obtain ⟨xX, xY⟩ := HRP.out
          have hdm := Nat.div_add_mod j m
          have hml := Nat.mod_lt j (show m > 0 by omega)
          have hjd : j / m < n := Nat.div_lt_of_lt_mul (by rw [q6]; exact hjn)
          obtain ⟨q, hq⟩ : ∃ q, j / m = q := ⟨_, rfl⟩
          obtain ⟨r, hrr⟩ : ∃ r, j % m = r := ⟨_, rfl⟩
          obtain ⟨P1, hP1⟩ : ∃ P1, RY + q = P1 := ⟨_, rfl⟩
          obtain ⟨P2, hP2⟩ : ∃ P2, P1 * W = P2 := ⟨_, rfl⟩
          obtain ⟨P3, hP3⟩ : ∃ P3, P2 + RX = P3 := ⟨_, rfl⟩
          obtain ⟨P4, hP4⟩ : ∃ P4, P3 + r = P4 := ⟨_, rfl⟩
          rw [hq] at hjd
          rw [hrr] at hml
          have hP4T : P4 < T := by
            have h1 : P1 + 1 ≤ H := by omega
            have h2 := Nat.mul_le_mul_right W h1
            rw [Nat.add_mul, Nat.one_mul, hP2, Nat.mul_comm H W, HTT.out] at h2
            omega
          have hm0 : ¬ m = 0 := by omega
          have hm0' : ¬ (m : Int) = 0 := by omega
          have hdiv : (j : Int) / (m : Int) = (q : Int) := by rw [← hq]; rfl
          have hmod : (j : Int) % (m : Int) = (r : Int) := by rw [← hrr]; rfl
          have htdiv : Int.tdiv (j : Int) (m : Int) = (q : Int) := by rw [Int.tdiv_eq_ediv_of_nonneg (by omega)]; exact hdiv
          have htmod : Int.tmod (j : Int) (m : Int) = (r : Int) := by rw [Int.tmod_eq_emod_of_nonneg (by omega)]; exact hmod
          have wq : IntKind.i64.wrap (q : Int) = (q : Int) := by rw [IntKind.wrap_i64]; omega
          have wr' : IntKind.i64.wrap (r : Int) = (r : Int) := by rw [IntKind.wrap_i64]; omega
          have u1 : IntKind.i64.wrap ((RY : Int) + (q : Int)) = (P1 : Int) := by rw [IntKind.wrap_i64]; omega
          have u2 : IntKind.i64.wrap ((P1 : Int) * (W : Int)) = (P2 : Int) := by rw [← Int.natCast_mul, hP2, IntKind.wrap_i64]; omega
          have u3 : IntKind.i64.wrap ((P2 : Int) + (RX : Int)) = (P3 : Int) := by rw [IntKind.wrap_i64]; omega
          have u4 : IntKind.i64.wrap ((P3 : Int) + (r : Int)) = (P4 : Int) := by rw [IntKind.wrap_i64]; omega
          have hix2 : ∀ w : World, (Instr.indexAt 42 (.slice (some ⟨gW, 0, none⟩) T T) (.int .i64 (P4 : Int))).run Try.prog w = .ok (.pointer (some ⟨gW, P4, none⟩)) w := fun w => index_one Try.underlying42 (fun _ => by kernel_rfl) hP4T w
          have HWN : Hid ((wr.drew.setCell ⟨gW, P4, none⟩ (.int .u8 x)).heap[gW]? = some (.cells ((wtL W H pad s i k (j + 1)).map (Value.int .u8)).toArray 5 (0, 0))) := Lib.hid (by
            have h1 := heap_setCell_same wr.drew gW P4 _ _ (.int .u8 x) (show wr.drew.heap[gW]? = _ from HWJ.out)
            rw [h1, ← wt_step hr q1 (by omega) (by rw [q6]; exact hjn) hx]
            have : (Y + pad + j / m) * W + (X + pad) + j % m = P4 := by rw [xX, xY, hq, hrr, hP1, hP2, hP3, hP4]
            rw [this, List.map_set]
            simp)
          have HRN : Hid (Kept (fun q => q = gW) w13 (wr.drew.setCell ⟨gW, P4, none⟩ (.int .u8 x))) := Lib.hid (HRJ.out.trans ((Kept.drew _ wr).trans (Kept.setCell _ _ _ _ rfl)))
          have hst : ∀ v : Int, (store ((⟨gW, P4, none⟩ : Addr).add 0) (.int .u8 v)).run Try.prog wr.drew = .ok () (wr.drew.setCell ⟨gW, P4, none⟩ (.int .u8 v)) := fun v => store_u8 (show wr.drew.heap[gW]? = _ from HWJ.out) (by simpa [wtL, HTT.out] using hP4T)
          clear hkm hki hr q1 q2 q3 q4 q5 q6 hjl hx hdm hml hjd hq hrr hP1 hP2 hP3 hP4 xX xY G2J G13J
          go_upto_region 16 with (fail)
          have hcw0 : ∃ old, wr.drew.cell? ⟨gW, P4, none⟩ = some old := by
            have : (wr.drew).heap[gW]? = _ := HWJ.out
            simp [World.cell?, this, wtL, HTT.out, hP4T]
          obtain ⟨old, hcw⟩ := hcw0
          have hfw : wr.drew.frozen? ⟨gW, P4, none⟩ = false := by
            have : (wr.drew).heap[gW]? = _ := HWJ.out
            simp [World.frozen?, this]
          have hP4i : (P4 : Int) < (T : Int) := by omega
          clear hst hP4T
          refine wp_region_still_tail 23 (by kernel_rfl) (by kernel_rfl) ?_
          simp only [List.take_succ_cons, List.take_zero, List.drop_succ_cons, List.drop_zero]
          iterate 23 still_step
          refine wpStill_nil ?_
          change wpList _ _ _ _ _ wr.drew
          go_wp2_with fail
          go_roundw
          case rel => exact ⟨j + 1, by go_num, by omega, HRN, HWN⟩
          case measure => simp [intOf]; omega
        · have hjn' : ¬ (j : Int) < (N : Int) := by omega
          have e : j = N := by omega
          subst e
          go_wp2_with fail
          go_roundw
          case rel =>
            obtain ⟨hkm, hki, hr, q1, q2, q3, q4, q5, q6⟩ := HKR.out
            refine ⟨i + 1, by go_num, by omega, Lib.hid (HR13.out.trans HRJ.out), Lib.hid ?_⟩
            have := HWJ.out
            rw [← q6, wt_end HIV.out hki hr q1] at this
            exact this
          case measure => simp [intOf]; omega
    · have hik' : ¬ (i : Int) < (K : Int) := by omega
      have e : i = K := by omega
      subst e
      have HWE : Hid (wr.heap[gW]? = some (.cells ((pgL W H pad s).map (Value.int .u8)).toArray 5 (0, 0))) := Lib.hid (by rw [← tk_all W H pad s, HK.out]; exact HW.out)
      replace S2 := Lib.hid (S2.out.kept HR.out (fun q hq h => HN2.out q hq h))
      replace S3 := Lib.hid (S3.out.kept HR.out (fun q hq h => HN3.out q hq h))
      replace G5 := Lib.hid (HR.out.get G5.out HN7.out)
      obtain ⟨m0, m1, m2, m4, m5, m6, m7⟩ := SH.out.cell wr BR.out
      obtain ⟨w6, hw6⟩ : ∃ x, x = wr := ⟨_, rfl⟩
      subst hw6
      clear HW HR S1 HN1 HN2 HN3 HN7 HW0 HG0
      go_upto_region 20 with (fail)
      clear m0 m1 m2 m4 m5 m6 m7
      go_loopw [203] (fun v wr => ∃ t : Nat, v = .int .i64 t ∧ t ≤ G ∧ Hid (Below w6.heap.size w6 wr)) (fun v _ => G - (intOf v).toNat)
      case atStart => exact ⟨0, rfl, Nat.zero_le _, Lib.hid (Below.refl _ _)⟩
      case round =>
        obtain ⟨t, rfl, ht, HT6⟩ := hrel
        have BT := Lib.hid (BR.out.trans (HT6.out.mono BR.out.size))
        by_cases htg : t < G
        · have htg' : (t : Int) < (G : Int) := by omega
          have htl : t < s.gone.length := by rw [HG.out]; exact htg
          obtain ⟨u, hu⟩ : ∃ u, s.gone[t]? = some u := ⟨_, List.getElem?_eq_getElem htl⟩
          obtain ⟨ga, rfl, hca, -⟩ := (SH.out.gs wr BT.out).elem (i := t) (x := .string u) htg (by rw [List.getElem?_map, hu]; rfl)
          obtain ⟨gb, rfl, hcb, -⟩ := (S2.out.kept (Kept.of_below (fun _ => False) HT6.out) (fun _ _ h => h)).elem (i := t) (x := .string u) htg (by rw [List.getElem?_map, hu]; rfl)
          clear hu htl
          go_wp2_with fail
          go_roundw
          case rel => exact ⟨t + 1, by go_num, by omega, HT6⟩
          case measure => simp [intOf]; omega
        · have htg' : ¬ (t : Int) < (G : Int) := by omega
          have G7 := blk_below G5.out HT6.out
          have c72 : wr.cell? ⟨b7, 2, none⟩ = some (.slice A3 T c3) := (blk_cell G7 2).trans rfl
          have hT6 : T ≤ 140737488351232 := by omega
          have hA := (slO_C8 hT6 (S3.out.kept (Kept.of_below (fun _ => False) HT6.out) (fun _ _ h => h))).1
          have hB := (slO_C8 hT6 (slO_lit (n := T) (blk_below HWE.out HT6.out) (by rw [pgL_len, HTT.out]) (by omega))).1
          have e1 := Kd.C_string (P := Try.prog) (c := c3) Try.underlying42 Try.underlying5 Try.underlying9 hA
          have e2 := Kd.C_string (P := Try.prog) (c := T) Try.underlying42 Try.underlying5 Try.underlying9 hB
          obtain ⟨str, hstr⟩ : ∃ str, strOfNums (pgL W H pad s) = str := ⟨_, rfl⟩
          rw [hstr] at e1 e2
          clear hA hB G7
          go_wp2_with fail
          go_ret
          exact ⟨rfl, BT.out⟩
end Go.Proofs.Ytaccppchhljnkaa

/- AtlasScript: its walk. -/
set_option linter.unusedVariables false
set_option linter.unusedSimpArgs false
namespace Go.Proofs.Ytaccppchhljnkaa
open Go.RowKit Go.Shelf Go.Proofs.YtaccppchhljnkaaW.PrintWords Go.Proofs.YtaccppchhljnkaaW.PrintLast Go.Proofs.YtaccppchhljnkaaW.PrintMore
theorem wf8x {x : Int} (h : (Lit.int .u8 x).wf = true) : 0 ≤ x ∧ x ≤ 255 := by simpa [Lit.wf, IntKind.min, IntKind.max, IntKind.signed, IntKind.bits] using h
attribute [local go_sem] max2_max min2_min max_two min_two
set_option maxHeartbeats 8000000 in
set_option maxRecDepth 100000 in
theorem atlasScript_core (x y z : Int) (hx : 0 ≤ x ∧ x ≤ 255) (hy : 0 ≤ y ∧ y ≤ 255) (hz : 0 ≤ z ∧ z ≤ 255) (a : Option Addr) (cap : Nat) (l : List Ax) (W0 : World) (rd : Kd.C kax W0 a l.length l) (le : l.length ≤ cap) (wf : ∀ p ∈ l, (Lit.int .u8 p.1).wf = true ∧ (Lit.int .u8 p.2.1).wf = true ∧ (Lit.int .u8 p.2.2.1).wf = true ∧ (Lit.int .u8 p.2.2.2.1).wf = true ∧ (Lit.int .u8 p.2.2.2.2).wf = true) :
    Calls Try.prog 8 #[.int .u8 x, .int .u8 y, .int .u8 z, .slice a l.length cap] W0 fun e w' => e = .returned (.bool true) ∧ Below W0.heap.size W0 w' := by
  obtain ⟨W, hW⟩ : ∃ W : Nat, (W : Int) = max 1 (min (x % 70) 64) := ⟨(max 1 (min (x % 70) 64)).toNat, by omega⟩
  obtain ⟨H, hH⟩ : ∃ H : Nat, (H : Int) = max 1 (min (y % 70) 64) := ⟨(max 1 (min (y % 70) 64)).toNat, by omega⟩
  obtain ⟨pad, hpad⟩ : ∃ pad : Nat, (pad : Int) = max 0 (min (z % 7 - 1) 4) := ⟨(max 0 (min (z % 7 - 1) 4)).toNat, by omega⟩
  have hw1 : 1 ≤ W ∧ W ≤ 64 := by omega
  have hh1 : 1 ≤ H ∧ H ≤ 64 := by omega
  have hp4 : pad ≤ 4 := by omega
  have HAW := Lib.hid (awake16 W0)
  have HNEW := Lib.hid (fun w => new_c w x y z hx hy hz W H pad hW hH hpad)
  obtain ⟨M, hM⟩ : ∃ M, min l.length 60 = M := ⟨_, rfl⟩
  have hMi : min (l.length : Int) 60 = (M : Int) := by omega
  have hMl : M ≤ l.length := by omega
  have hML : M ≤ 60 := by omega
  have hMc : M ≤ cap := by omega
  have hMc' : (M : Int) ≤ (cap : Int) := by omega
  obtain ⟨len, hlen⟩ : ∃ len, l.length = len := ⟨_, rfl⟩
  have HLEN := Lib.hid hlen
  rw [hlen] at le hMi hMl ⊢
  have RD := Lib.hid rd
  have WF := Lib.hid wf
  clear hx hy hz hW hH hpad hM rd wf hlen
  go_enter Try.func8, Try.ntmps8
  go_wp2_with fail
  refine HAW.out.mono ?_
  rintro e w1 ⟨rfl, hb1⟩
  have HB1 := Lib.hid hb1
  clear hb1 HAW
  go_wp2_with fail
  refine (HNEW.out w1).mono ?_
  rintro e w2 ⟨b, bm, rfl, h2⟩
  have H2 : Hid (Two (fun q => q < W0.heap.size) W0 w2 b bm W H pad (zeroS W) (zeroS W) (fun _ => none)) := Lib.hid (h2.rebase (fun q hq => Nat.lt_of_lt_of_le hq HB1.out.size) (Kept.of_below _ HB1.out) (fun q hq => hq))
  clear h2 HNEW
  have hsk : ∃ g, w2.cell? ⟨bm, 3, none⟩ = some (.pointer (some ⟨g, 0, none⟩)) := by
    obtain ⟨c, cm, h1, h2, _⟩ := H2.out
    exact ⟨cm.g, h2.raw.cell.2.2.2.1⟩
  obtain ⟨gs, c3⟩ := hsk
  go_upto_region 7 with (fail)
  clear c3
  go_loopw [37] (fun v wr => ∃ (j : Nat) (s : AtS) (F : ByteArray → Option FV), v = .int .i64 j ∧ j ≤ M ∧ Hid (Two (fun q => q < W0.heap.size) W0 wr b bm W H pad s s F) ∧ Hid (s.gone.length + s.keys.length ≤ j)) (fun v _ => M - (intOf v).toNat)
  case atStart => exact ⟨0, zeroS W, _, rfl, Nat.zero_le _, H2, Lib.hid (Nat.le_refl _)⟩
  case round =>
    obtain ⟨j, s, F, rfl, hj, HT, HC⟩ := hrel
    clear H2
    by_cases hjm : j < M
    · have hjm' : (j : Int) < (M : Int) := by omega
      obtain ⟨ad, eA⟩ := C_some RD.out (by rw [HLEN.out]; omega)
      subst eA
      have hbel : Below W0.heap.size W0 wr := HT.out.out (fun q hq => hq) (Nat.le_refl _)
      obtain ⟨⟨o, k, px, py, i⟩, hp⟩ : ∃ p, l.getD j (0, 0, 0, 0, 0) = p := ⟨_, rfl⟩
      obtain ⟨a0, a1, a2, a3, a4⟩ := ax_at (Kd.C_below RD.out hbel) j (by rw [HLEN.out]; omega) _ hp
      have hpm : (o, k, px, py, i) ∈ l := by
        rw [List.getD_eq_getElem?_getD, List.getElem?_eq_getElem (by rw [HLEN.out]; omega), Option.getD_some] at hp
        rw [← hp]; exact List.getElem_mem _
      obtain ⟨f0, f1, f2, f3, f4⟩ := WF.out _ hpm
      have r0 := wf8x f0; have r1 := wf8x f1; have r2 := wf8x f2; have r3 := wf8x f3; have r4 := wf8x f4
      obtain ⟨kn, rfl⟩ := Int.eq_ofNat_of_zero_le r1.1
      simp only at a0 a1 a2 a3 a4 r0 r1 r2 r3 r4
      have hbb := below_alloc (Below.refl _ wr) (.cells #[.int .u8 o, .int .u8 (kn : Int), .int .u8 px, .int .u8 py, .int .u8 i] 35)
      have HT1 := Lib.hid (HT.out.below hbb)
      have G1 := heap_alloc_new wr (.cells #[.int .u8 o, .int .u8 (kn : Int), .int .u8 px, .int .u8 py, .int .u8 i] 35)
      have hdo := do_c HT1.out o px py i kn (px % 14).toNat (py % 14).toNat r0 (by omega) r2 r3 r4 (by omega) (by omega) (by have := HC.out; omega)
      have HDO := Lib.hid hdo
      have HC1 : Hid ((doS W H pad s o kn (px % 14).toNat (py % 14).toNat i).gone.length + (doS W H pad s o kn (px % 14).toNat (py % 14).toNat i).keys.length ≤ j + 1) := Lib.hid (by
        have h1 := doS_le W H pad s HT.out.on.inv.nd o kn (px % 14).toNat (py % 14).toNat i
        have h2 := HC.out
        omega)
      clear hbb hdo hp hpm f0 f1 f2 f3 f4 r0 r1 r2 r3 r4 hbel
      go_upto_region 9 with (fail)
      clear a0 a1 a2 a3 a4
      generalize wr.alloc (.cells #[.int .u8 o, .int .u8 (kn : Int), .int .u8 px, .int .u8 py, .int .u8 i] 35) = w5 at *
      have a0 : w5.cell? ⟨wr.heap.size, 0, none⟩ = some (.int .u8 o) := (blk_cell G1 0).trans rfl
      have a1 : w5.cell? ⟨wr.heap.size, 1, none⟩ = some (.int .u8 kn) := (blk_cell G1 1).trans rfl
      have a2 : w5.cell? ⟨wr.heap.size, 2, none⟩ = some (.int .u8 px) := (blk_cell G1 2).trans rfl
      have a3 : w5.cell? ⟨wr.heap.size, 3, none⟩ = some (.int .u8 py) := (blk_cell G1 3).trans rfl
      have a4 : w5.cell? ⟨wr.heap.size, 4, none⟩ = some (.int .u8 i) := (blk_cell G1 4).trans rfl
      clear G1
      go_wp2_with fail
      refine HDO.out.mono ?_
      rintro e w6 ⟨rfl, F6, h6⟩
      have H6 := Lib.hid h6
      clear h6 HDO HT HT1 a0 a1 a2 a3 a4
      have hg6 : (doS W H pad s o kn (px % 14).toNat (py % 14).toNat i).gone.length ≤ 1000 := by have := HC1.out; omega
      have HSH := Lib.hid (shows_c H6.out hg6)
      clear hg6
      go_wp2_with fail
      refine HSH.out.mono ?_
      rintro e w7 ⟨rfl, hb7⟩
      have H7 := Lib.hid (H6.out.below hb7)
      clear hb7 HSH H6
      go_wp2_with fail
      go_roundw
      case rel => exact ⟨j + 1, _, F6, by go_num, by omega, H7, HC1⟩
      case measure => simp [intOf]; omega
    · have hjm' : ¬ (j : Int) < (M : Int) := by omega
      have HC0 : Hid (s.gone.length + s.keys.length ≤ 60) := Lib.hid (by have := HC.out; omega)
      clear HC hjm
      have HSH := Lib.hid (shows_c HT.out (by have := HC0.out; omega))
      have HO := Lib.hid (HT.out.out (fun q hq => hq) (Nat.le_refl _))
      go_wp2_with fail
      refine HSH.out.mono ?_
      rintro e w7 ⟨rfl, hb7⟩
      go_wp2_with fail
      go_ret
      exact ⟨rfl, below_step HO.out hb7⟩
end Go.Proofs.Ytaccppchhljnkaa

/- AtlasScript: for every input the law returns true. No condition. -/
set_option linter.unusedVariables false
set_option linter.unusedSimpArgs false
namespace Go.Proofs.Ytaccppchhljnkaa
open Go.RowKit Go.Proofs.YtaccppchhljnkaaW.PrintWords Go.Proofs.YtaccppchhljnkaaW.PrintMore
theorem wfu8 {x : Int} (h : (Lit.int .u8 x).wf = true) : 0 ≤ x ∧ x ≤ 255 := by simpa [Lit.wf, IntKind.min, IntKind.max, IntKind.signed, IntKind.bits] using h
theorem wfi8 {x : Int} (h : (Lit.int .i8 x).wf = true) : -128 ≤ x ∧ x ≤ 127 := by simpa [Lit.wf, IntKind.min, IntKind.max, IntKind.signed, IntKind.bits] using h
theorem wfi16 {x : Int} (h : (Lit.int .i16 x).wf = true) : -32768 ≤ x ∧ x ≤ 32767 := by simpa [Lit.wf, IntKind.min, IntKind.max, IntKind.signed, IntKind.bits] using h

namespace atlasScript
open Go.ChangeShapes Go.WideShapes Go.ChangeAt Go.RowKit
open Go.ChangeMaps (open_string shut_string)
theorem own : ownKnob Try.prog.godebug = none := by kernel_rfl
theorem laidOut : laidOutB Try.prog = true := by kernel_rfl

set_option maxRecDepth 100000 in
theorem lifted (os : Os) (started : os.Started) (H : Type) (enc : TypeId × Value → H) :
    ReturnsInHanded {} Try.checked os 8 .any (Rows.atlasScriptSpec.pre6 enc Try.prog Try.f8 Rows.atlasScriptRow.domain false) (Rows.atlasScriptSpec.post enc Try.prog Try.f8 false true false false) := by
  refine returnsInHanded_of_change (C := Try.checked) own started (by kernel_rfl) Try.func8
    (ChangeSpec.witness6 (enc := enc) (C := Try.checked) false ⟨#[], #[.int .u8 0, .int .u8 0, .int .u8 0, .slice none 0 0], []⟩ 8 (by kernel_rfl) (by kernel_rfl) (by kernel_rfl) (by kernel_rfl)) ?_
  intro W base args ds gs before hval0 hW hcnd _
  have hval : ∀ (j : Nat) t v, Try.f8.params[j]? = some t → args[j]? = some v → Value.okWide Try.prog W .any base t v := hval0
  have hW' := hW
  obtain ⟨p, q, hA0, hV, rfl, hfz, hnd⟩ := hW
  have hA : DataW.TrodAll enc Try.prog W 0 (fun _ => true) true Try.f8.params.toList args.toList ds p := hA0
  rw [Try.params8] at hA hval
  obtain ⟨v0, vs0, d0, ds0, p0, q0, hargs, rfl, rfl, h0, r0⟩ := trodAll_cons hA
  obtain ⟨v1, vs1, d1, ds1, p1, q1, rfl, rfl, rfl, h1, r1⟩ := trodAll_cons r0
  obtain ⟨v2, vs2, d2, ds2, p2, q2, rfl, rfl, rfl, h2, r2⟩ := trodAll_cons r1
  obtain ⟨v3, vs3, d3, ds3, p3, q3, rfl, rfl, rfl, h3, r3⟩ := trodAll_cons r2
  obtain ⟨rfl, rfl, rfl⟩ := trodAll_nil r3
  obtain rfl : args = #[v0, v1, v2, v3] := by cases args; simp_all
  obtain ⟨rfl, rfl⟩ := trodVars_none hV
  obtain ⟨a0, rfl, rfl, rfl, w0⟩ := open_int Try.underlying5 (hval 0 5 v0 rfl rfl) h0
  obtain ⟨a1, rfl, rfl, rfl, w1⟩ := open_int Try.underlying5 (hval 1 5 v1 rfl rfl) h1
  obtain ⟨a2, rfl, rfl, rfl, w2⟩ := open_int Try.underlying5 (hval 2 5 v2 rfl rfl) h2
  obtain ⟨a3, len3, cap3, rfl⟩ := okWide_slice Try.underlying22 (hval 3 22 v3 rfl rfl)
  have k3 := h3
  have lt3 : ∀ x ∈ p3, x.block < W.heap.size := by obtain ⟨m, hm⟩ := k3; exact DataW.trod_lt m _ _ _ hm
  obtain ⟨l3, rfl, rd3, le3, wf3⟩ := open_acts h3
  clear hA0 hval0
  refine (atlasScript_core a0 a1 a2 (wfu8 w0) (wfu8 w1) (wfu8 w2) a3 cap3 l3 W rd3 le3 wf3).mono fun e W' ⟨he, bel⟩ => ?_
  subst he
  exact ⟨_, rfl, _, _, _, [], _, [], hW', trodAll_mk1 (shut_bool Try.underlying4 _), (trodAll_cons_mk (shut_int Try.underlying5 w0) (trodAll_cons_mk (shut_int Try.underlying5 w1) (trodAll_cons_mk (shut_int Try.underlying5 w2) (trodAll_cons_mk (Below.trod laidOut (by kernel_rfl) (of_decide_eq_true (by kernel_rfl)) k3 bel lt3) trodAll_mk0)))), rfl, bel.frame _, fun h => by cases h⟩

theorem over : Rows.atlasScriptRow.holds Try.pinned (OpenSpec.ofChange Rows.atlasScriptSpec) :=
  OpenClaim.holds_of_wide 8 Try.f8 rfl rfl rfl rfl rfl rfl rfl ⟨rfl, rfl, rfl, rfl, rfl⟩ rfl rfl rfl rfl rfl (by kernel_rfl) Try.func8 (by kernel_rfl)
    (of_decide_eq_true (by kernel_rfl)) (by unfold Func.isWrapper; first | (rw [if_pos (by decide +kernel)]; kernel_rfl) | (rw [if_neg (by decide +kernel)]; exact ⟨rfl, rfl⟩))
    (fun os started H enc _ => lifted os started H enc)

theorem proved : Rows.AtlasScriptSaid := over
end atlasScript
end Go.Proofs.Ytaccppchhljnkaa
