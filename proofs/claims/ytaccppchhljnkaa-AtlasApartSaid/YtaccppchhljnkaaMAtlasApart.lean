/- Joined: Fin, AApart, LAtlasApart. No condition. -/
import Derived.Test.YtaccppchhljnkaaBase
import Derived.BigQuiet
import Derived.StillTail
import Derived.Test.YtaccppchhljnkaaAwk
import Derived.Test.YtaccppchhljnkaaAtU
import Derived.Test.YtaccppchhljnkaaRows
import Derived.ProofKit
import Derived.OpenShut
import Derived.ShutString
import Derived.ChangeOld
import Derived.Below
/- A region that only reads, by the values that its operations come to: each operation is looked at once, over a look-up of values; the frame is put together once. -/
set_option linter.unusedVariables false
set_option linter.unusedSimpArgs false
namespace Go.Proofs.Ytaccppchhljnkaa
open Go.RowKit
/-- The frame behind a list of operations that come to these values. -/
def runA (a : Act) : List Oper → List Value → Act
  | o :: l, v :: vs => runA (a.put o.dst v) l vs
  | _, _ => a
/-- What a slot holds behind them. -/
def evF (a : Act) : List Oper → List Value → Tmp → Value
  | o :: l, v :: vs, t => if l.any (fun o' => o'.dst == some t) then evF a l vs t else if o.dst == some t then v else a.eval (.tmp t)
  | _, _, t => a.eval (.tmp t)
def evO (a : Act) (l : List Oper) (vs : List Value) : Operand → Value
  | .tmp t => evF a l vs t
  | x => a.eval x
def ssaB (ops : Array Oper) : List Oper → Bool
  | [] => true
  | o :: l => (o.looksAt ops).all (fun t => !(o :: l).any (fun o' => o'.dst == some t)) && ssaB ops l
/-- Each slot is written once. -/
def onceB : List Oper → Bool
  | [] => true
  | o :: l => (match o.dst with | some d => !l.any (fun o' => o'.dst == some d) | none => true) && onceB l
def insB (n : Nat) (l : List Oper) : Bool := l.all fun o => match o.dst with | some d => decide (d < n) | none => true
theorem runA_eval_out {x : Operand} : ∀ (l : List Oper) (vs : List Value) (a : Act), (∀ t, x = .tmp t → l.any (fun o' => o'.dst == some t) = false) → (runA a l vs).eval x = a.eval x
  | [], vs, a, _ => by cases vs <;> rfl
  | o :: l, [], a, _ => rfl
  | o :: l, v :: vs, a, h => by
    show (runA (a.put o.dst v) l vs).eval x = _
    rw [runA_eval_out l vs _ (fun t e => by have := h t e; simp only [List.any_cons, Bool.or_eq_false_iff] at this; exact this.2)]
    refine Act.eval_put fun d hd e => ?_
    have := h d e
    simp [hd] at this
theorem any_of {l : List Oper} {t : Tmp} (h : l.any (fun o' => o'.dst == some t) = true) : ∃ o ∈ l, o.dst = some t := by
  obtain ⟨o, h1, h2⟩ := List.any_eq_true.1 h
  exact ⟨o, h1, by simpa using h2⟩
theorem put_size (a : Act) (x : Option Tmp) (v : Value) : (a.put x v).tmps.size = a.tmps.size := by cases x <;> simp [Act.put]
theorem evF_out : ∀ (l : List Oper) (vs : List Value) (a : Act) (t : Tmp), l.any (fun o' => o'.dst == some t) = false → evF a l vs t = a.eval (.tmp t)
  | [], vs, a, t, _ => by cases vs <;> rfl
  | o :: l, [], a, t, _ => rfl
  | o :: l, v :: vs, a, t, h => by
    simp only [List.any_cons, Bool.or_eq_false_iff] at h
    show (if _ then _ else if _ then _ else _) = _
    rw [h.2, h.1]; rfl
theorem runA_eval : ∀ (l : List Oper) (vs : List Value) (a : Act) (t : Tmp), l.length = vs.length → insB a.tmps.size l = true → onceB l = true → (runA a l vs).eval (.tmp t) = evF a l vs t
  | [], [], a, t, _, _, _ => rfl
  | o :: l, v :: vs, a, t, hl, hi, h1 => by
    have hi' : insB (a.put o.dst v).tmps.size l = true := by
      rw [put_size]
      unfold insB at hi ⊢
      simp only [List.all_cons, Bool.and_eq_true] at hi
      exact hi.2
    simp only [onceB, Bool.and_eq_true] at h1
    show (runA (a.put o.dst v) l vs).eval (.tmp t) = _
    rw [runA_eval l vs _ t (by simpa using hl) hi' h1.2]
    show _ = (if _ then _ else if _ then _ else _)
    by_cases hL : l.any (fun o' => o'.dst == some t) = true
    · rw [if_pos hL]
      -- the values are the same whatever the slot held
      have : ∀ (l : List Oper) (vs : List Value) (a b : Act), l.length = vs.length → l.any (fun o' => o'.dst == some t) = true → evF a l vs t = evF b l vs t := by
        intro l
        induction l with
        | nil => intro vs a b _ h; simp at h
        | cons o l ih =>
          intro vs a b hl h
          cases vs with
          | nil => simp at hl
          | cons v vs =>
            show (if _ then _ else if _ then _ else _) = (if _ then _ else if _ then _ else _)
            by_cases hl2 : l.any (fun o' => o'.dst == some t) = true
            · rw [if_pos hl2, if_pos hl2]
              exact ih vs a b (by simpa using hl) hl2
            · rw [if_neg hl2, if_neg hl2]
              have h3 : (o.dst == some t) = true := by
                simp only [List.any_cons, Bool.or_eq_true] at h
                rcases h with h | h
                · exact h
                · exact absurd h hl2
              rw [if_pos h3, if_pos h3]
      exact this l vs _ _ (by simpa using hl) hL
    · rw [if_neg hL, evF_out l vs _ t (by simpa using hL)]
      by_cases hd : (o.dst == some t) = true
      · rw [if_pos hd]
        have hd' : o.dst = some t := by simpa using hd
        have hs : t < a.tmps.size := by
          unfold insB at hi
          simp only [List.all_cons, Bool.and_eq_true, hd'] at hi
          simpa using hi.1
        rw [hd']
        simp [Act.eval, Act.put, hs]
      · rw [if_neg hd]
        exact Act.eval_put fun d hd2 e => hd (by injection e with e; subst e; simp [hd2])
section
variable {P : Program} {ops : Array Oper} {C : World → Prop}
/-- What one operation comes to, over the look-up. -/
def StepOK (P : Program) (ops : Array Oper) (C : World → Prop) (ρ : Operand → Value) (o : Oper) (v : Value) : Prop :=
  ((match o.guard with | none => true | some (j, want) => match (ops[j]?).bind (·.dst) with | some t => (match ρ (.tmp t) with | .bool b => b == want | _ => false) | none => false) = true ∧ ∀ w, C w → Oper.quietUpon P C w v ((execOp ρ o).run P w)) ∨
  ((match o.guard with | none => true | some (j, want) => match (ops[j]?).bind (·.dst) with | some t => (match ρ (.tmp t) with | .bool b => b == want | _ => false) | none => false) = false ∧ v = undef)
def StepsOK (P : Program) (ops : Array Oper) (C : World → Prop) (ρ : Operand → Value) : List Oper → List Value → Prop
  | o :: l, v :: vs => StepOK P ops C ρ o v ∧ StepsOK P ops C ρ l vs
  | [], [] => True
  | _, _ => False
theorem StepsOK.cons {ρ : Operand → Value} {o : Oper} {v : Value} {l : List Oper} {vs : List Value} (h : StepOK P ops C ρ o v) (k : StepsOK P ops C ρ l vs) : StepsOK P ops C ρ (o :: l) (v :: vs) := ⟨h, k⟩
theorem StepsOK.nil {ρ : Operand → Value} : StepsOK P ops C ρ [] [] := trivial
theorem yield_ev (fin : Act) (j : Nat) (want : Bool) : (yielded ops fin.tmps j == some want) = (match (ops[j]?).bind (·.dst) with | some t => (match fin.eval (.tmp t) with | .bool b => b == want | _ => false) | none => false) := by
  unfold yielded
  cases h : (ops[j]?).bind (·.dst) with
  | none => simp
  | some t =>
    simp only [Option.bind_some, Act.eval]
    rw [Array.getD_eq_getD_getElem?]
    cases h2 : fin.tmps[t]? with
    | none => simp [undef]
    | some v => cases v <;> simp
theorem runA_same (o : Oper) (hs : ∀ cs b, o.op ≠ .select cs b) : ∀ (l : List Oper) (vs : List Value) (a : Act), (o.looksAt ops).all (fun t => !l.any (fun o' => o'.dst == some t)) = true →
    execOp (runA a l vs).eval o = execOp a.eval o ∧ Region.wanted o (yielded ops (runA a l vs).tmps) = Region.wanted o (yielded ops a.tmps)
  | [], vs, a, _ => by cases vs <;> exact ⟨rfl, rfl⟩
  | o' :: l, [], a, _ => ⟨rfl, rfl⟩
  | o' :: l, v :: vs, a, h => by
    have h2 : (o.looksAt ops).all (fun t => !l.any (fun o' => o'.dst == some t)) = true := by
      rw [List.all_eq_true] at h ⊢
      intro t ht
      have := h t ht
      simp only [List.any_cons, Bool.not_or, Bool.and_eq_true] at this
      exact this.2
    have h3 : ∀ d, o'.dst = some d → d ∉ o.looksAt ops := fun d hd hm => by
      rw [List.all_eq_true] at h
      have := h d hm
      simp [hd] at this
    obtain ⟨r1, r2⟩ := runA_same o hs l vs (a.put o'.dst v) h2
    exact ⟨r1.trans (execOp_put o hs a o'.dst v h3), r2.trans (wanted_put o a o'.dst v h3)⟩
theorem wpQuiet_runA {Q : Act → Prop} (L : List Oper) (VS : List Value) (A : Act) (hsel : ∀ o ∈ L, ∀ cs b, o.op ≠ .select cs b) (hlen : L.length = VS.length) (hins : insB A.tmps.size L = true) (honce : onceB L = true)
    (hssa : ssaB ops L = true) (hst : StepsOK P ops C (evO A L VS) L VS) (hQ : Q (runA A L VS)) : wpQuiet P ops C Q L A := by
  have key : (evO A L VS) = (runA A L VS).eval := by
    funext x
    cases x with
    | tmp t => exact (runA_eval L VS A t hlen hins honce).symm
    | _ => rfl
  rw [key] at hst
  generalize hfin : runA A L VS = fin at hst hQ
  clear key hins honce
  revert hsel hssa hst hlen
  revert hfin
  revert A VS
  induction L with
  | nil => intro VS A hfin _ _ _ _; cases VS <;> (subst hfin; exact hQ)
  | cons o l ih =>
    intro VS A hfin hsel hlen hssa hst
    cases VS with
    | nil => simp at hlen
    | cons v vs =>
      obtain ⟨h1, h2⟩ := hst
      simp only [ssaB, Bool.and_eq_true] at hssa
      have hfin' : runA (A.put o.dst v) l vs = fin := hfin
      have hs := hsel o (by simp)
      obtain ⟨e1, e2⟩ := runA_same (ops := ops) o hs (o :: l) (v :: vs) A hssa.1
      rw [hfin] at e1 e2
      have hrest : wpQuiet P ops C Q l (A.put o.dst v) := ih vs _ hfin' (fun o ho => hsel o (by simp [ho])) (by simpa using hlen) hssa.2 h2
      show if _ then _ else _
      rw [← e2]
      have hw : Region.wanted o (yielded ops fin.tmps) = (match o.guard with | none => true | some (j, want) => match (ops[j]?).bind (·.dst) with | some t => (match fin.eval (.tmp t) with | .bool b => b == want | _ => false) | none => false) := by
        unfold Region.wanted
        cases o.guard with
        | none => rfl
        | some p => exact yield_ev fin p.1 p.2
      rw [hw]
      rcases h1 with ⟨g1, g2⟩ | ⟨g1, rfl⟩
      · rw [if_pos g1]
        refine ⟨v, fun w hw => ?_, hrest⟩
        unfold Oper.quietAt
        rw [← e1]
        exact g2 w hw
      · rw [if_neg (by rw [g1]; decide)]
        exact hrest
theorem wp_region_fin {id : Nat} {Q : Exit → Act → World → Prop} {a : Act} {w : World} {l : List Oper} (vs : List Value) (hm : P.follows .mixedOrders = true) (hB : Region.lexB .any l.toArray = true)
    (hchk : (decide (l.length = vs.length) && (insB a.tmps.size l && (onceB l && ssaB l.toArray l))) = true) (hst : StepsOK P l.toArray (fun w' => ∃ n, w' = w.drewN n) (evO a l vs) l vs)
    (hQ : ∀ w', (∃ n, w' = w.drewN n) → Q .normal (runA a l vs) w') : (Code.region id l.toArray true).wp P Q a w := by
  simp only [Bool.and_eq_true, decide_eq_true_eq] at hchk
  obtain ⟨h1, h2, h3, h4⟩ := hchk
  have hns : Region.noSelect l.toArray = true := by
    unfold Region.lexB at hB
    simp only [Bool.and_eq_true] at hB
    exact hB.1
  refine wp_region_quiet_lit hm hB ?_
  refine wpQuiet_runA l vs a (fun o ho cs b => ?_) h1 h2 h3 h4 hst hQ
  obtain ⟨j, hj⟩ := List.mem_iff_getElem?.1 ho
  exact Region.noSelect_spec hns j o cs b (by simpa using hj)
theorem wp_have_lexB {id : Nat} {Q : Exit → Act → World → Prop} {a : Act} {w : World} {l : List Oper} (hB : Region.lexB .any l.toArray = true) (h : Region.lexB .any l.toArray = true → (Code.region id l.toArray true).wp P Q a w) : (Code.region id l.toArray true).wp P Q a w := h hB
theorem noSelect_lex {l : List Oper} (hB : Region.lexB .any l.toArray = true) : Region.noSelect l.toArray = true := by
  unfold Region.lexB at hB
  simp only [Bool.and_eq_true] at hB
  exact hB.1
/-- The same in any class of worlds. -/
theorem wp_region_finC {id : Nat} {Q : Exit → Act → World → Prop} {a : Act} {w : World} {l : List Oper} (vs : List Value) (C : World → Prop) (hm : P.follows .mixedOrders = true) (hB : Region.lexB .any l.toArray = true)
    (hchk : (decide (l.length = vs.length) && (insB a.tmps.size l && (onceB l && ssaB l.toArray l))) = true) (hC : C w.drew) (hst : StepsOK P l.toArray C (evO a l vs) l vs)
    (hQ : ∀ w', C w' → Q .normal (runA a l vs) w') : (Code.region id l.toArray true).wp P Q a w := by
  simp only [Bool.and_eq_true, decide_eq_true_eq] at hchk
  obtain ⟨h1, h2, h3, h4⟩ := hchk
  refine wp_region_quiet (C := C) hm hB hC ?_
  refine wpQuiet_runA l vs a (fun o ho cs b => ?_) h1 h2 h3 h4 hst hQ
  obtain ⟨j, hj⟩ := List.mem_iff_getElem?.1 ho
  exact Region.noSelect_spec (noSelect_lex hB) j o cs b (by simpa using hj)
theorem wpStill_of_quiet {w : World} {Q : Act → Prop} : ∀ (l : List Oper) (a : Act), wpQuiet P ops (fun w' => w' = w) Q l a → wpStill P ops w Q l a
  | [], a, h => h
  | o :: l, a, h => by
    show if _ then _ else _
    have h : if Region.wanted o (yielded ops a.tmps) = true then o.quiet P a (fun w' => w' = w) (wpQuiet P ops (fun w' => w' = w) Q l) else wpQuiet P ops (fun w' => w' = w) Q l (a.put o.dst undef) := h
    by_cases hw : Region.wanted o (yielded ops a.tmps) = true
    · rw [if_pos hw] at h ⊢
      obtain ⟨v, h1, h2⟩ := h
      have h3 := h1 w rfl
      unfold Oper.quietAt at h3
      unfold Oper.still
      cases hr : (execOp a.eval o).run P w with
      | ok nx w' =>
        rw [hr] at h3
        cases nx with
        | value u => obtain ⟨e1, e2⟩ := h3; exact ⟨e1, e2 ▸ wpStill_of_quiet l _ h2⟩
        | skip => obtain ⟨e1, e2⟩ := h3; exact ⟨e1, e2 ▸ wpStill_of_quiet l _ h2⟩
        | enter f args => obtain ⟨e1, e2⟩ := h3; exact ⟨e1, v, e2, wpStill_of_quiet l _ h2⟩
        | _ => exact h3.elim
      | halt h' w' => rw [hr] at h3; exact h3.elim
    · rw [if_neg hw] at h ⊢
      exact wpStill_of_quiet l _ h
/-- Reads, and what stands behind them in the text's order. -/
theorem wp_region_finT {id : Nat} {Q : Exit → Act → World → Prop} {a : Act} {w : World} {l : List Oper} (n : Nat) (vs : List Value) (hm : P.follows .mixedOrders = true) (hB : Region.lexTailB .any l.toArray n = true) (hns : Region.noSelect l.toArray = true)
    (hchk : (decide ((l.take n).length = vs.length) && (insB a.tmps.size (l.take n) && (onceB (l.take n) && ssaB l.toArray (l.take n)))) = true) (hst : StepsOK P l.toArray (fun w' => w' = w.drew) (evO a (l.take n) vs) (l.take n) vs)
    (hQ : wpList P l.toArray Q (l.drop n) (runA a (l.take n) vs) w.drew) : (Code.region id l.toArray true).wp P Q a w := by
  simp only [Bool.and_eq_true, decide_eq_true_eq] at hchk
  obtain ⟨h1, h2, h3, h4⟩ := hchk
  refine wp_region_still_tail n hm hB ?_
  refine wpStill_of_quiet _ _ ?_
  refine wpQuiet_runA (l.take n) vs a (fun o ho cs b => ?_) h1 h2 h3 h4 hst hQ
  obtain ⟨j, hj⟩ := List.mem_iff_getElem?.1 (List.mem_of_mem_take ho)
  exact Region.noSelect_spec hns j o cs b (by simpa using hj)
theorem cellD {w : World} {a : Addr} {v : Value} (h : w.cell? a = some v) : ∀ w', (∃ n, w' = w.drewN n) → w'.cell? a = some v := fun w' ⟨n, e⟩ => by rw [e]; exact h
/-! Kinds of operations. -/
section
variable {ρ : Operand → Value} {o : Oper} {v : Value}
def GuardIs (ops : Array Oper) (ρ : Operand → Value) (o : Oper) : Bool := match o.guard with | none => true | some (j, want) => match (ops[j]?).bind (·.dst) with | some t => (match ρ (.tmp t) with | .bool b => b == want | _ => false) | none => false
theorem ok_off (hg : GuardIs ops ρ o = false) (hv : v = undef) : StepOK P ops C ρ o v := .inr ⟨hg, hv⟩
theorem ok_run (hg : GuardIs ops ρ o = true) (hr : ∀ w, (execOp ρ o).run P w = .ok (.value v) w) : StepOK P ops C ρ o v := .inl ⟨hg, fun w _ => by rw [hr w]; exact ⟨rfl, rfl⟩⟩
theorem ok_eq {v0 : Value} (hg : GuardIs ops ρ o = true) (hr : ∀ w, (execOp ρ o).run P w = .ok (.value v0) w) (he : v0 = v) : StepOK P ops C ρ o v := ok_run hg (he ▸ hr)
theorem ok_load {t : TypeId} {x : Operand} {a : Addr} (hg : GuardIs ops ρ o = true) (ho : o.op = .load t x) (hx : ρ x = .pointer (some a)) (ht : ∀ w, (isAgg t).run P w = .ok false w) (hc : ∀ w, C w → w.cell? a = some v) : StepOK P ops C ρ o v :=
  .inl ⟨hg, fun w hw => by
    have : (execOp ρ o).run P w = .ok (.value v) w := by
      obtain ⟨dst, op, type, pos, after, guard⟩ := o
      obtain rfl : op = .load t x := ho
      simp [execOp, hx, Instr.loadAt, Instr.sureAddr, loadVar, ht w, hc w hw, Result.andThen]
    rw [this]; exact ⟨rfl, rfl⟩⟩
theorem ok_in {v : Value} (hg : GuardIs ops ρ o = true) (hr : ∀ w, C w → (execOp ρ o).run P w = .ok (.value v) w) : StepOK P ops C ρ o v := .inl ⟨hg, fun w hw => by rw [hr w hw]; exact ⟨rfl, rfl⟩⟩
theorem ok_call {f : FuncId} {args : Array Value} (hg : GuardIs ops ρ o = true) (hr : ∀ w, (execOp ρ o).run P w = .ok (.enter f args) w) (hk : ∀ w, C w → Calls P f args w (fun e w'' => e = .returned v ∧ C w'')) : StepOK P ops C ρ o v :=
  .inl ⟨hg, fun w hw => by rw [hr w]; exact ⟨rfl, hk w hw⟩⟩
theorem ok_loadRow {t u : TypeId} {x : Operand} {g : Nat} {cs : Array Value} {d : TypeDesc} {fr : Nat × Nat} (hg : GuardIs ops ρ o = true) (ho : o.op = .load t x) (hx : ρ x = .pointer (some ⟨g, 0, none⟩)) (hu : P.underlying t = some d) (hd : (match d with | .struct _ | .array _ _ => true | _ => false) = true) (hi : (P.info? t).map (·.size) = some cs.size)
    (hc : ∀ w, C w → w.heap[g]? = some (.cells cs u fr)) : StepOK P ops C ρ o (.agg cs) :=
  ok_in hg (fun w hw => by
    obtain ⟨dst, op, type, pos, after, guard⟩ := o
    obtain rfl : op = .load t x := ho
    simp [execOp, hx, Instr.loadAt, Instr.sureAddr, run_loadVar_row w g u t cs fr d (hc w hw) hu hd hi, Result.andThen])
theorem ok_strNe {t t' : TypeId} {x y : Operand} {k : ByteArray} (hg : GuardIs ops ρ o = true) (ho : o.op = .binOp .neq t x y t') (hx : ρ x = .string k) (hy : ρ y = .string k) : StepOK P ops C ρ o (.bool false) :=
  ok_in hg (fun w hw => by
    obtain ⟨dst, op, type, pos, after, guard⟩ := o
    obtain rfl : op = .binOp .neq t x y t' := ho
    simp [execOp, hx, hy, eqGuard, binOp, Op.stringOp, Result.andThen])
theorem ok_aggNe {t t' : TypeId} {x y : Operand} {A B : Array Value} (hg : GuardIs ops ρ o = true) (ho : o.op = .binOp .neq t x y t') (hx : ρ x = .agg A) (hy : ρ y = .agg B) (hge : ∀ w, (eqGuard .neq t x y (.agg A) (.agg B)).run P w = .ok () w) (he : ∀ w, (Op.equal t (.agg A) (.agg B)).run P w = .ok true w) : StepOK P ops C ρ o (.bool false) :=
  ok_in hg (fun w hw => by
    obtain ⟨dst, op, type, pos, after, guard⟩ := o
    obtain rfl : op = .binOp .neq t x y t' := ho
    simp [execOp, hx, hy, hge w, binOp, he w, Result.andThen])
theorem wpList_store_one {rest : List Oper} {a : Act} {w : World} {Q : Exit → Act → World → Prop} {t : TypeId} {x y : Operand} {ad : Addr} {v old : Value} (hgd : o.guard = none) (ho : o.op = .store t x y) (hd : o.dst = none) (hx : a.eval x = .pointer (some ad)) (hy : a.eval y = v)
    (hv : v.cells = #[v]) (hs : ∀ w, (sizeOf t).run P w = .ok 1 w) (hst : (store (ad.add 0) v).run P w = .ok () (w.setCell ad v)) (h : wpList P ops Q rest a (w.setCell ad v)) : wpList P ops Q (o :: rest) a w := by
  refine wpList_plain hgd fun K hK => ?_
  have : (execOp a.eval o).run P w = .ok (.value undef) (w.setCell ad v) ∨ (execOp a.eval o).run P w = .ok .skip (w.setCell ad v) := by
    obtain ⟨dst, op, type, pos, after, guard⟩ := o
    obtain rfl : op = .store t x y := ho
    simp [execOp, hx, hy, Instr.storeAt, Instr.sureAddr, storeVar, hs w, hv, storeCells, hst, Result.andThen]
  unfold Oper.wp
  rcases this with h1 | h1
  · rw [h1]
    have hk := hK _ _ h
    rw [show a = a.put o.dst undef by rw [hd]; rfl] at hk
    simpa [Oper.upon] using hk
  · rw [h1]
    have hk := hK _ _ h
    rw [show a = a.put o.dst undef by rw [hd]; rfl] at hk
    simpa [Oper.upon] using hk
end
end
end Go.Proofs.Ytaccppchhljnkaa

/- AtlasApart: its walk. -/
set_option linter.unusedVariables false
set_option linter.unusedSimpArgs false
namespace Go.Proofs.Ytaccppchhljnkaa
open Go.RowKit Go.Shelf Go.Proofs.YtaccppchhljnkaaW.PrintWords Go.Proofs.YtaccppchhljnkaaW.PrintLast Go.Proofs.YtaccppchhljnkaaW.PrintMore
theorem wf8x {x : Int} (h : (Lit.int .u8 x).wf = true) : 0 ≤ x ∧ x ≤ 255 := by simpa [Lit.wf, IntKind.min, IntKind.max, IntKind.signed, IntKind.bits] using h
attribute [local go_sem] max2_max min2_min max_two min_two
set_option maxHeartbeats 8000000 in
set_option maxRecDepth 100000 in
theorem atlasApart_core (x y z : Int) (hx : 0 ≤ x ∧ x ≤ 255) (hy : 0 ≤ y ∧ y ≤ 255) (hz : 0 ≤ z ∧ z ≤ 255) (a : Option Addr) (cap : Nat) (l : List Ax) (W0 : World) (rd : Kd.C kax W0 a l.length l) (le : l.length ≤ cap) (wf : ∀ p ∈ l, (Lit.int .u8 p.1).wf = true ∧ (Lit.int .u8 p.2.1).wf = true ∧ (Lit.int .u8 p.2.2.1).wf = true ∧ (Lit.int .u8 p.2.2.2.1).wf = true ∧ (Lit.int .u8 p.2.2.2.2).wf = true) :
    Calls Try.prog 3 #[.int .u8 x, .int .u8 y, .int .u8 z, .slice a l.length cap] W0 fun e w' => e = .returned (.bool true) ∧ Below W0.heap.size W0 w' := by
  obtain ⟨W, hW⟩ : ∃ W : Nat, (W : Int) = max 1 (min (x % 70) 64) := ⟨(max 1 (min (x % 70) 64)).toNat, by omega⟩
  obtain ⟨H, hH⟩ : ∃ H : Nat, (H : Int) = max 1 (min (y % 70) 64) := ⟨(max 1 (min (y % 70) 64)).toNat, by omega⟩
  obtain ⟨pad, hpad⟩ : ∃ pad : Nat, (pad : Int) = max 0 (min (z % 7 - 1) 4) := ⟨(max 0 (min (z % 7 - 1) 4)).toNat, by omega⟩
  have hw1 : 1 ≤ W ∧ W ≤ 64 := by omega
  have hh1 : 1 ≤ H ∧ H ≤ 64 := by omega
  have hp4 : pad ≤ 4 := by omega
  have HAW := Lib.hid (awake16 W0)
  have HNEW := Lib.hid (fun w => new_c w x y z hx hy hz W H pad hW hH hpad)
  obtain ⟨M, hM⟩ : ∃ M, min l.length 60 = M := ⟨_, rfl⟩
  have hMi : min (l.length : Int) 60 = (M : Int) := by omega
  have hMl : M ≤ l.length := by omega
  have hML : M ≤ 60 := by omega
  have hMc : M ≤ cap := by omega
  have hMc' : (M : Int) ≤ (cap : Int) := by omega
  obtain ⟨len, hlen⟩ : ∃ len, l.length = len := ⟨_, rfl⟩
  have HLEN := Lib.hid hlen
  rw [hlen] at le hMi hMl ⊢
  have RD := Lib.hid rd
  have WF := Lib.hid wf
  clear hx hy hz hW hH hpad hM rd wf hlen
  go_enter Try.func3, Try.ntmps3
  go_wp2_with fail
  refine HAW.out.mono ?_
  rintro e w1 ⟨rfl, hb1⟩
  have HB1 := Lib.hid hb1
  clear hb1 HAW
  go_wp2_with fail
  refine (HNEW.out w1).mono ?_
  rintro e w2 ⟨b, bm, rfl, h2⟩
  have H2 : Hid (Two (fun q => q < W0.heap.size) W0 w2 b bm W H pad (zeroS W) (zeroS W) (fun _ => none)) := Lib.hid (h2.rebase (fun q hq => Nat.lt_of_lt_of_le hq HB1.out.size) (Kept.of_below _ HB1.out) (fun q hq => hq))
  clear h2 HNEW
  have hsk : ∃ g, w2.cell? ⟨bm, 3, none⟩ = some (.pointer (some ⟨g, 0, none⟩)) := by
    obtain ⟨c, cm, h1, h2, _⟩ := H2.out
    exact ⟨cm.g, h2.raw.cell.2.2.2.1⟩
  obtain ⟨gs, c3⟩ := hsk
  go_upto_region 7 with (fail)
  clear c3
  go_loopw [48] (fun v wr => ∃ (j : Nat) (s : AtS) (F : ByteArray → Option FV), v = .int .i64 j ∧ j ≤ M ∧ Hid (Two (fun q => q < W0.heap.size) W0 wr b bm W H pad s s F) ∧ Hid (s.gone.length + s.keys.length ≤ j)) (fun v _ => M - (intOf v).toNat)
  case atStart => exact ⟨0, zeroS W, _, rfl, Nat.zero_le _, H2, Lib.hid (Nat.le_refl _)⟩
  case round =>
    obtain ⟨j, s, F, rfl, hj, HT, HC⟩ := hrel
    clear H2
    by_cases hjm : j < M
    · have hjm' : (j : Int) < (M : Int) := by omega
      obtain ⟨ad, eA⟩ := C_some RD.out (by rw [HLEN.out]; omega)
      subst eA
      have hbel : Below W0.heap.size W0 wr := HT.out.out (fun q hq => hq) (Nat.le_refl _)
      obtain ⟨⟨o, k, px, py, i⟩, hp⟩ : ∃ p, l.getD j (0, 0, 0, 0, 0) = p := ⟨_, rfl⟩
      obtain ⟨a0, a1, a2, a3, a4⟩ := ax_at (Kd.C_below RD.out hbel) j (by rw [HLEN.out]; omega) _ hp
      have hpm : (o, k, px, py, i) ∈ l := by
        rw [List.getD_eq_getElem?_getD, List.getElem?_eq_getElem (by rw [HLEN.out]; omega), Option.getD_some] at hp
        rw [← hp]; exact List.getElem_mem _
      obtain ⟨f0, f1, f2, f3, f4⟩ := WF.out _ hpm
      have r0 := wf8x f0; have r1 := wf8x f1; have r2 := wf8x f2; have r3 := wf8x f3; have r4 := wf8x f4
      obtain ⟨kn, rfl⟩ := Int.eq_ofNat_of_zero_le r1.1
      simp only at a0 a1 a2 a3 a4 r0 r1 r2 r3 r4
      have hbb := below_alloc (Below.refl _ wr) (.cells #[.int .u8 o, .int .u8 (kn : Int), .int .u8 px, .int .u8 py, .int .u8 i] 35)
      have HT1 := Lib.hid (HT.out.below hbb)
      have G1 := heap_alloc_new wr (.cells #[.int .u8 o, .int .u8 (kn : Int), .int .u8 px, .int .u8 py, .int .u8 i] 35)
      have hdo := do_c HT1.out o px py i kn (px % 14).toNat (py % 14).toNat r0 (by omega) r2 r3 r4 (by omega) (by omega) (by have := HC.out; omega)
      have HDO := Lib.hid hdo
      have HC1 : Hid ((doS W H pad s o kn (px % 14).toNat (py % 14).toNat i).gone.length + (doS W H pad s o kn (px % 14).toNat (py % 14).toNat i).keys.length ≤ j + 1) := Lib.hid (by
        have h1 := doS_le W H pad s HT.out.on.inv.nd o kn (px % 14).toNat (py % 14).toNat i
        have h2 := HC.out
        omega)
      clear hbb hdo hp hpm f0 f1 f2 f3 f4 r0 r1 r2 r3 r4 hbel
      go_upto_region 9 with (fail)
      clear a0 a1 a2 a3 a4
      generalize wr.alloc (.cells #[.int .u8 o, .int .u8 (kn : Int), .int .u8 px, .int .u8 py, .int .u8 i] 35) = w5 at *
      have a0 : w5.cell? ⟨wr.heap.size, 0, none⟩ = some (.int .u8 o) := (blk_cell G1 0).trans rfl
      have a1 : w5.cell? ⟨wr.heap.size, 1, none⟩ = some (.int .u8 kn) := (blk_cell G1 1).trans rfl
      have a2 : w5.cell? ⟨wr.heap.size, 2, none⟩ = some (.int .u8 px) := (blk_cell G1 2).trans rfl
      have a3 : w5.cell? ⟨wr.heap.size, 3, none⟩ = some (.int .u8 py) := (blk_cell G1 3).trans rfl
      have a4 : w5.cell? ⟨wr.heap.size, 4, none⟩ = some (.int .u8 i) := (blk_cell G1 4).trans rfl
      clear G1
      go_wp2_with fail
      refine HDO.out.mono ?_
      rintro e w6 ⟨rfl, F6, h6⟩
      have H6 := Lib.hid h6
      clear h6 HDO HT HT1 a0 a1 a2 a3 a4
      go_wp2_with fail
      go_roundw
      case rel => exact ⟨j + 1, _, F6, by go_num, by omega, H6, HC1⟩
      case measure => simp [intOf]; omega
    · have hjm' : ¬ (j : Int) < (M : Int) := by omega
      have HC0 : Hid (s.gone.length + s.keys.length ≤ 60) := Lib.hid (by have := HC.out; omega)
      clear HC hjm
      go_wp2_with fail
      refine (keys_on HT.out.on).mono ?_
      rintro e w3 ⟨vo, rfl, hs3, hb3, hg3, -⟩
      obtain ⟨A3, cap3, rfl, hc3⟩ := hs3.isSlice
      obtain ⟨K, hK⟩ : ∃ K, s.keys.length = K := ⟨_, rfl⟩
      have hK32 : K ≤ 32 := by rw [← hK]; exact HT.out.on.inv.le
      rw [hK] at hs3 hg3 hc3 ⊢
      have H3 := Lib.hid (HT.out.below hb3)
      have HB3 : Hid (Below W0.heap.size W0 w3) := Lib.hid (H3.out.out (fun q hq => hq) (Nat.le_refl _))
      have S3 := Lib.hid hs3; have HK := Lib.hid hK
      have HND := Lib.hid HT.out.on.inv.nd
      have HKL := Lib.hid HT.out.on.kl
      have HIV := Lib.hid HT.out.on.inv
      have up2 : IntKind.i64.wrap (2 * (pad : Int)) = 2 * (pad : Int) := by rw [IntKind.wrap_i64]; omega
      clear hs3 hb3 hg3 HT hK
      go_upto_region 13 with (fail)
      go_loopw [61] (fun v wr => ∃ i : Nat, v = .int .i64 i ∧ i ≤ K ∧ Hid (Below w3.heap.size w3 wr)) (fun v _ => K - (intOf v).toNat)
      case atStart => exact ⟨0, rfl, Nat.zero_le _, Lib.hid (Below.refl _ _)⟩
      case round =>
        obtain ⟨i, rfl, hi, HI⟩ := hrel
        by_cases hik : i < K
        · have hik' : (i : Int) < (K : Int) := by omega
          have hil : i < s.keys.length := by rw [HK.out]; exact hik
          obtain ⟨k, hk⟩ : ∃ k, s.keys[i] = k := ⟨_, rfl⟩
          obtain ⟨g3, rfl, hc, -⟩ := (S3.out.kept (Kept.of_below (fun _ => False) HI.out) (fun _ _ h => h)).elem (i := i) (x := .string k) hik (by rw [List.getElem?_map, List.getElem?_eq_getElem hil, hk]; rfl)
          have hkm : k ∈ s.keys := by rw [← hk]; exact List.getElem_mem _
          have hkz : k.size ≤ maxLen := HKL.out k hkm
          obtain ⟨X, Y, m, n, hr, q1, q2, q3, q4, q5⟩ := HIV.out.nat hkm
          obtain ⟨RX, hRX⟩ : ∃ RX, X + pad = RX := ⟨_, rfl⟩
          obtain ⟨RY, hRY⟩ : ∃ RY, Y + pad = RY := ⟨_, rfl⟩
          obtain ⟨T, hT⟩ : ∃ T, m * n = T := ⟨_, rfl⟩
          have hpl : s.pl k = some ((X : Int), (Y : Int), (m : Int) + 2 * pad, (n : Int) + 2 * pad) := by rw [HIV.out.hasPl hkm, hr]
          have hrv : Er (rectV pad (s.pl k)) = .agg #[.int .i64 RX, .int .i64 RY, .int .i64 m, .int .i64 n] := by
            rw [hpl]
            show Value.agg #[.int .i64 ((X : Int) + pad), .int .i64 ((Y : Int) + pad), .int .i64 ((m : Int) + 2 * pad - 2 * pad), .int .i64 ((n : Int) + 2 * pad - 2 * pad)] = _
            rw [show (m : Int) + 2 * (pad : Int) - 2 * pad = m from by omega, show (n : Int) + 2 * (pad : Int) - 2 * pad = n from by omega, ← hRX, ← hRY, Int.natCast_add, Int.natCast_add]
          have hso : (s.pl k).isSome = true := by rw [hpl]; rfl
          have HRC : Hid (∀ w, Two (fun q => q < W0.heap.size) W0 w b bm W H pad s s F → Calls Try.prog 13 #[.pointer (some ⟨b, 0, none⟩), .string k] w fun e w' => e = .returned (.tuple #[.agg #[.int .i64 RX, .int .i64 RY, .int .i64 m, .int .i64 n], .bool true]) ∧ Below w.heap.size w w') := Lib.hid (fun w h => (rect_on h.on k hkz).mono (by
            rintro e w' ⟨rfl, hb, -⟩
            rw [hrv, hso]
            exact ⟨rfl, hb⟩))
          have HFC : Hid (∀ w, Two (fun q => q < W0.heap.size) W0 w b bm W H pad s s F → Calls Try.prog 14 #[.pointer (some ⟨b, 0, none⟩), .string k] w fun e w' => ∃ A cap, e = .returned (.tuple #[.agg #[.int .i64 m, .int .i64 n, .slice A T cap], .bool true]) ∧ Below w.heap.size w w') := Lib.hid (fun w h => (field_on h.on k hkz hkm).mono (by
            rintro e w' ⟨m', n', A, cap, e1, e2, e3, -, -, rfl, -, hb, -, -⟩
            rw [hr] at e1 e2
            have e1 : (m : Int) + 2 * pad = (m' : Int) + 2 * pad := e1
            have e2 : (n : Int) + 2 * pad = (n' : Int) + 2 * pad := e2
            obtain rfl : m = m' := by omega
            obtain rfl : n = n' := by omega
            rw [hT]
            exact ⟨A, cap, rfl, hb⟩))
          have H4 := Lib.hid (H3.out.below HI.out)
          have HP : Hid (X + pad = RX ∧ Y + pad = RY ∧ s.at k = ((X : Int), (Y : Int), (m : Int) + 2 * pad, (n : Int) + 2 * pad) ∧ 1 ≤ m ∧ 1 ≤ n ∧ k ∈ s.keys ∧ s.keys[i]? = some k) := Lib.hid ⟨hRX, hRY, hr, q1, q2, hkm, by rw [List.getElem?_eq_getElem hil, hk]⟩
          have hRW : RX + m + pad ≤ W := by omega
          have hRH : RY + n + pad ≤ H := by omega
          have hpX : pad ≤ RX := by omega
          have hpY : pad ≤ RY := by omega
          have hm64 : m ≤ 64 := by omega
          have hn64 : n ≤ 64 := by omega
          have umn : IntKind.i64.wrap ((m : Int) * (n : Int)) = (T : Int) := by
            rw [← Int.natCast_mul, hT, IntKind.wrap_i64]
            have : m * n ≤ 64 * 64 := Nat.mul_le_mul hm64 hn64
            omega
          clear hk hkm hkz hr hpl hrv hso hil hRX hRY hT q1 q2 q3 q4 q5
          go_wp2_with fail
          refine (HRC.out wr H4.out).mono ?_
          rintro e w5 ⟨rfl, hb5⟩
          have bb5 := below_alloc hb5 (.cells #[.int .i64 RX, .int .i64 RY, .int .i64 m, .int .i64 n] 39)
          have G5 := heap_alloc_new w5 (.cells #[.int .i64 RX, .int .i64 RY, .int .i64 m, .int .i64 n] 39)
          have H5 := Lib.hid (H4.out.below bb5)
          have I5 := Lib.hid (HI.out.trans (bb5.mono HI.out.size))
          clear hb5 bb5
          go_upto_region 16 with (fail)
          generalize w5.alloc (.cells #[.int .i64 RX, .int .i64 RY, .int .i64 m, .int .i64 n] 39) = w6 at *
          generalize w5.heap.size = b16 at *
          go_wp2_with fail
          refine (HFC.out w6 H5.out).mono ?_
          rintro e w7 ⟨A7, cap7, rfl, hb7⟩
          have bb7 := below_alloc hb7 (.cells #[.int .i64 m, .int .i64 n, .slice A7 T cap7] 44)
          have G7 := heap_alloc_new w7 (.cells #[.int .i64 m, .int .i64 n, .slice A7 T cap7] 44)
          have G6 := blk_below G5 bb7
          have H7 := Lib.hid (H5.out.below bb7)
          have I7 := Lib.hid (I5.out.trans (bb7.mono I5.out.size))
          clear hb7 bb7 G5
          go_upto_region 17 with (fail)
          generalize w7.alloc (.cells #[.int .i64 m, .int .i64 n, .slice A7 T cap7] 44) = w8 at *
          generalize w7.heap.size = b18 at *
          have r0 : w8.cell? ⟨b16, 0, none⟩ = some (.int .i64 RX) := (blk_cell G6 0).trans rfl
          have r1 : w8.cell? ⟨b16, 1, none⟩ = some (.int .i64 RY) := (blk_cell G6 1).trans rfl
          have r2 : w8.cell? ⟨b16, 2, none⟩ = some (.int .i64 m) := (blk_cell G6 2).trans rfl
          have r3 : w8.cell? ⟨b16, 3, none⟩ = some (.int .i64 n) := (blk_cell G6 3).trans rfl
          have f0 : w8.cell? ⟨b18, 0, none⟩ = some (.int .i64 m) := (blk_cell G7 0).trans rfl
          have f1 : w8.cell? ⟨b18, 1, none⟩ = some (.int .i64 n) := (blk_cell G7 1).trans rfl
          have f2 : w8.cell? ⟨b18, 2, none⟩ = some (.slice A7 T cap7) := (blk_cell G7 2).trans rfl
          obtain ⟨m0, m1, m2⟩ := H7.out.mcell
          have x1 : IntKind.i64.wrap ((RX : Int) + (m : Int)) = (RX : Int) + (m : Int) := by rw [IntKind.wrap_i64]; omega
          have x2 : IntKind.i64.wrap ((RX : Int) + (m : Int) + (pad : Int)) = (RX : Int) + (m : Int) + (pad : Int) := by rw [IntKind.wrap_i64]; omega
          have y1 : IntKind.i64.wrap ((RY : Int) + (n : Int)) = (RY : Int) + (n : Int) := by rw [IntKind.wrap_i64]; omega
          have y2 : IntKind.i64.wrap ((RY : Int) + (n : Int) + (pad : Int)) = (RY : Int) + (n : Int) + (pad : Int) := by rw [IntKind.wrap_i64]; omega
          have d1 := decide_eq_false (show ¬ (RX : Int) < (pad : Int) by omega)
          have d2 := decide_eq_false (show ¬ (RY : Int) < (pad : Int) by omega)
          have d3 := decide_eq_false (show ¬ (W : Int) < (RX : Int) + (m : Int) + (pad : Int) by omega)
          have d4 := decide_eq_false (show ¬ (H : Int) < (RY : Int) + (n : Int) + (pad : Int) by omega)
          have n1 : ((m : Int) != (m : Int)) = false := by simp
          have n2 : ((n : Int) != (n : Int)) = false := by simp
          have n3 : ((T : Int) != (T : Int)) = false := by simp
          go_cut [160] from 78 to 160 (fun v W => v = .bool false ∧ ∃ nq, W = w8.drewN nq)
          case first =>
            rename_i J1 K1 hJ1 hK1
            refine wp_region_fin (vs := [(.bool true), (.bool false), (.bool false), (.bool true), (.bool false), (.bool false), (.bool false), (.pointer (some ⟨b18, 0, none⟩)), (.int .i64 ((m : Int))), (.pointer (some ⟨b16, 2, none⟩)), (.int .i64 ((m : Int))), (.bool false), (.bool false), (.bool false), (.pointer (some ⟨b18, 1, none⟩)), (.int .i64 ((n : Int))), (.pointer (some ⟨b16, 3, none⟩)), (.int .i64 ((n : Int))), (.bool false), (.bool false), (.bool false), (.pointer (some ⟨b18, 2, none⟩)), (.slice A7 T cap7), (.int .i64 ((T : Int))), (.pointer (some ⟨b16, 2, none⟩)), (.int .i64 ((m : Int))), (.pointer (some ⟨b16, 3, none⟩)), (.int .i64 ((n : Int))), (.int .i64 ((T : Int))), (.bool false), (.bool false), (.bool false), (.pointer (some ⟨b16, 0, none⟩)), (.int .i64 ((RX : Int))), (.pointer (some ⟨bm, 0, none⟩)), (.pointer (some ⟨bm, 0, none⟩)), (.pointer (some ⟨bm, 2, none⟩)), (.int .i64 ((pad : Int))), (.bool false), (.bool false), (.bool false), (.pointer (some ⟨b16, 1, none⟩)), (.int .i64 ((RY : Int))), (.pointer (some ⟨bm, 0, none⟩)), (.pointer (some ⟨bm, 0, none⟩)), (.pointer (some ⟨bm, 2, none⟩)), (.int .i64 ((pad : Int))), (.bool false), (.bool false), (.bool false), (.pointer (some ⟨b16, 0, none⟩)), (.int .i64 ((RX : Int))), (.pointer (some ⟨b16, 2, none⟩)), (.int .i64 ((m : Int))), (.int .i64 ((RX : Int) + (m : Int))), (.pointer (some ⟨bm, 0, none⟩)), (.pointer (some ⟨bm, 0, none⟩)), (.pointer (some ⟨bm, 2, none⟩)), (.int .i64 ((pad : Int))), (.int .i64 ((RX : Int) + (m : Int) + (pad : Int))), (.pointer (some ⟨bm, 0, none⟩)), (.pointer (some ⟨bm, 0, none⟩)), (.pointer (some ⟨bm, 0, none⟩)), (.int .i64 ((W : Int))), (.bool false), (.bool false), (.bool false), (.pointer (some ⟨b16, 1, none⟩)), (.int .i64 ((RY : Int))), (.pointer (some ⟨b16, 3, none⟩)), (.int .i64 ((n : Int))), (.int .i64 ((RY : Int) + (n : Int))), (.pointer (some ⟨bm, 0, none⟩)), (.pointer (some ⟨bm, 0, none⟩)), (.pointer (some ⟨bm, 2, none⟩)), (.int .i64 ((pad : Int))), (.int .i64 ((RY : Int) + (n : Int) + (pad : Int))), (.pointer (some ⟨bm, 0, none⟩)), (.pointer (some ⟨bm, 0, none⟩)), (.pointer (some ⟨bm, 1, none⟩)), (.int .i64 ((H : Int))), (.bool false), (.bool false)]) (by kernel_rfl) (by as_aux_lemma => kernel_rfl) ?hchk ?hst ?_
            case hchk => as_aux_lemma => kernel_rfl
            case hst =>
              as_aux_lemma =>
              refine StepsOK.cons (ok_run (by kernel_rfl) (fun _ => by kernel_rfl)) ?_
              refine StepsOK.cons (ok_run (by kernel_rfl) (fun _ => by kernel_rfl)) ?_
              refine StepsOK.cons (ok_run (by kernel_rfl) (fun _ => by kernel_rfl)) ?_
              refine StepsOK.cons (ok_run (by kernel_rfl) (fun _ => by kernel_rfl)) ?_
              refine StepsOK.cons (ok_run (by kernel_rfl) (fun _ => by kernel_rfl)) ?_
              refine StepsOK.cons (ok_run (by kernel_rfl) (fun _ => by kernel_rfl)) ?_
              refine StepsOK.cons (ok_run (by kernel_rfl) (fun _ => by kernel_rfl)) ?_
              refine StepsOK.cons (ok_run (by kernel_rfl) (fun _ => by kernel_rfl)) ?_
              refine StepsOK.cons (ok_load (t := 3) (x := .tmp 85) (a := ⟨b18, 0, none⟩) (by kernel_rfl) rfl (by kernel_rfl) (fun _ => by kernel_rfl) (cellD f0)) ?_
              refine StepsOK.cons (ok_run (by kernel_rfl) (fun _ => by kernel_rfl)) ?_
              refine StepsOK.cons (ok_load (t := 3) (x := .tmp 87) (a := ⟨b16, 2, none⟩) (by kernel_rfl) rfl (by kernel_rfl) (fun _ => by kernel_rfl) (cellD r2)) ?_
              refine StepsOK.cons (ok_eq (v0 := (.bool (((m : Int) : Int) != ((m : Int) : Int)))) (by kernel_rfl) (fun _ => by kernel_rfl) (by rw [n1])) ?_
              refine StepsOK.cons (ok_run (by kernel_rfl) (fun _ => by kernel_rfl)) ?_
              refine StepsOK.cons (ok_run (by kernel_rfl) (fun _ => by kernel_rfl)) ?_
              refine StepsOK.cons (ok_run (by kernel_rfl) (fun _ => by kernel_rfl)) ?_
              refine StepsOK.cons (ok_load (t := 3) (x := .tmp 92) (a := ⟨b18, 1, none⟩) (by kernel_rfl) rfl (by kernel_rfl) (fun _ => by kernel_rfl) (cellD f1)) ?_
              as_aux_lemma =>
              refine StepsOK.cons (ok_run (by kernel_rfl) (fun _ => by kernel_rfl)) ?_
              refine StepsOK.cons (ok_load (t := 3) (x := .tmp 94) (a := ⟨b16, 3, none⟩) (by kernel_rfl) rfl (by kernel_rfl) (fun _ => by kernel_rfl) (cellD r3)) ?_
              refine StepsOK.cons (ok_eq (v0 := (.bool (((n : Int) : Int) != ((n : Int) : Int)))) (by kernel_rfl) (fun _ => by kernel_rfl) (by rw [n2])) ?_
              refine StepsOK.cons (ok_run (by kernel_rfl) (fun _ => by kernel_rfl)) ?_
              refine StepsOK.cons (ok_run (by kernel_rfl) (fun _ => by kernel_rfl)) ?_
              refine StepsOK.cons (ok_run (by kernel_rfl) (fun _ => by kernel_rfl)) ?_
              refine StepsOK.cons (ok_load (t := 42) (x := .tmp 99) (a := ⟨b18, 2, none⟩) (by kernel_rfl) rfl (by kernel_rfl) (fun _ => by kernel_rfl) (cellD f2)) ?_
              refine StepsOK.cons (ok_run (by kernel_rfl) (fun _ => by kernel_rfl)) ?_
              refine StepsOK.cons (ok_run (by kernel_rfl) (fun _ => by kernel_rfl)) ?_
              refine StepsOK.cons (ok_load (t := 3) (x := .tmp 102) (a := ⟨b16, 2, none⟩) (by kernel_rfl) rfl (by kernel_rfl) (fun _ => by kernel_rfl) (cellD r2)) ?_
              refine StepsOK.cons (ok_run (by kernel_rfl) (fun _ => by kernel_rfl)) ?_
              refine StepsOK.cons (ok_load (t := 3) (x := .tmp 104) (a := ⟨b16, 3, none⟩) (by kernel_rfl) rfl (by kernel_rfl) (fun _ => by kernel_rfl) (cellD r3)) ?_
              refine StepsOK.cons (ok_eq (v0 := (.int .i64 (IntKind.i64.wrap (((m : Int) : Int) * ((n : Int) : Int))))) (by kernel_rfl) (fun _ => by kernel_rfl) (by rw [umn])) ?_
              refine StepsOK.cons (ok_eq (v0 := (.bool (((T : Int) : Int) != ((T : Int) : Int)))) (by kernel_rfl) (fun _ => by kernel_rfl) (by rw [n3])) ?_
              refine StepsOK.cons (ok_run (by kernel_rfl) (fun _ => by kernel_rfl)) ?_
              refine StepsOK.cons (ok_run (by kernel_rfl) (fun _ => by kernel_rfl)) ?_
              as_aux_lemma =>
              refine StepsOK.cons (ok_run (by kernel_rfl) (fun _ => by kernel_rfl)) ?_
              refine StepsOK.cons (ok_load (t := 3) (x := .tmp 110) (a := ⟨b16, 0, none⟩) (by kernel_rfl) rfl (by kernel_rfl) (fun _ => by kernel_rfl) (cellD r0)) ?_
              refine StepsOK.cons (ok_run (by kernel_rfl) (fun _ => by kernel_rfl)) ?_
              refine StepsOK.cons (ok_run (by kernel_rfl) (fun _ => by kernel_rfl)) ?_
              refine StepsOK.cons (ok_run (by kernel_rfl) (fun _ => by kernel_rfl)) ?_
              refine StepsOK.cons (ok_load (t := 3) (x := .tmp 114) (a := ⟨bm, 2, none⟩) (by kernel_rfl) rfl (by kernel_rfl) (fun _ => by kernel_rfl) (cellD m2)) ?_
              refine StepsOK.cons (ok_eq (v0 := (.bool (decide (((RX : Int) : Int) < ((pad : Int) : Int))))) (by kernel_rfl) (fun _ => by kernel_rfl) (by rw [d1])) ?_
              refine StepsOK.cons (ok_run (by kernel_rfl) (fun _ => by kernel_rfl)) ?_
              refine StepsOK.cons (ok_run (by kernel_rfl) (fun _ => by kernel_rfl)) ?_
              refine StepsOK.cons (ok_run (by kernel_rfl) (fun _ => by kernel_rfl)) ?_
              refine StepsOK.cons (ok_load (t := 3) (x := .tmp 119) (a := ⟨b16, 1, none⟩) (by kernel_rfl) rfl (by kernel_rfl) (fun _ => by kernel_rfl) (cellD r1)) ?_
              refine StepsOK.cons (ok_run (by kernel_rfl) (fun _ => by kernel_rfl)) ?_
              refine StepsOK.cons (ok_run (by kernel_rfl) (fun _ => by kernel_rfl)) ?_
              refine StepsOK.cons (ok_run (by kernel_rfl) (fun _ => by kernel_rfl)) ?_
              refine StepsOK.cons (ok_load (t := 3) (x := .tmp 123) (a := ⟨bm, 2, none⟩) (by kernel_rfl) rfl (by kernel_rfl) (fun _ => by kernel_rfl) (cellD m2)) ?_
              refine StepsOK.cons (ok_eq (v0 := (.bool (decide (((RY : Int) : Int) < ((pad : Int) : Int))))) (by kernel_rfl) (fun _ => by kernel_rfl) (by rw [d2])) ?_
              as_aux_lemma =>
              refine StepsOK.cons (ok_run (by kernel_rfl) (fun _ => by kernel_rfl)) ?_
              refine StepsOK.cons (ok_run (by kernel_rfl) (fun _ => by kernel_rfl)) ?_
              refine StepsOK.cons (ok_run (by kernel_rfl) (fun _ => by kernel_rfl)) ?_
              refine StepsOK.cons (ok_load (t := 3) (x := .tmp 128) (a := ⟨b16, 0, none⟩) (by kernel_rfl) rfl (by kernel_rfl) (fun _ => by kernel_rfl) (cellD r0)) ?_
              refine StepsOK.cons (ok_run (by kernel_rfl) (fun _ => by kernel_rfl)) ?_
              refine StepsOK.cons (ok_load (t := 3) (x := .tmp 130) (a := ⟨b16, 2, none⟩) (by kernel_rfl) rfl (by kernel_rfl) (fun _ => by kernel_rfl) (cellD r2)) ?_
              refine StepsOK.cons (ok_eq (v0 := (.int .i64 (IntKind.i64.wrap (((RX : Int) : Int) + ((m : Int) : Int))))) (by kernel_rfl) (fun _ => by kernel_rfl) (by rw [x1])) ?_
              refine StepsOK.cons (ok_run (by kernel_rfl) (fun _ => by kernel_rfl)) ?_
              refine StepsOK.cons (ok_run (by kernel_rfl) (fun _ => by kernel_rfl)) ?_
              refine StepsOK.cons (ok_run (by kernel_rfl) (fun _ => by kernel_rfl)) ?_
              refine StepsOK.cons (ok_load (t := 3) (x := .tmp 135) (a := ⟨bm, 2, none⟩) (by kernel_rfl) rfl (by kernel_rfl) (fun _ => by kernel_rfl) (cellD m2)) ?_
              refine StepsOK.cons (ok_eq (v0 := (.int .i64 (IntKind.i64.wrap (((RX : Int) + (m : Int) : Int) + ((pad : Int) : Int))))) (by kernel_rfl) (fun _ => by kernel_rfl) (by rw [x2])) ?_
              refine StepsOK.cons (ok_run (by kernel_rfl) (fun _ => by kernel_rfl)) ?_
              refine StepsOK.cons (ok_run (by kernel_rfl) (fun _ => by kernel_rfl)) ?_
              refine StepsOK.cons (ok_run (by kernel_rfl) (fun _ => by kernel_rfl)) ?_
              refine StepsOK.cons (ok_load (t := 3) (x := .tmp 140) (a := ⟨bm, 0, none⟩) (by kernel_rfl) rfl (by kernel_rfl) (fun _ => by kernel_rfl) (cellD m0)) ?_
              as_aux_lemma =>
              refine StepsOK.cons (ok_eq (v0 := (.bool (decide (((W : Int) : Int) < ((RX : Int) + (m : Int) + (pad : Int) : Int))))) (by kernel_rfl) (fun _ => by kernel_rfl) (by rw [d3])) ?_
              refine StepsOK.cons (ok_run (by kernel_rfl) (fun _ => by kernel_rfl)) ?_
              refine StepsOK.cons (ok_run (by kernel_rfl) (fun _ => by kernel_rfl)) ?_
              refine StepsOK.cons (ok_run (by kernel_rfl) (fun _ => by kernel_rfl)) ?_
              refine StepsOK.cons (ok_load (t := 3) (x := .tmp 145) (a := ⟨b16, 1, none⟩) (by kernel_rfl) rfl (by kernel_rfl) (fun _ => by kernel_rfl) (cellD r1)) ?_
              refine StepsOK.cons (ok_run (by kernel_rfl) (fun _ => by kernel_rfl)) ?_
              refine StepsOK.cons (ok_load (t := 3) (x := .tmp 147) (a := ⟨b16, 3, none⟩) (by kernel_rfl) rfl (by kernel_rfl) (fun _ => by kernel_rfl) (cellD r3)) ?_
              refine StepsOK.cons (ok_eq (v0 := (.int .i64 (IntKind.i64.wrap (((RY : Int) : Int) + ((n : Int) : Int))))) (by kernel_rfl) (fun _ => by kernel_rfl) (by rw [y1])) ?_
              refine StepsOK.cons (ok_run (by kernel_rfl) (fun _ => by kernel_rfl)) ?_
              refine StepsOK.cons (ok_run (by kernel_rfl) (fun _ => by kernel_rfl)) ?_
              refine StepsOK.cons (ok_run (by kernel_rfl) (fun _ => by kernel_rfl)) ?_
              refine StepsOK.cons (ok_load (t := 3) (x := .tmp 152) (a := ⟨bm, 2, none⟩) (by kernel_rfl) rfl (by kernel_rfl) (fun _ => by kernel_rfl) (cellD m2)) ?_
              refine StepsOK.cons (ok_eq (v0 := (.int .i64 (IntKind.i64.wrap (((RY : Int) + (n : Int) : Int) + ((pad : Int) : Int))))) (by kernel_rfl) (fun _ => by kernel_rfl) (by rw [y2])) ?_
              refine StepsOK.cons (ok_run (by kernel_rfl) (fun _ => by kernel_rfl)) ?_
              refine StepsOK.cons (ok_run (by kernel_rfl) (fun _ => by kernel_rfl)) ?_
              refine StepsOK.cons (ok_run (by kernel_rfl) (fun _ => by kernel_rfl)) ?_
              as_aux_lemma =>
              refine StepsOK.cons (ok_load (t := 3) (x := .tmp 157) (a := ⟨bm, 1, none⟩) (by kernel_rfl) rfl (by kernel_rfl) (fun _ => by kernel_rfl) (cellD m1)) ?_
              refine StepsOK.cons (ok_eq (v0 := (.bool (decide (((H : Int) : Int) < ((RY : Int) + (n : Int) + (pad : Int) : Int))))) (by kernel_rfl) (fun _ => by kernel_rfl) (by rw [d4])) ?_
              refine StepsOK.cons (ok_run (by kernel_rfl) (fun _ => by kernel_rfl)) ?_
              exact StepsOK.nil
            rintro w' ⟨nq, rfl⟩
            exact hK1 _ _ (Met.intro (hJ1 _ _ ⟨(.bool true), (.bool false), (.bool false), (.bool true), (.bool false), (.bool false), (.bool false), (.pointer (some ⟨b18, 0, none⟩)), (.int .i64 ((m : Int))), (.pointer (some ⟨b16, 2, none⟩)), (.int .i64 ((m : Int))), (.bool false), (.bool false), (.bool false), (.pointer (some ⟨b18, 1, none⟩)), (.int .i64 ((n : Int))), (.pointer (some ⟨b16, 3, none⟩)), (.int .i64 ((n : Int))), (.bool false), (.bool false), (.bool false), (.pointer (some ⟨b18, 2, none⟩)), (.slice A7 T cap7), (.int .i64 ((T : Int))), (.pointer (some ⟨b16, 2, none⟩)), (.int .i64 ((m : Int))), (.pointer (some ⟨b16, 3, none⟩)), (.int .i64 ((n : Int))), (.int .i64 ((T : Int))), (.bool false), (.bool false), (.bool false), (.pointer (some ⟨b16, 0, none⟩)), (.int .i64 ((RX : Int))), (.pointer (some ⟨bm, 0, none⟩)), (.pointer (some ⟨bm, 0, none⟩)), (.pointer (some ⟨bm, 2, none⟩)), (.int .i64 ((pad : Int))), (.bool false), (.bool false), (.bool false), (.pointer (some ⟨b16, 1, none⟩)), (.int .i64 ((RY : Int))), (.pointer (some ⟨bm, 0, none⟩)), (.pointer (some ⟨bm, 0, none⟩)), (.pointer (some ⟨bm, 2, none⟩)), (.int .i64 ((pad : Int))), (.bool false), (.bool false), (.bool false), (.pointer (some ⟨b16, 0, none⟩)), (.int .i64 ((RX : Int))), (.pointer (some ⟨b16, 2, none⟩)), (.int .i64 ((m : Int))), (.int .i64 ((RX : Int) + (m : Int))), (.pointer (some ⟨bm, 0, none⟩)), (.pointer (some ⟨bm, 0, none⟩)), (.pointer (some ⟨bm, 2, none⟩)), (.int .i64 ((pad : Int))), (.int .i64 ((RX : Int) + (m : Int) + (pad : Int))), (.pointer (some ⟨bm, 0, none⟩)), (.pointer (some ⟨bm, 0, none⟩)), (.pointer (some ⟨bm, 0, none⟩)), (.int .i64 ((W : Int))), (.bool false), (.bool false), (.bool false), (.pointer (some ⟨b16, 1, none⟩)), (.int .i64 ((RY : Int))), (.pointer (some ⟨b16, 3, none⟩)), (.int .i64 ((n : Int))), (.int .i64 ((RY : Int) + (n : Int))), (.pointer (some ⟨bm, 0, none⟩)), (.pointer (some ⟨bm, 0, none⟩)), (.pointer (some ⟨bm, 2, none⟩)), (.int .i64 ((pad : Int))), (.int .i64 ((RY : Int) + (n : Int) + (pad : Int))), (.pointer (some ⟨bm, 0, none⟩)), (.pointer (some ⟨bm, 0, none⟩)), (.pointer (some ⟨bm, 1, none⟩)), (.int .i64 ((H : Int))), (.bool false), (.bool false), ⟨rfl, nq, rfl⟩, by as_aux_lemma => kernel_rfl⟩))
          case rest =>
          obtain ⟨rfl, nq, rfl⟩ := hcut
          clear r0 r1 r2 r3 f0 f1 f2 m0 m1 m2 x2 y2 d1 d2 d3 d4 n1 n2 n3 G7 umn
          have H8 := Lib.hid (H7.out.below (below_drewN (Below.refl _ w8) nq))
          have G8 := Lib.hid (blk_below G6 (below_drewN (Below.refl _ w8) nq))
          have I8 : Hid (Below w3.heap.size w3 (w8.drewN nq)) := Lib.hid (below_drewN I7.out nq)
          clear G6 H7 I7 H5 I5 H4 HFC
          generalize w8.drewN nq = w9 at *
          have hic : i ≤ cap3 := by omega
          have hic' : (i : Int) ≤ (cap3 : Int) := by omega
          go_upto_region 20 with (fail)
          go_loopw [165] (fun v wr => ∃ j : Nat, v = .int .i64 j ∧ j ≤ i ∧ Hid (Below w9.heap.size w9 wr)) (fun v _ => i - (intOf v).toNat)
          case atStart => exact ⟨0, rfl, Nat.zero_le _, Lib.hid (Below.refl _ _)⟩
          case round =>
            obtain ⟨j, rfl, hj, HJ⟩ := hrel
            by_cases hji : j < i
            · have hji' : (j : Int) < (i : Int) := by omega
              have hjl : j < s.keys.length := by rw [HK.out]; omega
              obtain ⟨u, hu⟩ : ∃ u, s.keys[j] = u := ⟨_, rfl⟩
              have hum : u ∈ s.keys := by rw [← hu]; exact List.getElem_mem _
              have huz : u.size ≤ maxLen := HKL.out u hum
              have I9 := Lib.hid (I8.out.trans (HJ.out.mono I8.out.size))
              obtain ⟨g3', eg, hc9, -⟩ := (S3.out.kept (Kept.of_below (fun _ => False) I9.out) (fun _ _ h => h)).elem (i := j) (x := .string u) (by omega) (by rw [List.getElem?_map, List.getElem?_eq_getElem hjl, hu]; rfl)
              injection eg with eg
              injection eg with eg
              subst eg
              have H9 := Lib.hid (H3.out.below I9.out)
              have hku : k ≠ u := fun e => by
                have h1 : s.keys[i]? = some k := HP.out.2.2.2.2.2.2
                have h2 : s.keys[j]? = some k := by rw [List.getElem?_eq_getElem hjl, hu, e]
                have := (List.getElem?_inj hjl HND.out).1 (h2.trans h1.symm)
                omega
              obtain ⟨X', Y', m', n', hr', q1', q2', q3', q4', q5'⟩ := HIV.out.nat hum
              obtain ⟨QX, hQX⟩ : ∃ QX, X' + pad = QX := ⟨_, rfl⟩
              obtain ⟨QY, hQY⟩ : ∃ QY, Y' + pad = QY := ⟨_, rfl⟩
              have hpl : s.pl u = some ((X' : Int), (Y' : Int), (m' : Int) + 2 * pad, (n' : Int) + 2 * pad) := by rw [HIV.out.hasPl hum, hr']
              have hrv : Er (rectV pad (s.pl u)) = .agg #[.int .i64 QX, .int .i64 QY, .int .i64 m', .int .i64 n'] := by
                rw [hpl]
                show Value.agg #[.int .i64 ((X' : Int) + pad), .int .i64 ((Y' : Int) + pad), .int .i64 ((m' : Int) + 2 * pad - 2 * pad), .int .i64 ((n' : Int) + 2 * pad - 2 * pad)] = _
                rw [show (m' : Int) + 2 * (pad : Int) - 2 * pad = m' from by omega, show (n' : Int) + 2 * (pad : Int) - 2 * pad = n' from by omega, ← hQX, ← hQY, Int.natCast_add, Int.natCast_add]
              have hso : (s.pl u).isSome = true := by rw [hpl]; rfl
              have HRU : Hid (∀ w, Two (fun q => q < W0.heap.size) W0 w b bm W H pad s s F → Calls Try.prog 13 #[.pointer (some ⟨b, 0, none⟩), .string u] w fun e w' => e = .returned (.tuple #[.agg #[.int .i64 QX, .int .i64 QY, .int .i64 m', .int .i64 n'], .bool true]) ∧ Below w.heap.size w w') := Lib.hid (fun w h => (rect_on h.on u huz).mono (by
                rintro e w' ⟨rfl, hb, -⟩
                rw [hrv, hso]
                exact ⟨rfl, hb⟩))
              have hap : ¬ ((RX : Int) - 2 * (pad : Int) < (QX : Int) + (m' : Int) ∧ (QX : Int) - 2 * (pad : Int) < (RX : Int) + (m : Int) ∧ (RY : Int) - 2 * (pad : Int) < (QY : Int) + (n' : Int) ∧ (QY : Int) - 2 * (pad : Int) < (RY : Int) + (n : Int)) := fun ⟨c1, c2, c3, c4⟩ => by
                obtain ⟨p1, p2, p3, -⟩ := HP.out
                have ha := HIV.out.ap k HP.out.2.2.2.2.2.1 u hum hku
                rw [hr', p3] at ha
                refine ha ⟨?_, ?_, ?_, ?_⟩
                · show (X : Int) < (X' : Int) + ((m' : Int) + 2 * pad); omega
                · show (X' : Int) < (X : Int) + ((m : Int) + 2 * pad); omega
                · show (Y : Int) < (Y' : Int) + ((n' : Int) + 2 * pad); omega
                · show (Y' : Int) < (Y : Int) + ((n : Int) + 2 * pad); omega
              have HAP := Lib.hid hap
              have hqw : QX + m' ≤ 64 ∧ QY + n' ≤ 64 := by omega
              have z1 : IntKind.i64.wrap ((RX : Int) - 2 * (pad : Int)) = (RX : Int) - 2 * (pad : Int) := by rw [IntKind.wrap_i64]; omega
              have z2 : IntKind.i64.wrap ((QX : Int) - 2 * (pad : Int)) = (QX : Int) - 2 * (pad : Int) := by rw [IntKind.wrap_i64]; omega
              have z3 : IntKind.i64.wrap ((RY : Int) - 2 * (pad : Int)) = (RY : Int) - 2 * (pad : Int) := by rw [IntKind.wrap_i64]; omega
              have z4 : IntKind.i64.wrap ((QY : Int) - 2 * (pad : Int)) = (QY : Int) - 2 * (pad : Int) := by rw [IntKind.wrap_i64]; omega
              have z5 : IntKind.i64.wrap ((QX : Int) + (m' : Int)) = (QX : Int) + (m' : Int) := by rw [IntKind.wrap_i64]; omega
              have z6 : IntKind.i64.wrap ((QY : Int) + (n' : Int)) = (QY : Int) + (n' : Int) := by rw [IntKind.wrap_i64]; omega
              have z7 : IntKind.i64.wrap ((RX : Int) + (m : Int)) = (RX : Int) + (m : Int) := by rw [IntKind.wrap_i64]; omega
              have z8 : IntKind.i64.wrap ((RY : Int) + (n : Int)) = (RY : Int) + (n : Int) := by rw [IntKind.wrap_i64]; omega
              clear hu hum huz hku hr' hpl hrv hso hQX hQY q1' q2' q3' q4' q5' hap hjl
              go_wp2_with fail
              refine (HRU.out wr H9.out).mono ?_
              rintro e w10 ⟨rfl, hb10⟩
              have bb10 := below_alloc hb10 (.cells #[.int .i64 QX, .int .i64 QY, .int .i64 m', .int .i64 n'] 39)
              have G10 := heap_alloc_new w10 (.cells #[.int .i64 QX, .int .i64 QY, .int .i64 m', .int .i64 n'] 39)
              have G8' := blk_below (blk_below G8.out HJ.out) bb10
              have H10 := Lib.hid (H9.out.below bb10)
              have J10 := Lib.hid (HJ.out.trans (bb10.mono HJ.out.size))
              clear hb10 bb10
              go_upto_region 23 with (fail)
              generalize w10.alloc (.cells #[.int .i64 QX, .int .i64 QY, .int .i64 m', .int .i64 n'] 39) = w11 at *
              generalize w10.heap.size = b22 at *
              have r0 : w11.cell? ⟨b16, 0, none⟩ = some (.int .i64 RX) := (blk_cell G8' 0).trans rfl
              have r1 : w11.cell? ⟨b16, 1, none⟩ = some (.int .i64 RY) := (blk_cell G8' 1).trans rfl
              have r2 : w11.cell? ⟨b16, 2, none⟩ = some (.int .i64 m) := (blk_cell G8' 2).trans rfl
              have r3 : w11.cell? ⟨b16, 3, none⟩ = some (.int .i64 n) := (blk_cell G8' 3).trans rfl
              have f0 : w11.cell? ⟨b22, 0, none⟩ = some (.int .i64 QX) := (blk_cell G10 0).trans rfl
              have f1 : w11.cell? ⟨b22, 1, none⟩ = some (.int .i64 QY) := (blk_cell G10 1).trans rfl
              have f2 : w11.cell? ⟨b22, 2, none⟩ = some (.int .i64 m') := (blk_cell G10 2).trans rfl
              have f3 : w11.cell? ⟨b22, 3, none⟩ = some (.int .i64 n') := (blk_cell G10 3).trans rfl
              obtain ⟨m0, m1, m2⟩ := H10.out.mcell
              clear G8' G10
              go_cut [236] from 175 to 236 (fun v W => v = .bool false ∧ ∃ nq, W = w11.drewN nq)
              case first =>
                rename_i J1 K1 hJ1 hK1
                refine wp_have_lexB (by as_aux_lemma => kernel_rfl) (fun hB => ?_)
                by_cases e1 : (RX : Int) - 2 * (pad : Int) < (QX : Int) + (m' : Int)
                · have d1 := decide_eq_true e1
                  by_cases e2 : (QX : Int) - 2 * (pad : Int) < (RX : Int) + (m : Int)
                  · have d2 := decide_eq_true e2
                    by_cases e3 : (RY : Int) - 2 * (pad : Int) < (QY : Int) + (n' : Int)
                    · have d3 := decide_eq_true e3
                      have d4 := decide_eq_false (show ¬ (QY : Int) - 2 * (pad : Int) < (RY : Int) + (n : Int) from fun h => HAP.out ⟨e1, e2, e3, h⟩)
                      clear e1 e2 e3
                      refine wp_region_fin (vs := [(.pointer (some ⟨b16, 0, none⟩)), (.int .i64 ((RX : Int))), (.pointer (some ⟨bm, 0, none⟩)), (.pointer (some ⟨bm, 0, none⟩)), (.pointer (some ⟨bm, 2, none⟩)), (.int .i64 ((pad : Int))), (.int .i64 (2 * (pad : Int))), (.int .i64 ((RX : Int) - 2 * (pad : Int))), (.pointer (some ⟨b22, 0, none⟩)), (.int .i64 ((QX : Int))), (.pointer (some ⟨b22, 2, none⟩)), (.int .i64 ((m' : Int))), (.int .i64 ((QX : Int) + (m' : Int))), (.bool true), (.bool true), (.pointer (some ⟨b22, 0, none⟩)), (.int .i64 ((QX : Int))), (.pointer (some ⟨bm, 0, none⟩)), (.pointer (some ⟨bm, 0, none⟩)), (.pointer (some ⟨bm, 2, none⟩)), (.int .i64 ((pad : Int))), (.int .i64 (2 * (pad : Int))), (.int .i64 ((QX : Int) - 2 * (pad : Int))), (.pointer (some ⟨b16, 0, none⟩)), (.int .i64 ((RX : Int))), (.pointer (some ⟨b16, 2, none⟩)), (.int .i64 ((m : Int))), (.int .i64 ((RX : Int) + (m : Int))), (.bool true), (.bool true), (.bool true), (.pointer (some ⟨b16, 1, none⟩)), (.int .i64 ((RY : Int))), (.pointer (some ⟨bm, 0, none⟩)), (.pointer (some ⟨bm, 0, none⟩)), (.pointer (some ⟨bm, 2, none⟩)), (.int .i64 ((pad : Int))), (.int .i64 (2 * (pad : Int))), (.int .i64 ((RY : Int) - 2 * (pad : Int))), (.pointer (some ⟨b22, 1, none⟩)), (.int .i64 ((QY : Int))), (.pointer (some ⟨b22, 3, none⟩)), (.int .i64 ((n' : Int))), (.int .i64 ((QY : Int) + (n' : Int))), (.bool true), (.bool true), (.bool true), (.pointer (some ⟨b22, 1, none⟩)), (.int .i64 ((QY : Int))), (.pointer (some ⟨bm, 0, none⟩)), (.pointer (some ⟨bm, 0, none⟩)), (.pointer (some ⟨bm, 2, none⟩)), (.int .i64 ((pad : Int))), (.int .i64 (2 * (pad : Int))), (.int .i64 ((QY : Int) - 2 * (pad : Int))), (.pointer (some ⟨b16, 1, none⟩)), (.int .i64 ((RY : Int))), (.pointer (some ⟨b16, 3, none⟩)), (.int .i64 ((n : Int))), (.int .i64 ((RY : Int) + (n : Int))), (.bool false), (.bool false)]) (by kernel_rfl) hB ?hchk ?hst ?_
                      case hchk => as_aux_lemma => kernel_rfl
                      case hst =>
                        as_aux_lemma =>
                        refine StepsOK.cons (ok_run (by kernel_rfl) (fun _ => by kernel_rfl)) ?_
                        refine StepsOK.cons (ok_load (t := 3) (x := .tmp 175) (a := ⟨b16, 0, none⟩) (by kernel_rfl) rfl (by kernel_rfl) (fun _ => by kernel_rfl) (cellD r0)) ?_
                        refine StepsOK.cons (ok_run (by kernel_rfl) (fun _ => by kernel_rfl)) ?_
                        refine StepsOK.cons (ok_run (by kernel_rfl) (fun _ => by kernel_rfl)) ?_
                        refine StepsOK.cons (ok_run (by kernel_rfl) (fun _ => by kernel_rfl)) ?_
                        refine StepsOK.cons (ok_load (t := 3) (x := .tmp 179) (a := ⟨bm, 2, none⟩) (by kernel_rfl) rfl (by kernel_rfl) (fun _ => by kernel_rfl) (cellD m2)) ?_
                        refine StepsOK.cons (ok_eq (v0 := (.int .i64 (IntKind.i64.wrap ((2 : Int) * ((pad : Int) : Int))))) (by kernel_rfl) (fun _ => by kernel_rfl) (by rw [up2])) ?_
                        refine StepsOK.cons (ok_eq (v0 := (.int .i64 (IntKind.i64.wrap (((RX : Int) : Int) - (2 * (pad : Int) : Int))))) (by kernel_rfl) (fun _ => by kernel_rfl) (by rw [z1])) ?_
                        refine StepsOK.cons (ok_run (by kernel_rfl) (fun _ => by kernel_rfl)) ?_
                        refine StepsOK.cons (ok_load (t := 3) (x := .tmp 183) (a := ⟨b22, 0, none⟩) (by kernel_rfl) rfl (by kernel_rfl) (fun _ => by kernel_rfl) (cellD f0)) ?_
                        refine StepsOK.cons (ok_run (by kernel_rfl) (fun _ => by kernel_rfl)) ?_
                        refine StepsOK.cons (ok_load (t := 3) (x := .tmp 185) (a := ⟨b22, 2, none⟩) (by kernel_rfl) rfl (by kernel_rfl) (fun _ => by kernel_rfl) (cellD f2)) ?_
                        refine StepsOK.cons (ok_eq (v0 := (.int .i64 (IntKind.i64.wrap (((QX : Int) : Int) + ((m' : Int) : Int))))) (by kernel_rfl) (fun _ => by kernel_rfl) (by rw [z5])) ?_
                        refine StepsOK.cons (ok_eq (v0 := (.bool (decide (((RX : Int) - 2 * (pad : Int) : Int) < ((QX : Int) + (m' : Int) : Int))))) (by kernel_rfl) (fun _ => by kernel_rfl) (by rw [d1])) ?_
                        refine StepsOK.cons (ok_run (by kernel_rfl) (fun _ => by kernel_rfl)) ?_
                        refine StepsOK.cons (ok_run (by kernel_rfl) (fun _ => by kernel_rfl)) ?_
                        as_aux_lemma =>
                        refine StepsOK.cons (ok_load (t := 3) (x := .tmp 190) (a := ⟨b22, 0, none⟩) (by kernel_rfl) rfl (by kernel_rfl) (fun _ => by kernel_rfl) (cellD f0)) ?_
                        refine StepsOK.cons (ok_run (by kernel_rfl) (fun _ => by kernel_rfl)) ?_
                        refine StepsOK.cons (ok_run (by kernel_rfl) (fun _ => by kernel_rfl)) ?_
                        refine StepsOK.cons (ok_run (by kernel_rfl) (fun _ => by kernel_rfl)) ?_
                        refine StepsOK.cons (ok_load (t := 3) (x := .tmp 194) (a := ⟨bm, 2, none⟩) (by kernel_rfl) rfl (by kernel_rfl) (fun _ => by kernel_rfl) (cellD m2)) ?_
                        refine StepsOK.cons (ok_eq (v0 := (.int .i64 (IntKind.i64.wrap ((2 : Int) * ((pad : Int) : Int))))) (by kernel_rfl) (fun _ => by kernel_rfl) (by rw [up2])) ?_
                        refine StepsOK.cons (ok_eq (v0 := (.int .i64 (IntKind.i64.wrap (((QX : Int) : Int) - (2 * (pad : Int) : Int))))) (by kernel_rfl) (fun _ => by kernel_rfl) (by rw [z2])) ?_
                        refine StepsOK.cons (ok_run (by kernel_rfl) (fun _ => by kernel_rfl)) ?_
                        refine StepsOK.cons (ok_load (t := 3) (x := .tmp 198) (a := ⟨b16, 0, none⟩) (by kernel_rfl) rfl (by kernel_rfl) (fun _ => by kernel_rfl) (cellD r0)) ?_
                        refine StepsOK.cons (ok_run (by kernel_rfl) (fun _ => by kernel_rfl)) ?_
                        refine StepsOK.cons (ok_load (t := 3) (x := .tmp 200) (a := ⟨b16, 2, none⟩) (by kernel_rfl) rfl (by kernel_rfl) (fun _ => by kernel_rfl) (cellD r2)) ?_
                        refine StepsOK.cons (ok_eq (v0 := (.int .i64 (IntKind.i64.wrap (((RX : Int) : Int) + ((m : Int) : Int))))) (by kernel_rfl) (fun _ => by kernel_rfl) (by rw [z7])) ?_
                        refine StepsOK.cons (ok_eq (v0 := (.bool (decide (((QX : Int) - 2 * (pad : Int) : Int) < ((RX : Int) + (m : Int) : Int))))) (by kernel_rfl) (fun _ => by kernel_rfl) (by rw [d2])) ?_
                        refine StepsOK.cons (ok_run (by kernel_rfl) (fun _ => by kernel_rfl)) ?_
                        refine StepsOK.cons (ok_run (by kernel_rfl) (fun _ => by kernel_rfl)) ?_
                        refine StepsOK.cons (ok_run (by kernel_rfl) (fun _ => by kernel_rfl)) ?_
                        as_aux_lemma =>
                        refine StepsOK.cons (ok_load (t := 3) (x := .tmp 206) (a := ⟨b16, 1, none⟩) (by kernel_rfl) rfl (by kernel_rfl) (fun _ => by kernel_rfl) (cellD r1)) ?_
                        refine StepsOK.cons (ok_run (by kernel_rfl) (fun _ => by kernel_rfl)) ?_
                        refine StepsOK.cons (ok_run (by kernel_rfl) (fun _ => by kernel_rfl)) ?_
                        refine StepsOK.cons (ok_run (by kernel_rfl) (fun _ => by kernel_rfl)) ?_
                        refine StepsOK.cons (ok_load (t := 3) (x := .tmp 210) (a := ⟨bm, 2, none⟩) (by kernel_rfl) rfl (by kernel_rfl) (fun _ => by kernel_rfl) (cellD m2)) ?_
                        refine StepsOK.cons (ok_eq (v0 := (.int .i64 (IntKind.i64.wrap ((2 : Int) * ((pad : Int) : Int))))) (by kernel_rfl) (fun _ => by kernel_rfl) (by rw [up2])) ?_
                        refine StepsOK.cons (ok_eq (v0 := (.int .i64 (IntKind.i64.wrap (((RY : Int) : Int) - (2 * (pad : Int) : Int))))) (by kernel_rfl) (fun _ => by kernel_rfl) (by rw [z3])) ?_
                        refine StepsOK.cons (ok_run (by kernel_rfl) (fun _ => by kernel_rfl)) ?_
                        refine StepsOK.cons (ok_load (t := 3) (x := .tmp 214) (a := ⟨b22, 1, none⟩) (by kernel_rfl) rfl (by kernel_rfl) (fun _ => by kernel_rfl) (cellD f1)) ?_
                        refine StepsOK.cons (ok_run (by kernel_rfl) (fun _ => by kernel_rfl)) ?_
                        refine StepsOK.cons (ok_load (t := 3) (x := .tmp 216) (a := ⟨b22, 3, none⟩) (by kernel_rfl) rfl (by kernel_rfl) (fun _ => by kernel_rfl) (cellD f3)) ?_
                        refine StepsOK.cons (ok_eq (v0 := (.int .i64 (IntKind.i64.wrap (((QY : Int) : Int) + ((n' : Int) : Int))))) (by kernel_rfl) (fun _ => by kernel_rfl) (by rw [z6])) ?_
                        refine StepsOK.cons (ok_eq (v0 := (.bool (decide (((RY : Int) - 2 * (pad : Int) : Int) < ((QY : Int) + (n' : Int) : Int))))) (by kernel_rfl) (fun _ => by kernel_rfl) (by rw [d3])) ?_
                        refine StepsOK.cons (ok_run (by kernel_rfl) (fun _ => by kernel_rfl)) ?_
                        refine StepsOK.cons (ok_run (by kernel_rfl) (fun _ => by kernel_rfl)) ?_
                        refine StepsOK.cons (ok_run (by kernel_rfl) (fun _ => by kernel_rfl)) ?_
                        as_aux_lemma =>
                        refine StepsOK.cons (ok_load (t := 3) (x := .tmp 222) (a := ⟨b22, 1, none⟩) (by kernel_rfl) rfl (by kernel_rfl) (fun _ => by kernel_rfl) (cellD f1)) ?_
                        refine StepsOK.cons (ok_run (by kernel_rfl) (fun _ => by kernel_rfl)) ?_
                        refine StepsOK.cons (ok_run (by kernel_rfl) (fun _ => by kernel_rfl)) ?_
                        refine StepsOK.cons (ok_run (by kernel_rfl) (fun _ => by kernel_rfl)) ?_
                        refine StepsOK.cons (ok_load (t := 3) (x := .tmp 226) (a := ⟨bm, 2, none⟩) (by kernel_rfl) rfl (by kernel_rfl) (fun _ => by kernel_rfl) (cellD m2)) ?_
                        refine StepsOK.cons (ok_eq (v0 := (.int .i64 (IntKind.i64.wrap ((2 : Int) * ((pad : Int) : Int))))) (by kernel_rfl) (fun _ => by kernel_rfl) (by rw [up2])) ?_
                        refine StepsOK.cons (ok_eq (v0 := (.int .i64 (IntKind.i64.wrap (((QY : Int) : Int) - (2 * (pad : Int) : Int))))) (by kernel_rfl) (fun _ => by kernel_rfl) (by rw [z4])) ?_
                        refine StepsOK.cons (ok_run (by kernel_rfl) (fun _ => by kernel_rfl)) ?_
                        refine StepsOK.cons (ok_load (t := 3) (x := .tmp 230) (a := ⟨b16, 1, none⟩) (by kernel_rfl) rfl (by kernel_rfl) (fun _ => by kernel_rfl) (cellD r1)) ?_
                        refine StepsOK.cons (ok_run (by kernel_rfl) (fun _ => by kernel_rfl)) ?_
                        refine StepsOK.cons (ok_load (t := 3) (x := .tmp 232) (a := ⟨b16, 3, none⟩) (by kernel_rfl) rfl (by kernel_rfl) (fun _ => by kernel_rfl) (cellD r3)) ?_
                        refine StepsOK.cons (ok_eq (v0 := (.int .i64 (IntKind.i64.wrap (((RY : Int) : Int) + ((n : Int) : Int))))) (by kernel_rfl) (fun _ => by kernel_rfl) (by rw [z8])) ?_
                        refine StepsOK.cons (ok_eq (v0 := (.bool (decide (((QY : Int) - 2 * (pad : Int) : Int) < ((RY : Int) + (n : Int) : Int))))) (by kernel_rfl) (fun _ => by kernel_rfl) (by rw [d4])) ?_
                        refine StepsOK.cons (ok_run (by kernel_rfl) (fun _ => by kernel_rfl)) ?_
                        exact StepsOK.nil
                      rintro w' ⟨nq, rfl⟩
                      exact hK1 _ _ (Met.intro (hJ1 _ _ ⟨(.pointer (some ⟨b16, 0, none⟩)), (.int .i64 ((RX : Int))), (.pointer (some ⟨bm, 0, none⟩)), (.pointer (some ⟨bm, 0, none⟩)), (.pointer (some ⟨bm, 2, none⟩)), (.int .i64 ((pad : Int))), (.int .i64 (2 * (pad : Int))), (.int .i64 ((RX : Int) - 2 * (pad : Int))), (.pointer (some ⟨b22, 0, none⟩)), (.int .i64 ((QX : Int))), (.pointer (some ⟨b22, 2, none⟩)), (.int .i64 ((m' : Int))), (.int .i64 ((QX : Int) + (m' : Int))), (.bool true), (.bool true), (.pointer (some ⟨b22, 0, none⟩)), (.int .i64 ((QX : Int))), (.pointer (some ⟨bm, 0, none⟩)), (.pointer (some ⟨bm, 0, none⟩)), (.pointer (some ⟨bm, 2, none⟩)), (.int .i64 ((pad : Int))), (.int .i64 (2 * (pad : Int))), (.int .i64 ((QX : Int) - 2 * (pad : Int))), (.pointer (some ⟨b16, 0, none⟩)), (.int .i64 ((RX : Int))), (.pointer (some ⟨b16, 2, none⟩)), (.int .i64 ((m : Int))), (.int .i64 ((RX : Int) + (m : Int))), (.bool true), (.bool true), (.bool true), (.pointer (some ⟨b16, 1, none⟩)), (.int .i64 ((RY : Int))), (.pointer (some ⟨bm, 0, none⟩)), (.pointer (some ⟨bm, 0, none⟩)), (.pointer (some ⟨bm, 2, none⟩)), (.int .i64 ((pad : Int))), (.int .i64 (2 * (pad : Int))), (.int .i64 ((RY : Int) - 2 * (pad : Int))), (.pointer (some ⟨b22, 1, none⟩)), (.int .i64 ((QY : Int))), (.pointer (some ⟨b22, 3, none⟩)), (.int .i64 ((n' : Int))), (.int .i64 ((QY : Int) + (n' : Int))), (.bool true), (.bool true), (.bool true), (.pointer (some ⟨b22, 1, none⟩)), (.int .i64 ((QY : Int))), (.pointer (some ⟨bm, 0, none⟩)), (.pointer (some ⟨bm, 0, none⟩)), (.pointer (some ⟨bm, 2, none⟩)), (.int .i64 ((pad : Int))), (.int .i64 (2 * (pad : Int))), (.int .i64 ((QY : Int) - 2 * (pad : Int))), (.pointer (some ⟨b16, 1, none⟩)), (.int .i64 ((RY : Int))), (.pointer (some ⟨b16, 3, none⟩)), (.int .i64 ((n : Int))), (.int .i64 ((RY : Int) + (n : Int))), (.bool false), (.bool false), ⟨rfl, nq, rfl⟩, by as_aux_lemma => kernel_rfl⟩))
                    · have d3 := decide_eq_false e3
                      clear e1 e2 e3
                      refine wp_region_fin (vs := [(.pointer (some ⟨b16, 0, none⟩)), (.int .i64 ((RX : Int))), (.pointer (some ⟨bm, 0, none⟩)), (.pointer (some ⟨bm, 0, none⟩)), (.pointer (some ⟨bm, 2, none⟩)), (.int .i64 ((pad : Int))), (.int .i64 (2 * (pad : Int))), (.int .i64 ((RX : Int) - 2 * (pad : Int))), (.pointer (some ⟨b22, 0, none⟩)), (.int .i64 ((QX : Int))), (.pointer (some ⟨b22, 2, none⟩)), (.int .i64 ((m' : Int))), (.int .i64 ((QX : Int) + (m' : Int))), (.bool true), (.bool true), (.pointer (some ⟨b22, 0, none⟩)), (.int .i64 ((QX : Int))), (.pointer (some ⟨bm, 0, none⟩)), (.pointer (some ⟨bm, 0, none⟩)), (.pointer (some ⟨bm, 2, none⟩)), (.int .i64 ((pad : Int))), (.int .i64 (2 * (pad : Int))), (.int .i64 ((QX : Int) - 2 * (pad : Int))), (.pointer (some ⟨b16, 0, none⟩)), (.int .i64 ((RX : Int))), (.pointer (some ⟨b16, 2, none⟩)), (.int .i64 ((m : Int))), (.int .i64 ((RX : Int) + (m : Int))), (.bool true), (.bool true), (.bool true), (.pointer (some ⟨b16, 1, none⟩)), (.int .i64 ((RY : Int))), (.pointer (some ⟨bm, 0, none⟩)), (.pointer (some ⟨bm, 0, none⟩)), (.pointer (some ⟨bm, 2, none⟩)), (.int .i64 ((pad : Int))), (.int .i64 (2 * (pad : Int))), (.int .i64 ((RY : Int) - 2 * (pad : Int))), (.pointer (some ⟨b22, 1, none⟩)), (.int .i64 ((QY : Int))), (.pointer (some ⟨b22, 3, none⟩)), (.int .i64 ((n' : Int))), (.int .i64 ((QY : Int) + (n' : Int))), (.bool false), (.bool false), (.bool false), undef, undef, undef, undef, undef, undef, undef, undef, undef, undef, undef, undef, undef, undef, (.bool false)]) (by kernel_rfl) hB ?hchk ?hst ?_
                      case hchk => as_aux_lemma => kernel_rfl
                      case hst =>
                        as_aux_lemma =>
                        refine StepsOK.cons (ok_run (by kernel_rfl) (fun _ => by kernel_rfl)) ?_
                        refine StepsOK.cons (ok_load (t := 3) (x := .tmp 175) (a := ⟨b16, 0, none⟩) (by kernel_rfl) rfl (by kernel_rfl) (fun _ => by kernel_rfl) (cellD r0)) ?_
                        refine StepsOK.cons (ok_run (by kernel_rfl) (fun _ => by kernel_rfl)) ?_
                        refine StepsOK.cons (ok_run (by kernel_rfl) (fun _ => by kernel_rfl)) ?_
                        refine StepsOK.cons (ok_run (by kernel_rfl) (fun _ => by kernel_rfl)) ?_
                        refine StepsOK.cons (ok_load (t := 3) (x := .tmp 179) (a := ⟨bm, 2, none⟩) (by kernel_rfl) rfl (by kernel_rfl) (fun _ => by kernel_rfl) (cellD m2)) ?_
                        refine StepsOK.cons (ok_eq (v0 := (.int .i64 (IntKind.i64.wrap ((2 : Int) * ((pad : Int) : Int))))) (by kernel_rfl) (fun _ => by kernel_rfl) (by rw [up2])) ?_
                        refine StepsOK.cons (ok_eq (v0 := (.int .i64 (IntKind.i64.wrap (((RX : Int) : Int) - (2 * (pad : Int) : Int))))) (by kernel_rfl) (fun _ => by kernel_rfl) (by rw [z1])) ?_
                        refine StepsOK.cons (ok_run (by kernel_rfl) (fun _ => by kernel_rfl)) ?_
                        refine StepsOK.cons (ok_load (t := 3) (x := .tmp 183) (a := ⟨b22, 0, none⟩) (by kernel_rfl) rfl (by kernel_rfl) (fun _ => by kernel_rfl) (cellD f0)) ?_
                        refine StepsOK.cons (ok_run (by kernel_rfl) (fun _ => by kernel_rfl)) ?_
                        refine StepsOK.cons (ok_load (t := 3) (x := .tmp 185) (a := ⟨b22, 2, none⟩) (by kernel_rfl) rfl (by kernel_rfl) (fun _ => by kernel_rfl) (cellD f2)) ?_
                        refine StepsOK.cons (ok_eq (v0 := (.int .i64 (IntKind.i64.wrap (((QX : Int) : Int) + ((m' : Int) : Int))))) (by kernel_rfl) (fun _ => by kernel_rfl) (by rw [z5])) ?_
                        refine StepsOK.cons (ok_eq (v0 := (.bool (decide (((RX : Int) - 2 * (pad : Int) : Int) < ((QX : Int) + (m' : Int) : Int))))) (by kernel_rfl) (fun _ => by kernel_rfl) (by rw [d1])) ?_
                        refine StepsOK.cons (ok_run (by kernel_rfl) (fun _ => by kernel_rfl)) ?_
                        refine StepsOK.cons (ok_run (by kernel_rfl) (fun _ => by kernel_rfl)) ?_
                        as_aux_lemma =>
                        refine StepsOK.cons (ok_load (t := 3) (x := .tmp 190) (a := ⟨b22, 0, none⟩) (by kernel_rfl) rfl (by kernel_rfl) (fun _ => by kernel_rfl) (cellD f0)) ?_
                        refine StepsOK.cons (ok_run (by kernel_rfl) (fun _ => by kernel_rfl)) ?_
                        refine StepsOK.cons (ok_run (by kernel_rfl) (fun _ => by kernel_rfl)) ?_
                        refine StepsOK.cons (ok_run (by kernel_rfl) (fun _ => by kernel_rfl)) ?_
                        refine StepsOK.cons (ok_load (t := 3) (x := .tmp 194) (a := ⟨bm, 2, none⟩) (by kernel_rfl) rfl (by kernel_rfl) (fun _ => by kernel_rfl) (cellD m2)) ?_
                        refine StepsOK.cons (ok_eq (v0 := (.int .i64 (IntKind.i64.wrap ((2 : Int) * ((pad : Int) : Int))))) (by kernel_rfl) (fun _ => by kernel_rfl) (by rw [up2])) ?_
                        refine StepsOK.cons (ok_eq (v0 := (.int .i64 (IntKind.i64.wrap (((QX : Int) : Int) - (2 * (pad : Int) : Int))))) (by kernel_rfl) (fun _ => by kernel_rfl) (by rw [z2])) ?_
                        refine StepsOK.cons (ok_run (by kernel_rfl) (fun _ => by kernel_rfl)) ?_
                        refine StepsOK.cons (ok_load (t := 3) (x := .tmp 198) (a := ⟨b16, 0, none⟩) (by kernel_rfl) rfl (by kernel_rfl) (fun _ => by kernel_rfl) (cellD r0)) ?_
                        refine StepsOK.cons (ok_run (by kernel_rfl) (fun _ => by kernel_rfl)) ?_
                        refine StepsOK.cons (ok_load (t := 3) (x := .tmp 200) (a := ⟨b16, 2, none⟩) (by kernel_rfl) rfl (by kernel_rfl) (fun _ => by kernel_rfl) (cellD r2)) ?_
                        refine StepsOK.cons (ok_eq (v0 := (.int .i64 (IntKind.i64.wrap (((RX : Int) : Int) + ((m : Int) : Int))))) (by kernel_rfl) (fun _ => by kernel_rfl) (by rw [z7])) ?_
                        refine StepsOK.cons (ok_eq (v0 := (.bool (decide (((QX : Int) - 2 * (pad : Int) : Int) < ((RX : Int) + (m : Int) : Int))))) (by kernel_rfl) (fun _ => by kernel_rfl) (by rw [d2])) ?_
                        refine StepsOK.cons (ok_run (by kernel_rfl) (fun _ => by kernel_rfl)) ?_
                        refine StepsOK.cons (ok_run (by kernel_rfl) (fun _ => by kernel_rfl)) ?_
                        refine StepsOK.cons (ok_run (by kernel_rfl) (fun _ => by kernel_rfl)) ?_
                        as_aux_lemma =>
                        refine StepsOK.cons (ok_load (t := 3) (x := .tmp 206) (a := ⟨b16, 1, none⟩) (by kernel_rfl) rfl (by kernel_rfl) (fun _ => by kernel_rfl) (cellD r1)) ?_
                        refine StepsOK.cons (ok_run (by kernel_rfl) (fun _ => by kernel_rfl)) ?_
                        refine StepsOK.cons (ok_run (by kernel_rfl) (fun _ => by kernel_rfl)) ?_
                        refine StepsOK.cons (ok_run (by kernel_rfl) (fun _ => by kernel_rfl)) ?_
                        refine StepsOK.cons (ok_load (t := 3) (x := .tmp 210) (a := ⟨bm, 2, none⟩) (by kernel_rfl) rfl (by kernel_rfl) (fun _ => by kernel_rfl) (cellD m2)) ?_
                        refine StepsOK.cons (ok_eq (v0 := (.int .i64 (IntKind.i64.wrap ((2 : Int) * ((pad : Int) : Int))))) (by kernel_rfl) (fun _ => by kernel_rfl) (by rw [up2])) ?_
                        refine StepsOK.cons (ok_eq (v0 := (.int .i64 (IntKind.i64.wrap (((RY : Int) : Int) - (2 * (pad : Int) : Int))))) (by kernel_rfl) (fun _ => by kernel_rfl) (by rw [z3])) ?_
                        refine StepsOK.cons (ok_run (by kernel_rfl) (fun _ => by kernel_rfl)) ?_
                        refine StepsOK.cons (ok_load (t := 3) (x := .tmp 214) (a := ⟨b22, 1, none⟩) (by kernel_rfl) rfl (by kernel_rfl) (fun _ => by kernel_rfl) (cellD f1)) ?_
                        refine StepsOK.cons (ok_run (by kernel_rfl) (fun _ => by kernel_rfl)) ?_
                        refine StepsOK.cons (ok_load (t := 3) (x := .tmp 216) (a := ⟨b22, 3, none⟩) (by kernel_rfl) rfl (by kernel_rfl) (fun _ => by kernel_rfl) (cellD f3)) ?_
                        refine StepsOK.cons (ok_eq (v0 := (.int .i64 (IntKind.i64.wrap (((QY : Int) : Int) + ((n' : Int) : Int))))) (by kernel_rfl) (fun _ => by kernel_rfl) (by rw [z6])) ?_
                        refine StepsOK.cons (ok_eq (v0 := (.bool (decide (((RY : Int) - 2 * (pad : Int) : Int) < ((QY : Int) + (n' : Int) : Int))))) (by kernel_rfl) (fun _ => by kernel_rfl) (by rw [d3])) ?_
                        refine StepsOK.cons (ok_run (by kernel_rfl) (fun _ => by kernel_rfl)) ?_
                        refine StepsOK.cons (ok_run (by kernel_rfl) (fun _ => by kernel_rfl)) ?_
                        refine StepsOK.cons (ok_off (by kernel_rfl) rfl) ?_
                        as_aux_lemma =>
                        refine StepsOK.cons (ok_off (by kernel_rfl) rfl) ?_
                        refine StepsOK.cons (ok_off (by kernel_rfl) rfl) ?_
                        refine StepsOK.cons (ok_off (by kernel_rfl) rfl) ?_
                        refine StepsOK.cons (ok_off (by kernel_rfl) rfl) ?_
                        refine StepsOK.cons (ok_off (by kernel_rfl) rfl) ?_
                        refine StepsOK.cons (ok_off (by kernel_rfl) rfl) ?_
                        refine StepsOK.cons (ok_off (by kernel_rfl) rfl) ?_
                        refine StepsOK.cons (ok_off (by kernel_rfl) rfl) ?_
                        refine StepsOK.cons (ok_off (by kernel_rfl) rfl) ?_
                        refine StepsOK.cons (ok_off (by kernel_rfl) rfl) ?_
                        refine StepsOK.cons (ok_off (by kernel_rfl) rfl) ?_
                        refine StepsOK.cons (ok_off (by kernel_rfl) rfl) ?_
                        refine StepsOK.cons (ok_off (by kernel_rfl) rfl) ?_
                        refine StepsOK.cons (ok_run (by kernel_rfl) (fun _ => by kernel_rfl)) ?_
                        exact StepsOK.nil
                      rintro w' ⟨nq, rfl⟩
                      exact hK1 _ _ (Met.intro (hJ1 _ _ ⟨(.pointer (some ⟨b16, 0, none⟩)), (.int .i64 ((RX : Int))), (.pointer (some ⟨bm, 0, none⟩)), (.pointer (some ⟨bm, 0, none⟩)), (.pointer (some ⟨bm, 2, none⟩)), (.int .i64 ((pad : Int))), (.int .i64 (2 * (pad : Int))), (.int .i64 ((RX : Int) - 2 * (pad : Int))), (.pointer (some ⟨b22, 0, none⟩)), (.int .i64 ((QX : Int))), (.pointer (some ⟨b22, 2, none⟩)), (.int .i64 ((m' : Int))), (.int .i64 ((QX : Int) + (m' : Int))), (.bool true), (.bool true), (.pointer (some ⟨b22, 0, none⟩)), (.int .i64 ((QX : Int))), (.pointer (some ⟨bm, 0, none⟩)), (.pointer (some ⟨bm, 0, none⟩)), (.pointer (some ⟨bm, 2, none⟩)), (.int .i64 ((pad : Int))), (.int .i64 (2 * (pad : Int))), (.int .i64 ((QX : Int) - 2 * (pad : Int))), (.pointer (some ⟨b16, 0, none⟩)), (.int .i64 ((RX : Int))), (.pointer (some ⟨b16, 2, none⟩)), (.int .i64 ((m : Int))), (.int .i64 ((RX : Int) + (m : Int))), (.bool true), (.bool true), (.bool true), (.pointer (some ⟨b16, 1, none⟩)), (.int .i64 ((RY : Int))), (.pointer (some ⟨bm, 0, none⟩)), (.pointer (some ⟨bm, 0, none⟩)), (.pointer (some ⟨bm, 2, none⟩)), (.int .i64 ((pad : Int))), (.int .i64 (2 * (pad : Int))), (.int .i64 ((RY : Int) - 2 * (pad : Int))), (.pointer (some ⟨b22, 1, none⟩)), (.int .i64 ((QY : Int))), (.pointer (some ⟨b22, 3, none⟩)), (.int .i64 ((n' : Int))), (.int .i64 ((QY : Int) + (n' : Int))), (.bool false), (.bool false), (.bool false), undef, undef, undef, undef, undef, undef, undef, undef, undef, undef, undef, undef, undef, undef, (.bool false), ⟨rfl, nq, rfl⟩, by as_aux_lemma => kernel_rfl⟩))
                  · have d2 := decide_eq_false e2
                    clear e1 e2
                    refine wp_region_fin (vs := [(.pointer (some ⟨b16, 0, none⟩)), (.int .i64 ((RX : Int))), (.pointer (some ⟨bm, 0, none⟩)), (.pointer (some ⟨bm, 0, none⟩)), (.pointer (some ⟨bm, 2, none⟩)), (.int .i64 ((pad : Int))), (.int .i64 (2 * (pad : Int))), (.int .i64 ((RX : Int) - 2 * (pad : Int))), (.pointer (some ⟨b22, 0, none⟩)), (.int .i64 ((QX : Int))), (.pointer (some ⟨b22, 2, none⟩)), (.int .i64 ((m' : Int))), (.int .i64 ((QX : Int) + (m' : Int))), (.bool true), (.bool true), (.pointer (some ⟨b22, 0, none⟩)), (.int .i64 ((QX : Int))), (.pointer (some ⟨bm, 0, none⟩)), (.pointer (some ⟨bm, 0, none⟩)), (.pointer (some ⟨bm, 2, none⟩)), (.int .i64 ((pad : Int))), (.int .i64 (2 * (pad : Int))), (.int .i64 ((QX : Int) - 2 * (pad : Int))), (.pointer (some ⟨b16, 0, none⟩)), (.int .i64 ((RX : Int))), (.pointer (some ⟨b16, 2, none⟩)), (.int .i64 ((m : Int))), (.int .i64 ((RX : Int) + (m : Int))), (.bool false), (.bool false), (.bool false), undef, undef, undef, undef, undef, undef, undef, undef, undef, undef, undef, undef, undef, undef, (.bool false), (.bool false), undef, undef, undef, undef, undef, undef, undef, undef, undef, undef, undef, undef, undef, undef, (.bool false)]) (by kernel_rfl) hB ?hchk ?hst ?_
                    case hchk => as_aux_lemma => kernel_rfl
                    case hst =>
                      as_aux_lemma =>
                      refine StepsOK.cons (ok_run (by kernel_rfl) (fun _ => by kernel_rfl)) ?_
                      refine StepsOK.cons (ok_load (t := 3) (x := .tmp 175) (a := ⟨b16, 0, none⟩) (by kernel_rfl) rfl (by kernel_rfl) (fun _ => by kernel_rfl) (cellD r0)) ?_
                      refine StepsOK.cons (ok_run (by kernel_rfl) (fun _ => by kernel_rfl)) ?_
                      refine StepsOK.cons (ok_run (by kernel_rfl) (fun _ => by kernel_rfl)) ?_
                      refine StepsOK.cons (ok_run (by kernel_rfl) (fun _ => by kernel_rfl)) ?_
                      refine StepsOK.cons (ok_load (t := 3) (x := .tmp 179) (a := ⟨bm, 2, none⟩) (by kernel_rfl) rfl (by kernel_rfl) (fun _ => by kernel_rfl) (cellD m2)) ?_
                      refine StepsOK.cons (ok_eq (v0 := (.int .i64 (IntKind.i64.wrap ((2 : Int) * ((pad : Int) : Int))))) (by kernel_rfl) (fun _ => by kernel_rfl) (by rw [up2])) ?_
                      refine StepsOK.cons (ok_eq (v0 := (.int .i64 (IntKind.i64.wrap (((RX : Int) : Int) - (2 * (pad : Int) : Int))))) (by kernel_rfl) (fun _ => by kernel_rfl) (by rw [z1])) ?_
                      refine StepsOK.cons (ok_run (by kernel_rfl) (fun _ => by kernel_rfl)) ?_
                      refine StepsOK.cons (ok_load (t := 3) (x := .tmp 183) (a := ⟨b22, 0, none⟩) (by kernel_rfl) rfl (by kernel_rfl) (fun _ => by kernel_rfl) (cellD f0)) ?_
                      refine StepsOK.cons (ok_run (by kernel_rfl) (fun _ => by kernel_rfl)) ?_
                      refine StepsOK.cons (ok_load (t := 3) (x := .tmp 185) (a := ⟨b22, 2, none⟩) (by kernel_rfl) rfl (by kernel_rfl) (fun _ => by kernel_rfl) (cellD f2)) ?_
                      refine StepsOK.cons (ok_eq (v0 := (.int .i64 (IntKind.i64.wrap (((QX : Int) : Int) + ((m' : Int) : Int))))) (by kernel_rfl) (fun _ => by kernel_rfl) (by rw [z5])) ?_
                      refine StepsOK.cons (ok_eq (v0 := (.bool (decide (((RX : Int) - 2 * (pad : Int) : Int) < ((QX : Int) + (m' : Int) : Int))))) (by kernel_rfl) (fun _ => by kernel_rfl) (by rw [d1])) ?_
                      refine StepsOK.cons (ok_run (by kernel_rfl) (fun _ => by kernel_rfl)) ?_
                      refine StepsOK.cons (ok_run (by kernel_rfl) (fun _ => by kernel_rfl)) ?_
                      as_aux_lemma =>
                      refine StepsOK.cons (ok_load (t := 3) (x := .tmp 190) (a := ⟨b22, 0, none⟩) (by kernel_rfl) rfl (by kernel_rfl) (fun _ => by kernel_rfl) (cellD f0)) ?_
                      refine StepsOK.cons (ok_run (by kernel_rfl) (fun _ => by kernel_rfl)) ?_
                      refine StepsOK.cons (ok_run (by kernel_rfl) (fun _ => by kernel_rfl)) ?_
                      refine StepsOK.cons (ok_run (by kernel_rfl) (fun _ => by kernel_rfl)) ?_
                      refine StepsOK.cons (ok_load (t := 3) (x := .tmp 194) (a := ⟨bm, 2, none⟩) (by kernel_rfl) rfl (by kernel_rfl) (fun _ => by kernel_rfl) (cellD m2)) ?_
                      refine StepsOK.cons (ok_eq (v0 := (.int .i64 (IntKind.i64.wrap ((2 : Int) * ((pad : Int) : Int))))) (by kernel_rfl) (fun _ => by kernel_rfl) (by rw [up2])) ?_
                      refine StepsOK.cons (ok_eq (v0 := (.int .i64 (IntKind.i64.wrap (((QX : Int) : Int) - (2 * (pad : Int) : Int))))) (by kernel_rfl) (fun _ => by kernel_rfl) (by rw [z2])) ?_
                      refine StepsOK.cons (ok_run (by kernel_rfl) (fun _ => by kernel_rfl)) ?_
                      refine StepsOK.cons (ok_load (t := 3) (x := .tmp 198) (a := ⟨b16, 0, none⟩) (by kernel_rfl) rfl (by kernel_rfl) (fun _ => by kernel_rfl) (cellD r0)) ?_
                      refine StepsOK.cons (ok_run (by kernel_rfl) (fun _ => by kernel_rfl)) ?_
                      refine StepsOK.cons (ok_load (t := 3) (x := .tmp 200) (a := ⟨b16, 2, none⟩) (by kernel_rfl) rfl (by kernel_rfl) (fun _ => by kernel_rfl) (cellD r2)) ?_
                      refine StepsOK.cons (ok_eq (v0 := (.int .i64 (IntKind.i64.wrap (((RX : Int) : Int) + ((m : Int) : Int))))) (by kernel_rfl) (fun _ => by kernel_rfl) (by rw [z7])) ?_
                      refine StepsOK.cons (ok_eq (v0 := (.bool (decide (((QX : Int) - 2 * (pad : Int) : Int) < ((RX : Int) + (m : Int) : Int))))) (by kernel_rfl) (fun _ => by kernel_rfl) (by rw [d2])) ?_
                      refine StepsOK.cons (ok_run (by kernel_rfl) (fun _ => by kernel_rfl)) ?_
                      refine StepsOK.cons (ok_run (by kernel_rfl) (fun _ => by kernel_rfl)) ?_
                      refine StepsOK.cons (ok_off (by kernel_rfl) rfl) ?_
                      as_aux_lemma =>
                      refine StepsOK.cons (ok_off (by kernel_rfl) rfl) ?_
                      refine StepsOK.cons (ok_off (by kernel_rfl) rfl) ?_
                      refine StepsOK.cons (ok_off (by kernel_rfl) rfl) ?_
                      refine StepsOK.cons (ok_off (by kernel_rfl) rfl) ?_
                      refine StepsOK.cons (ok_off (by kernel_rfl) rfl) ?_
                      refine StepsOK.cons (ok_off (by kernel_rfl) rfl) ?_
                      refine StepsOK.cons (ok_off (by kernel_rfl) rfl) ?_
                      refine StepsOK.cons (ok_off (by kernel_rfl) rfl) ?_
                      refine StepsOK.cons (ok_off (by kernel_rfl) rfl) ?_
                      refine StepsOK.cons (ok_off (by kernel_rfl) rfl) ?_
                      refine StepsOK.cons (ok_off (by kernel_rfl) rfl) ?_
                      refine StepsOK.cons (ok_off (by kernel_rfl) rfl) ?_
                      refine StepsOK.cons (ok_off (by kernel_rfl) rfl) ?_
                      refine StepsOK.cons (ok_run (by kernel_rfl) (fun _ => by kernel_rfl)) ?_
                      refine StepsOK.cons (ok_run (by kernel_rfl) (fun _ => by kernel_rfl)) ?_
                      refine StepsOK.cons (ok_off (by kernel_rfl) rfl) ?_
                      as_aux_lemma =>
                      refine StepsOK.cons (ok_off (by kernel_rfl) rfl) ?_
                      refine StepsOK.cons (ok_off (by kernel_rfl) rfl) ?_
                      refine StepsOK.cons (ok_off (by kernel_rfl) rfl) ?_
                      refine StepsOK.cons (ok_off (by kernel_rfl) rfl) ?_
                      refine StepsOK.cons (ok_off (by kernel_rfl) rfl) ?_
                      refine StepsOK.cons (ok_off (by kernel_rfl) rfl) ?_
                      refine StepsOK.cons (ok_off (by kernel_rfl) rfl) ?_
                      refine StepsOK.cons (ok_off (by kernel_rfl) rfl) ?_
                      refine StepsOK.cons (ok_off (by kernel_rfl) rfl) ?_
                      refine StepsOK.cons (ok_off (by kernel_rfl) rfl) ?_
                      refine StepsOK.cons (ok_off (by kernel_rfl) rfl) ?_
                      refine StepsOK.cons (ok_off (by kernel_rfl) rfl) ?_
                      refine StepsOK.cons (ok_off (by kernel_rfl) rfl) ?_
                      refine StepsOK.cons (ok_run (by kernel_rfl) (fun _ => by kernel_rfl)) ?_
                      exact StepsOK.nil
                    rintro w' ⟨nq, rfl⟩
                    exact hK1 _ _ (Met.intro (hJ1 _ _ ⟨(.pointer (some ⟨b16, 0, none⟩)), (.int .i64 ((RX : Int))), (.pointer (some ⟨bm, 0, none⟩)), (.pointer (some ⟨bm, 0, none⟩)), (.pointer (some ⟨bm, 2, none⟩)), (.int .i64 ((pad : Int))), (.int .i64 (2 * (pad : Int))), (.int .i64 ((RX : Int) - 2 * (pad : Int))), (.pointer (some ⟨b22, 0, none⟩)), (.int .i64 ((QX : Int))), (.pointer (some ⟨b22, 2, none⟩)), (.int .i64 ((m' : Int))), (.int .i64 ((QX : Int) + (m' : Int))), (.bool true), (.bool true), (.pointer (some ⟨b22, 0, none⟩)), (.int .i64 ((QX : Int))), (.pointer (some ⟨bm, 0, none⟩)), (.pointer (some ⟨bm, 0, none⟩)), (.pointer (some ⟨bm, 2, none⟩)), (.int .i64 ((pad : Int))), (.int .i64 (2 * (pad : Int))), (.int .i64 ((QX : Int) - 2 * (pad : Int))), (.pointer (some ⟨b16, 0, none⟩)), (.int .i64 ((RX : Int))), (.pointer (some ⟨b16, 2, none⟩)), (.int .i64 ((m : Int))), (.int .i64 ((RX : Int) + (m : Int))), (.bool false), (.bool false), (.bool false), undef, undef, undef, undef, undef, undef, undef, undef, undef, undef, undef, undef, undef, undef, (.bool false), (.bool false), undef, undef, undef, undef, undef, undef, undef, undef, undef, undef, undef, undef, undef, undef, (.bool false), ⟨rfl, nq, rfl⟩, by as_aux_lemma => kernel_rfl⟩))
                · have d1 := decide_eq_false e1
                  clear e1
                  refine wp_region_fin (vs := [(.pointer (some ⟨b16, 0, none⟩)), (.int .i64 ((RX : Int))), (.pointer (some ⟨bm, 0, none⟩)), (.pointer (some ⟨bm, 0, none⟩)), (.pointer (some ⟨bm, 2, none⟩)), (.int .i64 ((pad : Int))), (.int .i64 (2 * (pad : Int))), (.int .i64 ((RX : Int) - 2 * (pad : Int))), (.pointer (some ⟨b22, 0, none⟩)), (.int .i64 ((QX : Int))), (.pointer (some ⟨b22, 2, none⟩)), (.int .i64 ((m' : Int))), (.int .i64 ((QX : Int) + (m' : Int))), (.bool false), (.bool false), undef, undef, undef, undef, undef, undef, undef, undef, undef, undef, undef, undef, undef, undef, (.bool false), (.bool false), undef, undef, undef, undef, undef, undef, undef, undef, undef, undef, undef, undef, undef, undef, (.bool false), (.bool false), undef, undef, undef, undef, undef, undef, undef, undef, undef, undef, undef, undef, undef, undef, (.bool false)]) (by kernel_rfl) hB ?hchk ?hst ?_
                  case hchk => as_aux_lemma => kernel_rfl
                  case hst =>
                    as_aux_lemma =>
                    refine StepsOK.cons (ok_run (by kernel_rfl) (fun _ => by kernel_rfl)) ?_
                    refine StepsOK.cons (ok_load (t := 3) (x := .tmp 175) (a := ⟨b16, 0, none⟩) (by kernel_rfl) rfl (by kernel_rfl) (fun _ => by kernel_rfl) (cellD r0)) ?_
                    refine StepsOK.cons (ok_run (by kernel_rfl) (fun _ => by kernel_rfl)) ?_
                    refine StepsOK.cons (ok_run (by kernel_rfl) (fun _ => by kernel_rfl)) ?_
                    refine StepsOK.cons (ok_run (by kernel_rfl) (fun _ => by kernel_rfl)) ?_
                    refine StepsOK.cons (ok_load (t := 3) (x := .tmp 179) (a := ⟨bm, 2, none⟩) (by kernel_rfl) rfl (by kernel_rfl) (fun _ => by kernel_rfl) (cellD m2)) ?_
                    refine StepsOK.cons (ok_eq (v0 := (.int .i64 (IntKind.i64.wrap ((2 : Int) * ((pad : Int) : Int))))) (by kernel_rfl) (fun _ => by kernel_rfl) (by rw [up2])) ?_
                    refine StepsOK.cons (ok_eq (v0 := (.int .i64 (IntKind.i64.wrap (((RX : Int) : Int) - (2 * (pad : Int) : Int))))) (by kernel_rfl) (fun _ => by kernel_rfl) (by rw [z1])) ?_
                    refine StepsOK.cons (ok_run (by kernel_rfl) (fun _ => by kernel_rfl)) ?_
                    refine StepsOK.cons (ok_load (t := 3) (x := .tmp 183) (a := ⟨b22, 0, none⟩) (by kernel_rfl) rfl (by kernel_rfl) (fun _ => by kernel_rfl) (cellD f0)) ?_
                    refine StepsOK.cons (ok_run (by kernel_rfl) (fun _ => by kernel_rfl)) ?_
                    refine StepsOK.cons (ok_load (t := 3) (x := .tmp 185) (a := ⟨b22, 2, none⟩) (by kernel_rfl) rfl (by kernel_rfl) (fun _ => by kernel_rfl) (cellD f2)) ?_
                    refine StepsOK.cons (ok_eq (v0 := (.int .i64 (IntKind.i64.wrap (((QX : Int) : Int) + ((m' : Int) : Int))))) (by kernel_rfl) (fun _ => by kernel_rfl) (by rw [z5])) ?_
                    refine StepsOK.cons (ok_eq (v0 := (.bool (decide (((RX : Int) - 2 * (pad : Int) : Int) < ((QX : Int) + (m' : Int) : Int))))) (by kernel_rfl) (fun _ => by kernel_rfl) (by rw [d1])) ?_
                    refine StepsOK.cons (ok_run (by kernel_rfl) (fun _ => by kernel_rfl)) ?_
                    refine StepsOK.cons (ok_off (by kernel_rfl) rfl) ?_
                    as_aux_lemma =>
                    refine StepsOK.cons (ok_off (by kernel_rfl) rfl) ?_
                    refine StepsOK.cons (ok_off (by kernel_rfl) rfl) ?_
                    refine StepsOK.cons (ok_off (by kernel_rfl) rfl) ?_
                    refine StepsOK.cons (ok_off (by kernel_rfl) rfl) ?_
                    refine StepsOK.cons (ok_off (by kernel_rfl) rfl) ?_
                    refine StepsOK.cons (ok_off (by kernel_rfl) rfl) ?_
                    refine StepsOK.cons (ok_off (by kernel_rfl) rfl) ?_
                    refine StepsOK.cons (ok_off (by kernel_rfl) rfl) ?_
                    refine StepsOK.cons (ok_off (by kernel_rfl) rfl) ?_
                    refine StepsOK.cons (ok_off (by kernel_rfl) rfl) ?_
                    refine StepsOK.cons (ok_off (by kernel_rfl) rfl) ?_
                    refine StepsOK.cons (ok_off (by kernel_rfl) rfl) ?_
                    refine StepsOK.cons (ok_off (by kernel_rfl) rfl) ?_
                    refine StepsOK.cons (ok_run (by kernel_rfl) (fun _ => by kernel_rfl)) ?_
                    refine StepsOK.cons (ok_run (by kernel_rfl) (fun _ => by kernel_rfl)) ?_
                    refine StepsOK.cons (ok_off (by kernel_rfl) rfl) ?_
                    as_aux_lemma =>
                    refine StepsOK.cons (ok_off (by kernel_rfl) rfl) ?_
                    refine StepsOK.cons (ok_off (by kernel_rfl) rfl) ?_
                    refine StepsOK.cons (ok_off (by kernel_rfl) rfl) ?_
                    refine StepsOK.cons (ok_off (by kernel_rfl) rfl) ?_
                    refine StepsOK.cons (ok_off (by kernel_rfl) rfl) ?_
                    refine StepsOK.cons (ok_off (by kernel_rfl) rfl) ?_
                    refine StepsOK.cons (ok_off (by kernel_rfl) rfl) ?_
                    refine StepsOK.cons (ok_off (by kernel_rfl) rfl) ?_
                    refine StepsOK.cons (ok_off (by kernel_rfl) rfl) ?_
                    refine StepsOK.cons (ok_off (by kernel_rfl) rfl) ?_
                    refine StepsOK.cons (ok_off (by kernel_rfl) rfl) ?_
                    refine StepsOK.cons (ok_off (by kernel_rfl) rfl) ?_
                    refine StepsOK.cons (ok_off (by kernel_rfl) rfl) ?_
                    refine StepsOK.cons (ok_run (by kernel_rfl) (fun _ => by kernel_rfl)) ?_
                    refine StepsOK.cons (ok_run (by kernel_rfl) (fun _ => by kernel_rfl)) ?_
                    refine StepsOK.cons (ok_off (by kernel_rfl) rfl) ?_
                    as_aux_lemma =>
                    refine StepsOK.cons (ok_off (by kernel_rfl) rfl) ?_
                    refine StepsOK.cons (ok_off (by kernel_rfl) rfl) ?_
                    refine StepsOK.cons (ok_off (by kernel_rfl) rfl) ?_
                    refine StepsOK.cons (ok_off (by kernel_rfl) rfl) ?_
                    refine StepsOK.cons (ok_off (by kernel_rfl) rfl) ?_
                    refine StepsOK.cons (ok_off (by kernel_rfl) rfl) ?_
                    refine StepsOK.cons (ok_off (by kernel_rfl) rfl) ?_
                    refine StepsOK.cons (ok_off (by kernel_rfl) rfl) ?_
                    refine StepsOK.cons (ok_off (by kernel_rfl) rfl) ?_
                    refine StepsOK.cons (ok_off (by kernel_rfl) rfl) ?_
                    refine StepsOK.cons (ok_off (by kernel_rfl) rfl) ?_
                    refine StepsOK.cons (ok_off (by kernel_rfl) rfl) ?_
                    refine StepsOK.cons (ok_off (by kernel_rfl) rfl) ?_
                    refine StepsOK.cons (ok_run (by kernel_rfl) (fun _ => by kernel_rfl)) ?_
                    exact StepsOK.nil
                  rintro w' ⟨nq, rfl⟩
                  exact hK1 _ _ (Met.intro (hJ1 _ _ ⟨(.pointer (some ⟨b16, 0, none⟩)), (.int .i64 ((RX : Int))), (.pointer (some ⟨bm, 0, none⟩)), (.pointer (some ⟨bm, 0, none⟩)), (.pointer (some ⟨bm, 2, none⟩)), (.int .i64 ((pad : Int))), (.int .i64 (2 * (pad : Int))), (.int .i64 ((RX : Int) - 2 * (pad : Int))), (.pointer (some ⟨b22, 0, none⟩)), (.int .i64 ((QX : Int))), (.pointer (some ⟨b22, 2, none⟩)), (.int .i64 ((m' : Int))), (.int .i64 ((QX : Int) + (m' : Int))), (.bool false), (.bool false), undef, undef, undef, undef, undef, undef, undef, undef, undef, undef, undef, undef, undef, undef, (.bool false), (.bool false), undef, undef, undef, undef, undef, undef, undef, undef, undef, undef, undef, undef, undef, undef, (.bool false), (.bool false), undef, undef, undef, undef, undef, undef, undef, undef, undef, undef, undef, undef, undef, undef, (.bool false), ⟨rfl, nq, rfl⟩, by as_aux_lemma => kernel_rfl⟩))
              case rest =>
                obtain ⟨rfl, nq, rfl⟩ := hcut
                clear r0 r1 r2 r3 f0 f1 f2 f3 m0 m1 m2 z1 z2 z3 z4 z5 z6 z7 z8
                go_wp2_with fail
                go_roundw
                case rel => exact ⟨j + 1, by go_num, by omega, Lib.hid (below_drewN J10.out nq)⟩
                case measure => simp [intOf]; omega
            · have hji' : ¬ (j : Int) < (i : Int) := by omega
              go_wp2_with fail
              go_roundw
              case rel => exact ⟨i + 1, by go_num, by omega, Lib.hid (I8.out.trans (HJ.out.mono I8.out.size))⟩
              case measure => simp [intOf]; omega
        · have hik' : ¬ (i : Int) < (K : Int) := by omega
          go_wp2_with fail
          go_ret
          exact ⟨rfl, HB3.out.trans (HI.out.mono HB3.out.size)⟩
end Go.Proofs.Ytaccppchhljnkaa

/- AtlasApart: for every input the law returns true. No condition. -/
set_option linter.unusedVariables false
set_option linter.unusedSimpArgs false
namespace Go.Proofs.Ytaccppchhljnkaa
open Go.RowKit Go.Proofs.YtaccppchhljnkaaW.PrintWords Go.Proofs.YtaccppchhljnkaaW.PrintMore
theorem wfu8 {x : Int} (h : (Lit.int .u8 x).wf = true) : 0 ≤ x ∧ x ≤ 255 := by simpa [Lit.wf, IntKind.min, IntKind.max, IntKind.signed, IntKind.bits] using h
theorem wfi8 {x : Int} (h : (Lit.int .i8 x).wf = true) : -128 ≤ x ∧ x ≤ 127 := by simpa [Lit.wf, IntKind.min, IntKind.max, IntKind.signed, IntKind.bits] using h
theorem wfi16 {x : Int} (h : (Lit.int .i16 x).wf = true) : -32768 ≤ x ∧ x ≤ 32767 := by simpa [Lit.wf, IntKind.min, IntKind.max, IntKind.signed, IntKind.bits] using h

namespace atlasApart
open Go.ChangeShapes Go.WideShapes Go.ChangeAt Go.RowKit
open Go.ChangeMaps (open_string shut_string)
theorem own : ownKnob Try.prog.godebug = none := by kernel_rfl
theorem laidOut : laidOutB Try.prog = true := by kernel_rfl

set_option maxRecDepth 100000 in
theorem lifted (os : Os) (started : os.Started) (H : Type) (enc : TypeId × Value → H) :
    ReturnsInHanded {} Try.checked os 3 .any (Rows.atlasApartSpec.pre6 enc Try.prog Try.f3 Rows.atlasApartRow.domain false) (Rows.atlasApartSpec.post enc Try.prog Try.f3 false true false false) := by
  refine returnsInHanded_of_change (C := Try.checked) own started (by kernel_rfl) Try.func3
    (ChangeSpec.witness6 (enc := enc) (C := Try.checked) false ⟨#[], #[.int .u8 0, .int .u8 0, .int .u8 0, .slice none 0 0], []⟩ 8 (by kernel_rfl) (by kernel_rfl) (by kernel_rfl) (by kernel_rfl)) ?_
  intro W base args ds gs before hval0 hW hcnd _
  have hval : ∀ (j : Nat) t v, Try.f3.params[j]? = some t → args[j]? = some v → Value.okWide Try.prog W .any base t v := hval0
  have hW' := hW
  obtain ⟨p, q, hA0, hV, rfl, hfz, hnd⟩ := hW
  have hA : DataW.TrodAll enc Try.prog W 0 (fun _ => true) true Try.f3.params.toList args.toList ds p := hA0
  rw [Try.params3] at hA hval
  obtain ⟨v0, vs0, d0, ds0, p0, q0, hargs, rfl, rfl, h0, r0⟩ := trodAll_cons hA
  obtain ⟨v1, vs1, d1, ds1, p1, q1, rfl, rfl, rfl, h1, r1⟩ := trodAll_cons r0
  obtain ⟨v2, vs2, d2, ds2, p2, q2, rfl, rfl, rfl, h2, r2⟩ := trodAll_cons r1
  obtain ⟨v3, vs3, d3, ds3, p3, q3, rfl, rfl, rfl, h3, r3⟩ := trodAll_cons r2
  obtain ⟨rfl, rfl, rfl⟩ := trodAll_nil r3
  obtain rfl : args = #[v0, v1, v2, v3] := by cases args; simp_all
  obtain ⟨rfl, rfl⟩ := trodVars_none hV
  obtain ⟨a0, rfl, rfl, rfl, w0⟩ := open_int Try.underlying5 (hval 0 5 v0 rfl rfl) h0
  obtain ⟨a1, rfl, rfl, rfl, w1⟩ := open_int Try.underlying5 (hval 1 5 v1 rfl rfl) h1
  obtain ⟨a2, rfl, rfl, rfl, w2⟩ := open_int Try.underlying5 (hval 2 5 v2 rfl rfl) h2
  obtain ⟨a3, len3, cap3, rfl⟩ := okWide_slice Try.underlying22 (hval 3 22 v3 rfl rfl)
  have k3 := h3
  have lt3 : ∀ x ∈ p3, x.block < W.heap.size := by obtain ⟨m, hm⟩ := k3; exact DataW.trod_lt m _ _ _ hm
  obtain ⟨l3, rfl, rd3, le3, wf3⟩ := open_acts h3
  clear hA0 hval0
  refine (atlasApart_core a0 a1 a2 (wfu8 w0) (wfu8 w1) (wfu8 w2) a3 cap3 l3 W rd3 le3 wf3).mono fun e W' ⟨he, bel⟩ => ?_
  subst he
  exact ⟨_, rfl, _, _, _, [], _, [], hW', trodAll_mk1 (shut_bool Try.underlying4 _), (trodAll_cons_mk (shut_int Try.underlying5 w0) (trodAll_cons_mk (shut_int Try.underlying5 w1) (trodAll_cons_mk (shut_int Try.underlying5 w2) (trodAll_cons_mk (Below.trod laidOut (by kernel_rfl) (of_decide_eq_true (by kernel_rfl)) k3 bel lt3) trodAll_mk0)))), rfl, bel.frame _, fun h => by cases h⟩

theorem over : Rows.atlasApartRow.holds Try.pinned (OpenSpec.ofChange Rows.atlasApartSpec) :=
  OpenClaim.holds_of_wide 3 Try.f3 rfl rfl rfl rfl rfl rfl rfl ⟨rfl, rfl, rfl, rfl, rfl⟩ rfl rfl rfl rfl rfl (by kernel_rfl) Try.func3 (by kernel_rfl)
    (of_decide_eq_true (by kernel_rfl)) (by unfold Func.isWrapper; first | (rw [if_pos (by decide +kernel)]; kernel_rfl) | (rw [if_neg (by decide +kernel)]; exact ⟨rfl, rfl⟩))
    (fun os started H enc _ => lifted os started H enc)

theorem proved : Rows.AtlasApartSaid := over
end atlasApart
end Go.Proofs.Ytaccppchhljnkaa
