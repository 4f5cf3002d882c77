/- Skylines: heights, steps, and what the program reckons of steps: plain laws. -/
import Derived.RowKit
set_option linter.unusedVariables false
set_option linter.unusedSimpArgs false
namespace Go.Proofs.Ytaccppchhljnkaa
/-- Where heights part from the one before, and what they are there. -/
def stL : Nat → Option Int → List Int → List (Int × Int)
  | _, _, [] => []
  | x, p, y :: ys => if p = some y then stL (x + 1) (some y) ys else ((x : Int), y) :: stL (x + 1) (some y) ys
def stepsOf (l : List Int) : List (Int × Int) := stL 0 none l
theorem stL_ge : ∀ (ys : List Int) (x : Nat) (p : Option Int) (q : Int × Int), q ∈ stL x p ys → (x : Int) ≤ q.1 ∧ q.1 < x + ys.length
  | [], _, _, q, h => by simp [stL] at h
  | y :: ys, x, p, q, h => by
    have hl : ((y :: ys).length : Int) = ys.length + 1 := by simp
    unfold stL at h
    split at h
    · have := stL_ge ys (x + 1) (some y) q h; omega
    · rcases List.mem_cons.1 h with rfl | h
      · exact ⟨Int.le_refl _, by show (x : Int) < _; omega⟩
      · have := stL_ge ys (x + 1) (some y) q h; omega
theorem stL_y : ∀ (ys : List Int) (x : Nat) (p : Option Int) (q : Int × Int), q ∈ stL x p ys → q.2 ∈ ys
  | [], _, _, q, h => by simp [stL] at h
  | y :: ys, x, p, q, h => by
    unfold stL at h
    split at h
    · exact List.mem_cons_of_mem _ (stL_y ys (x + 1) (some y) q h)
    · rcases List.mem_cons.1 h with rfl | h
      · simp
      · exact List.mem_cons_of_mem _ (stL_y ys (x + 1) (some y) q h)
theorem stL_len : ∀ (ys : List Int) (x : Nat) (p : Option Int), (stL x p ys).length ≤ ys.length
  | [], _, _ => by simp [stL]
  | y :: ys, x, p => by
    unfold stL
    split
    · have := stL_len ys (x + 1) (some y); simp; omega
    · have := stL_len ys (x + 1) (some y); simp; omega
/-! High. -/
def hiF (x : Int) : Int → List (Int × Int) → Int
  | out, [] => out
  | out, p :: r => hiF x (if p.1 ≤ x then p.2 else out) r
theorem hi_lt : ∀ (st : List (Int × Int)) (x out : Int), (∀ q ∈ st, x < q.1) → hiF x out st = out
  | [], x, out, _ => rfl
  | p :: r, x, out, h => by
    have := h p (by simp)
    rw [hiF, if_neg (by omega)]
    exact hi_lt r x out (fun q hq => h q (List.mem_cons_of_mem _ hq))
theorem hi_at : ∀ (ys : List Int) (pos : Nat) (p : Option Int) (out : Int) (i : Nat), i < ys.length → (∀ o, p = some o → out = o) → hiF ((pos : Int) + i) out (stL pos p ys) = ys.getD i 0
  | [], _, _, _, i, h, _ => by simp at h
  | y :: ys, pos, p, out, 0, h, ho => by
    unfold stL
    have hlt : ∀ o, hiF ((pos : Int) + (0 : Nat)) o (stL (pos + 1) (some y) ys) = o := fun o => hi_lt _ _ _ (fun q hq => by have := (stL_ge _ _ _ _ hq).1; omega)
    split
    · rename_i hp
      rw [hlt]; exact ho y hp
    · rw [hiF, if_pos (by show (pos : Int) ≤ _; omega), hlt]; rfl
  | y :: ys, pos, p, out, i + 1, h, ho => by
    have hi : i < ys.length := by simpa using h
    have ih := fun o (hoo : o = y) => hi_at ys (pos + 1) (some y) o i hi (fun o' e => by injection e with e; rw [hoo, e])
    have e : ((pos : Int) + ((i + 1 : Nat) : Int)) = ((pos + 1 : Nat) : Int) + i := by omega
    unfold stL
    rw [e]
    split
    · rename_i hp
      rw [ih out (ho y hp)]; rfl
    · rw [hiF, if_pos (by show (pos : Int) ≤ _; omega), ih _ rfl]; rfl
theorem hi_steps (l : List Int) (i : Nat) (h : i < l.length) : hiF i 0 (stepsOf l) = l.getD i 0 := by
  have := hi_at l 0 none 0 i h (fun o e => by cases e)
  simpa [stepsOf] using this
/-! over. -/
def endOf (W : Int) : List (Int × Int) → Int
  | [] => W
  | q :: _ => q.1
def ovF (W x m : Int) : Int → List (Int × Int) → Int
  | out, [] => out
  | out, p :: r => ovF W x m (if p.1 < x + m ∧ x < endOf W r then max out p.2 else out) r
def mxF (x m : Int) : Nat → Int → List Int → Int
  | _, out, [] => out
  | pos, out, y :: ys => mxF x m (pos + 1) (if x ≤ pos ∧ (pos : Int) < x + m then max out y else out) ys
theorem ov_mx (x m : Int) (hm : 1 ≤ m) : ∀ (ys : List Int) (pos : Nat) (px py out : Int), px < pos →
    ovF ((pos : Int) + ys.length) x m out ((px, py) :: stL pos (some py) ys) = mxF x m pos (if px < x + m ∧ x < pos then max out py else out) ys
  | [], pos, px, py, out, h => by
    simp [stL, ovF, endOf, mxF]
  | y :: ys, pos, px, py, out, h => by
    have hl : ((pos : Int) + ((y :: ys).length : Int)) = ((pos + 1 : Nat) : Int) + ys.length := by simp; omega
    rw [hl]
    by_cases hy : py = y
    · subst hy
      have ih := ov_mx x m hm ys (pos + 1) px py out (by omega)
      rw [stL, if_pos rfl, ih, mxF]
      congr 1
      by_cases h1 : px < x + m <;> by_cases h2 : x < (pos : Int) <;> by_cases h3 : x = (pos : Int)
      all_goals
        simp only [h1, h2, true_and, and_true, false_and, if_true, if_false]
        repeat' split
        all_goals omega
    · have ih := fun o => ov_mx x m hm ys (pos + 1) (pos : Int) y o (by omega)
      rw [stL, if_neg (fun e => hy (by injection e)), ovF, ih, mxF]
      have e : (((pos : Int) < x + m ∧ x < ((pos + 1 : Nat) : Int)) : Prop) = (x ≤ (pos : Int) ∧ (pos : Int) < x + m) := propext ⟨fun h => ⟨by omega, h.1⟩, fun h => ⟨h.2, by omega⟩⟩
      have e2 : endOf (((pos + 1 : Nat) : Int) + ys.length) ((((pos : Nat) : Int), y) :: stL (pos + 1) (some y) ys) = (pos : Int) := rfl
      rw [e2]
      congr 1
      by_cases c2 : x ≤ (pos : Int) ∧ (pos : Int) < x + m
      · rw [if_pos (e.symm ▸ c2), if_pos c2]
      · rw [if_neg (e.symm ▸ c2), if_neg c2]
theorem ov_steps (l : List Int) (x m : Int) (hm : 1 ≤ m) : ovF l.length x m 0 (stepsOf l) = mxF x m 0 0 l := by
  cases l with
  | nil => rfl
  | cons y ys =>
    have := ov_mx x m hm ys 1 0 y 0 (by omega)
    rw [stepsOf, stL, if_neg (by simp)]
    have hl : (((y :: ys).length : Nat) : Int) = ((1 : Nat) : Int) + ys.length := by simp; omega
    rw [hl]
    rw [show (((0 : Nat) : Int), y) = ((0 : Int), y) from rfl, this, mxF]
    congr 1
    repeat' split
    all_goals omega
theorem mx_skip (x m : Int) : ∀ (ys : List Int) (pos i : Nat) (out : Int), (pos : Int) + i ≤ x → i ≤ ys.length → mxF x m pos out ys = mxF x m (pos + i) out (ys.drop i)
  | ys, pos, 0, out, _, _ => rfl
  | [], pos, i + 1, out, _, h => by simp at h
  | y :: ys, pos, i + 1, out, hx, h => by
    rw [mxF, if_neg (by omega), mx_skip x m ys (pos + 1) i out (by omega) (by simpa using h), List.drop_succ_cons, show pos + 1 + i = pos + (i + 1) by omega]
theorem mx_done (x m : Int) : ∀ (ys : List Int) (pos : Nat) (out : Int), x + m ≤ pos → mxF x m pos out ys = out
  | [], _, _, _ => rfl
  | y :: ys, pos, out, h => by rw [mxF, if_neg (by omega), mx_done x m ys (pos + 1) out (by omega)]
theorem mx_before (x m : Int) : ∀ (ys : List Int) (pos : Nat) (out : Int), (pos : Int) + ys.length ≤ x → mxF x m pos out ys = out
  | [], _, _, _ => rfl
  | y :: ys, pos, out, h => by
    have : ((y :: ys).length : Int) = ys.length + 1 := by simp
    rw [mxF, if_neg (by omega), mx_before x m ys (pos + 1) out (by omega)]
theorem mx_bound (x m : Int) (B : Int) : ∀ (ys : List Int) (pos : Nat) (out : Int), (∀ y ∈ ys, y ≤ B) → out ≤ B → out ≤ mxF x m pos out ys ∧ mxF x m pos out ys ≤ B
  | [], _, _, _, h => ⟨Int.le_refl _, h⟩
  | y :: ys, pos, out, hy, h => by
    have h1 := hy y (by simp)
    rw [mxF]
    by_cases hc : x ≤ (pos : Int) ∧ (pos : Int) < x + m
    · rw [if_pos hc]
      have := mx_bound x m B ys (pos + 1) (max out y) (fun z hz => hy z (List.mem_cons_of_mem _ hz)) (by omega)
      omega
    · rw [if_neg hc]
      exact mx_bound x m B ys (pos + 1) out (fun z hz => hy z (List.mem_cons_of_mem _ hz)) h
/-! Fit. -/
def fitF (W H m n : Int) (ov : Int → Int) : Option (Int × Int) → List (Int × Int) → Option (Int × Int)
  | best, [] => best
  | best, p :: r => fitF W H m n ov (if p.1 + m ≤ W ∧ ov p.1 + n ≤ H ∧ (∀ b, best = some b → ov p.1 < b.2) then some (p.1, ov p.1) else best) r
/-! Put. -/
def pF (out : List (Int × Int)) (p : Int × Int) : List (Int × Int) := if out.getLast?.map (·.2) = some p.2 then out else out ++ [p]
def dd : Option Int → List (Int × Int) → List (Int × Int)
  | _, [] => []
  | a, p :: r => if a = some p.2 then dd a r else p :: dd (some p.2) r
theorem fold_dd : ∀ (q out : List (Int × Int)), q.foldl pF out = out ++ dd (out.getLast?.map (·.2)) q
  | [], out => by simp [dd]
  | p :: r, out => by
    rw [List.foldl_cons, fold_dd r, dd]
    unfold pF
    by_cases h : out.getLast?.map (·.2) = some p.2
    · rw [if_pos h, if_pos h]
    · rw [if_neg h, if_neg h, List.append_assoc]
      simp
def lastO (a : Option Int) (ys : List Int) : Option Int := match ys.getLast? with
  | some y => some y
  | none => a
theorem lastO_nil (a : Option Int) : lastO a [] = a := rfl
theorem lastO_cons (a : Option Int) (y : Int) (ys : List Int) : lastO a (y :: ys) = lastO (some y) ys := by
  cases ys with
  | nil => rfl
  | cons z zs => simp [lastO, List.getLast?_cons_cons, List.getLast?_cons]
theorem lastO_snoc (a : Option Int) (ys : List Int) (y : Int) : lastO a (ys ++ [y]) = some y := by simp [lastO]
theorem stL_app : ∀ (a b : List Int) (x : Nat) (p : Option Int), stL x p (a ++ b) = stL x p a ++ stL (x + a.length) (lastO p a) b
  | [], b, x, p => by simp [stL, lastO_nil]
  | y :: ys, b, x, p => by
    rw [List.cons_append, stL, stL, stL_app ys b, lastO_cons, show x + 1 + ys.length = x + (y :: ys).length by simp; omega]
    split <;> rfl
theorem dd_stL : ∀ (a : List Int) (x : Nat) (p : Option Int) (r : List (Int × Int)), dd p (stL x p a ++ r) = stL x p a ++ dd (lastO p a) r
  | [], x, p, r => by simp [stL, lastO_nil]
  | y :: ys, x, p, r => by
    rw [stL, lastO_cons]
    split
    · rename_i h
      rw [h, dd_stL ys]
    · rename_i h
      rw [List.cons_append, dd, if_neg h, dd_stL ys]; rfl
theorem stL_lt : ∀ (ys : List Int) (pos i : Nat) (p : Option Int), (stL pos p ys).filter (fun q => decide (q.1 < (pos : Int) + i)) = stL pos p (ys.take i)
  | [], pos, i, p => by simp [stL]
  | y :: ys, pos, 0, p => by
    rw [List.take_zero, stL]
    apply List.filter_eq_nil_iff.2
    intro q hq
    have := (stL_ge _ _ _ _ hq).1
    simp; omega
  | y :: ys, pos, i + 1, p => by
    have ih := stL_lt ys (pos + 1) i (some y)
    have e : (fun q : Int × Int => decide (q.1 < (pos : Int) + ((i + 1 : Nat) : Int))) = (fun q : Int × Int => decide (q.1 < ((pos + 1 : Nat) : Int) + (i : Int))) := by
      funext q; congr 1; apply propext; omega
    rw [List.take_succ_cons, stL, stL]
    split
    · rw [e]; exact ih
    · rw [List.filter_cons_of_pos (by simp; omega), e, ih]
theorem stL_gt : ∀ (ys : List Int) (pos i : Nat) (p : Option Int) (h : i < ys.length), (stL pos p ys).filter (fun q => decide ((pos : Int) + i < q.1)) = stL (pos + i + 1) (some ys[i]) (ys.drop (i + 1))
  | y :: ys, pos, 0, p, h => by
    have hall : (stL (pos + 1) (some y) ys).filter (fun q => decide ((pos : Int) + ((0 : Nat) : Int) < q.1)) = stL (pos + 1) (some y) ys := by
      apply List.filter_eq_self.2
      intro q hq
      have := (stL_ge _ _ _ _ hq).1
      simp; omega
    rw [stL]
    split
    · rw [hall]; rfl
    · rw [List.filter_cons_of_neg (by simp), hall]; rfl
  | y :: ys, pos, i + 1, p, h => by
    have ih := stL_gt ys (pos + 1) i (some y) (by simpa using h)
    have e : (fun q : Int × Int => decide ((pos : Int) + ((i + 1 : Nat) : Int) < q.1)) = (fun q : Int × Int => decide (((pos + 1 : Nat) : Int) + (i : Int) < q.1)) := by
      funext q; congr 1; apply propext; omega
    have e2 : pos + (i + 1) + 1 = pos + 1 + i + 1 := by omega
    rw [stL, e, e2]
    split
    · exact ih
    · rw [List.filter_cons_of_neg (by simp; omega)]; exact ih
theorem stL_rep : ∀ (m x : Nat) (v : Int) (r : List Int), stL x (some v) (List.replicate m v ++ r) = stL (x + m) (some v) r
  | 0, x, v, r => rfl
  | m + 1, x, v, r => by rw [List.replicate_succ, List.cons_append, stL, if_pos rfl, stL_rep m (x + 1) v r, show x + 1 + m = x + (m + 1) by omega]
def putN (l : List Int) (x m : Nat) (v : Int) : List Int := l.take x ++ (List.replicate m v ++ l.drop (x + m))
theorem putN_len (l : List Int) (x m : Nat) (v : Int) (h : x + m ≤ l.length) : (putN l x m v).length = l.length := by
  unfold putN; simp; omega
theorem putN_get (l : List Int) (x m : Nat) (v : Int) (h : x + m ≤ l.length) (i : Nat) (hi : i < l.length) : (putN l x m v).getD i 0 = if x ≤ i ∧ i < x + m then v else l.getD i 0 := by
  unfold putN
  rw [List.getD_eq_getElem?_getD, List.getD_eq_getElem?_getD, List.getElem?_append, List.getElem?_append]
  have h1 : (l.take x).length = x := by simp; omega
  have h2 : (List.replicate m v).length = m := by simp
  rw [h1, h2]
  by_cases a : i < x
  · rw [if_pos a, if_neg (by omega), List.getElem?_take_of_lt a]
  · rw [if_neg a]
    by_cases b : i - x < m
    · rw [if_pos b, if_pos (by omega), List.getElem?_replicate, if_pos b]; rfl
    · rw [if_neg b, if_neg (by omega), List.getElem?_drop, show x + m + (i - x - m) = i by omega]
theorem put_steps (l : List Int) (x m : Nat) (v : Int) (hm : 1 ≤ m) (h : x + m ≤ l.length) :
    (((stepsOf l).filter (fun q => decide (q.1 < (x : Int)))) ++ [((x : Int), v)] ++ (if x + m < l.length then [(((x + m : Nat) : Int), l.getD (x + m) 0)] else []) ++ (stepsOf l).filter (fun q => decide (((x + m : Nat) : Int) < q.1))).foldl pF [] = stepsOf (putN l x m v) := by
  rw [fold_dd]
  have e1 := stL_lt l 0 x none
  rw [show ((fun q : Int × Int => decide (q.1 < ((0 : Nat) : Int) + (x : Int)))) = (fun q => decide (q.1 < (x : Int))) from by funext q; congr 1; apply propext; omega] at e1
  show [] ++ dd none _ = _
  rw [List.nil_append, stepsOf, e1, List.append_assoc, List.append_assoc, dd_stL, stepsOf, putN, stL_app]
  congr 1
  have hx : (l.take x).length = x := by simp; omega
  rw [hx, Nat.zero_add]
  obtain ⟨m', rfl⟩ : ∃ m', m = m' + 1 := ⟨m - 1, by omega⟩
  rw [List.replicate_succ, show (v :: List.replicate m' v) ++ l.drop (x + (m' + 1)) = v :: (List.replicate m' v ++ l.drop (x + (m' + 1))) from rfl]
  conv => rhs; rw [stL, stL_rep]
  rw [List.singleton_append, dd]
  have key : ∀ a, a = some v → dd a ((if x + (m' + 1) < l.length then [(((x + (m' + 1) : Nat) : Int), l.getD (x + (m' + 1)) 0)] else []) ++ (stL 0 none l).filter (fun q => decide (((x + (m' + 1) : Nat) : Int) < q.1))) = stL (x + 1 + m') (some v) (l.drop (x + (m' + 1))) := by
    rintro a rfl
    by_cases hl : x + (m' + 1) < l.length
    · have e2 := stL_gt l 0 (x + (m' + 1)) none hl
      rw [show ((fun q : Int × Int => decide (((0 : Nat) : Int) + ((x + (m' + 1) : Nat) : Int) < q.1))) = (fun q => decide (((x + (m' + 1) : Nat) : Int) < q.1)) from by funext q; congr 1; apply propext; omega] at e2
      rw [if_pos hl, e2, List.singleton_append, dd, List.getD_eq_getElem?_getD, List.getElem?_eq_getElem hl]
      have hd : l.drop (x + (m' + 1)) = l[x + (m' + 1)] :: l.drop (x + (m' + 1) + 1) := List.drop_eq_getElem_cons hl
      have hself : ∀ (y : Int) (k : Nat) (r : List Int), dd (some y) (stL k (some y) r) = stL k (some y) r := fun y k r => by
        have := dd_stL r k (some y) []
        simpa [dd] using this
      rw [hd, Option.getD_some]
      conv => rhs; rw [stL]
      simp only [Nat.zero_add]
      rw [show x + 1 + m' = x + (m' + 1) by omega]
      split
      · rename_i hv
        injection hv with hv
        subst hv
        exact hself _ _ _
      · rw [hself]
    · have hn : (stL 0 none l).filter (fun q => decide (((x + (m' + 1) : Nat) : Int) < q.1)) = [] := by
        apply List.filter_eq_nil_iff.2
        intro q hq
        have := (stL_ge _ _ _ _ hq).2
        simp; omega
      rw [if_neg hl, hn, List.drop_eq_nil_of_le (by omega)]; rfl
  split
  · rename_i hp
    rw [key _ hp]
  · rw [key _ rfl]
theorem stL_snoc (a : List Int) (x : Nat) (p : Option Int) (y : Int) : stL x p (a ++ [y]) = stL x p a ++ (if lastO p a = some y then [] else [(((x + a.length : Nat) : Int), y)]) := by
  rw [stL_app, stL]
  split <;> rfl
theorem steps_last : ∀ (a : List Int) (x : Nat) (p : Option Int), lastO p a = match (stL x p a).getLast? with | some q => some q.2 | none => p
  | [], x, p => rfl
  | y :: ys, x, p => by
    rw [lastO_cons, steps_last ys (x + 1) (some y), stL]
    by_cases hp : p = some y
    · rw [if_pos hp, hp]
    · rw [if_neg hp]
      cases hq : (stL (x + 1) (some y) ys).getLast? with
      | none =>
        rw [List.getLast?_eq_none_iff] at hq
        rw [hq]; rfl
      | some q => rw [List.getLast?_cons, hq]; rfl
end Go.Proofs.Ytaccppchhljnkaa
