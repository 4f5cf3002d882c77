/- What Fit gives: plain laws. -/
import Derived.Test.YtaccppchhljnkaaSkyPut
import Derived.Test.YtaccppchhljnkaaSkyReb
set_option linter.unusedVariables false
set_option linter.unusedSimpArgs false
namespace Go.Proofs.Ytaccppchhljnkaa
theorem mx_ge (x m : Int) : ∀ (ys : List Int) (pos i : Nat) (out : Int), i < ys.length → x ≤ pos + i → ((pos : Int) + i) < x + m → ys.getD i 0 ≤ mxF x m pos out ys
  | [], _, i, _, h, _, _ => by simp at h
  | y :: ys, pos, 0, out, h, h1, h2 => by
    rw [mxF, if_pos ⟨by omega, by omega⟩]
    have hb := mx_out x m ys (pos + 1) (max out y)
    show y ≤ _
    omega
  | y :: ys, pos, i + 1, out, h, h1, h2 => by
    rw [mxF]
    exact mx_ge x m ys (pos + 1) i _ (by simpa using h) (by omega) (by omega)
where
  mx_out (x m : Int) : ∀ (ys : List Int) (pos : Nat) (out : Int), out ≤ mxF x m pos out ys
    | [], _, out => Int.le_refl _
    | y :: ys, pos, out => by
      rw [mxF]
      have := mx_out x m ys (pos + 1) (if x ≤ (pos : Int) ∧ (pos : Int) < x + m then max out y else out)
      refine Int.le_trans ?_ this
      split <;> omega
theorem mx_le (x m : Int) (B : Int) : ∀ (ys : List Int) (pos : Nat) (out : Int), out ≤ B → (∀ i, i < ys.length → x ≤ (pos : Int) + i → ((pos : Int) + i) < x + m → ys.getD i 0 ≤ B) → mxF x m pos out ys ≤ B
  | [], _, out, h, _ => h
  | y :: ys, pos, out, h, hi => by
    rw [mxF]
    refine mx_le x m B ys (pos + 1) _ ?_ (fun i hl h1 h2 => ?_)
    · split
      · rename_i hc
        have := hi 0 (by simp) (by omega) (by omega)
        have e : (y :: ys).getD 0 0 = y := rfl
        omega
      · exact h
    · have := hi (i + 1) (by simpa using hl) (by omega) (by omega)
      simpa using this
theorem fitF_some (W H m n : Int) (ov : Int → Int) : ∀ (st : List (Int × Int)) (best : Option (Int × Int)) (b : Int × Int), fitF W H m n ov best st = some b → best = some b ∨ ∃ p ∈ st, b = (p.1, ov p.1) ∧ p.1 + m ≤ W ∧ ov p.1 + n ≤ H
  | [], best, b, h => .inl h
  | p :: r, best, b, h => by
    rw [fitF] at h
    rcases fitF_some W H m n ov r _ b h with h | ⟨q, hq, h⟩
    · by_cases hc : p.1 + m ≤ W ∧ ov p.1 + n ≤ H ∧ ∀ b, best = some b → ov p.1 < b.2
      · rw [if_pos hc] at h
        injection h with h
        exact .inr ⟨p, by simp, h.symm, hc.1, hc.2.1⟩
      · rw [if_neg hc] at h
        exact .inl h
    · exact .inr ⟨q, List.mem_cons_of_mem _ hq, h⟩
/-- What Fit finds lies in the page, and on the greatest height below it. -/
theorem fit_facts {w h : Nat} {l : List Int} {m n : Int} {b : Int × Int} (hf : fitQ w h l m n = some b) :
    1 ≤ m ∧ 1 ≤ n ∧ m ≤ w ∧ n ≤ h ∧ 0 ≤ b.1 ∧ b.1 + m ≤ w ∧ b.2 = mxF b.1 m 0 0 l ∧ b.2 + n ≤ h := by
  unfold fitQ at hf
  by_cases hc : m < 1 ∨ n < 1 ∨ (w : Int) < m ∨ (h : Int) < n
  · rw [if_pos hc] at hf; cases hf
  · rw [if_neg hc] at hf
    rcases fitF_some _ _ _ _ _ _ _ _ hf with h | ⟨p, hp, rfl, h1, h2⟩
    · cases h
    · have := (stL_ge _ _ _ _ hp).1
      exact ⟨by omega, by omega, by omega, by omega, by omega, h1, rfl, h2⟩
theorem fit_putOk {w h : Nat} {l : List Int} {m n : Int} {b : Int × Int} (hf : fitQ w h l m n = some b) : PutOk w h l b.1 b.2 m n := by
  obtain ⟨h1, h2, h3, h4, h5, h6, h7, h8⟩ := fit_facts hf
  exact ⟨h1, h2, h5, h3, by omega, h4, by omega, by omega⟩
theorem fit_over {w h : Nat} {l : List Int} {m n : Int} {b : Int × Int} (hf : fitQ w h l m n = some b) (hl : l.length = w) (i : Nat) (h1 : b.1 ≤ i) (h2 : (i : Int) < b.1 + m) : l.getD i 0 ≤ b.2 := by
  obtain ⟨_, _, _, _, _, h6, h7, _⟩ := fit_facts hf
  rw [h7]
  have := mx_ge b.1 m l 0 i 0 (by omega) (by simpa using h1) (by simpa using h2)
  exact this
/-- Rectangles that lie below a skyline. -/
def Under (w h : Nat) (l : List Int) (rs : List Rc) : Prop :=
  ∀ q ∈ rs, 0 ≤ q.1 ∧ 1 ≤ q.2.2.1 ∧ q.1 + q.2.2.1 ≤ w ∧ 0 ≤ q.2.1 ∧ 1 ≤ q.2.2.2 ∧ q.2.1 + q.2.2.2 ≤ h ∧ ∀ i : Nat, q.1 ≤ i → (i : Int) < q.1 + q.2.2.1 → q.2.1 + q.2.2.2 ≤ l.getD i 0
theorem Under.put {w h : Nat} {l : List Int} {rs : List Rc} (hu : Under w h l rs) {X Y M N : Int} (hl : l.length = w) (hX : 0 ≤ X) (hM : 1 ≤ M) (hXM : X + M ≤ w) (hY0 : 0 ≤ Y) (hN : 1 ≤ N) (hYN : Y + N ≤ h) (hY : ∀ i : Nat, X ≤ i → (i : Int) < X + M → l.getD i 0 ≤ Y) :
    Under w h (putN l X.toNat M.toNat (Y + N)) (rs ++ [(X, Y, M, N)]) := by
  have hg : ∀ i, i < l.length → (putN l X.toNat M.toNat (Y + N)).getD i 0 = if X.toNat ≤ i ∧ i < X.toNat + M.toNat then Y + N else l.getD i 0 := fun i hi => putN_get l _ _ _ (by omega) i hi
  intro q hq
  rcases List.mem_append.1 hq with hq | hq
  · obtain ⟨h1, h2, h3, h4, h5, h6, h7⟩ := hu q hq
    refine ⟨h1, h2, h3, h4, h5, h6, fun i hi1 hi2 => ?_⟩
    have := h7 i hi1 hi2
    rw [hg i (by omega)]
    split
    · have := hY i (by omega) (by omega); omega
    · exact this
  · simp only [List.mem_singleton] at hq
    subst hq
    refine ⟨hX, hM, hXM, hY0, hN, hYN, fun i hi1 hi2 => ?_⟩
    have hi1 : X ≤ i := hi1
    have hi2 : (i : Int) < X + M := hi2
    rw [hg i (by omega), if_pos ⟨by omega, by omega⟩]
    exact Int.le_refl _
/-- A rectangle that stands on a skyline meets none below it. -/
theorem Under.apart {w h : Nat} {l : List Int} {rs : List Rc} (hu : Under w h l rs) {X Y M : Int} (hY : ∀ i : Nat, X ≤ i → (i : Int) < X + M → l.getD i 0 ≤ Y) (hX : 0 ≤ X) (hM : 1 ≤ M) {q : Rc} (hq : q ∈ rs) (h1 : X < q.1 + q.2.2.1) (h2 : q.1 < X + M) : ¬ Y < q.2.1 + q.2.2.2 := by
  obtain ⟨g1, g2, g3, g4, g5, g6, g7⟩ := hu q hq
  obtain ⟨i, hi⟩ : ∃ i : Nat, (i : Int) = max X q.1 := ⟨(max X q.1).toNat, by omega⟩
  by_cases hc : (i : Int) < X + M ∧ (i : Int) < q.1 + q.2.2.1
  · have a := g7 i (by omega) hc.2
    have b := hY i (by omega) hc.1
    omega
  · omega
/-- The skyline over what was laid where it fits. -/
theorem rb_app (h x : Int) : ∀ (rs : List Rc) (y : Int) (r : Rc), rbF h x y (rs ++ [r]) = rbF h x (rbF h x y rs) [r]
  | [], y, r => rfl
  | q :: rs, y, r => rb_app h x rs (if q.1 ≤ x ∧ x - q.1 < q.2.2.1 then max y (min h (q.2.1 + q.2.2.2)) else y) r
theorem rb_put {w h : Nat} {l : List Int} {rs : List Rc} {m n : Int} {b : Int × Int} (hf : fitQ w h l m n = some b) (hl : l.length = w) (hr : rbL w h rs = l) : rbL w h (rs ++ [(b.1, b.2, m, n)]) = putN l b.1.toNat m.toNat (b.2 + n) := by
  obtain ⟨h1, h2, h3, h4, h5, h6, h7, h8⟩ := fit_facts hf
  have hlen : (rbL w h (rs ++ [(b.1, b.2, m, n)])).length = w := by simp [rbL]
  have hget : ∀ (ss : List Rc) i, i < w → (rbL w h ss).getD i 0 = rbF h i 0 ss := fun ss i hi => by
    have hlw : i < (rbL w h ss).length := by simp [rbL]; exact hi
    rw [List.getD_eq_getElem?_getD, List.getElem?_eq_getElem hlw]
    simp [rbL]
  apply List.ext_getElem (by rw [hlen, putN_len _ _ _ _ (by omega), hl])
  intro i hi1 hi2
  have hi : i < w := by rw [hlen] at hi1; exact hi1
  have e1 : (rbL w h (rs ++ [(b.1, b.2, m, n)]))[i] = (rbL w h (rs ++ [(b.1, b.2, m, n)])).getD i 0 := by rw [List.getD_eq_getElem?_getD, List.getElem?_eq_getElem hi1]; rfl
  have e2 : (putN l b.1.toNat m.toNat (b.2 + n))[i] = (putN l b.1.toNat m.toNat (b.2 + n)).getD i 0 := by rw [List.getD_eq_getElem?_getD, List.getElem?_eq_getElem hi2]; rfl
  rw [e1, e2, hget _ i hi, rb_app, ← hget rs i hi, hr, putN_get l _ _ _ (by omega) i (by omega)]
  show (if b.1 ≤ (i : Int) ∧ (i : Int) - b.1 < m then max (l.getD i 0) (min (h : Int) (b.2 + n)) else l.getD i 0) = _
  by_cases hc : b.1.toNat ≤ i ∧ i < b.1.toNat + m.toNat
  · rw [if_pos hc, if_pos ⟨by omega, by omega⟩]
    have := fit_over hf hl i (by omega) (by omega)
    omega
  · rw [if_neg hc, if_neg (by omega)]
end Go.Proofs.Ytaccppchhljnkaa
