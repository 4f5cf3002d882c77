/- Fit stands as low as may be: plain laws. -/
import Derived.Test.YtaccppchhljnkaaSkyQ
set_option linter.unusedVariables false
set_option linter.unusedSimpArgs false
namespace Go.Proofs.Ytaccppchhljnkaa
theorem fitF_le (W H m n : Int) (ov : Int → Int) : ∀ (st : List (Int × Int)) (b0 : Int × Int), ∃ b, fitF W H m n ov (some b0) st = some b ∧ b.2 ≤ b0.2
  | [], b0 => ⟨b0, rfl, Int.le_refl _⟩
  | p :: r, b0 => by
    rw [fitF]
    split
    · rename_i hc
      obtain ⟨b, h1, h2⟩ := fitF_le W H m n ov r (p.1, ov p.1)
      have := hc.2.2 b0 rfl
      exact ⟨b, h1, by have h2 : b.2 ≤ ov p.1 := h2; omega⟩
    · exact fitF_le W H m n ov r b0
theorem fitF_min (W H m n : Int) (ov : Int → Int) : ∀ (st : List (Int × Int)) (best : Option (Int × Int)) (p : Int × Int), p ∈ st → p.1 + m ≤ W → ov p.1 + n ≤ H → ∃ b, fitF W H m n ov best st = some b ∧ b.2 ≤ ov p.1
  | q :: r, best, p, hp, h1, h2 => by
    rw [fitF]
    rcases List.mem_cons.1 hp with rfl | hp
    · by_cases hc : p.1 + m ≤ W ∧ ov p.1 + n ≤ H ∧ ∀ b, best = some b → ov p.1 < b.2
      · rw [if_pos hc]
        exact fitF_le W H m n ov r (p.1, ov p.1)
      · rw [if_neg hc]
        cases best with
        | none => exact absurd ⟨h1, h2, fun b e => by cases e⟩ hc
        | some b0 =>
          have hb : b0.2 ≤ ov p.1 := by
            rcases Int.lt_or_le (ov p.1) b0.2 with h | h
            · exact absurd ⟨h1, h2, fun b e => by injection e with e; subst e; exact h⟩ hc
            · exact h
          obtain ⟨b, g1, g2⟩ := fitF_le W H m n ov r b0
          exact ⟨b, g1, by omega⟩
    · exact fitF_min W H m n ov r _ p hp h1 h2
theorem st_cover : ∀ (ys : List Int) (pos : Nat) (prev : Option Int) (i : Nat), i < ys.length →
    (∃ v, prev = some v ∧ ∀ j, j ≤ i → ys.getD j 0 = v) ∨ ∃ p ∈ stL pos prev ys, p.1 ≤ (pos : Int) + i ∧ (pos : Int) ≤ p.1 ∧ ∀ j : Nat, p.1 ≤ (pos : Int) + j → j ≤ i → ys.getD j 0 = ys.getD i 0
  | [], _, _, i, h => by simp at h
  | y :: ys, pos, prev, 0, h => by
    by_cases hp : prev = some y
    · exact .inl ⟨y, hp, fun j hj => by obtain rfl : j = 0 := (by omega); rfl⟩
    · refine .inr ⟨((pos : Int), y), ?_, by simp, by simp, fun j _ hj => by obtain rfl : j = 0 := (by omega); rfl⟩
      rw [stL, if_neg hp]; simp
  | y :: ys, pos, prev, i + 1, h => by
    rcases st_cover ys (pos + 1) (some y) i (by simpa using h) with ⟨v, hv, hall⟩ | ⟨p, hp, h1, h2, h3⟩
    · injection hv with hv
      subst hv
      have hall' : ∀ j, j ≤ i + 1 → (y :: ys).getD j 0 = y := by
        intro j hj
        cases j with
        | zero => rfl
        | succ j => simpa using hall j (by omega)
      by_cases hp : prev = some y
      · exact .inl ⟨y, hp, hall'⟩
      · refine .inr ⟨((pos : Int), y), ?_, by show (pos : Int) ≤ _; omega, by simp, fun j _ hj => by rw [hall' j hj, hall' (i + 1) (Nat.le_refl _)]⟩
        rw [stL, if_neg hp]; simp
    · refine .inr ⟨p, ?_, by omega, by omega, fun j hj1 hj2 => ?_⟩
      · rw [stL]
        split
        · exact hp
        · exact List.mem_cons_of_mem _ hp
      · cases j with
        | zero => omega
        | succ j =>
          have := h3 j (by omega) (by omega)
          simpa using this
theorem fit_low {a b : Nat} {hs : List Int} (hl : hs.length = a) (hy : ∀ y ∈ hs, 0 ≤ y ∧ y ≤ (b : Int)) (x n : Int) (hx : 0 ≤ x) (hn : 1 ≤ n) (hxn : x + n ≤ a) (hlt : mxF x n 0 0 hs < b) : ∃ f, fitQ a b hs n 1 = some f ∧ f.2 ≤ mxF x n 0 0 hs := by
  obtain ⟨i, rfl⟩ := Int.eq_ofNat_of_zero_le hx
  have hm0 : 0 ≤ mxF i n 0 0 hs := (mx_bound i n b hs 0 0 (fun y h => (hy y h).2) (by omega)).1
  rcases st_cover hs 0 none i (by omega) with ⟨v, hv, _⟩ | ⟨p, hp, h1, h2, h3⟩
  · cases hv
  · have hle : mxF p.1 n 0 0 hs ≤ mxF i n 0 0 hs := by
      refine mx_le p.1 n _ hs 0 0 hm0 (fun j hj h4 h5 => ?_)
      by_cases hji : i ≤ j
      · exact mx_ge i n hs 0 j 0 hj (by omega) (by omega)
      · rw [h3 j (by omega) (by omega)]
        exact mx_ge i n hs 0 i 0 (by omega) (by omega) (by omega)
    unfold fitQ
    rw [if_neg (by omega)]
    obtain ⟨f, g1, g2⟩ := fitF_min a b n 1 (fun x => mxF x n 0 0 hs) (stepsOf hs) none p hp (by omega) (by show mxF p.1 n 0 0 hs + 1 ≤ _; omega)
    exact ⟨f, g1, by have g2 : f.2 ≤ mxF p.1 n 0 0 hs := g2; omega⟩
end Go.Proofs.Ytaccppchhljnkaa
