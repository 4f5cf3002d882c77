/- PathLines: what the pieces of a contour are whose points are all on the line. -/
import Derived.Test.YtjealbaomhjoaaaSegs
set_option linter.unusedVariables false
set_option linter.unusedSimpArgs false
namespace Go.Proofs.Ytjealbaomhjoaaa
open Go.RowKit Go.Proofs.Ytjealbaomhjoaaa.G Go.Proofs.YtjealbaomhjoaaaW.PrintWords
theorem st_lines (bg : S36) : ∀ (vs : List S34) (v0 : S34) (out : List S38), (∀ v ∈ vs, v.f2 = true) →
    ∃ tl : List S38, finS bg (stS (at2 v0) out none vs) = out ++ tl ∧ tl.length = vs.length + 1 ∧ ∀ k, k < vs.length + 1 → ∃ C, tl.getD k z38 = ⟨at2 ((v0 :: vs).getD k z34), at2 ((v0 :: vs).getD k z34), C, false⟩
  | [], v0, out, _ => ⟨[⟨at2 v0, at2 v0, bg, false⟩], rfl, rfl, fun k hk => by
      have : k = 0 := by simpa using hk
      subst this; exact ⟨bg, rfl⟩⟩
  | v :: vs, v0, out, h => by
    obtain ⟨tl, h1, h2, h3⟩ := st_lines bg vs v (out ++ [segE (at2 v0) none (at2 v)]) (fun x hx => h x (List.mem_cons_of_mem _ hx))
    refine ⟨⟨at2 v0, at2 v0, at2 v, false⟩ :: tl, ?_, by simp [h2], fun k hk => ?_⟩
    · rw [stS_on _ _ _ _ _ (h v (by simp)), h1, List.append_assoc]; rfl
    · match k with
      | 0 => exact ⟨at2 v, rfl⟩
      | k + 1 =>
        obtain ⟨C, hC⟩ := h3 k (by simp at hk; omega)
        exact ⟨C, by simpa using hC⟩
theorem cyc_drop (c : List S34) : ∀ (d i : Nat), i + d = c.length → cyc c i d = c.drop i
  | 0, i, h => by rw [cyc, List.drop_eq_nil_of_le (by omega)]
  | d + 1, i, h => by
    have hi : i < c.length := by omega
    rw [cyc, cyc_drop c d (i + 1) (by omega), Nat.mod_eq_of_lt hi, List.drop_eq_getElem_cons hi, List.getD_eq_getElem?_getD, List.getElem?_eq_getElem hi]; rfl
theorem seg_lines (c : List S34) (h : ∀ v ∈ c, v.f2 = true) : (segF c).length = c.length ∧ ∀ k, k < c.length → ∃ C, (segF c).getD k z38 = ⟨at2 (c.getD k z34), at2 (c.getD k z34), C, false⟩ := by
  cases c with
  | nil => exact ⟨rfl, fun k hk => absurd hk (by simp)⟩
  | cons v0 vs =>
    have hv := h v0 (by simp)
    have hf : fiOn (v0 :: vs) = 0 := by unfold fiOn; rw [List.findIdx_cons]; simp [hv]
    obtain ⟨tl, h1, h2, h3⟩ := st_lines (at2 v0) vs v0 [] (fun x hx => h x (List.mem_cons_of_mem _ hx))
    have hs : segF (v0 :: vs) = tl := by
      unfold segF
      rw [if_neg (by simp), hf, if_pos (by simp), show (v0 :: vs).getD 0 z34 = v0 from rfl, cyc_drop (v0 :: vs) _ (0 + 1) (by simp; omega)]
      exact h1
    rw [hs]
    exact ⟨by simpa using h2, fun k hk => h3 k (by simpa using hk)⟩
end Go.Proofs.Ytjealbaomhjoaaa
