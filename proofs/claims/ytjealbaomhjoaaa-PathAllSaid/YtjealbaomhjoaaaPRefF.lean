/- The reference's pieces: the plain law, joined. -/
import Derived.Test.YtjealbaomhjoaaaPRefP
set_option linter.unusedVariables false
set_option linter.unusedSimpArgs false
namespace Go.Proofs.Ytjealbaomhjoaaa
open Go.RowKit Go.Proofs.Ytjealbaomhjoaaa.G Go.Proofs.YtjealbaomhjoaaaW.PrintWords
/-- The points that 'full' makes of c's points from number i on, d of them. -/
def allL (c : List S34) : Nat → Nat → List S34
  | _, 0 => []
  | i, d + 1 => exV (c.getD (i % c.length) z34) (c.getD ((i + 1) % c.length) z34) ++ allL c (i + 1) d
def firstF (c : List S34) : Nat := if fiOn c < c.length then (allL c 0 (fiOn c)).length else (allL c 0 c.length).length - 1
def fullF (c : List S34) : List S34 := (allL c 0 c.length).drop (firstF c) ++ (allL c 0 c.length).take (firstF c)
def refF (c : List S34) : List S38 := match fullF c with
  | [] => []
  | x :: r => cutL (pt x) (r ++ [x])
theorem allL_add (c : List S34) : ∀ (d i e : Nat), allL c i (d + e) = allL c i d ++ allL c (i + d) e
  | 0, i, e => by simp [allL]
  | d + 1, i, e => by
    rw [show d + 1 + e = (d + e) + 1 by omega, allL, allL, allL_add c d (i + 1) e, List.append_assoc, show i + 1 + d = i + (d + 1) by omega]
theorem allL_mod (c : List S34) : ∀ (d i : Nat), allL c (i + c.length) d = allL c i d
  | 0, i => rfl
  | d + 1, i => by
    rw [allL, allL, show i + c.length + 1 = (i + 1) + c.length by omega, allL_mod c d (i + 1), Nat.add_mod_right, Nat.add_mod_right]
theorem allL_ex (c : List S34) : ∀ (d i : Nat) (z : S34), z = c.getD ((i + d) % c.length) z34 → allL c i d = exL (cyc c i d) z
  | 0, i, z, h => rfl
  | 1, i, z, h => by simp only [allL, cyc, exL, List.append_nil]; rw [h]
  | d + 2, i, z, h => by
    rw [allL, allL_ex c (d + 1) (i + 1) z (by rw [h, show i + 1 + (d + 1) = i + (d + 2) by omega])]
    rfl
theorem exL_on (v z : S34) (hv : v.f2 = true) (r : List S34) : exL (v :: r) z = dbl v :: exL r z := by
  cases r with
  | nil => simp [exL, exV, hv]
  | cons w r => simp [exL, exV, hv]
theorem exL_last (z z' : S34) (hz : z.f2 = true) (hz' : z'.f2 = false) : ∀ (vs : List S34) (v : S34), (∀ u ∈ v :: vs, u.f2 = false) → exL (v :: vs) z' = exL (v :: vs) z ++ [mid ((v :: vs).getLast (by simp)) z']
  | [], v, h => by
    have hv := h v (by simp)
    simp [exL, exV, hv, hz, hz']
  | w :: vs, v, h => by
    rw [exL, exL, exL_last z z' hz hz' vs w (fun u hu => h u (List.mem_cons_of_mem _ hu)), List.append_assoc]
    rfl
theorem ref_seg (c : List S34) (hc : c ≠ []) : refF c = segF c := by
  have hl : 0 < c.length := List.length_pos_iff.2 hc
  unfold segF
  rw [if_neg hc]
  by_cases hf : fiOn c < c.length
  · rw [if_pos hf]
    have hon := fi_on c hf
    have hall : allL c 0 c.length = allL c 0 (fiOn c) ++ allL c (fiOn c) (c.length - fiOn c) := by
      have := allL_add c (fiOn c) 0 (c.length - fiOn c)
      rw [Nat.zero_add, show fiOn c + (c.length - fiOn c) = c.length by omega] at this
      exact this
    have hfull : fullF c = allL c (fiOn c) c.length := by
      unfold fullF firstF
      rw [if_pos hf, hall, List.drop_left, List.take_left]
      have h1 := allL_add c (c.length - fiOn c) (fiOn c) (fiOn c)
      rw [show c.length - fiOn c + fiOn c = c.length by omega, show fiOn c + (c.length - fiOn c) = 0 + c.length by omega, allL_mod] at h1
      exact h1.symm
    have hex : allL c (fiOn c) c.length = dbl (c.getD (fiOn c) z34) :: exL (cyc c (fiOn c + 1) (c.length - 1)) (c.getD (fiOn c) z34) := by
      rw [allL_ex c c.length (fiOn c) (c.getD (fiOn c) z34) (by rw [Nat.add_mod_right, Nat.mod_eq_of_lt hf])]
      obtain ⟨m, hm⟩ : ∃ m, c.length = m + 1 := ⟨c.length - 1, by omega⟩
      rw [hm, cyc, Nat.add_sub_cancel, Nat.mod_eq_of_lt hf]
      exact exL_on _ _ hon _
    unfold refF
    rw [hfull, hex]
    have := st_cut (c.getD (fiOn c) z34) (dbl (c.getD (fiOn c) z34)) hon hon (cyc c (fiOn c + 1) (c.length - 1)) (at2 (c.getD (fiOn c) z34)) [] none (fun _ h => by cases h)
    rw [List.nil_append] at this
    exact this.symm
  · rw [if_neg hf]
    have hfi : fiOn c = c.length := by have := fi_le c; omega
    have hoff : ∀ u ∈ c, u.f2 = false := by
      intro u hu
      obtain ⟨j, hj, rfl⟩ := List.getElem_of_mem hu
      have := fi_off c j (by omega)
      rw [List.getD_eq_getElem?_getD, List.getElem?_eq_getElem hj] at this
      exact this
    have hcy : cyc c 0 c.length = c := by rw [cyc_drop c c.length 0 (by omega)]; rfl
    have hcy2 : cyc c c.length c.length = c := by
      have h : ∀ d i : Nat, cyc c (i + c.length) d = cyc c i d := by
        intro d
        induction d with
        | zero => intro i; rfl
        | succ d ih => intro i; rw [cyc, cyc, show i + c.length + 1 = (i + 1) + c.length by omega, ih, Nat.add_mod_right]
      have := h c.length 0
      rw [Nat.zero_add] at this
      rw [this, hcy]
    have hall : allL c 0 c.length = exL c (c.getD 0 z34) := by
      rw [allL_ex c c.length 0 (c.getD 0 z34) (by rw [Nat.zero_add, Nat.mod_self]), hcy]
    have h0 : (c.getD 0 z34).f2 = false := fi_off c 0 (by omega)
    have hlast : c.getLast hc = c.getD (c.length - 1) z34 := by
      rw [List.getLast_eq_getElem, List.getD_eq_getElem?_getD, List.getElem?_eq_getElem (by omega)]; rfl
    have hsp : allL c 0 c.length = exL c ⟨0, 0, true⟩ ++ [mid (c.getD (c.length - 1) z34) (c.getD 0 z34)] := by
      rw [hall, ← hlast]
      generalize c.getD 0 z34 = z' at h0
      cases c with
      | nil => exact absurd rfl hc
      | cons v vs => exact exL_last ⟨0, 0, true⟩ z' rfl h0 vs v hoff
    have hfull : fullF c = mid (c.getD (c.length - 1) z34) (c.getD 0 z34) :: exL c ⟨0, 0, true⟩ := by
      unfold fullF firstF
      rw [if_neg hf, hsp, List.length_append, List.length_singleton, Nat.add_sub_cancel, List.drop_left, List.take_left]; rfl
    unfold refF
    rw [hfull, hcy2]
    have := st_cut ⟨0, 0, true⟩ (mid (c.getD (c.length - 1) z34) (c.getD 0 z34)) rfl rfl c (half2 (c.getD (c.length - 1) z34) (c.getD 0 z34)) [] none (fun _ h => by cases h)
    rw [List.nil_append] at this
    exact this.symm
end Go.Proofs.Ytjealbaomhjoaaa
