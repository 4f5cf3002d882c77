/- What layer 4's functions compute, in plain Lean: are outlines the same? -/
import Derived.Test.YtjealbaomhjoaaaG7
import Derived.Test.YtjealbaomhjoaaaG8
import Derived.Test.YtjealbaomhjoaaaGlP
set_option linter.unusedVariables false
set_option linter.unusedSimpArgs false
namespace Go.Proofs.Ytjealbaomhjoaaa
open Go.RowKit Go.Proofs.Ytjealbaomhjoaaa.G Go.Proofs.YtjealbaomhjoaaaW.PrintWords Go.Proofs.YtjealbaomhjoaaaW.PrintMore

def eqV (u v : S34) : Bool := (u.f0 == v.f0) && ((u.f1 == v.f1) && (u.f2 == v.f2))
def eqC : List S34 → List S34 → Bool
  | [], [] => true
  | u :: us, v :: vs => eqV u v && eqC us vs
  | _, _ => false
def eqO : List (List S34) → List (List S34) → Bool
  | [], [] => true
  | a :: xs, b :: bs => eqC a b && eqO xs bs
  | _, _ => false
theorem eqV_iff (u v : S34) : eqV u v = true ↔ u = v := by
  cases u; cases v
  simp [eqV]
theorem eqC_iff : ∀ (a b : List S34), eqC a b = true ↔ a = b
  | [], [] => by simp [eqC]
  | [], b :: bs => by simp [eqC]
  | a :: xs, [] => by simp [eqC]
  | a :: xs, b :: bs => by rw [eqC, Bool.and_eq_true, eqV_iff, eqC_iff xs bs]; simp
theorem eqO_iff : ∀ (a b : List (List S34)), eqO a b = true ↔ a = b
  | [], [] => by simp [eqO]
  | [], b :: bs => by simp [eqO]
  | a :: xs, [] => by simp [eqO]
  | a :: xs, b :: bs => by rw [eqO, Bool.and_eq_true, eqC_iff, eqO_iff xs bs]; simp
theorem eqC_len : ∀ (a b : List S34), a.length ≠ b.length → eqC a b = false := by
  intro a b h
  cases he : eqC a b with
  | false => rfl
  | true => rw [eqC_iff] at he; exact absurd (by rw [he]) h
theorem eqO_len : ∀ (a b : List (List S34)), a.length ≠ b.length → eqO a b = false := by
  intro a b h
  cases he : eqO a b with
  | false => rfl
  | true => rw [eqO_iff] at he; exact absurd (by rw [he]) h
/-- Outlines that are not too great. -/
def Small (a : List (List S34)) : Prop := a.length ≤ 1000 ∧ ∀ c ∈ a, c.length ≤ 1000
theorem Good.small {a : List (List S34)} (h : Good a) : Small a := by
  refine ⟨by have := h.eight; omega, fun c hc => ?_⟩
  have := (List.sublist_flatten_of_mem hc).length_le
  have := h.sum; omega

section
theorem sm_l1 (a b : List (List S34)) (ha : Small a) (hab : a.length = b.length) (i : Nat) (hi : i < a.length) (hlen : a[i].length = (b[i]'(by omega)).length) (K : Nat) (R : Bool)
    (H : ∀ k, K ≤ k → glyf_Same.l0 k a a.length ((i + 1 : Nat) : Int) b = some R) :
    ∀ (d j : Nat), a[i].length = j + d → ∀ k, K + d + 1 ≤ k → glyf_Same.l1 k (i : Int) a a.length (i : Int) a[i] a[i].length (j : Int) b = some (eqC (a[i].drop j) ((b[i]'(by omega)).drop j) && R) := by
  have h1000 := ha.2 a[i] (List.getElem_mem hi)
  have ha1 := ha.1
  have hi2 : i < b.length := by omega
  intro d
  induction d with
  | zero =>
    intro j hj k hk
    obtain ⟨k, rfl⟩ : ∃ m, k = m + 1 := ⟨k - 1, by omega⟩
    rw [glyf_Same.l1, if_neg (by omega), wrap64_small _ (by omega) (by omega), List.drop_eq_nil_of_le (by omega), List.drop_eq_nil_of_le (by omega)]
    simpa [eqC] using H k (by omega)
  | succ d ih =>
    intro j hj k hk
    obtain ⟨k, rfl⟩ : ∃ m, k = m + 1 := ⟨k - 1, by omega⟩
    have hjl : j < a[i].length := by omega
    have hjl2 : j < (b[i]'(by omega)).length := by omega
    rw [glyf_Same.l1, if_pos (by omega), if_pos (by omega), if_pos (by omega), if_pos (by omega), if_pos (by omega), rdL_at b i (by omega), if_pos (by omega), rdT_at a[i] j hjl, rdT_at _ j hjl2, wrap64_small _ (by omega) (by omega),
      List.drop_eq_getElem_cons hjl, List.drop_eq_getElem_cons hjl2, eqC]
    have hk2 := ih (j + 1) (by omega) k (by omega)
    cases he : eqV a[i][j] (b[i]'(by omega))[j] with
    | true =>
      rw [if_neg]
      · simpa using hk2
      · simp [eqV] at he; simp [he]
    | false =>
      rw [if_pos]
      · simp
      · cases e0 : (a[i][j].f0 == (b[i]'(by omega))[j].f0) <;> cases e1 : (a[i][j].f1 == (b[i]'(by omega))[j].f1) <;> cases e2 : (a[i][j].f2 == (b[i]'(by omega))[j].f2) <;> simp_all [eqV]
theorem sm_l0 (a b : List (List S34)) (ha : Small a) (hab : a.length = b.length) : ∀ (d i : Nat), a.length = i + d → ∃ K, ∀ k, K ≤ k → glyf_Same.l0 k a a.length (i : Int) b = some (eqO (a.drop i) (b.drop i)) := by
  have ha1 := ha.1
  intro d
  induction d with
  | zero =>
    intro i hi
    refine ⟨1, fun k hk => ?_⟩
    obtain ⟨k, rfl⟩ : ∃ m, k = m + 1 := ⟨k - 1, by omega⟩
    rw [glyf_Same.l0, if_neg (by omega), List.drop_eq_nil_of_le (by omega), List.drop_eq_nil_of_le (by omega)]
    rfl
  | succ d ih =>
    intro i hi
    have hlt : i < a.length := by omega
    have hlt2 : i < b.length := by omega
    obtain ⟨K, hK⟩ := ih (i + 1) (by omega)
    refine ⟨K + a[i].length + 2, fun k hk => ?_⟩
    obtain ⟨k, rfl⟩ : ∃ m, k = m + 1 := ⟨k - 1, by omega⟩
    rw [glyf_Same.l0, if_pos (by omega), if_pos (by omega), if_pos (by omega), if_pos (by omega), rdL_at a i hlt, rdL_at b i hlt2, List.drop_eq_getElem_cons hlt, List.drop_eq_getElem_cons hlt2, eqO]
    by_cases hl : a[i].length = b[i].length
    · rw [if_pos (by omega)]
      have := sm_l1 a b ha hab i hlt hl K _ hK a[i].length 0 (by omega) k (by omega)
      simpa using this
    · rw [if_neg (by omega), eqC_len _ _ hl]; rfl
theorem same_f (a b : List (List S34)) (ha : Small a) : ∃ K, ∀ k, K ≤ k → glyf_Same.f k a b = some (eqO a b) := by
  by_cases h : a.length = b.length
  · obtain ⟨K, hK⟩ := sm_l0 a b ha h a.length 0 (by omega)
    exact ⟨K, fun k hk => by unfold glyf_Same.f; rw [if_pos (by omega)]; simpa using hK k hk⟩
  · exact ⟨0, fun k hk => by unfold glyf_Same.f; rw [if_neg (by omega), eqO_len _ _ h]⟩
end
section
theorem rs_l1 (a b : List (List S34)) (ha : Small a) (hab : a.length = b.length) (i : Nat) (hi : i < a.length) (hlen : a[i].length = (b[i]'(by omega)).length) (K : Nat) (R : Bool)
    (H : ∀ k, K ≤ k → punchcutlaw04_same.l0 k a.length ((i + 1 : Nat) : Int) a b = some R) :
    ∀ (d j : Nat), a[i].length = j + d → ∀ k, K + d + 1 ≤ k → punchcutlaw04_same.l1 k (i : Int) a.length (i : Int) a[i].length (j : Int) a b = some (eqC (a[i].drop j) ((b[i]'(by omega)).drop j) && R) := by
  have h1000 := ha.2 a[i] (List.getElem_mem hi)
  have ha1 := ha.1
  have hi2 : i < b.length := by omega
  intro d
  induction d with
  | zero =>
    intro j hj k hk
    obtain ⟨k, rfl⟩ : ∃ m, k = m + 1 := ⟨k - 1, by omega⟩
    rw [punchcutlaw04_same.l1, if_neg (by omega), wrap64_small _ (by omega) (by omega), List.drop_eq_nil_of_le (by omega), List.drop_eq_nil_of_le (by omega)]
    simpa [eqC] using H k (by omega)
  | succ d ih =>
    intro j hj k hk
    obtain ⟨k, rfl⟩ : ∃ m, k = m + 1 := ⟨k - 1, by omega⟩
    have hjl : j < a[i].length := by omega
    have hjl2 : j < (b[i]'(by omega)).length := by omega
    rw [punchcutlaw04_same.l1, if_pos (by omega), if_pos (by omega), if_pos (by omega), rdL_at a i hi, rdL_at b i (by omega), if_pos (by omega), if_pos (by omega), if_pos (by omega), if_pos (by omega), rdT_at a[i] j hjl, rdT_at _ j hjl2, wrap64_small _ (by omega) (by omega),
      List.drop_eq_getElem_cons hjl, List.drop_eq_getElem_cons hjl2, eqC]
    have hk2 := ih (j + 1) (by omega) k (by omega)
    cases he : eqV a[i][j] (b[i]'(by omega))[j] with
    | true =>
      rw [if_neg]
      · simpa using hk2
      · simp [eqV] at he; simp [he]
    | false =>
      rw [if_pos]
      · simp
      · cases e0 : (a[i][j].f0 == (b[i]'(by omega))[j].f0) <;> cases e1 : (a[i][j].f1 == (b[i]'(by omega))[j].f1) <;> cases e2 : (a[i][j].f2 == (b[i]'(by omega))[j].f2) <;> simp_all [eqV]
theorem rs_l0 (a b : List (List S34)) (ha : Small a) (hab : a.length = b.length) : ∀ (d i : Nat), a.length = i + d → ∃ K, ∀ k, K ≤ k → punchcutlaw04_same.l0 k a.length (i : Int) a b = some (eqO (a.drop i) (b.drop i)) := by
  have ha1 := ha.1
  intro d
  induction d with
  | zero =>
    intro i hi
    refine ⟨1, fun k hk => ?_⟩
    obtain ⟨k, rfl⟩ : ∃ m, k = m + 1 := ⟨k - 1, by omega⟩
    rw [punchcutlaw04_same.l0, if_neg (by omega), List.drop_eq_nil_of_le (by omega), List.drop_eq_nil_of_le (by omega)]
    rfl
  | succ d ih =>
    intro i hi
    have hlt : i < a.length := by omega
    have hlt2 : i < b.length := by omega
    obtain ⟨K, hK⟩ := ih (i + 1) (by omega)
    refine ⟨K + a[i].length + 2, fun k hk => ?_⟩
    obtain ⟨k, rfl⟩ : ∃ m, k = m + 1 := ⟨k - 1, by omega⟩
    rw [punchcutlaw04_same.l0, if_pos (by omega), if_pos (by omega), if_pos (by omega), if_pos (by omega), rdL_at a i hlt, rdL_at b i hlt2, List.drop_eq_getElem_cons hlt, List.drop_eq_getElem_cons hlt2, eqO]
    by_cases hl : a[i].length = b[i].length
    · rw [if_pos (by omega)]
      have := rs_l1 a b ha hab i hlt hl K _ hK a[i].length 0 (by omega) k (by omega)
      simpa using this
    · rw [if_neg (by omega), eqC_len _ _ hl]; rfl
theorem rsame_f (a b : List (List S34)) (ha : Small a) : ∃ K, ∀ k, K ≤ k → punchcutlaw04_same.f k a b = some (eqO a b) := by
  by_cases h : a.length = b.length
  · obtain ⟨K, hK⟩ := rs_l0 a b ha h a.length 0 (by omega)
    exact ⟨K, fun k hk => by unfold punchcutlaw04_same.f; rw [if_pos (by omega)]; simpa using hK k hk⟩
  · exact ⟨0, fun k hk => by unfold punchcutlaw04_same.f; rw [if_neg (by omega), eqO_len _ _ h]⟩
end
/-- GlyfRound and GlyfCut. -/
theorem round_f (l : List (List S66)) : ∃ k, punchcutlaw04_GlyfRound.f k l = some true := by
  have hg := olF_good l
  obtain ⟨K1, h1⟩ := ol_f l
  obtain ⟨K2, h2⟩ := en_f hg
  obtain ⟨K3, h3⟩ := same_f (olF l) (olF l) hg.small
  refine ⟨K1 + K2 + K3, ?_⟩
  have hp : glyf_Parse.f (encL (olF l)) = some (olF l, 0) := by
    show parseO _ = _
    rw [parseO_eq (encL_in hg), prF_encL hg]
  have hs : eqO (olF l) (olF l) = true := (eqO_iff _ _).2 rfl
  unfold punchcutlaw04_GlyfRound.f punchcutlaw04_awake.f
  rw [Option.bind_some, if_pos rfl, h1 _ (by omega), Option.bind_some, h2 _ (by omega), Option.bind_some, hp, Option.bind_some, if_pos rfl, if_pos rfl, h3 _ (by omega), hs]
  rfl
theorem cut_f (l : List (List S66)) (a1 : Int) (h0 : 0 ≤ a1) (h1 : a1 ≤ 65535) : ∃ k, punchcutlaw04_GlyfCut.f k l a1 = some true := by
  have hg := olF_good l
  obtain ⟨K1, h1'⟩ := ol_f l
  obtain ⟨K2, h2⟩ := en_f hg
  refine ⟨K1 + K2, ?_⟩
  have hlen : 0 < (encL (olF l)).length := by unfold encL; simp
  obtain ⟨n, rfl⟩ := Int.eq_ofNat_of_zero_le h0
  have hmod : Int.tmod (wrap64 (n : Int)) ((encL (olF l)).length : Int) = ((n % (encL (olF l)).length : Nat) : Int) := by
    rw [wrap64_small _ (by omega) (by omega)]
    rfl
  have hlt : n % (encL (olF l)).length < (encL (olF l)).length := Nat.mod_lt _ hlen
  have hp : glyf_Parse.f ((encL (olF l)).take (n % (encL (olF l)).length)) = some ([], 1) := by
    show parseO _ = _
    rw [parseO_eq (fun x hx => encL_in hg x (List.mem_of_mem_take hx)), cut_short _ _ hlt _ (prF_encL hg)]
  unfold punchcutlaw04_GlyfCut.f punchcutlaw04_awake.f
  rw [Option.bind_some, if_pos rfl, h1' _ (by omega), Option.bind_some, h2 _ (by omega), Option.bind_some]
  simp only [hmod]
  rw [if_pos trivial, if_neg (by omega), if_pos (by omega), if_pos (by omega), Int.toNat_natCast, hp, Option.bind_some, if_pos rfl]
  rfl
end Go.Proofs.Ytjealbaomhjoaaa
