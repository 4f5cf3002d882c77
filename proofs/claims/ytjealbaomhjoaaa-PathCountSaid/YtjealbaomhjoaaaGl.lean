/- What layer 4's printed functions compute, in plain Lean: the outline of dots. -/
import Derived.Test.YtjealbaomhjoaaaG5
import Derived.Test.YtjealbaomhjoaaaParseF
set_option linter.unusedVariables false
set_option linter.unusedSimpArgs false
namespace Go.Proofs.Ytjealbaomhjoaaa
open Go.RowKit Go.Proofs.Ytjealbaomhjoaaa.G Go.Proofs.YtjealbaomhjoaaaW.PrintWords Go.Proofs.YtjealbaomhjoaaaW.PrintMore

theorem mn_nat (a b : Nat) : mn (a : Int) (b : Int) = ((min a b : Nat) : Int) := by unfold mn; split <;> omega
theorem mn_lit (a b : Nat) : mn (a : Int) (b : Int) = ((min a b : Nat) : Int) := mn_nat a b

/-- A dot as a point. -/
def vx (d : S66) : S34 := ⟨Int.tmod (wrap64 d.f0) 256, Int.tmod (wrap64 d.f1) 256, d.f2⟩
def olL : Nat → List (List S66) → List (List S34)
  | _, [] => []
  | left, c :: cs => if 0 < min (min c.length 12) left then ((c.take (min (min c.length 12) left)).map vx) :: olL (left - min (min c.length 12) left) cs else olL (left - min (min c.length 12) left) cs
def olF (cs : List (List S66)) : List (List S34) := olL 64 (cs.take 8)

theorem rdL3_at (xs : List (List S66)) (i : Nat) (h : i < xs.length) : rd_L3 xs (i : Int) = xs[i] := by
  unfold rd_L3; simp [List.getD_eq_getElem?_getD, List.getElem?_eq_getElem h]
theorem rdT66_at (xs : List S66) (i : Nat) (h : i < xs.length) : rd_T66 xs (i : Int) = xs[i] := by
  unfold rd_T66; simp [List.getD_eq_getElem?_getD, List.getElem?_eq_getElem h]

/-- Another way to hand on: what l1 does with its points. -/
theorem ol_l1 (cs : List (List S66)) (hc8 : cs.length ≤ 8) (left : Nat) (hleft : left ≤ 64) (i : Nat) (hi : i < cs.length) (acc : List (List S34)) (K : Nat) (R : List (List S34)) (piece : List S66) (hp : piece.length ≤ 12) (hpl : piece.length ≤ left)
    (hacc : acc.length ≤ 8)
    (H : ∀ k, K ≤ k → punchcutlaw04_Outline.l0 k ((left - piece.length : Nat) : Int) cs cs.length ((i + 1 : Nat) : Int) (if 0 < piece.length then acc ++ [piece.map vx] else acc) = some R) :
    ∀ (d j : Nat) (out : List S34), piece.length = j + d → out = (piece.take j).map vx → ∀ k, K + d + 1 ≤ k →
      punchcutlaw04_Outline.l1 k (left : Int) out cs cs.length (i : Int) piece piece.length (j : Int) acc = some R := by
  intro d
  induction d with
  | zero =>
    intro j out hj ho k hk
    obtain ⟨k, rfl⟩ : ∃ m, k = m + 1 := ⟨k - 1, by omega⟩
    rw [List.take_of_length_le (by omega)] at ho
    have hol : out.length = piece.length := by rw [ho]; simp
    simp only [punchcutlaw04_Outline.l1]
    rw [if_neg (by omega), wrap64_small _ (by omega) (by omega), wrap64_small _ (by omega) (by omega), hol]
    have e1 : ((left : Int) - (piece.length : Int)) = ((left - piece.length : Nat) : Int) := by omega
    rw [e1]
    have hK := H k (by omega)
    by_cases h0 : 0 < piece.length
    · rw [if_pos (by omega), if_pos (by omega), ho]
      rw [if_pos h0] at hK
      simpa using hK
    · rw [if_neg (by omega)]
      rw [if_neg h0] at hK
      simpa using hK
  | succ d ih =>
    intro j out hj ho k hk
    obtain ⟨k, rfl⟩ : ∃ m, k = m + 1 := ⟨k - 1, by omega⟩
    have hjl : j < piece.length := by omega
    have hol : out.length = j := by rw [ho]; simp; omega
    simp only [punchcutlaw04_Outline.l1]
    rw [if_pos (by omega), if_pos (by omega), if_pos (by omega), if_pos (by omega), wrap64_small ((j : Int) + 1) (by omega) (by omega), rdT66_at piece j hjl]
    have := ih (j + 1) (out ++ [vx piece[j]]) (by omega) (by rw [ho, List.take_succ_eq_append_getElem hjl, List.map_append]; rfl) k (by omega)
    exact this
theorem ol_l0 (cs : List (List S66)) (hc8 : cs.length ≤ 8) : ∀ (d i left : Nat) (acc : List (List S34)), cs.length = i + d → left ≤ 64 → acc.length ≤ i →
    ∃ K, ∀ k, K ≤ k → punchcutlaw04_Outline.l0 k (left : Int) cs cs.length (i : Int) acc = some (acc ++ olL left (cs.drop i)) := by
  intro d
  induction d with
  | zero =>
    intro i left acc hi hleft hacc
    refine ⟨1, fun k hk => ?_⟩
    obtain ⟨k, rfl⟩ : ∃ m, k = m + 1 := ⟨k - 1, by omega⟩
    simp only [punchcutlaw04_Outline.l0]
    rw [if_neg (by omega), List.drop_eq_nil_of_le (by omega)]
    simp [olL]
  | succ d ih =>
    intro i left acc hi hleft hacc
    have hlt : i < cs.length := by omega
    have hp : (cs[i].take (min (min cs[i].length 12) left)).length = min (min cs[i].length 12) left := by rw [List.length_take]; omega
    obtain ⟨K, hK⟩ := ih (i + 1) (left - min (min cs[i].length 12) left) (if 0 < min (min cs[i].length 12) left then acc ++ [(cs[i].take (min (min cs[i].length 12) left)).map vx] else acc) (by omega) (by omega) (by split <;> (try rw [List.length_append, List.length_singleton]) <;> omega)
    refine ⟨K + 12 + 3, fun k hk => ?_⟩
    obtain ⟨k, rfl⟩ : ∃ m, k = m + 1 := ⟨k - 1, by omega⟩
    simp only [punchcutlaw04_Outline.l0]
    rw [if_pos (by omega), if_pos (by omega), if_pos (by omega), rdL3_at cs i hlt]
    have e1 : mn (mn ((cs[i]).length : Int) 12) (left : Int) = ((min (min cs[i].length 12) left : Nat) : Int) := by
      have h1 : mn ((cs[i]).length : Int) 12 = ((min cs[i].length 12 : Nat) : Int) := mn_nat _ 12
      rw [h1, mn_nat]
    rw [e1, if_pos (by omega), if_pos (by omega), Option.bind_some, Int.toNat_natCast]
    have h3 := ol_l1 cs hc8 left hleft i hlt acc K (acc ++ olL left (cs.drop i)) (cs[i].take (min (min cs[i].length 12) left)) (by omega) (by omega) (by omega) ?_ (min (min cs[i].length 12) left) 0 [] (by omega) (by simp) k (by omega)
    · simpa using h3
    · intro k hk
      rw [hp]
      have := hK k hk
      rw [this, List.drop_eq_getElem_cons hlt]
      congr 1
      simp only [olL]
      split
      · simp
      · rfl
theorem ol_f (cs : List (List S66)) : ∃ K, ∀ k, K ≤ k → punchcutlaw04_Outline.f k cs = some (olF cs) := by
  obtain ⟨K, hK⟩ := ol_l0 (cs.take 8) (by simp; omega) (cs.take 8).length 0 64 [] (by omega) (by omega) (by simp)
  refine ⟨K, fun k hk => ?_⟩
  unfold punchcutlaw04_Outline.f olF
  have e1 : mn (cs.length : Int) 8 = ((min cs.length 8 : Nat) : Int) := mn_nat _ 8
  rw [e1, if_pos (by omega), if_pos (by omega), Option.bind_some, Int.toNat_natCast]
  have e2 : cs.take (min cs.length 8) = cs.take 8 := by
    rcases Nat.le_total cs.length 8 with h | h
    · rw [Nat.min_eq_left h, List.take_of_length_le (Nat.le_refl _), List.take_of_length_le h]
    · rw [Nat.min_eq_right h]
  rw [e2]
  simpa using hK k hk

/-- What an outline of dots is. -/
structure Good (cs : List (List S34)) : Prop where
  eight : cs.length ≤ 8
  sum : cs.flatten.length ≤ 64
  ne : ∀ c ∈ cs, c ≠ []
  ok : ∀ c ∈ cs, ∀ v ∈ c, okV v = true
theorem vx_ok (d : S66) : okV (vx d) = true := by
  have h : ∀ x : Int, -255 ≤ x.tmod 256 ∧ x.tmod 256 ≤ 255 := by
    intro x
    have h1 := Int.tmod_lt_of_pos x (show (0 : Int) < 256 by omega)
    have h2 := Int.lt_tmod_of_pos x (show (0 : Int) < 256 by omega)
    omega
  have h1 := h (wrap64 d.f0)
  have h2 := h (wrap64 d.f1)
  show (decide (-255 ≤ (wrap64 d.f0).tmod 256) && decide ((wrap64 d.f0).tmod 256 ≤ 255) && decide (-255 ≤ (wrap64 d.f1).tmod 256) && decide ((wrap64 d.f1).tmod 256 ≤ 255)) = true
  rw [decide_eq_true h1.1, decide_eq_true h1.2, decide_eq_true h2.1, decide_eq_true h2.2]; rfl

theorem olL_good : ∀ (cs : List (List S66)) (left : Nat), (olL left cs).length ≤ cs.length ∧ (olL left cs).flatten.length ≤ left ∧ (∀ c ∈ olL left cs, c ≠ []) ∧ (∀ c ∈ olL left cs, ∀ v ∈ c, okV v = true) ∧ (∀ c ∈ olL left cs, c.length ≤ 12)
  | [], left => by simp [olL]
  | c :: cs, left => by
    obtain ⟨h1, h2, h3, h4, h5⟩ := olL_good cs (left - min (min c.length 12) left)
    rw [olL]
    have hm1 : min (min c.length 12) left ≤ c.length := by omega
    have hm2 : min (min c.length 12) left ≤ left := by omega
    have hm3 : min (min c.length 12) left ≤ 12 := by omega
    generalize min (min c.length 12) left = m at *
    have hl : ((c.take m).map vx).length = m := by rw [List.length_map, List.length_take]; omega
    split
    · refine ⟨by rw [List.length_cons, List.length_cons]; omega, ?_, ?_, ?_, ?_⟩
      · rw [List.flatten_cons, List.length_append, hl]; omega
      · intro x hx
        rcases List.mem_cons.1 hx with rfl | hx
        · intro e; rw [e] at hl; simp at hl; omega
        · exact h3 x hx
      · intro x hx v hv
        rcases List.mem_cons.1 hx with rfl | hx
        · obtain ⟨d, _, rfl⟩ := List.mem_map.1 hv; exact vx_ok d
        · exact h4 x hx v hv
      · intro x hx
        rcases List.mem_cons.1 hx with rfl | hx
        · omega
        · exact h5 x hx
    · exact ⟨by rw [List.length_cons]; omega, by omega, h3, h4, h5⟩
theorem olF_good (cs : List (List S66)) : Good (olF cs) := by
  obtain ⟨h1, h2, h3, h4, _⟩ := olL_good (cs.take 8) 64
  exact ⟨by unfold olF; simp at h1; omega, h2, h3, h4⟩
theorem ckL_good : ∀ (cs : List (List S34)) (n : Nat), n + cs.flatten.length ≤ 64 → (∀ c ∈ cs, c ≠ []) → (∀ c ∈ cs, ∀ v ∈ c, okV v = true) → ckL cs n = 0
  | [], n, _, _, _ => rfl
  | c :: cs, n, hn, hne, hok => by
    simp only [List.flatten_cons, List.length_append] at hn
    rw [ckL, if_neg (by omega), if_neg (fun e => hne c (by simp) (List.eq_nil_of_length_eq_zero e)), if_pos (List.all_eq_true.2 (hok c (by simp)))]
    exact ckL_good cs _ (by omega) (fun x hx => hne x (List.mem_cons_of_mem _ hx)) (fun x hx => hok x (List.mem_cons_of_mem _ hx))
theorem Good.ck {cs : List (List S34)} (h : Good cs) : ckO cs = 0 := by
  unfold ckO
  rw [if_neg (by have := h.eight; omega)]
  exact ckL_good cs 0 (by have := h.sum; omega) h.ne h.ok
theorem ckL_only : ∀ (cs : List (List S34)) (n : Nat), n ≤ 64 → ckL cs n = 0 → n + cs.flatten.length ≤ 64 ∧ (∀ c ∈ cs, c ≠ []) ∧ (∀ c ∈ cs, ∀ v ∈ c, okV v = true)
  | [], n, hn, _ => by simp; omega
  | c :: cs, n, hn, h => by
    rw [ckL] at h
    split at h
    · cases h
    · split at h
      · cases h
      · split at h
        · rename_i h1 h2 h3
          obtain ⟨q1, q2, q3⟩ := ckL_only cs _ (by omega) h
          refine ⟨by simp; simp at q1; omega, fun x hx => ?_, fun x hx => ?_⟩
          · rcases List.mem_cons.1 hx with rfl | hx
            · intro e; exact h2 (by rw [e]; rfl)
            · exact q2 x hx
          · rcases List.mem_cons.1 hx with rfl | hx
            · exact List.all_eq_true.1 h3
            · exact q3 x hx
        · cases h
theorem ckO_only {cs : List (List S34)} (h : ckO cs = 0) : Good cs := by
  unfold ckO at h
  split at h
  · cases h
  · obtain ⟨q1, q2, q3⟩ := ckL_only cs 0 (by omega) h
    exact ⟨by omega, by omega, q2, q3⟩

end Go.Proofs.Ytjealbaomhjoaaa
