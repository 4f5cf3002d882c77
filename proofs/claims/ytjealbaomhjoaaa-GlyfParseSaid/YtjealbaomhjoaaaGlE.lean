/- What layer 4's printed functions compute, in plain Lean: an outline's bytes. -/
import Derived.Test.YtjealbaomhjoaaaG4
import Derived.Test.YtjealbaomhjoaaaGl
set_option linter.unusedVariables false
set_option linter.unusedSimpArgs false
namespace Go.Proofs.Ytjealbaomhjoaaa
open Go.RowKit Go.Proofs.Ytjealbaomhjoaaa.G Go.Proofs.YtjealbaomhjoaaaW.PrintWords Go.Proofs.YtjealbaomhjoaaaW.PrintMore

def sh (n : Int) : Bool := decide (-128 ≤ n) && decide (n < 128)
def flg (v : S34) (dx dy : Int) : Int := (if v.f2 then 1 else 0) + (if sh dx then 0 else 2) + (if sh dy then 0 else 4)
def stp (n : Int) : List Int := if sh n then [n % 256] else [n / 256 % 256, n % 256]
def fsL : Int → Int → List S34 → List Int
  | _, _, [] => []
  | x, y, v :: vs => flg v (v.f0 - x) (v.f1 - y) :: fsL v.f0 v.f1 vs
def stL : Int → Int → List S34 → List Int
  | _, _, [] => []
  | x, y, v :: vs => stp (v.f0 - x) ++ stp (v.f1 - y) ++ stL v.f0 v.f1 vs
def runL (f : Int) (fs : List Int) : Nat := (fs.takeWhile (fun x => x == f)).length
def rle : Nat → List Int → List Int
  | 0, _ => []
  | _ + 1, [] => []
  | d + 1, f :: fs => if 2 < runL f fs + 1 then (f + 8) :: (runL f fs : Int) :: rle d (fs.drop (runL f fs)) else f :: rle d fs
def encL (cs : List (List S34)) : List Int :=
  (cs.length : Int) :: cs.map (fun c => (c.length : Int)) ++ rle cs.flatten.length (fsL 0 0 cs.flatten) ++ stL 0 0 cs.flatten

theorem short_f (n : Int) : glyf_short.f n = some (sh n) := by
  unfold glyf_short.f sh
  by_cases h : n ≥ -128
  · rw [if_pos h, decide_eq_true (show -128 ≤ n from h)]; rfl
  · rw [if_neg h, decide_eq_false (show ¬ -128 ≤ n from h)]; rfl
theorem or_tab : ∀ a : Nat, a < 8 → (bits .or .u8 (a : Int) 8 = (a : Int) + 8) := by decide +kernel
theorem flag_f (k : Nat) (v : S34) (dx dy : Int) : glyf_flag.f (k + 1) v.f0 v.f1 v.f2 dx dy = some (flg v dx dy) := by
  have e01 : bits .or .u8 0 1 = 1 := by decide +kernel
  have e02 : bits .or .u8 0 2 = 2 := by decide +kernel
  have e04 : bits .or .u8 0 4 = 4 := by decide +kernel
  have e12 : bits .or .u8 1 2 = 3 := by decide +kernel
  have e14 : bits .or .u8 1 4 = 5 := by decide +kernel
  have e24 : bits .or .u8 2 4 = 6 := by decide +kernel
  have e34 : bits .or .u8 3 4 = 7 := by decide +kernel
  unfold glyf_flag.f flg
  simp only [glyf_flag.j0, short_f, Option.bind_some]
  cases v.f2 <;> cases sh dx <;> cases sh dy <;> simp [e01, e02, e04, e12, e14, e24, e34]
theorem stp_len (n : Int) : (stp n).length ≤ 2 := by unfold stp; split <;> simp
theorem step_f (l : List Int) (n : Int) (h : l.length ≤ 1000) : glyf_step.f l n = some (l ++ stp n) := by
  unfold glyf_step.f stp
  rw [short_f, Option.bind_some]
  cases sh n
  · simp; omega
  · simp; omega

theorem rd_at (xs : List Int) (i : Nat) (h : i < xs.length) : rd xs (i : Int) = xs[i] := by
  unfold rd; simp [List.getD_eq_getElem?_getD, List.getElem?_eq_getElem h]
theorem runL_le (f : Int) (fs : List Int) : runL f fs ≤ fs.length := by unfold runL; exact (List.takeWhile_sublist _).length_le
theorem runL_at (f : Int) : ∀ (fs : List Int) (j : Nat) (h : j < runL f fs) (h2 : j < fs.length), fs[j] = f
  | [], j, h, h2 => by simp at h2
  | a :: fs, 0, h, h2 => by
    unfold runL at h
    rw [List.takeWhile_cons] at h
    by_cases e : a == f
    · simpa using e
    · simp [e] at h
  | a :: fs, j + 1, h, h2 => by
    unfold runL at h
    rw [List.takeWhile_cons] at h
    by_cases e : a == f
    · simp [e] at h
      exact runL_at f fs j (by unfold runL; exact h) (by simpa using h2)
    · simp [e] at h
theorem runL_end (f : Int) : ∀ (fs : List Int) (h2 : runL f fs < fs.length), fs[runL f fs] ≠ f
  | [], h2 => by simp at h2
  | a :: fs, h2 => by
    by_cases e : a == f
    · have e1 : runL f (a :: fs) = runL f fs + 1 := by unfold runL; rw [List.takeWhile_cons]; simp [e]
      have h3 : runL f fs < fs.length := by rw [e1] at h2; simpa using h2
      have := runL_end f fs h3
      simp only [e1, List.getElem_cons_succ]; exact this
    · have e1 : runL f (a :: fs) = 0 := by unfold runL; rw [List.takeWhile_cons]; simp [e]
      simp only [e1, List.getElem_cons_zero]
      simpa using e
/-- How long a runL-length row is. -/
theorem rle_len : ∀ (d : Nat) (fs : List Int), (rle d fs).length ≤ fs.length
  | 0, fs => by simp [rle]
  | d + 1, [] => by simp [rle]
  | d + 1, f :: fs => by
    rw [rle]
    have := runL_le f fs
    split
    · have := rle_len d (fs.drop (runL f fs)); rw [List.length_drop] at this; simp; omega
    · have := rle_len d fs; simp; omega
theorem rle_more : ∀ (d : Nat) (fs : List Int), fs.length ≤ d → rle d fs = rle fs.length fs := by
  intro d
  induction d using Nat.strongRecOn with
  | _ d ih =>
    intro fs hd
    match d, fs, hd with
    | 0, [], _ => rfl
    | d + 1, [], _ => rfl
    | d + 1, f :: fs, hd =>
      have hd' : fs.length ≤ d := by simpa using hd
      rw [rle, List.length_cons, rle]
      have hr := runL_le f fs
      split
      · have e1 := ih d (by omega) (fs.drop (runL f fs)) (by rw [List.length_drop]; omega)
        have e2 : rle fs.length (fs.drop (runL f fs)) = rle (fs.drop (runL f fs)).length (fs.drop (runL f fs)) := by
          by_cases hz : fs.length = d + 1
          · omega
          · exact ih fs.length (by omega) _ (by rw [List.length_drop]; omega)
        rw [e1, e2]
      · rw [ih d (by omega) fs hd']

theorem en_l3 (F : List Int) (hF : F.length ≤ 64) (hw : ∀ f ∈ F, 0 ≤ f ∧ f ≤ 7) (steps : List Int) (hs : steps.length ≤ 256) (i : Nat) (hi : i < F.length) (out : List Int) (ho : out.length + (F.length - i) ≤ 200) (K : Nat) (R : List Int × Int)
    (H : ∀ k, K ≤ k → glyf_Encode.l2 k (if 2 < runL F[i] (F.drop (i + 1)) + 1 then out ++ [F[i] + 8, (runL F[i] (F.drop (i + 1)) : Int)] else out ++ [F[i]]) F steps
      ((if 2 < runL F[i] (F.drop (i + 1)) + 1 then i + 1 + runL F[i] (F.drop (i + 1)) else i + 1 : Nat) : Int) = some R) :
    ∀ (d n : Nat), 1 ≤ n → runL F[i] (F.drop (i + 1)) + 1 = n + d → ∀ k, K + d + 1 ≤ k → glyf_Encode.l3 k out F steps (i : Int) (n : Int) = some R := by
  have hrl := runL_le F[i] (F.drop (i + 1))
  rw [List.length_drop] at hrl
  have hor : bits .or .u8 F[i] 8 = F[i] + 8 := by
    obtain ⟨h0, h1⟩ := hw F[i] (List.getElem_mem hi)
    have := or_tab F[i].toNat (by omega)
    rw [Int.toNat_of_nonneg h0] at this
    exact this
  intro d
  induction d with
  | zero =>
    intro n hn hd k hk
    obtain ⟨k, rfl⟩ : ∃ m, k = m + 1 := ⟨k - 1, by omega⟩
    have hK := H k (by omega)
    have hr : runL F[i] (F.drop (i + 1)) = n - 1 := by omega
    rw [hr] at hK
    have hb : (wrap64 ((n : Int) - 1)) % 256 = ((n - 1 : Nat) : Int) := by rw [wrap64_small _ (by omega) (by omega)]; omega
    have fin : (if (n : Int) > 2 then (if 0 ≤ (i : Int) then (if (i : Int) < (F.length : Int) then ((some (([bits .or .u8 (rd F (i : Int)) 8, (wrap64 ((n : Int) - 1)) % 256] : List Int) : List Int)).bind fun y176 => (if out.length + y176.length < 140737488355328 then (glyf_Encode.l2 k (out ++ y176) F steps (wrap64 ((i : Int) + (n : Int)))) else (none))) else (none)) else (none)) else (if 0 ≤ (i : Int) then (if (i : Int) < (F.length : Int) then (if out.length < 140737488355328 then (glyf_Encode.l2 k (out ++ [rd F (i : Int)]) F steps (wrap64 ((i : Int) + 1))) else (none)) else (none)) else (none))) = some R := by
      rw [rd_at F i hi, hor, hb]
      by_cases h2 : 2 < n
      · rw [if_pos (by omega), if_pos (by omega), if_pos (by omega), Option.bind_some, if_pos (by simp; omega), wrap64_small _ (by omega) (by omega)]
        rw [if_pos (by omega), if_pos (by omega)] at hK
        have e : (i : Int) + (n : Int) = ((i + 1 + (n - 1) : Nat) : Int) := by omega
        rw [e]; exact hK
      · rw [if_neg (by omega), if_pos (by omega), if_pos (by omega), if_pos (by omega), wrap64_small _ (by omega) (by omega)]
        rw [if_neg (by omega), if_neg (by omega)] at hK
        exact hK
    simp only [glyf_Encode.l3]
    rw [wrap64_small ((i : Int) + (n : Int)) (by omega) (by omega)]
    by_cases hlt : i + n < F.length
    · have hne : F[i + n] ≠ F[i] := by
        have h := runL_end F[i] (F.drop (i + 1)) (by rw [List.length_drop]; omega)
        rw [List.getElem_drop] at h
        have e : i + 1 + runL F[i] (F.drop (i + 1)) = i + n := by omega
        simpa only [e] using h
      have hrd : rd F ((i : Int) + (n : Int)) = F[i + n] := by
        have := rd_at F (i + n) hlt
        rwa [Int.natCast_add] at this
      rw [if_pos (by omega), if_pos (by omega), if_pos (by omega), if_pos (by omega), hrd, rd_at F i hi, if_neg hne]
      rw [rd_at F i hi, hor] at fin
      rw [hor]
      rw [wrap64_small ((i : Int) + (n : Int)) (by omega) (by omega)] at fin
      by_cases h2 : (n : Int) > 2
      · rw [if_pos h2] at fin ⊢
        rw [if_pos (by omega), if_pos (by omega)] at fin
        exact fin
      · rw [if_neg h2] at fin ⊢
        rw [if_pos (by omega), if_pos (by omega)] at fin
        exact fin
    · rw [if_neg (by omega)]
      rw [wrap64_small ((i : Int) + (n : Int)) (by omega) (by omega)] at fin
      exact fin
  | succ d ih =>
    intro n hn hd k hk
    obtain ⟨k, rfl⟩ : ∃ m, k = m + 1 := ⟨k - 1, by omega⟩
    have hlt : i + n < F.length := by omega
    have he : F[i + n] = F[i] := by
      have h := runL_at F[i] (F.drop (i + 1)) (n - 1) (by omega) (by rw [List.length_drop]; omega)
      rw [List.getElem_drop] at h
      have e : i + 1 + (n - 1) = i + n := by omega
      simpa only [e] using h
    have hrd : rd F ((i : Int) + (n : Int)) = F[i + n] := by
      have := rd_at F (i + n) hlt
      rwa [Int.natCast_add] at this
    simp only [glyf_Encode.l3]
    rw [wrap64_small ((i : Int) + (n : Int)) (by omega) (by omega), if_pos (by omega), if_pos (by omega), if_pos (by omega), if_pos (by omega), hrd, rd_at F i hi, if_pos he, wrap64_small ((n : Int) + 1) (by omega) (by omega)]
    have := ih (n + 1) (by omega) (by omega) k (by omega)
    simpa using this
theorem en_l2 (F : List Int) (hF : F.length ≤ 64) (hw : ∀ f ∈ F, 0 ≤ f ∧ f ≤ 7) (steps : List Int) (hs : steps.length ≤ 256) : ∀ (d i : Nat) (out : List Int), i ≤ F.length → F.length - i ≤ d → out.length + (F.length - i) ≤ 200 → ∃ K, ∀ k, K ≤ k → glyf_Encode.l2 k out F steps (i : Int) = some (out ++ rle (F.length - i) (F.drop i) ++ steps, 0) := by
  intro d
  induction d with
  | zero =>
    intro i out hi hd ho
    refine ⟨1, fun k hk => ?_⟩
    obtain ⟨k, rfl⟩ : ∃ m, k = m + 1 := ⟨k - 1, by omega⟩
    simp only [glyf_Encode.l2]
    rw [if_neg (by omega), if_pos (by omega), show F.length - i = 0 by omega]
    simp [rle]
  | succ d ih =>
    intro i out hi hd ho
    by_cases hlt : i < F.length
    · have hrl := runL_le F[i] (F.drop (i + 1))
      rw [List.length_drop] at hrl
      have hdr : F.drop i = F[i] :: F.drop (i + 1) := List.drop_eq_getElem_cons hlt
      obtain ⟨q, hq⟩ : ∃ q, F.length - i = q + 1 := ⟨F.length - i - 1, by omega⟩
      have hrest : ∃ K, ∀ k, K ≤ k → glyf_Encode.l2 k (if 2 < runL F[i] (F.drop (i + 1)) + 1 then out ++ [F[i] + 8, (runL F[i] (F.drop (i + 1)) : Int)] else out ++ [F[i]]) F steps
          ((if 2 < runL F[i] (F.drop (i + 1)) + 1 then i + 1 + runL F[i] (F.drop (i + 1)) else i + 1 : Nat) : Int) = some (out ++ rle (F.length - i) (F.drop i) ++ steps, 0) := by
        rw [hq, hdr, rle]
        by_cases h2 : 2 < runL F[i] (F.drop (i + 1)) + 1
        · rw [if_pos h2, if_pos h2, if_pos h2]
          obtain ⟨K, hK⟩ := ih (i + 1 + runL F[i] (F.drop (i + 1))) (out ++ [F[i] + 8, (runL F[i] (F.drop (i + 1)) : Int)]) (by omega) (by omega) (by simp; omega)
          refine ⟨K, fun k hk => ?_⟩
          rw [hK k hk, List.drop_drop]
          have e1 : rle (F.length - (i + 1 + runL F[i] (F.drop (i + 1)))) (F.drop (i + 1 + runL F[i] (F.drop (i + 1)))) = rle q (F.drop (i + 1 + runL F[i] (F.drop (i + 1)))) := by
            rw [rle_more q _ (by rw [List.length_drop]; omega), List.length_drop]
          rw [e1]; simp
        · rw [if_neg h2, if_neg h2, if_neg h2]
          obtain ⟨K, hK⟩ := ih (i + 1) (out ++ [F[i]]) (by omega) (by omega) (by simp; omega)
          refine ⟨K, fun k hk => ?_⟩
          rw [hK k hk, show F.length - (i + 1) = q by omega]; simp
      obtain ⟨K, hK⟩ := hrest
      refine ⟨K + runL F[i] (F.drop (i + 1)) + 2, fun k hk => ?_⟩
      obtain ⟨k, rfl⟩ : ∃ m, k = m + 1 := ⟨k - 1, by omega⟩
      simp only [glyf_Encode.l2]
      rw [if_pos (by omega)]
      exact en_l3 F hF hw steps hs i hlt out ho K _ hK (runL F[i] (F.drop (i + 1))) 1 (by omega) (by omega) k (by omega)
    · refine ⟨1, fun k hk => ?_⟩
      obtain ⟨k, rfl⟩ : ∃ m, k = m + 1 := ⟨k - 1, by omega⟩
      simp only [glyf_Encode.l2]
      rw [if_neg (by omega), if_pos (by omega), show F.length - i = 0 by omega]
      simp [rle]

/-- Where one is behind a contour. -/
def exy : Int → Int → List S34 → Int × Int
  | x, y, [] => (x, y)
  | _, _, v :: vs => exy v.f0 v.f1 vs
theorem fsL_len : ∀ (x y : Int) (c : List S34), (fsL x y c).length = c.length
  | _, _, [] => rfl
  | x, y, v :: vs => by rw [fsL, List.length_cons, fsL_len, List.length_cons]
theorem stL_len : ∀ (x y : Int) (c : List S34), (stL x y c).length ≤ 4 * c.length
  | _, _, [] => by simp [stL]
  | x, y, v :: vs => by
    have := stL_len v.f0 v.f1 vs
    have h1 := stp_len (v.f0 - x)
    have h2 := stp_len (v.f1 - y)
    rw [stL, List.length_append, List.length_append, List.length_cons]; omega
theorem flg_in (v : S34) (dx dy : Int) : 0 ≤ flg v dx dy ∧ flg v dx dy ≤ 7 := by
  unfold flg
  cases v.f2 <;> cases sh dx <;> cases sh dy <;> simp
theorem fsL_in : ∀ (x y : Int) (c : List S34), ∀ f ∈ fsL x y c, 0 ≤ f ∧ f ≤ 7
  | _, _, [], f, hf => by simp [fsL] at hf
  | x, y, v :: vs, f, hf => by
    rw [fsL] at hf
    rcases List.mem_cons.1 hf with rfl | hf
    · exact flg_in _ _ _
    · exact fsL_in _ _ vs f hf
theorem fsL_app : ∀ (x y : Int) (a b : List S34), fsL x y (a ++ b) = fsL x y a ++ fsL (exy x y a).1 (exy x y a).2 b
  | _, _, [], b => rfl
  | x, y, v :: vs, b => by rw [List.cons_append, fsL, fsL, fsL_app, exy]; rfl
theorem stL_app : ∀ (x y : Int) (a b : List S34), stL x y (a ++ b) = stL x y a ++ stL (exy x y a).1 (exy x y a).2 b
  | _, _, [], b => rfl
  | x, y, v :: vs, b => by rw [List.cons_append, stL, stL, stL_app, exy]; simp
theorem okV_in {v : S34} (h : okV v = true) : -255 ≤ v.f0 ∧ v.f0 ≤ 255 ∧ -255 ≤ v.f1 ∧ v.f1 ≤ 255 := by
  simp only [okV, Bool.and_eq_true, decide_eq_true_eq] at h
  obtain ⟨⟨⟨h0, h1⟩, h2⟩, h3⟩ := h
  exact ⟨h0, h1, h2, h3⟩
theorem exy_in : ∀ (c : List S34) (x y : Int), (∀ v ∈ c, okV v = true) → -255 ≤ x ∧ x ≤ 255 ∧ -255 ≤ y ∧ y ≤ 255 → -255 ≤ (exy x y c).1 ∧ (exy x y c).1 ≤ 255 ∧ -255 ≤ (exy x y c).2 ∧ (exy x y c).2 ≤ 255
  | [], x, y, _, h => h
  | v :: vs, x, y, hv, h => exy_in vs v.f0 v.f1 (fun u hu => hv u (List.mem_cons_of_mem _ hu)) (okV_in (hv v (by simp)))

theorem en_l1 (cs : List (List S34)) (hc8 : cs.length ≤ 8) (i : Nat) (hi : i < cs.length) (out : List Int) (c : List S34) (hc : c.length ≤ 64) (hok : ∀ v ∈ c, okV v = true) (K : Nat) (R : List Int × Int) :
    ∀ (d j : Nat) (fs st : List Int) (x y : Int), c.length = j + d → (-255 ≤ x ∧ x ≤ 255 ∧ -255 ≤ y ∧ y ≤ 255) → fs.length + d ≤ 64 → st.length + 4 * d ≤ 256 →
      (∀ k, K ≤ k → glyf_Encode.l0 k out (fs ++ fsL x y (c.drop j)) (st ++ stL x y (c.drop j)) (exy x y (c.drop j)).1 (exy x y (c.drop j)).2 cs cs.length ((i + 1 : Nat) : Int) = some R) →
      ∀ k, K + d + 2 ≤ k → glyf_Encode.l1 k out fs st x y cs cs.length (i : Int) c c.length (j : Int) = some R := by
  intro d
  induction d with
  | zero =>
    intro j fs st x y hj hxy hfs hst H k hk
    obtain ⟨k, rfl⟩ : ∃ m, k = m + 1 := ⟨k - 1, by omega⟩
    simp only [glyf_Encode.l1]
    rw [if_neg (by omega), wrap64_small _ (by omega) (by omega)]
    have hK := H k (by omega)
    rw [List.drop_eq_nil_of_le (by omega)] at hK
    simpa [fsL, stL, exy] using hK
  | succ d ih =>
    intro j fs st x y hj hxy hfs hst H k hk
    obtain ⟨k, rfl⟩ : ∃ m, k = m + 2 := ⟨k - 2, by omega⟩
    have hlt : j < c.length := by omega
    obtain ⟨v0, v1, v2, v3⟩ := okV_in (hok c[j] (List.getElem_mem hlt))
    have h1 := stp_len (c[j].f0 - x)
    have h2 := stp_len (c[j].f1 - y)
    rw [glyf_Encode.l1]
    rw [if_pos (by omega), if_pos (by omega), if_pos (by omega), rdT_at c j hlt, wrap64_small (c[j].f0 - x) (by omega) (by omega), wrap64_small (c[j].f1 - y) (by omega) (by omega), flag_f, Option.bind_some, if_pos (by omega),
      step_f _ _ (by omega), Option.bind_some, step_f _ _ (by rw [List.length_append]; omega), Option.bind_some, wrap64_small _ (by omega) (by omega)]
    refine ih (j + 1) (fs ++ [flg c[j] (c[j].f0 - x) (c[j].f1 - y)]) (st ++ stp (c[j].f0 - x) ++ stp (c[j].f1 - y)) c[j].f0 c[j].f1 (by omega) ⟨v0, v1, v2, v3⟩ (by rw [List.length_append, List.length_singleton]; omega) (by rw [List.length_append, List.length_append]; omega) ?_ (k + 1) (by omega)
    intro k hk
    have hK := H k hk
    rw [List.drop_eq_getElem_cons hlt, fsL, stL, exy] at hK
    simpa using hK
theorem en_l0 (cs : List (List S34)) (hg : Good cs) : ∀ (d i : Nat) (out fs st : List Int) (x y : Int), cs.length = i + d → (-255 ≤ x ∧ x ≤ 255 ∧ -255 ≤ y ∧ y ≤ 255) → fs.length + (cs.drop i).flatten.length ≤ 64 → st.length ≤ 4 * fs.length → out.length ≤ 1 + i → (∀ f ∈ fs, 0 ≤ f ∧ f ≤ 7) →
    ∃ K, ∀ k, K ≤ k → glyf_Encode.l0 k out fs st x y cs cs.length (i : Int) = some (out ++ (cs.drop i).map (fun c => (c.length : Int)) ++ rle (fs ++ fsL x y (cs.drop i).flatten).length (fs ++ fsL x y (cs.drop i).flatten) ++ (st ++ stL x y (cs.drop i).flatten), 0) := by
  have hc8 := hg.eight
  intro d
  induction d with
  | zero =>
    intro i out fs st x y hi hxy hfs hst ho hf
    rw [List.drop_eq_nil_of_le (by omega)] at hfs ⊢
    simp only [List.flatten_nil, List.length_nil, fsL, stL, List.append_nil, List.map_nil] at hfs ⊢
    obtain ⟨K, hK⟩ := en_l2 fs (by omega) hf st (by omega) fs.length 0 out (by omega) (by omega) (by omega)
    refine ⟨K + 1, fun k hk => ?_⟩
    obtain ⟨k, rfl⟩ : ∃ m, k = m + 1 := ⟨k - 1, by omega⟩
    simp only [glyf_Encode.l0]
    rw [if_neg (by omega)]
    simpa using hK k (by omega)
  | succ d ih =>
    intro i out fs st x y hi hxy hfs hst ho hf
    have hlt : i < cs.length := by omega
    have hdr : cs.drop i = cs[i] :: cs.drop (i + 1) := List.drop_eq_getElem_cons hlt
    rw [hdr, List.flatten_cons, List.length_append] at hfs
    rw [hdr, List.flatten_cons, List.map_cons, fsL_app, stL_app]
    have hfl := fsL_len x y cs[i]
    have hsl := stL_len x y cs[i]
    have hokc : ∀ v ∈ cs[i], okV v = true := hg.ok _ (List.getElem_mem hlt)
    obtain ⟨K, hK⟩ := ih (i + 1) (out ++ [(cs[i].length : Int)]) (fs ++ fsL x y cs[i]) (st ++ stL x y cs[i]) (exy x y cs[i]).1 (exy x y cs[i]).2 (by omega) (exy_in _ _ _ hokc hxy) (by rw [List.length_append]; omega) (by rw [List.length_append, List.length_append]; omega) (by rw [List.length_append, List.length_singleton]; omega)
      (fun f hf' => by rcases List.mem_append.1 hf' with h | h; exact hf f h; exact fsL_in _ _ _ f h)
    refine ⟨K + cs[i].length + 3, fun k hk => ?_⟩
    obtain ⟨k, rfl⟩ : ∃ m, k = m + 1 := ⟨k - 1, by omega⟩
    rw [glyf_Encode.l0]
    rw [if_pos (by omega), if_pos (by omega), if_pos (by omega), if_pos (by omega), rdL_at cs i hlt]
    have hm : ((cs[i].length : Int)) % 256 = (cs[i].length : Int) := by omega
    rw [hm]
    refine en_l1 cs hc8 i hlt (out ++ [(cs[i].length : Int)]) cs[i] (by omega) hokc K _ cs[i].length 0 fs st x y (by omega) hxy (by omega) (by omega) (fun k hk => ?_) k (by omega)
    have := hK k hk
    rw [List.drop_zero]
    simpa using this
theorem en_f {cs : List (List S34)} (hg : Good cs) : ∃ K, ∀ k, K ≤ k → glyf_Encode.f k cs = some (encL cs, 0) := by
  obtain ⟨K1, h1⟩ := ck_f cs (fun c hc => by
    have : c.length ≤ cs.flatten.length := (List.sublist_flatten_of_mem hc).length_le
    have := hg.sum; omega)
  obtain ⟨K2, h2⟩ := en_l0 cs hg cs.length 0 [(cs.length : Int)] [] [] 0 0 (by omega) (by omega) (by simpa using hg.sum) (by simp) (by simp) (by simp)
  refine ⟨K1 + K2, fun k hk => ?_⟩
  unfold glyf_Encode.f
  rw [h1 k (by omega), hg.ck, Option.bind_some, if_pos rfl]
  have hm : ((cs.length : Int)) % 256 = (cs.length : Int) := by have := hg.eight; omega
  rw [hm]
  have := h2 k (by omega)
  rw [List.drop_zero] at this
  simp only [List.nil_append, fsL_len] at this
  simpa [encL] using this
theorem en_bad {cs : List (List S34)} (hb : ∀ c ∈ cs, c.length ≤ 140737488355328) (h : ckO cs ≠ 0) : ∃ K, ∀ k, K ≤ k → glyf_Encode.f k cs = some ([], ckO cs) := by
  obtain ⟨K1, h1⟩ := ck_f cs hb
  refine ⟨K1, fun k hk => ?_⟩
  unfold glyf_Encode.f
  rw [h1 k hk, Option.bind_some, if_neg h]
end Go.Proofs.Ytjealbaomhjoaaa
