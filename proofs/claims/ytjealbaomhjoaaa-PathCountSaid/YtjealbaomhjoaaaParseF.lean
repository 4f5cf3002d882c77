/- What glyf.Parse computes, in plain Lean. -/
import Derived.Test.YtjealbaomhjoaaaG2
set_option linter.unusedVariables false
set_option linter.unusedSimpArgs false
namespace Go.Proofs.Ytjealbaomhjoaaa
open Go.RowKit Go.Proofs.Ytjealbaomhjoaaa.G Go.Proofs.YtjealbaomhjoaaaW.PrintWords

/-- A byte as a step of one byte. -/
def p8 (x : Int) : Int := if x < 128 then x else x - 256
/-- A reader: what is left, and whether some was missing. -/
structure Rs where
  bs : List Int
  bad : Bool
def Rs.hd (r : Rs) : Int := r.bs.headD 0
def Rs.nx (r : Rs) : Rs := ⟨r.bs.tail, r.bad || r.bs.isEmpty⟩
def Rs.step (r : Rs) (wide : Bool) : Int := if wide then 256 * p8 r.hd + r.nx.hd else p8 r.hd
def Rs.past (r : Rs) (wide : Bool) : Rs := if wide then r.nx.nx else r.nx
/-- Is a flag's bit set? -/
def bitSet (f : Int) (b : Nat) : Bool := (f.toNat / b) % 2 == 1
/-- The sizes, so many of them; their sum. -/
def szL : Nat → List Int → Int → Rs → List Int × Int × Rs
  | 0, s, n, r => (s, n, r)
  | d + 1, s, n, r => szL d (s ++ [r.hd]) (n + r.hd) r.nx
/-- How many of a flag, and what is left behind it. -/
def flT (r : Rs) : Nat := if bitSet r.hd 8 then 1 + r.nx.hd.toNat else 1
def flR (r : Rs) : Rs := if bitSet r.hd 8 then r.nx.nx else r.nx
/-- The flags: n of them are wanted, fs are there; a code: what is there may not be (2), or is missing (1). -/
def flL (n : Nat) : Nat → List Int → Rs → Int ⊕ (List Int × Rs)
  | 0, fs, r => .inr (fs, r)
  | d + 1, fs, r =>
    if fs.length < n then
      if (flR r).bad then .inl 1
      else if 15 < r.hd ∨ n < fs.length + flT r then .inl 2
      else flL n d (fs ++ List.replicate (flT r) r.hd) (flR r)
    else .inr (fs, r)
/-- A contour's points, by their flags. -/
def ptL : List Int → Int → Int → Rs → List S34 → List S34 × Int × Int × Rs
  | [], x, y, r, c => (c, x, y, r)
  | f :: fs, x, y, r, c =>
    ptL fs (x + r.step (bitSet f 2)) (y + (r.past (bitSet f 2)).step (bitSet f 4)) ((r.past (bitSet f 2)).past (bitSet f 4))
      (c ++ [⟨x + r.step (bitSet f 2), y + (r.past (bitSet f 2)).step (bitSet f 4), bitSet f 1⟩])
/-- All contours, by their sizes. -/
def ctL : List Int → List Int → Int → Int → Rs → List (List S34) → List (List S34) × Rs
  | [], fs, x, y, r, cs => (cs, r)
  | s :: ss, fs, x, y, r, cs =>
    ctL ss (fs.drop s.toNat) (ptL (fs.take s.toNat) x y r []).2.1 (ptL (fs.take s.toNat) x y r []).2.2.1 (ptL (fs.take s.toNat) x y r []).2.2.2 (cs ++ [(ptL (fs.take s.toNat) x y r []).1])
/-- What is wrong of an outline. -/
def okV (v : S34) : Bool := decide (-255 ≤ v.f0) && decide (v.f0 ≤ 255) && decide (-255 ≤ v.f1) && decide (v.f1 ≤ 255)
def ckL : List (List S34) → Nat → Int
  | [], _ => 0
  | c :: cs, n => if 64 < n + c.length then 3 else if c.length = 0 then 2 else if c.all okV then ckL cs (n + c.length) else 4
def ckO (cs : List (List S34)) : Int := if 8 < cs.length then 3 else ckL cs 0
/-- Behind the flags. -/
def prT (sizes fs : List Int) (r : Rs) : List (List S34) × Int :=
  if (ctL sizes fs 0 0 r []).2.bad then ([], 1) else if (ctL sizes fs 0 0 r []).2.bs.length > 0 then ([], 2)
  else if ckO (ctL sizes fs 0 0 r []).1 ≠ 0 then ([], ckO (ctL sizes fs 0 0 r []).1) else ((ctL sizes fs 0 0 r []).1, 0)
/-- Behind the sizes. -/
def prS (sizes : List Int) (n : Int) (r : Rs) : List (List S34) × Int :=
  if r.bad then ([], 1) else if 64 < n then ([], 3) else if 8 < sizes.length then ([], 3)
  else match flL n.toNat (n.toNat + 1) [] r with
    | .inl e => ([], e)
    | .inr (fs, r2) => prT sizes fs r2
def prF (l : List Int) : List (List S34) × Int :=
  prS (szL ((⟨l, false⟩ : Rs).hd.toNat) [] 0 (⟨l, false⟩ : Rs).nx).1 (szL ((⟨l, false⟩ : Rs).hd.toNat) [] 0 (⟨l, false⟩ : Rs).nx).2.1 (szL ((⟨l, false⟩ : Rs).hd.toNat) [] 0 (⟨l, false⟩ : Rs).nx).2.2

/-- The printed Check tells the same. -/
theorem rdL_at (xs : List (List S34)) (i : Nat) (h : i < xs.length) : rd_L6 xs (i : Int) = xs[i] := by
  unfold rd_L6; simp [List.getD_eq_getElem?_getD, List.getElem?_eq_getElem h]
theorem rdT_at (xs : List S34) (i : Nat) (h : i < xs.length) : rd_T34 xs (i : Int) = xs[i] := by
  unfold rd_T34; simp [List.getD_eq_getElem?_getD, List.getElem?_eq_getElem h]
theorem wrap64_small (x : Int) (h0 : -9223372036854775808 ≤ x) (h1 : x ≤ 9223372036854775807) : wrap64 x = x := by unfold wrap64; omega
theorem ck_l1 (xs : List (List S34)) (hl : xs.length ≤ 8) (n : Nat) (hn : n ≤ 64) (i : Nat) (hi : i < xs.length)
    (K : Nat) (R : Int) (H : ∀ k, K ≤ k → glyf_Check.l0 k n xs xs.length ((i + 1 : Nat) : Int) = some R) :
    ∀ (d j : Nat) (c : List S34), c.length = j + d → c.length ≤ 64 → ∀ k, K + d + 1 ≤ k → glyf_Check.l1 k n xs xs.length (i : Int) c c.length j = some (if (c.drop j).all okV then R else 4) := by
  intro d
  induction d with
  | zero =>
    intro j c hc h64 k hk
    obtain ⟨k, rfl⟩ : ∃ m, k = m + 1 := ⟨k - 1, by omega⟩
    simp only [glyf_Check.l1]
    rw [if_neg (by omega), wrap64_small _ (by omega) (by omega)]
    rw [List.drop_eq_nil_of_le (by omega)]
    simpa using H k (by omega)
  | succ d ih =>
    intro j c hc h64 k hk
    obtain ⟨k, rfl⟩ : ∃ m, k = m + 1 := ⟨k - 1, by omega⟩
    have hj : j < c.length := by omega
    have hd : c.drop j = c[j] :: c.drop (j + 1) := List.drop_eq_getElem_cons hj
    simp only [glyf_Check.l1]
    rw [if_pos (by omega), if_pos (by omega), if_pos (by omega), rdT_at c j hj, hd, List.all_cons]
    by_cases h1 : c[j].f0 < -255
    · have : okV c[j] = false := by simp [okV]; omega
      rw [if_pos h1, this]; rfl
    · rw [if_neg h1]
      by_cases h2 : c[j].f0 > 255
      · have : okV c[j] = false := by simp [okV]; omega
        rw [if_pos h2, this]; rfl
      · rw [if_neg h2]
        by_cases h3 : c[j].f1 < -255
        · have : okV c[j] = false := by simp [okV]; omega
          rw [if_pos h3, this]; rfl
        · rw [if_neg h3]
          by_cases h4 : c[j].f1 > 255
          · have : okV c[j] = false := by simp [okV]; omega
            rw [if_pos h4, this]; rfl
          · have ho : okV c[j] = true := by simp [okV]; omega
            rw [if_neg h4, ho, wrap64_small _ (by omega) (by omega)]
            have := ih (j + 1) c (by omega) h64 k (by omega)
            simpa using this
theorem ck_l0 (xs : List (List S34)) (hl : xs.length ≤ 8) (hb : ∀ c ∈ xs, c.length ≤ 140737488355328) : ∀ (d i n : Nat), xs.length = i + d → n ≤ 64 →
    ∃ K, ∀ k, K ≤ k → glyf_Check.l0 k n xs xs.length i = some (ckL (xs.drop i) n) := by
  intro d
  induction d with
  | zero =>
    intro i n hi hn
    refine ⟨1, fun k hk => ?_⟩
    obtain ⟨k, rfl⟩ : ∃ m, k = m + 1 := ⟨k - 1, by omega⟩
    simp only [glyf_Check.l0]
    rw [if_neg (by omega), List.drop_eq_nil_of_le (by omega)]
    rfl
  | succ d ih =>
    intro i n hi hn
    have hlt : i < xs.length := by omega
    have hd : xs.drop i = xs[i] :: xs.drop (i + 1) := List.drop_eq_getElem_cons hlt
    have hcl := hb _ (List.getElem_mem hlt)
    rw [hd]
    simp only [ckL]
    by_cases h1 : 64 < n + (xs[i]).length
    · refine ⟨1, fun k hk => ?_⟩
      obtain ⟨k, rfl⟩ : ∃ m, k = m + 1 := ⟨k - 1, by omega⟩
      simp only [glyf_Check.l0]
      rw [if_pos (by omega), if_pos (by omega), if_pos (by omega), rdL_at xs i hlt, wrap64_small _ (by omega) (by omega), if_pos (by omega), if_pos h1]
    · rw [if_neg h1]
      by_cases h2 : (xs[i]).length = 0
      · refine ⟨1, fun k hk => ?_⟩
        obtain ⟨k, rfl⟩ : ∃ m, k = m + 1 := ⟨k - 1, by omega⟩
        simp only [glyf_Check.l0]
        rw [if_pos (by omega), if_pos (by omega), if_pos (by omega), rdL_at xs i hlt, wrap64_small _ (by omega) (by omega), if_neg (by omega), if_pos (by omega), if_pos h2]
      · rw [if_neg h2]
        obtain ⟨K, hK⟩ := ih (i + 1) (n + (xs[i]).length) (by omega) (by omega)
        refine ⟨K + (xs[i]).length + 2, fun k hk => ?_⟩
        obtain ⟨k, rfl⟩ : ∃ m, k = m + 1 := ⟨k - 1, by omega⟩
        simp only [glyf_Check.l0]
        rw [if_pos (by omega), if_pos (by omega), if_pos (by omega), rdL_at xs i hlt, wrap64_small _ (by omega) (by omega), if_neg (by omega), if_neg (by omega)]
        have h3 := ck_l1 xs hl (n + (xs[i]).length) (by omega) i hlt K _ (fun k hk => by simpa using hK k hk) (xs[i]).length 0 xs[i] (by omega) (by omega) k (by omega)
        simpa using h3
theorem ck_f (xs : List (List S34)) (hb : ∀ c ∈ xs, c.length ≤ 140737488355328) : ∃ K, ∀ k, K ≤ k → glyf_Check.f k xs = some (ckO xs) := by
  by_cases h : 8 < xs.length
  · exact ⟨0, fun k _ => by unfold glyf_Check.f ckO; rw [if_pos (by omega), if_pos h]⟩
  · obtain ⟨K, hK⟩ := ck_l0 xs (by omega) hb xs.length 0 0 (by omega) (by omega)
    exact ⟨K, fun k hk => by unfold glyf_Check.f ckO; rw [if_neg (by omega), if_neg h]; simpa using hK k hk⟩

end Go.Proofs.Ytjealbaomhjoaaa
