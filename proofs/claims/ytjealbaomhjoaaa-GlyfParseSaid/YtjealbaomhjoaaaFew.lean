/- The law's own check; the first twelve contours, of each the first seventy points. -/
import Derived.Test.YtjealbaomhjoaaaG5
import Derived.Test.YtjealbaomhjoaaaParseC
import Derived.Test.YtjealbaomhjoaaaGl
import Derived.Deep.Slices
set_option linter.unusedVariables false
set_option linter.unusedSimpArgs false
namespace Go.Proofs.Ytjealbaomhjoaaa
open Go.RowKit Go.Proofs.Ytjealbaomhjoaaa.G Go.Proofs.YtjealbaomhjoaaaW.PrintWords Go.Proofs.YtjealbaomhjoaaaW.PrintMore

theorem rck_l1 (xs : List (List S34)) (hl : xs.length ≤ 8) (n : Nat) (hn : n ≤ 64) (i : Nat) (hi : i < xs.length)
    (K : Nat) (R : Int) (H : ∀ k, K ≤ k → punchcutlaw04_check.l0 k n xs xs.length ((i + 1 : Nat) : Int) = some R) :
    ∀ (d j : Nat) (c : List S34), c.length = j + d → c.length ≤ 64 → ∀ k, K + d + 1 ≤ k → punchcutlaw04_check.l1 k n xs xs.length (i : Int) c c.length j = some (if (c.drop j).all okV then R else 4) := by
  intro d
  induction d with
  | zero =>
    intro j c hc h64 k hk
    obtain ⟨k, rfl⟩ : ∃ m, k = m + 1 := ⟨k - 1, by omega⟩
    simp only [punchcutlaw04_check.l1]
    rw [if_neg (by omega), wrap64_small _ (by omega) (by omega)]
    rw [List.drop_eq_nil_of_le (by omega)]
    simpa using H k (by omega)
  | succ d ih =>
    intro j c hc h64 k hk
    obtain ⟨k, rfl⟩ : ∃ m, k = m + 1 := ⟨k - 1, by omega⟩
    have hj : j < c.length := by omega
    have hd : c.drop j = c[j] :: c.drop (j + 1) := List.drop_eq_getElem_cons hj
    have hmx : mx c[j].f0 c[j].f1 > 255 ↔ (c[j].f0 > 255 ∨ c[j].f1 > 255) := by unfold mx; split <;> omega
    have hmn : mn c[j].f0 c[j].f1 < -255 ↔ (c[j].f0 < -255 ∨ c[j].f1 < -255) := by unfold mn; split <;> omega
    simp only [punchcutlaw04_check.l1]
    rw [if_pos (by omega), if_pos (by omega), if_pos (by omega), rdT_at c j hj, hd, List.all_cons]
    by_cases h1 : mx c[j].f0 c[j].f1 > 255
    · have : okV c[j] = false := by rw [hmx] at h1; simp [okV]; omega
      rw [if_pos h1, this]; rfl
    · rw [if_neg h1]
      by_cases h2 : mn c[j].f0 c[j].f1 < -255
      · have : okV c[j] = false := by rw [hmn] at h2; simp [okV]; omega
        rw [if_pos h2, this]; rfl
      · have ho : okV c[j] = true := by rw [hmx] at h1; rw [hmn] at h2; simp [okV]; omega
        rw [if_neg h2, ho, wrap64_small _ (by omega) (by omega)]
        have := ih (j + 1) c (by omega) h64 k (by omega)
        simpa using this
theorem rck_l0 (xs : List (List S34)) (hl : xs.length ≤ 8) (hb : ∀ c ∈ xs, c.length ≤ 140737488355328) : ∀ (d i n : Nat), xs.length = i + d → n ≤ 64 →
    ∃ K, ∀ k, K ≤ k → punchcutlaw04_check.l0 k n xs xs.length i = some (ckL (xs.drop i) n) := by
  intro d
  induction d with
  | zero =>
    intro i n hi hn
    refine ⟨1, fun k hk => ?_⟩
    obtain ⟨k, rfl⟩ : ∃ m, k = m + 1 := ⟨k - 1, by omega⟩
    simp only [punchcutlaw04_check.l0]
    rw [if_neg (by omega), List.drop_eq_nil_of_le (by omega)]
    rfl
  | succ d ih =>
    intro i n hi hn
    have hlt : i < xs.length := by omega
    have hd : xs.drop i = xs[i] :: xs.drop (i + 1) := List.drop_eq_getElem_cons hlt
    have hcl := hb _ (List.getElem_mem hlt)
    rw [hd]
    simp only [ckL]
    by_cases h1 : 64 < n + (xs[i]).length
    · refine ⟨1, fun k hk => ?_⟩
      obtain ⟨k, rfl⟩ : ∃ m, k = m + 1 := ⟨k - 1, by omega⟩
      simp only [punchcutlaw04_check.l0]
      rw [if_pos (by omega), if_pos (by omega), if_pos (by omega), rdL_at xs i hlt, wrap64_small _ (by omega) (by omega), if_pos (by omega), if_pos h1]
    · rw [if_neg h1]
      by_cases h2 : (xs[i]).length = 0
      · refine ⟨1, fun k hk => ?_⟩
        obtain ⟨k, rfl⟩ : ∃ m, k = m + 1 := ⟨k - 1, by omega⟩
        simp only [punchcutlaw04_check.l0]
        rw [if_pos (by omega), if_pos (by omega), if_pos (by omega), rdL_at xs i hlt, wrap64_small _ (by omega) (by omega), if_neg (by omega), if_pos (by omega), if_pos h2]
      · rw [if_neg h2]
        obtain ⟨K, hK⟩ := ih (i + 1) (n + (xs[i]).length) (by omega) (by omega)
        refine ⟨K + (xs[i]).length + 2, fun k hk => ?_⟩
        obtain ⟨k, rfl⟩ : ∃ m, k = m + 1 := ⟨k - 1, by omega⟩
        simp only [punchcutlaw04_check.l0]
        rw [if_pos (by omega), if_pos (by omega), if_pos (by omega), rdL_at xs i hlt, wrap64_small _ (by omega) (by omega), if_neg (by omega), if_neg (by omega)]
        have h3 := rck_l1 xs hl (n + (xs[i]).length) (by omega) i hlt K _ (fun k hk => by simpa using hK k hk) (xs[i]).length 0 xs[i] (by omega) (by omega) k (by omega)
        simpa using h3
theorem rck_f (xs : List (List S34)) (hb : ∀ c ∈ xs, c.length ≤ 140737488355328) : ∃ K, ∀ k, K ≤ k → punchcutlaw04_check.f k xs = some (ckO xs) := by
  by_cases h : 8 < xs.length
  · exact ⟨0, fun k _ => by unfold punchcutlaw04_check.f ckO; rw [if_pos (by omega), if_pos h]⟩
  · obtain ⟨K, hK⟩ := rck_l0 xs (by omega) hb xs.length 0 0 (by omega) (by omega)
    exact ⟨K, fun k hk => by unfold punchcutlaw04_check.f ckO; rw [if_neg (by omega), if_neg h]; simpa using hK k hk⟩

theorem check_any (a : List (List S34)) (hb : ∀ c ∈ a, c.length ≤ 140737488355328) (A : Option Addr) (ca na : Nat) (w : World) (ea : na = a.length) (ra : Kd.C (Kd.slice 34 k34) w A a.length a) (la : a.length ≤ ca) :
    Calls Try.prog 23 #[.agg #[.slice A na ca]] w fun e w' => e = .returned (.int .i64 (ckO a)) ∧ Below w.heap.size w w' := by
  subst ea
  obtain ⟨K, hK⟩ := ck_f a hb
  exact glyf_Check.calls K A ca a _ w ra la (hK K (Nat.le_refl _))
theorem rcheck_any (a : List (List S34)) (hb : ∀ c ∈ a, c.length ≤ 140737488355328) (A : Option Addr) (ca na : Nat) (w : World) (ea : na = a.length) (ra : Kd.C (Kd.slice 34 k34) w A a.length a) (la : a.length ≤ ca) :
    Calls Try.prog 24 #[.agg #[.slice A na ca]] w fun e w' => e = .returned (.int .i64 (ckO a)) ∧ Below w.heap.size w w' := by
  subst ea
  obtain ⟨K, hK⟩ := rck_f a hb
  exact punchcutlaw04_check.calls K A ca a _ w ra la (hK K (Nat.le_refl _))

/-- What came in as rows of points, by its cells. -/
structure RawIn (w : World) (ad : Addr) (l : List (List S34)) (A : Nat → Option Addr) (C : Nat → Nat) : Prop where
  cell : ∀ (j : Nat) (hj : j < l.length), w.cell? (ad.add j) = some (.slice (A j) l[j].length (C j)) ∧ l[j].length ≤ C j ∧ Kd.C k34 w (A j) l[j].length l[j]
theorem rawIn {w : World} {a : Option Addr} {l : List (List S34)} (rd : Kd.C (Kd.slice 34 k34) w a l.length l) (h0 : 0 < l.length) : ∃ ad A C, a = some ad ∧ RawIn w ad l A C := by
  obtain ⟨ad, rfl, hc⟩ := rd.2.2 h0
  have each : ∀ j, j < l.length → ∃ q : Option Addr × Nat, ∀ hj : j < l.length, w.cell? (ad.add j) = some (.slice q.1 l[j].length q.2) ∧ l[j].length ≤ q.2 ∧ Kd.C k34 w q.1 l[j].length l[j] := by
    intro j hj
    obtain ⟨c, _, hK, hcc⟩ := hc j _ (List.getElem?_eq_getElem hj)
    obtain ⟨A', c', rfl, hl, hC⟩ := hK
    have h1 := hcc 0 _ rfl
    have hsz : (Kd.slice 34 k34).sz = 1 := rfl
    rw [hsz, Nat.mul_one, Nat.add_zero] at h1
    exact ⟨(A', c'), fun _ => ⟨h1, hl, hC⟩⟩
  obtain ⟨q, hq⟩ := Go.Deep.choose_lt each
  exact ⟨ad, fun j => (q j).1, fun j => (q j).2, rfl, ⟨fun j hj => hq j hj hj⟩⟩
def fewL (l : List (List S34)) : List (List S34) := (l.take 12).map (fun c => c.take 70)
def fewV (l : List (List S34)) (A : Nat → Option Addr) (C : Nat → Nat) (k : Nat) : List (List Value) := (List.range k).map fun j => [.slice (A j) (min (l.getD j []).length 70) (C j)]
theorem fewV_snoc (l : List (List S34)) (A : Nat → Option Addr) (C : Nat → Nat) (k : Nat) : fewV l A C (k + 1) = fewV l A C k ++ [[.slice (A k) (min (l.getD k []).length 70) (C k)]] := by
  unfold fewV; rw [List.range_succ, List.map_append]; rfl
theorem fewV_len (l : List (List S34)) (A : Nat → Option Addr) (C : Nat → Nat) (k : Nat) : (fewV l A C k).length = k := by unfold fewV; simp
theorem fewL_len (l : List (List S34)) : (fewL l).length = min l.length 12 := by unfold fewL; simp; omega
theorem fewL_small (l : List (List S34)) : ∀ c ∈ fewL l, c.length ≤ 70 := by
  intro c hc
  obtain ⟨d, _, rfl⟩ := List.mem_map.1 hc
  simp; omega
theorem Kd.C_take {α : Type} {d : Kd α} {w : World} {A : Option Addr} {n : Nat} {xs : List α} (h : d.C w A n xs) (m : Nat) (hm : m ≤ n) : d.C w A m (xs.take m) := by
  refine ⟨by rw [List.length_take, h.1]; omega, by have := h.2.1; omega, fun h0 => ?_⟩
  obtain ⟨ad, e, hc⟩ := h.2.2 (by omega)
  refine ⟨ad, e, fun j p hj => hc j p ?_⟩
  rw [List.getElem?_take] at hj
  split at hj
  · exact hj
  · cases hj
/-- The few, read. -/
theorem few_reads {w W : World} {ad : Addr} {l : List (List S34)} {A : Nat → Option Addr} {C : Nat → Nat} (h : RawIn w ad l A C) (hb : Below w.heap.size w W) {base : Nat} {v : Value}
    (hr : (Kd.raw 1).R 28 W base (fun _ => True) v (fewV l A C (min l.length 12))) :
    ∃ B c, v = .slice B (fewL l).length c ∧ (fewL l).length ≤ c ∧ Kd.C (Kd.slice 34 k34) W B (fewL l).length (fewL l) := by
  obtain ⟨B, c, e, hl, hC⟩ := Kd.R_reads hr
  rw [fewV_len, ← fewL_len] at e hl
  refine ⟨B, c, e, hl, rfl, by rw [fewL_len]; omega, fun h0 => ?_⟩
  obtain ⟨adB, eB, hcB⟩ := hC.2.2 (by rw [fewV_len, ← fewL_len]; exact h0)
  refine ⟨adB, eB, fun j p hj => ?_⟩
  have hjl : j < (fewL l).length := (List.getElem?_eq_some_iff.1 hj).1
  rw [fewL_len] at hjl
  have hj2 : j < l.length := by omega
  have hp : p = l[j].take 70 := by
    unfold fewL at hj
    rw [List.getElem?_map, List.getElem?_take_of_lt (by omega), List.getElem?_eq_getElem hj2] at hj
    simpa using hj.symm
  subst hp
  have hv : (fewV l A C (min l.length 12))[j]? = some [.slice (A j) (min (l.getD j []).length 70) (C j)] := by
    unfold fewV; rw [List.getElem?_map, List.getElem?_range hjl]; rfl
  obtain ⟨cs, hcl, hK, hcc⟩ := hcB j _ hv
  have hK' : cs = [.slice (A j) (min (l.getD j []).length 70) (C j)] := hK.1
  subst hK'
  obtain ⟨q1, q2, q3⟩ := h.cell j hj2
  have hg : l.getD j [] = l[j] := by rw [List.getD_eq_getElem?_getD, List.getElem?_eq_getElem hj2]; rfl
  rw [hg] at hcc
  have hlen : (l[j].take 70).length = min l[j].length 70 := by rw [List.length_take]; omega
  refine ⟨_, rfl, ⟨A j, C j, rfl, by rw [hlen]; omega, ?_⟩, fun i u hu => ?_⟩
  · rw [hlen]
    have := Kd.C_below (Kd.C_take q3 (min l[j].length 70) (by omega)) hb
    have e2 : l[j].take (min l[j].length 70) = l[j].take 70 := by
      rcases Nat.le_total l[j].length 70 with h | h
      · rw [Nat.min_eq_left h, List.take_of_length_le (Nat.le_refl _), List.take_of_length_le h]
      · rw [Nat.min_eq_right h]
    rwa [e2] at this
  · rw [hlen] at hu
    exact hcc i u hu
theorem rawIn' {w : World} {a : Option Addr} {l : List (List S34)} (rd : Kd.C (Kd.slice 34 k34) w a l.length l) : ∃ ad A C, (0 < l.length → a = some ad) ∧ RawIn w ad l A C := by
  by_cases h0 : 0 < l.length
  · obtain ⟨ad, A, C, e, h⟩ := rawIn rd h0
    exact ⟨ad, A, C, fun _ => e, h⟩
  · exact ⟨⟨0, 0, none⟩, fun _ => none, fun _ => 0, fun h => absurd h h0, ⟨fun j hj => absurd hj (by omega)⟩⟩
theorem min_int (a b : Nat) : (if (b : Int) < (a : Int) then (b : Int) else (a : Int)) = ((min a b : Nat) : Int) := by split <;> omega

end Go.Proofs.Ytjealbaomhjoaaa
