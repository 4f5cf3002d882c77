/- Rows of rows of points, as a law's arguments. -/
import Derived.Test.YtjealbaomhjoaaaG0
import Derived.Deep.Slices
import Derived.Deep.Fields
import Derived.ChangeSame
namespace Go.Proofs.Ytjealbaomhjoaaa
open Go.ChangeShapes Go.WideShapes Go.Deep Go.RowKit Go.Proofs.Ytjealbaomhjoaaa.G Go.Proofs.YtjealbaomhjoaaaW.PrintWords
section
variable {H : Type} {enc : TypeId × Value → H} {P : Program} {w : World} {base : Nat} {spare : Nat → Bool} {held : Bool}

/-- A row of points. -/
theorem open_dots {t e : TypeId} {q : IntKind} {f0 f1 f2 : Field} {fuel : Nat} {cs : List Value} {x : DataW H × List MemPlace} (ht : P.underlying t = some (.slice e)) (he : P.underlying e = some (.struct #[f0, f1, f2]))
    (hone : oneCellFields P #[f0, f1, f2] = true) (hC : P.cellsOf e = 3) (h0 : P.underlying f0.type = some (.int q)) (h1 : P.underlying f1.type = some (.int q)) (h2 : P.underlying f2.type = some .bool)
    (h : DataW.trod enc P w base spare held fuel t cs = some x) :
    ∃ (A : Option Addr) (c : Nat) (L : List (Int × Int × Bool)), cs = [.slice A L.length c] ∧ L.length ≤ c ∧ c ≤ maxLen ∧
      (0 < L.length → ∃ ad, A = some ad ∧ ∀ i p, L[i]? = some p → w.cell? (ad.add (i * 3 + 0)) = some (.int q p.1) ∧ w.cell? (ad.add (i * 3 + 1)) = some (.int q p.2.1) ∧ w.cell? (ad.add (i * 3 + 2)) = some (.bool p.2.2)) := by
  rcases open_slice ht h with ⟨rfl, _⟩ | ⟨a, len, cap, m, n, D, Pl, rfl, hb, hl, hm, hmm, _, hi⟩
  · exact ⟨none, 0, [], rfl, Nat.le_refl _, Nat.zero_le _, fun h => by simp at h⟩
  · have hlm : len ≤ m := by rw [hmm]; split <;> omega
    have each : ∀ i, i < len → ∃ p : Int × Int × Bool, w.cell? (a.add (i * 3 + 0)) = some (.int q p.1) ∧ w.cell? (a.add (i * 3 + 1)) = some (.int q p.2.1) ∧ w.cell? (a.add (i * 3 + 2)) = some (.bool p.2.2) := by
      intro i hil
      obtain ⟨cs', hc, ht'⟩ := hi i (by omega)
      rw [hC] at hc
      obtain ⟨_, hcl, hat⟩ := World.cells?_some hc
      obtain ⟨ys, n', hn', hy, hlen, hyl, hf⟩ := DataW.trod_struct he ht'
      match cs', hcl with
      | [c0, c1, c2], _ =>
        obtain ⟨o0, k0⟩ := hone_of hone 0 f0 rfl
        obtain ⟨o1, k1⟩ := hone_of hone 1 f1 rfl
        obtain ⟨o2, k2⟩ := hone_of hone 2 f2 rfl
        have g0 := hf 0 f0 rfl
        have g1 := hf 1 f1 rfl
        have g2 := hf 2 f2 rfl
        have hyl' : ys.length = 3 := hyl
        have y0 : ys[0]? = some (ys[0]'(by omega)) := List.getElem?_eq_getElem (by omega)
        have y1 : ys[1]? = some (ys[1]'(by omega)) := List.getElem?_eq_getElem (by omega)
        have y2 : ys[2]? = some (ys[2]'(by omega)) := List.getElem?_eq_getElem (by omega)
        rw [o0, k0, y0] at g0
        rw [o1, k1, y1] at g1
        rw [o2, k2, y2] at g2
        obtain ⟨x0, e0, _⟩ := DataW.trod_int h0 g0
        obtain ⟨x1, e1, _⟩ := DataW.trod_int h1 g1
        obtain ⟨x2, e2, _⟩ := DataW.trod_bool h2 g2
        have e0' : c0 = .int q x0 := by simpa using e0
        have e1' : c1 = .int q x1 := by simpa using e1
        have e2' : c2 = .bool x2 := by simpa using e2
        subst e0'; subst e1'; subst e2'
        have a0 := hat 0 (by omega)
        have a1 := hat 1 (by omega)
        have a2 := hat 2 (by omega)
        rw [Go.Deep.add_add] at a0 a1 a2
        exact ⟨(x0, x1, x2), a0, a1, a2⟩
    obtain ⟨p, hp⟩ := choose_lt each
    refine ⟨some a, cap, (List.range len).map p, by simp, by simpa using hl, hm, fun _ => ⟨a, rfl, fun i q hq => ?_⟩⟩
    rw [List.getElem?_map] at hq
    by_cases hil : i < len
    · rw [List.getElem?_range hil] at hq
      simp at hq
      subst hq
      exact hp i hil
    · rw [List.getElem?_eq_none (by simpa using hil)] at hq
      simp at hq
/-- Rows of points. -/
theorem open_dotRows {t e e2 : TypeId} {q : IntKind} {f0 f1 f2 : Field} {fuel : Nat} {cs : List Value} {x : DataW H × List MemPlace} (ht : P.underlying t = some (.slice e)) (he : P.underlying e = some (.slice e2)) (hs : P.underlying e2 = some (.struct #[f0, f1, f2]))
    (hone : oneCellFields P #[f0, f1, f2] = true) (hC : P.cellsOf e2 = 3) (hC1 : P.cellsOf e = 1) (h0 : P.underlying f0.type = some (.int q)) (h1 : P.underlying f1.type = some (.int q)) (h2 : P.underlying f2.type = some .bool)
    (h : DataW.trod enc P w base spare held fuel t cs = some x) :
    ∃ (A : Option Addr) (c : Nat) (LL : List (List (Int × Int × Bool))), cs = [.slice A LL.length c] ∧ LL.length ≤ c ∧ c ≤ maxLen ∧
      (0 < LL.length → ∃ ad, A = some ad ∧ ∀ j L, LL[j]? = some L → ∃ A' c', w.cell? (ad.add j) = some (.slice A' L.length c') ∧ L.length ≤ c' ∧ c' ≤ maxLen ∧
        (0 < L.length → ∃ ad, A' = some ad ∧ ∀ i p, L[i]? = some p → w.cell? (ad.add (i * 3 + 0)) = some (.int q p.1) ∧ w.cell? (ad.add (i * 3 + 1)) = some (.int q p.2.1) ∧ w.cell? (ad.add (i * 3 + 2)) = some (.bool p.2.2))) := by
  rcases open_slice1 ht hC1 h with ⟨rfl, _⟩ | ⟨a, len, cap, m, n, V, D, Pl, rfl, hb, hl, hm, hmm, _, hi⟩
  · exact ⟨none, 0, [], rfl, Nat.le_refl _, Nat.zero_le _, fun h => by simp at h⟩
  · have hlm : len ≤ m := by rw [hmm]; split <;> omega
    have each : ∀ j, j < len → ∃ L : List (Int × Int × Bool), ∃ A' c', w.cell? (a.add j) = some (.slice A' L.length c') ∧ L.length ≤ c' ∧ c' ≤ maxLen ∧
        (0 < L.length → ∃ ad, A' = some ad ∧ ∀ i p, L[i]? = some p → w.cell? (ad.add (i * 3 + 0)) = some (.int q p.1) ∧ w.cell? (ad.add (i * 3 + 1)) = some (.int q p.2.1) ∧ w.cell? (ad.add (i * 3 + 2)) = some (.bool p.2.2)) := by
      intro j hj
      obtain ⟨hc, htr⟩ := hi j (by omega)
      obtain ⟨A, c, L, he', hL, hcm, hcell⟩ := open_dots he hs hone hC h0 h1 h2 htr
      have hv : V j = .slice A L.length c := by simpa using he'
      exact ⟨L, A, c, by rw [hc, hv], hL, hcm, hcell⟩
    obtain ⟨p, hp⟩ := choose_lt each
    refine ⟨some a, cap, (List.range len).map p, by simp, by simpa using hl, hm, fun _ => ⟨a, rfl, fun i q hq => ?_⟩⟩
    rw [List.getElem?_map] at hq
    by_cases hil : i < len
    · rw [List.getElem?_range hil] at hq
      simp at hq
      subst hq
      exact hp i hil
    · rw [List.getElem?_eq_none (by simpa using hil)] at hq
      simp at hq
end

def m66 (p : Int × Int × Bool) : S66 := ⟨p.1, p.2.1, p.2.2⟩
def m34 (p : Int × Int × Bool) : S34 := ⟨p.1, p.2.1, p.2.2⟩
section
variable {H : Type} {enc : TypeId × Value → H} {w : World} {base : Nat} {spare : Nat → Bool} {held : Bool}
theorem open_rows66 {a : Option Addr} {n c : Nat} {d : DataW H} {ps : List MemPlace} (h : DataW.Trod enc Try.prog w base spare held 22 (.slice a n c) d ps) :
    ∃ l : List (List S66), l.length = n ∧ Kd.C (Kd.slice 66 k66) w a l.length l ∧ l.length ≤ c := by
  obtain ⟨fuel, hf⟩ := h
  obtain ⟨A, c', LL, he, hl, hm, hcell⟩ := open_dotRows Try.underlying22 Try.underlying63 Try.underlying66 (by kernel_rfl) (by kernel_rfl) (by kernel_rfl) Try.underlying64 Try.underlying64 Try.underlying4 hf
  have he' : a = A ∧ n = LL.length ∧ c = c' := by simpa [Value.cells] using he
  obtain ⟨rfl, rfl, rfl⟩ := he'
  refine ⟨LL.map (List.map m66), by simp, ⟨rfl, by simp; unfold maxLen at hm; omega, fun h0 => ?_⟩, by simpa using hl⟩
  obtain ⟨ad, rfl, hc⟩ := hcell (by simpa using h0)
  refine ⟨ad, rfl, fun j L' hj => ?_⟩
  rw [List.getElem?_map] at hj
  obtain ⟨L, hL, rfl⟩ := Option.map_eq_some_iff.1 hj
  obtain ⟨A', c', h1, h2, h3, h4⟩ := hc j L hL
  refine ⟨_, rfl, ⟨A', c', rfl, by simpa using h2, ⟨rfl, by simp; unfold maxLen at h3; omega, fun h0 => ?_⟩⟩, fun i u hu => ?_⟩
  · obtain ⟨ad', rfl, hc'⟩ := h4 (by simpa using h0)
    refine ⟨ad', rfl, fun i p' hi => ?_⟩
    rw [List.getElem?_map] at hi
    obtain ⟨p, hp, rfl⟩ := Option.map_eq_some_iff.1 hi
    obtain ⟨q0, q1, q2⟩ := hc' i p hp
    refine ⟨_, rfl, k66_mk _ _, fun r u hu => ?_⟩
    have hsz : k66.sz = 3 := rfl
    rw [hsz]
    match r, hu with
    | 0, hu => rw [q0]; simpa [m66, m34] using hu
    | 1, hu => rw [q1]; simpa [m66, m34] using hu
    | 2, hu => rw [q2]; simpa [m66, m34] using hu
    | r + 3, hu => simp at hu
  · have hi : i = 0 := by
      match i, hu with
      | 0, _ => rfl
      | i + 1, hu => simp at hu
    subst hi
    have hsz : (Kd.slice 66 k66).sz = 1 := rfl
    rw [hsz, Nat.mul_one, Nat.add_zero, h1]
    simpa using hu
theorem open_rows34 {a : Option Addr} {n c : Nat} {d : DataW H} {ps : List MemPlace} (h : DataW.Trod enc Try.prog w base spare held 24 (.slice a n c) d ps) :
    ∃ l : List (List S34), l.length = n ∧ Kd.C (Kd.slice 34 k34) w a l.length l ∧ l.length ≤ c := by
  obtain ⟨fuel, hf⟩ := h
  obtain ⟨A, c', LL, he, hl, hm, hcell⟩ := open_dotRows Try.underlying24 Try.underlying28 Try.underlying34 (by kernel_rfl) (by kernel_rfl) (by kernel_rfl) Try.underlying3 Try.underlying3 Try.underlying4 hf
  have he' : a = A ∧ n = LL.length ∧ c = c' := by simpa [Value.cells] using he
  obtain ⟨rfl, rfl, rfl⟩ := he'
  refine ⟨LL.map (List.map m34), by simp, ⟨rfl, by simp; unfold maxLen at hm; omega, fun h0 => ?_⟩, by simpa using hl⟩
  obtain ⟨ad, rfl, hc⟩ := hcell (by simpa using h0)
  refine ⟨ad, rfl, fun j L' hj => ?_⟩
  rw [List.getElem?_map] at hj
  obtain ⟨L, hL, rfl⟩ := Option.map_eq_some_iff.1 hj
  obtain ⟨A', c', h1, h2, h3, h4⟩ := hc j L hL
  refine ⟨_, rfl, ⟨A', c', rfl, by simpa using h2, ⟨rfl, by simp; unfold maxLen at h3; omega, fun h0 => ?_⟩⟩, fun i u hu => ?_⟩
  · obtain ⟨ad', rfl, hc'⟩ := h4 (by simpa using h0)
    refine ⟨ad', rfl, fun i p' hi => ?_⟩
    rw [List.getElem?_map] at hi
    obtain ⟨p, hp, rfl⟩ := Option.map_eq_some_iff.1 hi
    obtain ⟨q0, q1, q2⟩ := hc' i p hp
    refine ⟨_, rfl, k34_mk _ _, fun r u hu => ?_⟩
    have hsz : k34.sz = 3 := rfl
    rw [hsz]
    match r, hu with
    | 0, hu => rw [q0]; simpa [m66, m34] using hu
    | 1, hu => rw [q1]; simpa [m66, m34] using hu
    | 2, hu => rw [q2]; simpa [m66, m34] using hu
    | r + 3, hu => simp at hu
  · have hi : i = 0 := by
      match i, hu with
      | 0, _ => rfl
      | i + 1, hu => simp at hu
    subst hi
    have hsz : (Kd.slice 34 k34).sz = 1 := rfl
    rw [hsz, Nat.mul_one, Nat.add_zero, h1]
    simpa using hu
end
end Go.Proofs.Ytjealbaomhjoaaa
