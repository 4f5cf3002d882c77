/- Rows of boxes and of rectangles, as a law's arguments. -/
import Derived.Test.YtphclfcidgljkaaSkyReb
import Derived.Deep.Slices
import Derived.Deep.Fields
import Derived.ChangeSame
set_option linter.unusedVariables false
set_option linter.unusedSimpArgs false
namespace Go.Proofs.Ytphclfcidgljkaa
open Go.ChangeShapes Go.WideShapes Go.Deep Go.RowKit Go.Proofs.YtphclfcidgljkaaW.PrintWords Go.Proofs.YtphclfcidgljkaaW.PrintMore
abbrev Bx := Int × Int × Int × Int × Bool
def kbx : Kd Bx := (Kd.pair (Kd.int .u8) (Kd.pair (Kd.int .u8) (Kd.pair (Kd.int .u8) (Kd.pair (Kd.int .u8) Kd.bool))))
theorem kbx_open {w : World} {x : Bx} {cs : List Value} (h : kbx.K w x cs) : cs = [.int .u8 x.1, .int .u8 x.2.1, .int .u8 x.2.2.1, .int .u8 x.2.2.2.1, .bool x.2.2.2.2] := by
  obtain ⟨_, _, rfl, rfl, _, _, rfl, rfl, _, _, rfl, rfl, _, _, rfl, rfl, rfl⟩ := h
  rfl
theorem kbx_mkM (w : World) (base : Nat) (ok : Nat → Prop) (x : Bx) : kbx.M w base ok x [.int .u8 x.1, .int .u8 x.2.1, .int .u8 x.2.2.1, .int .u8 x.2.2.2.1, .bool x.2.2.2.2] := ⟨[.int .u8 x.1], [.int .u8 x.2.1, .int .u8 x.2.2.1, .int .u8 x.2.2.2.1, .bool x.2.2.2.2], rfl, rfl, ⟨[.int .u8 x.2.1], [.int .u8 x.2.2.1, .int .u8 x.2.2.2.1, .bool x.2.2.2.2], rfl, rfl, ⟨[.int .u8 x.2.2.1], [.int .u8 x.2.2.2.1, .bool x.2.2.2.2], rfl, rfl, ⟨[.int .u8 x.2.2.2.1], [.bool x.2.2.2.2], rfl, rfl, rfl⟩⟩⟩⟩
theorem kbx_mk (w : World) (x : Bx) : kbx.K w x [.int .u8 x.1, .int .u8 x.2.1, .int .u8 x.2.2.1, .int .u8 x.2.2.2.1, .bool x.2.2.2.2] := kbx.K_of_M (kbx_mkM w 0 (fun _ => True) x)
theorem bx_at {W : World} {ad : Addr} {n : Nat} {xs : List Bx} (h : Kd.C kbx W (some ad) n xs) (i : Nat) (hi : i < n) (r : Bx) (hr : xs.getD i (0, 0, 0, 0, false) = r) :
    W.cell? (ad.add (i * 5)) = some (.int .u8 r.1) ∧ W.cell? ⟨(ad.add (i * 5)).block, (ad.add (i * 5)).off + 1, none⟩ = some (.int .u8 r.2.1) ∧ W.cell? ⟨(ad.add (i * 5)).block, (ad.add (i * 5)).off + 2, none⟩ = some (.int .u8 r.2.2.1) ∧ W.cell? ⟨(ad.add (i * 5)).block, (ad.add (i * 5)).off + 3, none⟩ = some (.int .u8 r.2.2.2.1) ∧ W.cell? ⟨(ad.add (i * 5)).block, (ad.add (i * 5)).off + 4, none⟩ = some (.bool r.2.2.2.2) := by
  obtain ⟨ad', c, e, _, hK, hc0⟩ := Kd.C_get h (0, 0, 0, 0, false) (i : Int) (by omega) (by omega)
  injection e with e
  subst e
  subst hr
  have hc : ∀ j u, c[j]? = some u → W.cell? (ad.add (i * 5 + j)) = some u := hc0
  obtain rfl := kbx_open hK
  exact ⟨hc 0 _ rfl, by rw [← add_field _ _ 1 (by omega)]; exact hc 1 _ rfl, by rw [← add_field _ _ 2 (by omega)]; exact hc 2 _ rfl, by rw [← add_field _ _ 3 (by omega)]; exact hc 3 _ rfl, by rw [← add_field _ _ 4 (by omega)]; exact hc 4 _ rfl⟩
section
variable {H : Type} {enc : TypeId × Value → H} {P : Program} {w : World} {base : Nat} {spare : Nat → Bool} {held : Bool}
theorem open_boxes_raw {t e : TypeId} {f0 f1 f2 f3 f4 : Field} {fuel : Nat} {cs : List Value} {x : DataW H × List MemPlace} (ht : P.underlying t = some (.slice e)) (he : P.underlying e = some (.struct #[f0, f1, f2, f3, f4]))
    (hone : oneCellFields P #[f0, f1, f2, f3, f4] = true) (hC : P.cellsOf e = 5) (h0 : P.underlying f0.type = some (.int .u8)) (h1 : P.underlying f1.type = some (.int .u8)) (h2 : P.underlying f2.type = some (.int .u8)) (h3 : P.underlying f3.type = some (.int .u8)) (h4 : P.underlying f4.type = some .bool)
    (h : DataW.trod enc P w base spare held fuel t cs = some x) :
    ∃ (A : Option Addr) (c : Nat) (L : List Bx), cs = [.slice A L.length c] ∧ L.length ≤ c ∧ c ≤ maxLen ∧ (∀ p ∈ L, (Lit.int .u8 p.1).wf = true ∧ (Lit.int .u8 p.2.1).wf = true ∧ (Lit.int .u8 p.2.2.1).wf = true ∧ (Lit.int .u8 p.2.2.2.1).wf = true) ∧
      (0 < L.length → ∃ ad, A = some ad ∧ ∀ i p, L[i]? = some p → w.cell? (ad.add (i * 5 + 0)) = some (.int .u8 p.1) ∧ w.cell? (ad.add (i * 5 + 1)) = some (.int .u8 p.2.1) ∧ w.cell? (ad.add (i * 5 + 2)) = some (.int .u8 p.2.2.1) ∧ w.cell? (ad.add (i * 5 + 3)) = some (.int .u8 p.2.2.2.1) ∧ w.cell? (ad.add (i * 5 + 4)) = some (.bool p.2.2.2.2)) := by
  rcases open_slice ht h with ⟨rfl, _⟩ | ⟨a, len, cap, m, n, D, Pl, rfl, hb, hl, hm, hmm, _, hi⟩
  · exact ⟨none, 0, [], rfl, Nat.le_refl _, Nat.zero_le _, fun p hp => by simp at hp, fun h => by simp at h⟩
  · have hlm : len ≤ m := by rw [hmm]; split <;> omega
    have each : ∀ i, i < len → ∃ p : Bx, ((Lit.int .u8 p.1).wf = true ∧ (Lit.int .u8 p.2.1).wf = true ∧ (Lit.int .u8 p.2.2.1).wf = true ∧ (Lit.int .u8 p.2.2.2.1).wf = true) ∧ w.cell? (a.add (i * 5 + 0)) = some (.int .u8 p.1) ∧ w.cell? (a.add (i * 5 + 1)) = some (.int .u8 p.2.1) ∧ w.cell? (a.add (i * 5 + 2)) = some (.int .u8 p.2.2.1) ∧ w.cell? (a.add (i * 5 + 3)) = some (.int .u8 p.2.2.2.1) ∧ w.cell? (a.add (i * 5 + 4)) = some (.bool p.2.2.2.2) := by
      intro i hil
      obtain ⟨cs', hc, ht'⟩ := hi i (by omega)
      rw [hC] at hc
      obtain ⟨_, hcl, hat⟩ := World.cells?_some hc
      obtain ⟨ys, n', hn', hy, hlen, hyl, hf⟩ := DataW.trod_struct he ht'
      match cs', hcl with
      | [c0, c1, c2, c3, c4], _ =>
        have hyl' : ys.length = 5 := hyl
        obtain ⟨o0, k0⟩ := hone_of hone 0 f0 rfl
        have g0 := hf 0 f0 rfl
        have y0 : ys[0]? = some (ys[0]'(by omega)) := List.getElem?_eq_getElem (by omega)
        rw [o0, k0, y0] at g0
        obtain ⟨x0, e0, _, w0⟩ := DataW.trod_int h0 g0
        have e0' : c0 = .int .u8 x0 := by simpa using e0
        obtain ⟨o1, k1⟩ := hone_of hone 1 f1 rfl
        have g1 := hf 1 f1 rfl
        have y1 : ys[1]? = some (ys[1]'(by omega)) := List.getElem?_eq_getElem (by omega)
        rw [o1, k1, y1] at g1
        obtain ⟨x1, e1, _, w1⟩ := DataW.trod_int h1 g1
        have e1' : c1 = .int .u8 x1 := by simpa using e1
        obtain ⟨o2, k2⟩ := hone_of hone 2 f2 rfl
        have g2 := hf 2 f2 rfl
        have y2 : ys[2]? = some (ys[2]'(by omega)) := List.getElem?_eq_getElem (by omega)
        rw [o2, k2, y2] at g2
        obtain ⟨x2, e2, _, w2⟩ := DataW.trod_int h2 g2
        have e2' : c2 = .int .u8 x2 := by simpa using e2
        obtain ⟨o3, k3⟩ := hone_of hone 3 f3 rfl
        have g3 := hf 3 f3 rfl
        have y3 : ys[3]? = some (ys[3]'(by omega)) := List.getElem?_eq_getElem (by omega)
        rw [o3, k3, y3] at g3
        obtain ⟨x3, e3, _, w3⟩ := DataW.trod_int h3 g3
        have e3' : c3 = .int .u8 x3 := by simpa using e3
        obtain ⟨o4, k4⟩ := hone_of hone 4 f4 rfl
        have g4 := hf 4 f4 rfl
        have y4 : ys[4]? = some (ys[4]'(by omega)) := List.getElem?_eq_getElem (by omega)
        rw [o4, k4, y4] at g4
        obtain ⟨x4, e4, _⟩ := DataW.trod_bool h4 g4
        have e4' : c4 = .bool x4 := by simpa using e4
        subst e0'; subst e1'; subst e2'; subst e3'; subst e4'
        have a0 := hat 0 (by omega)
        have a1 := hat 1 (by omega)
        have a2 := hat 2 (by omega)
        have a3 := hat 3 (by omega)
        have a4 := hat 4 (by omega)
        rw [Go.Deep.add_add] at a0 a1 a2 a3 a4
        exact ⟨(x0, x1, x2, x3, x4), ⟨w0, w1, w2, w3⟩, a0, a1, a2, a3, a4⟩
    obtain ⟨p, hp⟩ := choose_lt each
    refine ⟨some a, cap, (List.range len).map p, by simp, by simpa using hl, hm, fun q hq => ?_, fun _ => ⟨a, rfl, fun i q hq => ?_⟩⟩
    · obtain ⟨i, hi', rfl⟩ := List.mem_map.1 hq
      exact (hp i (List.mem_range.1 hi')).1
    · rw [List.getElem?_map] at hq
      by_cases hil : i < len
      · rw [List.getElem?_range hil] at hq
        simp only [Option.map_some, Option.some.injEq] at hq
        subst hq
        exact (hp i hil).2
      · rw [List.getElem?_eq_none (by simpa using hil)] at hq
        simp at hq
end
section
variable {H : Type} {enc : TypeId × Value → H} {w : World} {base : Nat} {spare : Nat → Bool} {held : Bool}
theorem open_boxes {a : Option Addr} {n c : Nat} {d : DataW H} {ps : List MemPlace} (h : DataW.Trod enc Try.prog w base spare held 23 (.slice a n c) d ps) :
    ∃ l : List Bx, l.length = n ∧ Kd.C kbx w a l.length l ∧ l.length ≤ c ∧ (∀ p ∈ l, (Lit.int .u8 p.1).wf = true ∧ (Lit.int .u8 p.2.1).wf = true ∧ (Lit.int .u8 p.2.2.1).wf = true ∧ (Lit.int .u8 p.2.2.2.1).wf = true) := by
  obtain ⟨fuel, hf⟩ := h
  obtain ⟨A, c', L, he, hl, hm, hw, hcell⟩ := open_boxes_raw Try.underlying23 Try.underlying29 (by kernel_rfl) (by kernel_rfl) Try.underlying5 Try.underlying5 Try.underlying5 Try.underlying5 Try.underlying4 hf
  have he' : a = A ∧ n = L.length ∧ c = c' := by simpa [Value.cells] using he
  obtain ⟨rfl, rfl, rfl⟩ := he'
  refine ⟨L, rfl, ⟨rfl, by unfold maxLen at hm; omega, fun h0 => ?_⟩, hl, hw⟩
  obtain ⟨ad, rfl, hc⟩ := hcell h0
  refine ⟨ad, rfl, fun j p hj => ?_⟩
  obtain ⟨q0, q1, q2, q3, q4⟩ := hc j p hj
  refine ⟨[.int .u8 p.1, .int .u8 p.2.1, .int .u8 p.2.2.1, .int .u8 p.2.2.2.1, .bool p.2.2.2.2], rfl, kbx_mk _ _, fun r u hu => ?_⟩
  have hsz : kbx.sz = 5 := rfl
  rw [hsz]
  match r, hu with
  | 0, hu => rw [q0]; simpa using hu
  | 1, hu => rw [q1]; simpa using hu
  | 2, hu => rw [q2]; simpa using hu
  | 3, hu => rw [q3]; simpa using hu
  | 4, hu => rw [q4]; simpa using hu
  | r + 5, hu => simp at hu
end

theorem krc_mk' (w : World) (x : Rc) : krc.K w x [.int .i64 x.1, .int .i64 x.2.1, .int .i64 x.2.2.1, .int .i64 x.2.2.2] := krc.K_of_M (krc_mkM w 0 (fun _ => True) x)
section
variable {H : Type} {enc : TypeId × Value → H} {P : Program} {w : World} {base : Nat} {spare : Nat → Bool} {held : Bool}
theorem open_rects_raw {t e : TypeId} {f0 f1 f2 f3 : Field} {fuel : Nat} {cs : List Value} {x : DataW H × List MemPlace} (ht : P.underlying t = some (.slice e)) (he : P.underlying e = some (.struct #[f0, f1, f2, f3]))
    (hone : oneCellFields P #[f0, f1, f2, f3] = true) (hC : P.cellsOf e = 4) (h0 : P.underlying f0.type = some (.int .i64)) (h1 : P.underlying f1.type = some (.int .i64)) (h2 : P.underlying f2.type = some (.int .i64)) (h3 : P.underlying f3.type = some (.int .i64))
    (h : DataW.trod enc P w base spare held fuel t cs = some x) :
    ∃ (A : Option Addr) (c : Nat) (L : List Rc), cs = [.slice A L.length c] ∧ L.length ≤ c ∧ c ≤ maxLen ∧ (∀ p ∈ L, (Lit.int .i64 p.1).wf = true ∧ (Lit.int .i64 p.2.1).wf = true ∧ (Lit.int .i64 p.2.2.1).wf = true ∧ (Lit.int .i64 p.2.2.2).wf = true) ∧
      (0 < L.length → ∃ ad, A = some ad ∧ ∀ i p, L[i]? = some p → w.cell? (ad.add (i * 4 + 0)) = some (.int .i64 p.1) ∧ w.cell? (ad.add (i * 4 + 1)) = some (.int .i64 p.2.1) ∧ w.cell? (ad.add (i * 4 + 2)) = some (.int .i64 p.2.2.1) ∧ w.cell? (ad.add (i * 4 + 3)) = some (.int .i64 p.2.2.2)) := by
  rcases open_slice ht h with ⟨rfl, _⟩ | ⟨a, len, cap, m, n, D, Pl, rfl, hb, hl, hm, hmm, _, hi⟩
  · exact ⟨none, 0, [], rfl, Nat.le_refl _, Nat.zero_le _, fun p hp => by simp at hp, fun h => by simp at h⟩
  · have hlm : len ≤ m := by rw [hmm]; split <;> omega
    have each : ∀ i, i < len → ∃ p : Rc, ((Lit.int .i64 p.1).wf = true ∧ (Lit.int .i64 p.2.1).wf = true ∧ (Lit.int .i64 p.2.2.1).wf = true ∧ (Lit.int .i64 p.2.2.2).wf = true) ∧ w.cell? (a.add (i * 4 + 0)) = some (.int .i64 p.1) ∧ w.cell? (a.add (i * 4 + 1)) = some (.int .i64 p.2.1) ∧ w.cell? (a.add (i * 4 + 2)) = some (.int .i64 p.2.2.1) ∧ w.cell? (a.add (i * 4 + 3)) = some (.int .i64 p.2.2.2) := by
      intro i hil
      obtain ⟨cs', hc, ht'⟩ := hi i (by omega)
      rw [hC] at hc
      obtain ⟨_, hcl, hat⟩ := World.cells?_some hc
      obtain ⟨ys, n', hn', hy, hlen, hyl, hf⟩ := DataW.trod_struct he ht'
      match cs', hcl with
      | [c0, c1, c2, c3], _ =>
        have hyl' : ys.length = 4 := hyl
        obtain ⟨o0, k0⟩ := hone_of hone 0 f0 rfl
        have g0 := hf 0 f0 rfl
        have y0 : ys[0]? = some (ys[0]'(by omega)) := List.getElem?_eq_getElem (by omega)
        rw [o0, k0, y0] at g0
        obtain ⟨x0, e0, _, w0⟩ := DataW.trod_int h0 g0
        have e0' : c0 = .int .i64 x0 := by simpa using e0
        obtain ⟨o1, k1⟩ := hone_of hone 1 f1 rfl
        have g1 := hf 1 f1 rfl
        have y1 : ys[1]? = some (ys[1]'(by omega)) := List.getElem?_eq_getElem (by omega)
        rw [o1, k1, y1] at g1
        obtain ⟨x1, e1, _, w1⟩ := DataW.trod_int h1 g1
        have e1' : c1 = .int .i64 x1 := by simpa using e1
        obtain ⟨o2, k2⟩ := hone_of hone 2 f2 rfl
        have g2 := hf 2 f2 rfl
        have y2 : ys[2]? = some (ys[2]'(by omega)) := List.getElem?_eq_getElem (by omega)
        rw [o2, k2, y2] at g2
        obtain ⟨x2, e2, _, w2⟩ := DataW.trod_int h2 g2
        have e2' : c2 = .int .i64 x2 := by simpa using e2
        obtain ⟨o3, k3⟩ := hone_of hone 3 f3 rfl
        have g3 := hf 3 f3 rfl
        have y3 : ys[3]? = some (ys[3]'(by omega)) := List.getElem?_eq_getElem (by omega)
        rw [o3, k3, y3] at g3
        obtain ⟨x3, e3, _, w3⟩ := DataW.trod_int h3 g3
        have e3' : c3 = .int .i64 x3 := by simpa using e3
        subst e0'; subst e1'; subst e2'; subst e3'
        have a0 := hat 0 (by omega)
        have a1 := hat 1 (by omega)
        have a2 := hat 2 (by omega)
        have a3 := hat 3 (by omega)
        rw [Go.Deep.add_add] at a0 a1 a2 a3
        exact ⟨(x0, x1, x2, x3), ⟨w0, w1, w2, w3⟩, a0, a1, a2, a3⟩
    obtain ⟨p, hp⟩ := choose_lt each
    refine ⟨some a, cap, (List.range len).map p, by simp, by simpa using hl, hm, fun q hq => ?_, fun _ => ⟨a, rfl, fun i q hq => ?_⟩⟩
    · obtain ⟨i, hi', rfl⟩ := List.mem_map.1 hq
      exact (hp i (List.mem_range.1 hi')).1
    · rw [List.getElem?_map] at hq
      by_cases hil : i < len
      · rw [List.getElem?_range hil] at hq
        simp only [Option.map_some, Option.some.injEq] at hq
        subst hq
        exact (hp i hil).2
      · rw [List.getElem?_eq_none (by simpa using hil)] at hq
        simp at hq
end
section
variable {H : Type} {enc : TypeId × Value → H} {w : World} {base : Nat} {spare : Nat → Bool} {held : Bool}
theorem open_rects {a : Option Addr} {n c : Nat} {d : DataW H} {ps : List MemPlace} (h : DataW.Trod enc Try.prog w base spare held 39 (.slice a n c) d ps) :
    ∃ l : List Rc, l.length = n ∧ Kd.C krc w a l.length l ∧ l.length ≤ c ∧ (∀ p ∈ l, (Lit.int .i64 p.1).wf = true ∧ (Lit.int .i64 p.2.1).wf = true ∧ (Lit.int .i64 p.2.2.1).wf = true ∧ (Lit.int .i64 p.2.2.2).wf = true) := by
  obtain ⟨fuel, hf⟩ := h
  obtain ⟨A, c', L, he, hl, hm, hw, hcell⟩ := open_rects_raw Try.underlying39 Try.underlying31 (by kernel_rfl) (by kernel_rfl) Try.underlying3 Try.underlying3 Try.underlying3 Try.underlying3 hf
  have he' : a = A ∧ n = L.length ∧ c = c' := by simpa [Value.cells] using he
  obtain ⟨rfl, rfl, rfl⟩ := he'
  refine ⟨L, rfl, ⟨rfl, by unfold maxLen at hm; omega, fun h0 => ?_⟩, hl, hw⟩
  obtain ⟨ad, rfl, hc⟩ := hcell h0
  refine ⟨ad, rfl, fun j p hj => ?_⟩
  obtain ⟨q0, q1, q2, q3⟩ := hc j p hj
  refine ⟨[.int .i64 p.1, .int .i64 p.2.1, .int .i64 p.2.2.1, .int .i64 p.2.2.2], rfl, krc_mk' _ _, fun r u hu => ?_⟩
  have hsz : krc.sz = 4 := rfl
  rw [hsz]
  match r, hu with
  | 0, hu => rw [q0]; simpa using hu
  | 1, hu => rw [q1]; simpa using hu
  | 2, hu => rw [q2]; simpa using hu
  | 3, hu => rw [q3]; simpa using hu
  | r + 4, hu => simp at hu
end

end Go.Proofs.Ytphclfcidgljkaa
