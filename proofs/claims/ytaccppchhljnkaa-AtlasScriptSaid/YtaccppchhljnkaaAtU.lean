/- Atlases: one, and its model, made; deeds, counted; rows of deeds. -/
import Derived.Test.YtaccppchhljnkaaMdW
import Derived.Test.YtaccppchhljnkaaSkyReb
import Derived.Deep.Slices
import Derived.Deep.Fields
import Derived.ChangeSame
set_option linter.unusedVariables false
set_option linter.unusedSimpArgs false
namespace Go.Proofs.Ytaccppchhljnkaa
section
open Go.ChangeShapes Go.WideShapes Go.Deep Go.RowKit Go.Proofs.YtaccppchhljnkaaW.PrintWords Go.Proofs.YtaccppchhljnkaaW.PrintMore
abbrev Ax := Int × Int × Int × Int × Int
def kax : Kd Ax := (Kd.pair (Kd.int .u8) (Kd.pair (Kd.int .u8) (Kd.pair (Kd.int .u8) (Kd.pair (Kd.int .u8) (Kd.int .u8)))))
theorem kax_open {w : World} {x : Ax} {cs : List Value} (h : kax.K w x cs) : cs = [.int .u8 x.1, .int .u8 x.2.1, .int .u8 x.2.2.1, .int .u8 x.2.2.2.1, .int .u8 x.2.2.2.2] := by
  obtain ⟨_, _, rfl, rfl, _, _, rfl, rfl, _, _, rfl, rfl, _, _, rfl, rfl, rfl⟩ := h
  rfl
theorem kax_mkM (w : World) (base : Nat) (ok : Nat → Prop) (x : Ax) : kax.M w base ok x [.int .u8 x.1, .int .u8 x.2.1, .int .u8 x.2.2.1, .int .u8 x.2.2.2.1, .int .u8 x.2.2.2.2] := ⟨[.int .u8 x.1], [.int .u8 x.2.1, .int .u8 x.2.2.1, .int .u8 x.2.2.2.1, .int .u8 x.2.2.2.2], rfl, rfl, ⟨[.int .u8 x.2.1], [.int .u8 x.2.2.1, .int .u8 x.2.2.2.1, .int .u8 x.2.2.2.2], rfl, rfl, ⟨[.int .u8 x.2.2.1], [.int .u8 x.2.2.2.1, .int .u8 x.2.2.2.2], rfl, rfl, ⟨[.int .u8 x.2.2.2.1], [.int .u8 x.2.2.2.2], rfl, rfl, rfl⟩⟩⟩⟩
theorem kax_mk (w : World) (x : Ax) : kax.K w x [.int .u8 x.1, .int .u8 x.2.1, .int .u8 x.2.2.1, .int .u8 x.2.2.2.1, .int .u8 x.2.2.2.2] := kax.K_of_M (kax_mkM w 0 (fun _ => True) x)
theorem ax_at {W : World} {ad : Addr} {n : Nat} {xs : List Ax} (h : Kd.C kax W (some ad) n xs) (i : Nat) (hi : i < n) (r : Ax) (hr : xs.getD i (0, 0, 0, 0, 0) = r) :
    W.cell? (ad.add (i * 5)) = some (.int .u8 r.1) ∧ W.cell? ⟨(ad.add (i * 5)).block, (ad.add (i * 5)).off + 1, none⟩ = some (.int .u8 r.2.1) ∧ W.cell? ⟨(ad.add (i * 5)).block, (ad.add (i * 5)).off + 2, none⟩ = some (.int .u8 r.2.2.1) ∧ W.cell? ⟨(ad.add (i * 5)).block, (ad.add (i * 5)).off + 3, none⟩ = some (.int .u8 r.2.2.2.1) ∧ W.cell? ⟨(ad.add (i * 5)).block, (ad.add (i * 5)).off + 4, none⟩ = some (.int .u8 r.2.2.2.2) := by
  obtain ⟨ad', c, e, _, hK, hc0⟩ := Kd.C_get h (0, 0, 0, 0, 0) (i : Int) (by omega) (by omega)
  injection e with e
  subst e
  subst hr
  have hc : ∀ j u, c[j]? = some u → W.cell? (ad.add (i * 5 + j)) = some u := hc0
  obtain rfl := kax_open hK
  exact ⟨hc 0 _ rfl, by rw [← add_field _ _ 1 (by omega)]; exact hc 1 _ rfl, by rw [← add_field _ _ 2 (by omega)]; exact hc 2 _ rfl, by rw [← add_field _ _ 3 (by omega)]; exact hc 3 _ rfl, by rw [← add_field _ _ 4 (by omega)]; exact hc 4 _ rfl⟩
section
variable {H : Type} {enc : TypeId × Value → H} {P : Program} {w : World} {base : Nat} {spare : Nat → Bool} {held : Bool}
theorem open_acts_raw {t e : TypeId} {f0 f1 f2 f3 f4 : Field} {fuel : Nat} {cs : List Value} {x : DataW H × List MemPlace} (ht : P.underlying t = some (.slice e)) (he : P.underlying e = some (.struct #[f0, f1, f2, f3, f4]))
    (hone : oneCellFields P #[f0, f1, f2, f3, f4] = true) (hC : P.cellsOf e = 5) (h0 : P.underlying f0.type = some (.int .u8)) (h1 : P.underlying f1.type = some (.int .u8)) (h2 : P.underlying f2.type = some (.int .u8)) (h3 : P.underlying f3.type = some (.int .u8)) (h4 : P.underlying f4.type = some (.int .u8))
    (h : DataW.trod enc P w base spare held fuel t cs = some x) :
    ∃ (A : Option Addr) (c : Nat) (L : List Ax), cs = [.slice A L.length c] ∧ L.length ≤ c ∧ c ≤ maxLen ∧ (∀ p ∈ L, (Lit.int .u8 p.1).wf = true ∧ (Lit.int .u8 p.2.1).wf = true ∧ (Lit.int .u8 p.2.2.1).wf = true ∧ (Lit.int .u8 p.2.2.2.1).wf = true ∧ (Lit.int .u8 p.2.2.2.2).wf = true) ∧
      (0 < L.length → ∃ ad, A = some ad ∧ ∀ i p, L[i]? = some p → w.cell? (ad.add (i * 5 + 0)) = some (.int .u8 p.1) ∧ w.cell? (ad.add (i * 5 + 1)) = some (.int .u8 p.2.1) ∧ w.cell? (ad.add (i * 5 + 2)) = some (.int .u8 p.2.2.1) ∧ w.cell? (ad.add (i * 5 + 3)) = some (.int .u8 p.2.2.2.1) ∧ w.cell? (ad.add (i * 5 + 4)) = some (.int .u8 p.2.2.2.2)) := by
  rcases open_slice ht h with ⟨rfl, _⟩ | ⟨a, len, cap, m, n, D, Pl, rfl, hb, hl, hm, hmm, _, hi⟩
  · exact ⟨none, 0, [], rfl, Nat.le_refl _, Nat.zero_le _, fun p hp => by simp at hp, fun h => by simp at h⟩
  · have hlm : len ≤ m := by rw [hmm]; split <;> omega
    have each : ∀ i, i < len → ∃ p : Ax, ((Lit.int .u8 p.1).wf = true ∧ (Lit.int .u8 p.2.1).wf = true ∧ (Lit.int .u8 p.2.2.1).wf = true ∧ (Lit.int .u8 p.2.2.2.1).wf = true ∧ (Lit.int .u8 p.2.2.2.2).wf = true) ∧ w.cell? (a.add (i * 5 + 0)) = some (.int .u8 p.1) ∧ w.cell? (a.add (i * 5 + 1)) = some (.int .u8 p.2.1) ∧ w.cell? (a.add (i * 5 + 2)) = some (.int .u8 p.2.2.1) ∧ w.cell? (a.add (i * 5 + 3)) = some (.int .u8 p.2.2.2.1) ∧ w.cell? (a.add (i * 5 + 4)) = some (.int .u8 p.2.2.2.2) := by
      intro i hil
      obtain ⟨cs', hc, ht'⟩ := hi i (by omega)
      rw [hC] at hc
      obtain ⟨_, hcl, hat⟩ := World.cells?_some hc
      obtain ⟨ys, n', hn', hy, hlen, hyl, hf⟩ := DataW.trod_struct he ht'
      match cs', hcl with
      | [c0, c1, c2, c3, c4], _ =>
        have hyl' : ys.length = 5 := hyl
        obtain ⟨o0, k0⟩ := hone_of hone 0 f0 rfl
        have g0 := hf 0 f0 rfl
        have y0 : ys[0]? = some (ys[0]'(by omega)) := List.getElem?_eq_getElem (by omega)
        rw [o0, k0, y0] at g0
        obtain ⟨x0, e0, _, w0⟩ := DataW.trod_int h0 g0
        have e0' : c0 = .int .u8 x0 := by simpa using e0
        obtain ⟨o1, k1⟩ := hone_of hone 1 f1 rfl
        have g1 := hf 1 f1 rfl
        have y1 : ys[1]? = some (ys[1]'(by omega)) := List.getElem?_eq_getElem (by omega)
        rw [o1, k1, y1] at g1
        obtain ⟨x1, e1, _, w1⟩ := DataW.trod_int h1 g1
        have e1' : c1 = .int .u8 x1 := by simpa using e1
        obtain ⟨o2, k2⟩ := hone_of hone 2 f2 rfl
        have g2 := hf 2 f2 rfl
        have y2 : ys[2]? = some (ys[2]'(by omega)) := List.getElem?_eq_getElem (by omega)
        rw [o2, k2, y2] at g2
        obtain ⟨x2, e2, _, w2⟩ := DataW.trod_int h2 g2
        have e2' : c2 = .int .u8 x2 := by simpa using e2
        obtain ⟨o3, k3⟩ := hone_of hone 3 f3 rfl
        have g3 := hf 3 f3 rfl
        have y3 : ys[3]? = some (ys[3]'(by omega)) := List.getElem?_eq_getElem (by omega)
        rw [o3, k3, y3] at g3
        obtain ⟨x3, e3, _, w3⟩ := DataW.trod_int h3 g3
        have e3' : c3 = .int .u8 x3 := by simpa using e3
        obtain ⟨o4, k4⟩ := hone_of hone 4 f4 rfl
        have g4 := hf 4 f4 rfl
        have y4 : ys[4]? = some (ys[4]'(by omega)) := List.getElem?_eq_getElem (by omega)
        rw [o4, k4, y4] at g4
        obtain ⟨x4, e4, _, w4⟩ := DataW.trod_int h4 g4
        have e4' : c4 = .int .u8 x4 := by simpa using e4
        subst e0'; subst e1'; subst e2'; subst e3'; subst e4'
        have a0 := hat 0 (by omega)
        have a1 := hat 1 (by omega)
        have a2 := hat 2 (by omega)
        have a3 := hat 3 (by omega)
        have a4 := hat 4 (by omega)
        rw [Go.Deep.add_add] at a0 a1 a2 a3 a4
        exact ⟨(x0, x1, x2, x3, x4), ⟨w0, w1, w2, w3, w4⟩, a0, a1, a2, a3, a4⟩
    obtain ⟨p, hp⟩ := choose_lt each
    refine ⟨some a, cap, (List.range len).map p, by simp, by simpa using hl, hm, fun q hq => ?_, fun _ => ⟨a, rfl, fun i q hq => ?_⟩⟩
    · obtain ⟨i, hi', rfl⟩ := List.mem_map.1 hq
      exact (hp i (List.mem_range.1 hi')).1
    · rw [List.getElem?_map] at hq
      by_cases hil : i < len
      · rw [List.getElem?_range hil] at hq
        simp only [Option.map_some, Option.some.injEq] at hq
        subst hq
        exact (hp i hil).2
      · rw [List.getElem?_eq_none (by simpa using hil)] at hq
        simp at hq
end
section
variable {H : Type} {enc : TypeId × Value → H} {w : World} {base : Nat} {spare : Nat → Bool} {held : Bool}
theorem open_acts {a : Option Addr} {n c : Nat} {d : DataW H} {ps : List MemPlace} (h : DataW.Trod enc Try.prog w base spare held 22 (.slice a n c) d ps) :
    ∃ l : List Ax, l.length = n ∧ Kd.C kax w a l.length l ∧ l.length ≤ c ∧ (∀ p ∈ l, (Lit.int .u8 p.1).wf = true ∧ (Lit.int .u8 p.2.1).wf = true ∧ (Lit.int .u8 p.2.2.1).wf = true ∧ (Lit.int .u8 p.2.2.2.1).wf = true ∧ (Lit.int .u8 p.2.2.2.2).wf = true) := by
  obtain ⟨fuel, hf⟩ := h
  obtain ⟨A, c', L, he, hl, hm, hw, hcell⟩ := open_acts_raw Try.underlying22 Try.underlying35 (by kernel_rfl) (by kernel_rfl) Try.underlying5 Try.underlying5 Try.underlying5 Try.underlying5 Try.underlying5 hf
  have he' : a = A ∧ n = L.length ∧ c = c' := by simpa [Value.cells] using he
  obtain ⟨rfl, rfl, rfl⟩ := he'
  refine ⟨L, rfl, ⟨rfl, by unfold maxLen at hm; omega, fun h0 => ?_⟩, hl, hw⟩
  obtain ⟨ad, rfl, hc⟩ := hcell h0
  refine ⟨ad, rfl, fun j p hj => ?_⟩
  obtain ⟨q0, q1, q2, q3, q4⟩ := hc j p hj
  refine ⟨[.int .u8 p.1, .int .u8 p.2.1, .int .u8 p.2.2.1, .int .u8 p.2.2.2.1, .int .u8 p.2.2.2.2], rfl, kax_mk _ _, fun r u hu => ?_⟩
  have hsz : kax.sz = 5 := rfl
  rw [hsz]
  match r, hu with
  | 0, hu => rw [q0]; simpa using hu
  | 1, hu => rw [q1]; simpa using hu
  | 2, hu => rw [q2]; simpa using hu
  | 3, hu => rw [q3]; simpa using hu
  | 4, hu => rw [q4]; simpa using hu
  | r + 5, hu => simp at hu
end

end
section
open Go.RowKit Go.Shelf Go.Proofs.YtaccppchhljnkaaW.PrintWords Go.Proofs.YtaccppchhljnkaaW.PrintLast Go.Proofs.YtaccppchhljnkaaW.PrintMore
attribute [local go_sem] max2_max min2_min max_two min_two
set_option maxHeartbeats 4000000 in
set_option maxRecDepth 100000 in
theorem new_c (W0 : World) (x y z : Int) (hx : 0 ≤ x ∧ x ≤ 255) (hy : 0 ≤ y ∧ y ≤ 255) (hz : 0 ≤ z ∧ z ≤ 255) (W H pad : Nat) (hW : (W : Int) = max 1 (min (x % 70) 64)) (hH : (H : Int) = max 1 (min (y % 70) 64)) (hpad : (pad : Int) = max 0 (min (z % 7 - 1) 4)) :
    Calls Try.prog 10 #[.int .u8 x, .int .u8 y, .int .u8 z] W0 fun e w' => ∃ b bm, e = .returned (.tuple #[.pointer (some ⟨b, 0, none⟩), .pointer (some ⟨bm, 0, none⟩)]) ∧ Two (fun q => q < W0.heap.size) W0 w' b bm W H pad (zeroS W) (zeroS W) (fun _ => none) := by
  obtain ⟨x0, x1⟩ := hx
  obtain ⟨y0, y1⟩ := hy
  obtain ⟨z0, z1⟩ := hz
  have tx : x.tmod 70 = x % 70 := Int.tmod_eq_emod_of_nonneg x0
  have ty : y.tmod 70 = y % 70 := Int.tmod_eq_emod_of_nonneg y0
  have tz : z.tmod 7 = z % 7 := Int.tmod_eq_emod_of_nonneg z0
  have wx : IntKind.i64.wrap (x % 70) = x % 70 := by rw [IntKind.wrap_i64]; omega
  have wy : IntKind.i64.wrap (y % 70) = y % 70 := by rw [IntKind.wrap_i64]; omega
  have wz : IntKind.i64.wrap (z % 7) = z % 7 := by rw [IntKind.wrap_i64]; omega
  have wz1 : IntKind.i64.wrap (z % 7 - 1) = z % 7 - 1 := by rw [IntKind.wrap_i64]; omega
  have HOF := Lib.hid (fun w => ofA_c w (x % 70) (y % 70) (z % 7 - 1))
  rw [← hW, ← hH, ← hpad, Int.toNat_natCast, Int.toNat_natCast, Int.toNat_natCast] at HOF
  have hw1 : 1 ≤ W ∧ W ≤ 64 := by omega
  have hh1 : 1 ≤ H ∧ H ≤ 64 := by omega
  have hp4 : pad ≤ 4 := by omega
  have hsw : side (W : Int) = W := by unfold side; omega
  have hsh : side (H : Int) = H := by unfold side; omega
  have hof := fun W' => of_c W' W H
  rw [hsw, hsh] at hof
  have HSK := Lib.hid hof
  have hz0 : ∀ W' : World, (Instr.makeMap 30 none).run Try.prog W' = .ok (.map (some W'.heap.size)) (W'.alloc (.map #[] 0)) := fun _ => rfl
  have hz1 : ∀ W' : World, (Instr.makeMap 31 none).run Try.prog W' = .ok (.map (some W'.heap.size)) (W'.alloc (.map #[] 0)) := fun _ => rfl
  have hW' := hW.symm; have hH' := hH.symm; have hpad' := hpad.symm
  clear hof hsw hsh hW hH hpad
  go_enter Try.func10, Try.ntmps10
  go_wp2_with fail
  refine (HOF.out _).mono ?_
  rintro e w1 ⟨b, c, rfl, hA, ho, hb⟩
  have HA1 := Lib.hid hA; have HO1 := Lib.hid ho; have HB1 := Lib.hid hb
  clear hA ho hb HOF
  go_upto_region 3 with (fail)
  have g0 := heap_alloc_new w1 (.map #[] 0)
  have b0 := below_alloc (Below.refl _ w1) (.map #[] 0)
  have z0' : (w1.alloc (.map #[] 0)).heap.size = w1.heap.size + 1 := World.size_alloc _ _
  generalize w1.alloc (.map #[] 0) = v1 at *
  have g1 := heap_alloc_new v1 (.map #[] 0)
  have b1 := below_alloc (Below.refl _ v1) (.map #[] 0)
  have z1' : (v1.alloc (.map #[] 0)).heap.size = v1.heap.size + 1 := World.size_alloc _ _
  generalize v1.alloc (.map #[] 0) = v2 at *
  have g2 := heap_alloc_new v2 (.cells #[.int .i64 W, .int .i64 H, .int .i64 pad, .pointer none, .slice none 0 0, .map (some w1.heap.size), .map (some (w1.heap.size + 1)), .slice none 0 0] 33)
  have b2 := below_alloc (Below.refl _ v2) (.cells #[.int .i64 W, .int .i64 H, .int .i64 pad, .pointer none, .slice none 0 0, .map (some w1.heap.size), .map (some (w1.heap.size + 1)), .slice none 0 0] 33)
  have z2' : (v2.alloc (.cells #[.int .i64 W, .int .i64 H, .int .i64 pad, .pointer none, .slice none 0 0, .map (some w1.heap.size), .map (some (w1.heap.size + 1)), .slice none 0 0] 33)).heap.size = v2.heap.size + 1 := World.size_alloc _ _
  generalize v2.alloc (.cells #[.int .i64 W, .int .i64 H, .int .i64 pad, .pointer none, .slice none 0 0, .map (some w1.heap.size), .map (some (w1.heap.size + 1)), .slice none 0 0] 33) = v3 at *
  rw [z0'] at g1 z1'
  rw [z1'] at g2 z2'
  have G0 := Lib.hid (blk_below (blk_below g0 b1) b2); have G1 := Lib.hid (blk_below g1 b2); have G2 := Lib.hid g2
  have HB3 := Lib.hid (below_step (below_step b0 b1) b2)
  have HZ3 : Hid (v3.heap.size = w1.heap.size + 3) := Lib.hid (by omega)
  clear g0 b0 z0' g1 b1 z1' g2 b2 z2' hz0 hz1 hW' hH' hpad'
  obtain ⟨bm, hbm⟩ : ∃ bm, w1.heap.size + 1 + 1 = bm := ⟨_, rfl⟩
  rw [hbm] at G2 ⊢
  have c0 : v3.cell? ⟨bm, 0, none⟩ = some (.int .i64 W) := (blk_cell G2.out 0).trans rfl
  have c1 : v3.cell? ⟨bm, 1, none⟩ = some (.int .i64 H) := (blk_cell G2.out 1).trans rfl
  have HBM := Lib.hid hbm
  clear hbm
  go_region_held3 (fun w' => w'.cell? ⟨bm, 0, none⟩ = some (.int .i64 W) ∧ w'.cell? ⟨bm, 1, none⟩ = some (.int .i64 H)) (first
    | assumption
    | exact ⟨c0, c1⟩
    | exact ⟨x2, x3⟩
    | exact ⟨y2, y3⟩) ((go_at_call 24; refine (HSK.out v3.drew).mono ?_; rintro e w4 ⟨g, rfl, hg, hsky, hb4⟩; have x2 := pw_cell_below hb4 (show v3.drew.cell? _ = _ from c0); have x3 := pw_cell_below hb4 (show v3.drew.cell? _ = _ from c1); have gm4 := blk_below (show v3.drew.heap[bm]? = _ from G2.out) hb4; have x5 : w4.cell? ⟨bm, 3, none⟩ = some (.pointer none) := (blk_cell gm4 3).trans rfl; have x6 : w4.frozen? ⟨bm, 3, none⟩ = false := blk_frozen gm4 3; have hset := heap_setCell_in (off := 3) (.pointer (some ⟨g, 0, none⟩)) gm4; have y2 : (w4.setCell ⟨bm, 3, none⟩ (.pointer (some ⟨g, 0, none⟩))).cell? ⟨bm, 0, none⟩ = some (.int .i64 W) := (blk_cell hset 0).trans rfl; have y3 : (w4.setCell ⟨bm, 3, none⟩ (.pointer (some ⟨g, 0, none⟩))).cell? ⟨bm, 1, none⟩ = some (.int .i64 H) := (blk_cell hset 1).trans rfl; have Z1 := Lib.hid hg; have Z2 := Lib.hid hsky; have Z3 := Lib.hid hb4; have Z4 := Lib.hid hset; clear hg hsky hb4 gm4 hset))
  all_goals
    go_wp2_with fail
    refine bodyPost_ret (results_tmp2 rfl _ _ _) rfl ?_
    have hg : v3.heap.size ≤ g := Z1.out
    have hb4 : Below v3.heap.size v3 w4 := (below_drew (Below.refl _ _)).trans Z3.out
    have hkk := Kept.setCell (· = bm) w4 ⟨bm, 3, none⟩ (.pointer (some ⟨g, 0, none⟩)) rfl
    have hzz := HZ3.out; have hbm := HBM.out
    have hB14 : Below w1.heap.size w1 (w4.setCell ⟨bm, 3, none⟩ (.pointer (some ⟨g, 0, none⟩))) := (below_step HB3.out hb4).trans (hkk.below (by have := HB3.out.size; have := hb4.size; omega) (fun q hq => by subst hq; omega))
    have hA4 := HA1.out.below hB14
    have g0 := hkk.get (blk_below G0.out hb4) (by omega)
    have g1 := hkk.get (blk_below G1.out hb4) (by omega)
    have hs01 := HB1.out.size
    have hms : ∀ (β : Type) (E : β → Value) (q : Nat), (w4.setCell ⟨bm, 3, none⟩ (.pointer (some ⟨g, 0, none⟩))).heap[q]? = some (.map #[] 0) → MapIs Try.prog 9 (w4.setCell ⟨bm, 3, none⟩ (.pointer (some ⟨g, 0, none⟩))) q Lk E 0 (fun _ => none) 0 := fun β E q hq =>
      ⟨.map [], ⟨#[], 0, hq, ⟨by simp, Go.MapKept.stamped_empty 0, by simp⟩, Nat.le_refl _, rfl⟩, fun _ => rfl, fun _ _ => rfl, rfl⟩
    have hraw : MdRaw (w4.setCell ⟨bm, 3, none⟩ (.pointer (some ⟨g, 0, none⟩))) bm W H pad ⟨g, .slice none 0 0, w1.heap.size, w1.heap.size + 1, .slice none 0 0⟩ (List.replicate W 0) [] (fun _ => none) 0 (fun _ => none) 0 [] :=
      ⟨Z4.out, Z2.out.kept hkk (by show g ≠ bm; omega) (fun q hq cells hc => by
        subst hq
        have h9 := blk_below G2.out hb4
        rw [h9] at hc; injection hc with hc; injection hc with _ hc; exact absurd hc (by decide)), SlO.nil _ _ _, hms _ _ _ g0, hms _ _ _ g1, SlO.nil _ _ _, fun q hq => by simp [Value.ownBlock] at hq, by show w1.heap.size ≠ w1.heap.size + 1; omega⟩
    have hown : ∀ q, (⟨g, .slice none 0 0, w1.heap.size, w1.heap.size + 1, .slice none 0 0⟩ : MdC).own bm q → w1.heap.size ≤ q := by
      rintro q (h | h | h | h | h | h)
      · omega
      · have h' : q = g := h
        omega
      · have h' : q = w1.heap.size := h
        omega
      · have h' : q = w1.heap.size + 1 := h
        omega
      · simp [Value.ownBlock] at h
      · simp [Value.ownBlock] at h
    refine ⟨b, bm, rfl, c, ⟨g, .slice none 0 0, w1.heap.size, w1.heap.size + 1, .slice none 0 0⟩, hA4, ⟨hraw, hw1, hh1, hp4, AtI.zero W H pad, fun k hk => by simp [zeroS] at hk, fun k => by simp [zeroS]⟩, fun q hq e => ?_, fun q hq => ⟨fun e => ?_, fun e => ?_, hq⟩, ?_, fun u x hx => by cases hx⟩
    · have := HA1.out.lt hq
      have := hown q e
      omega
    · have := HO1.out q e
      omega
    · have := hown q e
      omega
    · exact Kept.of_below _ (HB1.out.trans (hB14.mono hs01))
end
open Go.RowKit Go.Shelf Go.Proofs.YtaccppchhljnkaaW.PrintWords Go.Proofs.YtaccppchhljnkaaW.PrintLast Go.Proofs.YtaccppchhljnkaaW.PrintMore
theorem loadV_le (w h pad : Nat) (s : AtS) (hnd : s.keys.Nodup) (k : ByteArray) (fw fh : Int) (t : List Int) : (loadV w h pad s k fw fh t).2.gone.length + (loadV w h pad s k fw fh t).2.keys.length ≤ s.gone.length + s.keys.length + 1 := by
  unfold loadV
  split
  · show s.gone.length + s.keys.length ≤ _; omega
  · split
    · show s.gone.length + s.keys.length ≤ _; omega
    · split
      · show s.gone.length + s.keys.length ≤ _; omega
      · cases hr : room w h (fw + 2 * pad) (fh + 2 * pad) s with
        | none => show s.gone.length + s.keys.length ≤ _; omega
        | some p =>
          obtain ⟨B, sF⟩ := p
          obtain ⟨_, _, _, i, h1, h2, h3⟩ := room_keep hnd hr
          show sF.gone.length + (sF.keys ++ [k]).length ≤ _
          rw [h2, h3]
          simp only [List.length_append, List.length_drop, List.length_take, List.length_cons, List.length_nil]
          omega
theorem doS_le (w h pad : Nat) (s : AtS) (hnd : s.keys.Nodup) (o : Int) (k p q : Nat) (i : Int) : (doS w h pad s o k p q i).gone.length + (doS w h pad s o k p q i).keys.length ≤ s.gone.length + s.keys.length + 1 := by
  unfold doS
  split
  · unfold touchV
    split
    · rename_i hm
      show s.gone.length + (s.keys.erase (nmA k) ++ [nmA k]).length ≤ _
      rw [List.length_append, List.length_erase_of_mem hm]
      have := List.length_pos_of_mem hm
      simp only [List.length_cons, List.length_nil]; omega
    · omega
  · split
    · unfold evictV
      split
      · show s.gone.length + (s.keys.erase (nmA k)).length ≤ _
        have := List.length_erase_le (a := nmA k) (l := s.keys)
        omega
      · omega
    · split
      · exact loadV_le w h pad s hnd _ _ _ _
      · exact loadV_le w h pad s hnd _ _ _ _
theorem load_new_two {P : Nat → Prop} {W0 w w' : World} {b bm W H pad : Nat} {sa sm : AtS} {F : ByteArray → Option FV} (h : Two P W0 w b bm W H pad sa sm F) (hb : Below w.heap.size w w') (k : ByteArray) (hkl : k.size ≤ maxLen) (fw fh : Int) (h1 : -1000000 ≤ fw ∧ fw ≤ 1000000) (h2 : -1000000 ≤ fh ∧ fh ≤ 1000000) (A : Option Addr) (n cap : Nat) (t : List Int) (hn : t.length = n) (hn47 : n ≤ 140737488351232)
    (hT : SlO w' 5 1 (.slice A n cap) n (t.map (Value.int .u8))) (hap : ∀ q, (Value.slice A n cap).ownBlock = some q → w.heap.size ≤ q) (h8 : ∀ x ∈ t, 0 ≤ x ∧ x ≤ 255) (hgl : sa.gone.length ≤ 100000) :
    Calls Try.prog 15 #[.pointer (some ⟨b, 0, none⟩), .string k, Ef fw fh (.slice A n cap)] w' fun e w'' => e = .returned (.int .i64 (loadV W H pad sa k fw fh t).1) ∧ Two P W0 w'' b bm W H pad (loadV W H pad sa k fw fh t).2 sm F := by
  have h3 := h.add (Q := fun q => P q ∨ (Value.slice A n cap).ownBlock = some q) hb (fun q hq => by
    rcases hq with hq | hq
    · have := h.lt q hq; have := h.keptP.size; have := hb.size; exact ⟨by omega, .inl hq⟩
    · exact ⟨hT.lt hq, .inr (hap q hq)⟩)
  refine (load_two h3 k hkl fw fh h1 h2 A n cap t hn hn47 hT (fun q hq => .inr hq) h8 hgl).mono ?_
  rintro e w'' ⟨rfl, h4⟩
  exact ⟨rfl, h4.rebase (fun q hq => .inl hq) (h.keptP.trans (Kept.of_below _ hb)) h.lt⟩
end Go.Proofs.Ytaccppchhljnkaa
