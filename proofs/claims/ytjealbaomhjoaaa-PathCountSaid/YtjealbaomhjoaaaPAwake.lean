/- The document's examples of layer 5 hold. -/
import Derived.Test.YtjealbaomhjoaaaClosed
import Derived.KernelRfl
set_option linter.unusedVariables false
set_option linter.unusedSimpArgs false
namespace Go.Proofs.Ytjealbaomhjoaaa
open Go.RowKit Go.Proofs.Ytjealbaomhjoaaa.G Go.Proofs.YtjealbaomhjoaaaW.PrintWords Go.Proofs.YtjealbaomhjoaaaW.PrintMore
theorem lit34 (w W : World) {xs : List S34} {inner : List Value} (hr : Reps (k34.K W) k34.sz xs inner) (hm : xs.length ≤ 9223372036854775807) : ReadsRow (k34.K W) k34.sz (w.alloc (.cells inner.toArray 34)) (some ⟨w.heap.size, 0, none⟩) xs.length xs := by
  obtain ⟨A, c, e, _, h⟩ := (OwnRow.lit (e := 34) w 0 hr (Nat.zero_le _) hm).reads
  injection e with e1 e2 e3
  subst e1; exact h
theorem reps34 (W : World) : ∀ xs : List S34, Reps (k34.K W) k34.sz xs (xs.flatMap fun v => [.int .i64 v.f0, .int .i64 v.f1, .bool v.f2]) := by
  intro xs
  suffices h : ∀ (ys : List S34) (cs : List Value), Reps (k34.K W) k34.sz ys cs → Reps (k34.K W) k34.sz (ys ++ xs) (cs ++ xs.flatMap fun v => [.int .i64 v.f0, .int .i64 v.f1, .bool v.f2]) from by
    simpa using h [] [] (Reps.none _ _)
  induction xs with
  | nil => intro ys cs h; simpa using h
  | cons v vs ih =>
    intro ys cs h
    have := ih (ys ++ [v]) _ (h.snoc (k34_mk W v) rfl)
    simpa using this
theorem lit_reads (w : World) (xs : List S34) (hm : xs.length ≤ 1000) : Kd.C k34 (w.alloc (.cells (xs.flatMap fun v => [.int .i64 v.f0, .int .i64 v.f1, .bool v.f2]).toArray 34)) (some ⟨w.heap.size, 0, none⟩) xs.length xs :=
  lit34 w _ (reps34 _ xs) (by omega)
theorem C_takeP {α : Type} {d : Kd α} {w : World} {A : Option Addr} {n : Nat} {xs : List α} (h : d.C w A n xs) (m : Nat) (hm : m ≤ n) : d.C w A m (xs.take m) := by
  refine ⟨by rw [List.length_take, h.1]; omega, by have := h.2.1; omega, fun h0 => ?_⟩
  obtain ⟨ad, e, hc⟩ := h.2.2 (by omega)
  refine ⟨ad, e, fun j p hj => hc j p ?_⟩
  rw [List.getElem?_take] at hj
  split at hj
  · exact hj
  · cases hj
def four : List S34 := [⟨0, 0, true⟩, ⟨4, 0, false⟩, ⟨4, 4, false⟩, ⟨0, 4, true⟩]
def fourS : List S38 := [⟨⟨0, 0⟩, ⟨8, 0⟩, ⟨8, 4⟩, true⟩, ⟨⟨8, 4⟩, ⟨8, 8⟩, ⟨0, 8⟩, true⟩, ⟨⟨0, 8⟩, ⟨0, 8⟩, ⟨0, 0⟩, false⟩]
theorem seg_four : segF four = fourS := by kernel_rfl
theorem seg_one : segF [⟨1, 2, true⟩] = [⟨⟨2, 4⟩, ⟨2, 4⟩, ⟨2, 4⟩, false⟩] := by kernel_rfl
theorem closed_four : clF fourS = true := by rfl
theorem closed_cut : clF (fourS.take 1) = false := by rfl

attribute [local go_sem high] eqA36 eqA38
set_option maxHeartbeats 2000000 in
set_option maxRecDepth 100000 in
theorem pawake_c (w : World) : Calls Try.prog 15 #[] w fun e w' => e = .returned (.bool true) ∧ Below w.heap.size w w' := by
  have HC := Lib.hid (lit_reads w four (by simp [four]))
  go_enter Try.func15, Try.ntmps15
  go_wp2_with fail
  refine (segs_c _ _ four _ HC.out (by simp [four]) (by simp [four])).mono ?_
  rintro e w1 ⟨u, rfl, ho, hb⟩
  rw [seg_four] at ho
  have HB1 := Lib.hid (below_step (below_alloc (Below.refl _ w) (.cells (four.flatMap fun v => [.int .i64 v.f0, .int .i64 v.f1, .bool v.f2]).toArray 34)) hb)
  have HO := Lib.hid ho; clear ho hb
  have HC2 := Lib.hid (lit_reads w1 [⟨1, 2, true⟩] (by simp))
  go_wp2_with fail
  refine (segs_c _ _ [⟨1, 2, true⟩] _ HC2.out (by simp) (by simp)).mono ?_
  rintro e w2 ⟨u2, rfl, ho2, hb2⟩
  rw [seg_one] at ho2
  have HB2 := Lib.hid (below_step (below_alloc HB1.out (.cells ([(⟨1, 2, true⟩ : S34)].flatMap fun v => [.int .i64 v.f0, .int .i64 v.f1, .bool v.f2]).toArray 34)) hb2)
  obtain ⟨A1, c1, e1, hl1, hr1⟩ := Kd.R_reads (Kd.R_below (Kd.R_alloc HO.out (.cells ([(⟨1, 2, true⟩ : S34)].flatMap fun v => [.int .i64 v.f0, .int .i64 v.f1, .bool v.f2]).toArray 34)) hb2)
  obtain ⟨A2, c2, e2, hl2, hr2⟩ := Kd.R_reads ho2
  subst e1; subst e2
  obtain ⟨ad, hA⟩ : ∃ ad, A1 = some ad := by obtain ⟨ad, e, _⟩ := at_T38 hr1 0 (by decide) (by decide); exact ⟨ad, e⟩
  subst hA
  obtain ⟨p0, p1, p2, p3, p4, p5, p6⟩ := seg_at hr1 0 (by decide)
  obtain ⟨q0, q1, q2, q3, q4, q5, q6⟩ := seg_at hr1 2 (by decide)
  rw [Nat.zero_mul, show ad.add 0 = ad from add_zero_ad ad] at p0 p1 p2 p3 p4 p5 p6
  have P0 : w2.cell? ad = some (.int .i64 0) := p0
  have P1 : w2.cell? ⟨ad.block, ad.off + 1, none⟩ = some (.int .i64 0) := p1
  have P2 : w2.cell? ⟨ad.block, ad.off + 2, none⟩ = some (.int .i64 8) := p2
  have P3 : w2.cell? ⟨ad.block, ad.off + 3, none⟩ = some (.int .i64 0) := p3
  have P4 : w2.cell? ⟨ad.block, ad.off + 4, none⟩ = some (.int .i64 8) := p4
  have P5 : w2.cell? ⟨ad.block, ad.off + 5, none⟩ = some (.int .i64 4) := p5
  have P6 : w2.cell? ⟨ad.block, ad.off + 6, none⟩ = some (.bool true) := p6
  have Q4 : w2.cell? ⟨ad.block, ad.off + 14 + 4, none⟩ = some (.int .i64 0) := q4
  have Q5 : w2.cell? ⟨ad.block, ad.off + 14 + 5, none⟩ = some (.int .i64 0) := q5
  have Q6 : w2.cell? ⟨ad.block, ad.off + 14 + 6, none⟩ = some (.bool false) := q6
  clear p0 p1 p2 p3 p4 p5 p6 q0 q1 q2 q3 q4 q5 q6
  have HR1 := Lib.hid hr1
  have hlc : fourS.length = 3 := rfl
  rw [hlc] at hl1
  clear hr1 HC HC2 HO hb2 ho2 hr2
  go_wp2_with fail
  clear P0 P1 P2 P3 P4 P5 P6 Q4 Q5 Q6
  refine (closed_c ad c1 fourS w2 HR1.out hl1 (by decide) (by decide)).mono ?_
  rintro e w3 ⟨rfl, hb3⟩
  rw [closed_four]
  have HR3 := Lib.hid (C_takeP (Kd.C_below HR1.out hb3) 1 (by decide))
  have HB3 := Lib.hid (below_step HB2.out hb3); clear hb3
  go_wp2_with fail
  refine (closed_c ad c1 (fourS.take 1) w3 HR3.out (by show 1 ≤ c1; omega) (by decide) (by decide)).mono ?_
  rintro e w4 ⟨rfl, hb4⟩
  rw [closed_cut]
  go_wp2_with fail
  go_ret
  exact ⟨rfl, below_step HB3.out hb4⟩
end Go.Proofs.Ytjealbaomhjoaaa
