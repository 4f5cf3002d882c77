/- Atlases: Load, where nothing is loaded. -/
import Derived.Test.YtaccppchhljnkaaAtE
set_option linter.unusedVariables false
set_option linter.unusedSimpArgs false
namespace Go.Proofs.Ytaccppchhljnkaa
open Go.RowKit Go.Shelf Go.Proofs.YtaccppchhljnkaaW.PrintWords Go.Proofs.YtaccppchhljnkaaW.PrintLast Go.Proofs.YtaccppchhljnkaaW.PrintMore
def badF (fw fh : Int) (n : Nat) : Prop := fw < 1 ∨ fh < 1 ∨ 64 < fw ∨ 64 < fh ∨ (n : Int) ≠ fw * fh
instance (fw fh : Int) (n : Nat) : Decidable (badF fw fh n) := by unfold badF; infer_instance
/-- What Load tells, and what there is behind it. -/
def loadV (w h pad : Nat) (s : AtS) (k : ByteArray) (fw fh : Int) (t : List Int) : Int × AtS :=
  if k ∈ s.keys then (7, s)
  else if badF fw fh t.length then (4, s)
  else if (w : Int) < fw + 2 * pad ∨ (h : Int) < fh + 2 * pad then (6, s)
  else match room w h (fw + 2 * pad) (fh + 2 * pad) s with
    | some (b, s') => (0, putS s' k (b.1, b.2, fw + 2 * pad, fh + 2 * pad) t)
    | none => (8, s)
set_option maxHeartbeats 1000000 in
set_option maxRecDepth 100000 in
theorem load_exist (W : World) (b w h pad : Nat) (s : AtS) (c : AtC) (hA : AtAt W b w h pad s c) (k : ByteArray) (fw fh : Int) (A : Option Addr) (n cap : Nat) (h1 : -1000000 ≤ fw ∧ fw ≤ 1000000) (h2 : -1000000 ≤ fh ∧ fh ≤ 1000000) (hk : k ∈ s.keys) :
    Calls Try.prog 15 #[.pointer (some ⟨b, 0, none⟩), .string k, Ef fw fh (.slice A n cap)] W fun e w' => e = .returned (.int .i64 7) ∧ Below W.heap.size W w' := by
  have bb := below_alloc (Below.refl _ W) (.cells #[.int .i64 fw, .int .i64 fh, .slice A n cap] 44)
  have A1 := hA.below bb
  obtain ⟨c0, c1, c2, c3, c4, c5, c6, c7⟩ := A1.cell
  have G1 := heap_alloc_new W (.cells #[.int .i64 fw, .int .i64 fh, .slice A n cap] 44)
  have q0 : (W.alloc (.cells #[.int .i64 fw, .int .i64 fh, .slice A n cap] 44)).cell? ⟨W.heap.size, 0, none⟩ = some (.int .i64 fw) := (blk_cell G1 0).trans rfl
  have q1 : (W.alloc (.cells #[.int .i64 fw, .int .i64 fh, .slice A n cap] 44)).cell? ⟨W.heap.size, 1, none⟩ = some (.int .i64 fh) := (blk_cell G1 1).trans rfl
  have hha := fun (Wd : World) (hb : Below (W.alloc (.cells #[.int .i64 fw, .int .i64 fh, .slice A n cap] 44)).heap.size (W.alloc (.cells #[.int .i64 fw, .int .i64 fh, .slice A n cap] 44)) Wd) => hasO b 5 c.vk s.keys k Wd (A1.below hb).cell.2.2.2.2.2.1 (A1.below hb).raw.ks
  rw [show decide (k ∈ s.keys) = true from decide_eq_true hk] at hha
  have HH := Lib.hid hha
  have B1 := Lib.hid bb
  have hp := hA.p4
  have e1 : IntKind.i64.wrap (2 * (pad : Int)) = 2 * (pad : Int) := by rw [IntKind.wrap_i64]; omega
  have e2 : IntKind.i64.wrap (fw + 2 * (pad : Int)) = fw + 2 * (pad : Int) := by rw [IntKind.wrap_i64]; omega
  have e3 : IntKind.i64.wrap (fh + 2 * (pad : Int)) = fh + 2 * (pad : Int) := by rw [IntKind.wrap_i64]; omega
  clear hA bb A1 c0 c1 c2 c4 c5 c6 c7 G1 hha hk
  go_enter Try.func15, Try.ntmps15
  go_upto_region 1 with (fail)
  generalize W.alloc (.cells #[.int .i64 fw, .int .i64 fh, .slice A n cap] 44) = w1 at *
  go_quiet (fail)
  go_wp2_with fail
  refine (HH.out _ (below_drewN (Below.refl _ _) nq)).mono ?_
  rintro e w' ⟨rfl, rfl⟩
  go_wp2_with fail
  go_ret
  exact ⟨rfl, below_drewN B1.out nq⟩
set_option maxHeartbeats 4000000 in
set_option maxRecDepth 100000 in
theorem load_bad (W : World) (b w h pad : Nat) (s : AtS) (c : AtC) (hA : AtAt W b w h pad s c) (k : ByteArray) (fw fh : Int) (A : Option Addr) (n cap : Nat) (h1 : -1000000 ≤ fw ∧ fw ≤ 1000000) (h2 : -1000000 ≤ fh ∧ fh ≤ 1000000) (hk : k ∉ s.keys) (hbad : badF fw fh n) (hn : n ≤ 140737488355328) :
    Calls Try.prog 15 #[.pointer (some ⟨b, 0, none⟩), .string k, Ef fw fh (.slice A n cap)] W fun e w' => e = .returned (.int .i64 4) ∧ Below W.heap.size W w' := by
  have bb := below_alloc (Below.refl _ W) (.cells #[.int .i64 fw, .int .i64 fh, .slice A n cap] 44)
  have A1 := hA.below bb
  obtain ⟨c0, c1, c2, c3, c4, c5, c6, c7⟩ := A1.cell
  have G1 := heap_alloc_new W (.cells #[.int .i64 fw, .int .i64 fh, .slice A n cap] 44)
  have q0 : (W.alloc (.cells #[.int .i64 fw, .int .i64 fh, .slice A n cap] 44)).cell? ⟨W.heap.size, 0, none⟩ = some (.int .i64 fw) := (blk_cell G1 0).trans rfl
  have q1 : (W.alloc (.cells #[.int .i64 fw, .int .i64 fh, .slice A n cap] 44)).cell? ⟨W.heap.size, 1, none⟩ = some (.int .i64 fh) := (blk_cell G1 1).trans rfl
  have q2 : (W.alloc (.cells #[.int .i64 fw, .int .i64 fh, .slice A n cap] 44)).cell? ⟨W.heap.size, 2, none⟩ = some (.slice A n cap) := (blk_cell G1 2).trans rfl
  have hha := fun (Wd : World) (hb : Below (W.alloc (.cells #[.int .i64 fw, .int .i64 fh, .slice A n cap] 44)).heap.size (W.alloc (.cells #[.int .i64 fw, .int .i64 fh, .slice A n cap] 44)) Wd) => hasO b 5 c.vk s.keys k Wd (A1.below hb).cell.2.2.2.2.2.1 (A1.below hb).raw.ks
  rw [show decide (k ∈ s.keys) = false from decide_eq_false hk] at hha
  have HH := Lib.hid hha
  have B1 := Lib.hid bb
  have hp := hA.p4
  obtain ⟨hw0, hw1⟩ := hA.w1
  obtain ⟨hh0, hh1⟩ := hA.h1
  have e1 : IntKind.i64.wrap (2 * (pad : Int)) = 2 * (pad : Int) := by rw [IntKind.wrap_i64]; omega
  have e2 : IntKind.i64.wrap (fw + 2 * (pad : Int)) = fw + 2 * (pad : Int) := by rw [IntKind.wrap_i64]; omega
  have e3 : IntKind.i64.wrap (fh + 2 * (pad : Int)) = fh + 2 * (pad : Int) := by rw [IntKind.wrap_i64]; omega
  clear hA bb A1 c0 c1 c2 c4 c5 c6 c7 G1 hha hk
  go_enter Try.func15, Try.ntmps15
  go_upto_region 1 with (fail)
  generalize W.alloc (.cells #[.int .i64 fw, .int .i64 fh, .slice A n cap] 44) = w1 at *
  go_quiet (fail)
  have z0 : (w1.drewN nq).cell? ⟨W.heap.size, 0, none⟩ = some (.int .i64 fw) := q0
  have z1 : (w1.drewN nq).cell? ⟨W.heap.size, 1, none⟩ = some (.int .i64 fh) := q1
  have z2 : (w1.drewN nq).cell? ⟨W.heap.size, 2, none⟩ = some (.slice A n cap) := q2
  have BQ := Lib.hid (below_drewN B1.out nq)
  have HQ := Lib.hid (HH.out _ (below_drewN (Below.refl _ _) nq))
  clear q0 q1 q2 c3
  generalize w1.drewN nq = w2 at *
  by_cases g1 : fw < 1
  · have d1 : decide (fw < 1) = true := decide_eq_true g1
    clear hbad
    go_wp2_with fail
    refine HQ.out.mono ?_
    rintro e w' ⟨rfl, rfl⟩
    go_wp2_with fail
    go_ret
    exact ⟨rfl, BQ.out⟩
  · have d1 : decide (fw < 1) = false := decide_eq_false g1
    by_cases g2 : fh < 1
    · have d2 : decide (fh < 1) = true := decide_eq_true g2
      clear hbad
      go_wp2_with fail
      refine HQ.out.mono ?_
      rintro e w' ⟨rfl, rfl⟩
      go_wp2_with fail
      go_ret
      exact ⟨rfl, BQ.out⟩
    · have d2 : decide (fh < 1) = false := decide_eq_false g2
      by_cases g3 : 64 < fw
      · have d3 : decide (64 < fw) = true := decide_eq_true g3
        clear hbad
        go_wp2_with fail
        refine HQ.out.mono ?_
        rintro e w' ⟨rfl, rfl⟩
        go_wp2_with fail
        go_ret
        exact ⟨rfl, BQ.out⟩
      · have d3 : decide (64 < fw) = false := decide_eq_false g3
        by_cases g4 : 64 < fh
        · have d4 : decide (64 < fh) = true := decide_eq_true g4
          clear hbad
          go_wp2_with fail
          refine HQ.out.mono ?_
          rintro e w' ⟨rfl, rfl⟩
          go_wp2_with fail
          go_ret
          exact ⟨rfl, BQ.out⟩
        · have d4 : decide (64 < fh) = false := decide_eq_false g4
          obtain ⟨a, rfl⟩ := Int.eq_ofNat_of_zero_le (show 0 ≤ fw by omega)
          obtain ⟨a', rfl⟩ := Int.eq_ofNat_of_zero_le (show 0 ≤ fh by omega)
          have hmul : a * a' ≤ 64 * 64 := Nat.mul_le_mul (by omega) (by omega)
          obtain ⟨p, hpp⟩ : ∃ p, a * a' = p := ⟨_, rfl⟩
          have e4 : IntKind.i64.wrap ((a : Int) * (a' : Int)) = (p : Int) := by rw [← Int.natCast_mul, hpp, IntKind.wrap_i64]; omega
          have hne : (n : Int) ≠ (p : Int) := by
            rcases hbad with h | h | h | h | h
            · exact absurd h g1
            · exact absurd h g2
            · exact absurd h g3
            · exact absurd h g4
            · rw [← Int.natCast_mul, hpp] at h; exact h
          have d5 : ((n : Int) != (p : Int)) = true := by simpa using hne
          clear hbad hmul hpp hne
          go_wp2_with fail
          refine HQ.out.mono ?_
          rintro e w' ⟨rfl, rfl⟩
          go_wp2_with fail
          go_ret
          exact ⟨rfl, BQ.out⟩
set_option maxHeartbeats 4000000 in
set_option maxRecDepth 100000 in
theorem load_size (W : World) (b w h pad : Nat) (s : AtS) (c : AtC) (hA : AtAt W b w h pad s c) (k : ByteArray) (fw fh : Int) (A : Option Addr) (n cap : Nat) (h1 : -1000000 ≤ fw ∧ fw ≤ 1000000) (h2 : -1000000 ≤ fh ∧ fh ≤ 1000000) (hk : k ∉ s.keys) (hbad : ¬ badF fw fh n) (hsz : (w : Int) < fw + 2 * pad ∨ (h : Int) < fh + 2 * pad) :
    Calls Try.prog 15 #[.pointer (some ⟨b, 0, none⟩), .string k, Ef fw fh (.slice A n cap)] W fun e w' => e = .returned (.int .i64 6) ∧ Below W.heap.size W w' := by
  have bb := below_alloc (Below.refl _ W) (.cells #[.int .i64 fw, .int .i64 fh, .slice A n cap] 44)
  have A1 := hA.below bb
  obtain ⟨c0, c1, c2, c3, c4, c5, c6, c7⟩ := A1.cell
  have G1 := heap_alloc_new W (.cells #[.int .i64 fw, .int .i64 fh, .slice A n cap] 44)
  have q0 : (W.alloc (.cells #[.int .i64 fw, .int .i64 fh, .slice A n cap] 44)).cell? ⟨W.heap.size, 0, none⟩ = some (.int .i64 fw) := (blk_cell G1 0).trans rfl
  have q1 : (W.alloc (.cells #[.int .i64 fw, .int .i64 fh, .slice A n cap] 44)).cell? ⟨W.heap.size, 1, none⟩ = some (.int .i64 fh) := (blk_cell G1 1).trans rfl
  have q2 : (W.alloc (.cells #[.int .i64 fw, .int .i64 fh, .slice A n cap] 44)).cell? ⟨W.heap.size, 2, none⟩ = some (.slice A n cap) := (blk_cell G1 2).trans rfl
  have hha := fun (Wd : World) (hb : Below (W.alloc (.cells #[.int .i64 fw, .int .i64 fh, .slice A n cap] 44)).heap.size (W.alloc (.cells #[.int .i64 fw, .int .i64 fh, .slice A n cap] 44)) Wd) => hasO b 5 c.vk s.keys k Wd (A1.below hb).cell.2.2.2.2.2.1 (A1.below hb).raw.ks
  rw [show decide (k ∈ s.keys) = false from decide_eq_false hk] at hha
  have HH := Lib.hid hha
  have B1 := Lib.hid bb
  have hp := hA.p4
  obtain ⟨hw0, hw1⟩ := hA.w1
  obtain ⟨hh0, hh1⟩ := hA.h1
  have e1 : IntKind.i64.wrap (2 * (pad : Int)) = 2 * (pad : Int) := by rw [IntKind.wrap_i64]; omega
  have e2 : IntKind.i64.wrap (fw + 2 * (pad : Int)) = fw + 2 * (pad : Int) := by rw [IntKind.wrap_i64]; omega
  have e3 : IntKind.i64.wrap (fh + 2 * (pad : Int)) = fh + 2 * (pad : Int) := by rw [IntKind.wrap_i64]; omega
  unfold badF at hbad
  have d1 : decide (fw < 1) = false := decide_eq_false (fun h => hbad (.inl h))
  have d2 : decide (fh < 1) = false := decide_eq_false (fun h => hbad (.inr (.inl h)))
  have d3 : decide (64 < fw) = false := decide_eq_false (fun h => hbad (.inr (.inr (.inl h))))
  have d4 : decide (64 < fh) = false := decide_eq_false (fun h => hbad (.inr (.inr (.inr (.inl h)))))
  have d5 : (n : Int) = fw * fh := Classical.byContradiction fun h => hbad (.inr (.inr (.inr (.inr h))))
  obtain ⟨a, rfl⟩ := Int.eq_ofNat_of_zero_le (show 0 ≤ fw by omega)
  obtain ⟨a', rfl⟩ := Int.eq_ofNat_of_zero_le (show 0 ≤ fh by omega)
  have hmul : a * a' ≤ 64 * 64 := Nat.mul_le_mul (by omega) (by omega)
  have hnn : a * a' = n := by rw [← Int.natCast_mul] at d5; omega
  have e4 : IntKind.i64.wrap ((a : Int) * (a' : Int)) = (n : Int) := by rw [← Int.natCast_mul, hnn, IntKind.wrap_i64]; omega
  have d6 : ((n : Int) != (n : Int)) = false := by simp
  clear hA bb A1 c2 c4 c5 c6 c7 G1 hha hk hbad d5 hmul hnn
  go_enter Try.func15, Try.ntmps15
  go_upto_region 1 with (fail)
  generalize W.alloc (.cells #[.int .i64 (a : Int), .int .i64 (a' : Int), .slice A n cap] 44) = w1 at *
  go_quiet (fail)
  have z0 : (w1.drewN nq).cell? ⟨W.heap.size, 0, none⟩ = some (.int .i64 (a : Int)) := q0
  have z1 : (w1.drewN nq).cell? ⟨W.heap.size, 1, none⟩ = some (.int .i64 (a' : Int)) := q1
  have z2 : (w1.drewN nq).cell? ⟨W.heap.size, 2, none⟩ = some (.slice A n cap) := q2
  have BQ := Lib.hid (below_drewN B1.out nq)
  have HQ := Lib.hid (HH.out _ (below_drewN (Below.refl _ _) nq))
  have y0 : (w1.drewN nq).cell? ⟨b, 0, none⟩ = some (.int .i64 w) := c0
  have y1 : (w1.drewN nq).cell? ⟨b, 1, none⟩ = some (.int .i64 h) := c1
  clear q0 q1 q2 c3 c0 c1
  generalize w1.drewN nq = w2 at *
  by_cases g1 : (w : Int) < (a : Int) + 2 * pad
  · have t1 : decide ((w : Int) < (a : Int) + 2 * pad) = true := decide_eq_true g1
    go_wp2_with fail
    refine HQ.out.mono ?_
    rintro e w' ⟨rfl, rfl⟩
    go_wp2_with fail
    go_ret
    exact ⟨rfl, BQ.out⟩
  · have t1 : decide ((w : Int) < (a : Int) + 2 * pad) = false := decide_eq_false g1
    have t2 : decide ((h : Int) < (a' : Int) + 2 * pad) = true := decide_eq_true (hsz.resolve_left g1)
    go_wp2_with fail
    refine HQ.out.mono ?_
    rintro e w' ⟨rfl, rfl⟩
    go_wp2_with fail
    go_ret
    exact ⟨rfl, BQ.out⟩
end Go.Proofs.Ytaccppchhljnkaa
