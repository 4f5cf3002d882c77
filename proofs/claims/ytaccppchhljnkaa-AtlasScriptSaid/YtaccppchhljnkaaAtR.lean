/- Atlases: inner, Rect. -/
import Derived.Test.YtaccppchhljnkaaAtL
set_option linter.unusedVariables false
set_option linter.unusedSimpArgs false
namespace Go.Proofs.Ytaccppchhljnkaa
open Go.RowKit Go.Proofs.YtaccppchhljnkaaW.PrintWords Go.Proofs.YtaccppchhljnkaaW.PrintLast Go.Proofs.YtaccppchhljnkaaW.PrintMore
/-- A place without the space around. -/
def inR (pad : Nat) (r : Rc) : Rc := (r.1 + pad, r.2.1 + pad, r.2.2.1 - 2 * pad, r.2.2.2 - 2 * pad)
set_option maxHeartbeats 1000000 in
set_option maxRecDepth 100000 in
theorem inner_c (W : World) (b pad : Nat) (hp : pad ≤ 4) (hc : W.cell? ⟨b, 3, none⟩ = some (.int .i64 pad)) (X Y M N : Int) (hX : -1000000 ≤ X ∧ X ≤ 1000000) (hY : -1000000 ≤ Y ∧ Y ≤ 1000000) (hM : -1000000 ≤ M ∧ M ≤ 1000000) (hN : -1000000 ≤ N ∧ N ≤ 1000000) :
    Calls Try.prog 31 #[.pointer (some ⟨b, 0, none⟩), Er (X, Y, M, N)] W fun e w' => e = .returned (Er (inR pad (X, Y, M, N))) ∧ Below W.heap.size W w' := by
  obtain ⟨hX0, hX1⟩ := hX; obtain ⟨hY0, hY1⟩ := hY; obtain ⟨hM0, hM1⟩ := hM; obtain ⟨hN0, hN1⟩ := hN
  have hb := World.block_lt_of_cell? W _ hc
  have e1 : IntKind.i64.wrap (2 * (pad : Int)) = 2 * (pad : Int) := by rw [IntKind.wrap_i64]; omega
  have e2 : IntKind.i64.wrap (X + (pad : Int)) = X + (pad : Int) := by rw [IntKind.wrap_i64]; omega
  have e3 : IntKind.i64.wrap (Y + (pad : Int)) = Y + (pad : Int) := by rw [IntKind.wrap_i64]; omega
  have e4 : IntKind.i64.wrap (M - 2 * (pad : Int)) = M - 2 * (pad : Int) := by rw [IntKind.wrap_i64]; omega
  have e5 : IntKind.i64.wrap (N - 2 * (pad : Int)) = N - 2 * (pad : Int) := by rw [IntKind.wrap_i64]; omega
  unfold Er inR
  simp only
  go_enter Try.func31, Try.ntmps31
  go_upto_region 1 with (fail)
  have g1 := heap_alloc_new W (.cells #[.int .i64 X, .int .i64 Y, .int .i64 M, .int .i64 N] 39)
  have b1 := below_alloc (Below.refl _ W) (.cells #[.int .i64 X, .int .i64 Y, .int .i64 M, .int .i64 N] 39)
  have b2 := below_alloc (Below.refl _ (W.alloc (.cells #[.int .i64 X, .int .i64 Y, .int .i64 M, .int .i64 N] 39))) (.cells #[.int .i64 0, .int .i64 0, .int .i64 0, .int .i64 0] 39)
  have g2 := heap_alloc_new (W.alloc (.cells #[.int .i64 X, .int .i64 Y, .int .i64 M, .int .i64 N] 39)) (.cells #[.int .i64 0, .int .i64 0, .int .i64 0, .int .i64 0] 39)
  have g3 := blk_below g1 b2
  have bb := below_step b1 b2
  have hc2 := pw_cell_below bb hc
  rw [World.size_alloc] at g2
  generalize (W.alloc (.cells #[.int .i64 X, .int .i64 Y, .int .i64 M, .int .i64 N] 39)).alloc (.cells #[.int .i64 0, .int .i64 0, .int .i64 0, .int .i64 0] 39) = w2 at *
  have HB := Lib.hid bb
  have G2 := Lib.hid g2
  have s0 : w2.cell? ⟨W.heap.size, 0, none⟩ = some (.int .i64 X) := (blk_cell g3 0).trans rfl
  have s1 : w2.cell? ⟨W.heap.size, 1, none⟩ = some (.int .i64 Y) := (blk_cell g3 1).trans rfl
  have s2 : w2.cell? ⟨W.heap.size, 2, none⟩ = some (.int .i64 M) := (blk_cell g3 2).trans rfl
  have s3 : w2.cell? ⟨W.heap.size, 3, none⟩ = some (.int .i64 N) := (blk_cell g3 3).trans rfl
  clear g1 b1 b2 g3 bb hc g2
  refine wp_region_still_tail 31 (by kernel_rfl) (by kernel_rfl) ?_
  simp only [List.take_succ_cons, List.take_zero, List.drop_succ_cons, List.drop_zero]
  iterate 31 still_step
  refine wpStill_nil ?_
  change wpList _ _ _ _ _ w2.drew
  refine wpList_store_all rfl rfl 39 (.tmp 4) (.tmp 35) rfl (.agg #[.int .i64 (X + (pad : Int)), .int .i64 (Y + (pad : Int)), .int .i64 (M - 2 * (pad : Int)), .int .i64 (N - 2 * (pad : Int))]) [.int .i64 (X + (pad : Int)), .int .i64 (Y + (pad : Int)), .int .i64 (M - 2 * (pad : Int)), .int .i64 (N - 2 * (pad : Int))] rfl rfl rfl (by kernel_rfl) (show w2.drew.heap[W.heap.size + 1]? = _ from G2.out) rfl (by simp [Value.oneCell']) ?_
  intro w3 hg3 hk3
  have HB3 := Lib.hid (HB.out.trans (show Below W.heap.size w2 w3 from ((Kept.drew _ w2).trans hk3).below HB.out.size (fun k hk => by omega)))
  have G3 := Lib.hid hg3
  clear hg3 hk3
  go_wp2_with fail
  refine bodyPost_ret (results_cell_row rfl _ _ (W.heap.size + 1) 39 #[.int .i64 (X + (pad : Int)), .int .i64 (Y + (pad : Int)), .int .i64 (M - 2 * (pad : Int)), .int .i64 (N - 2 * (pad : Int))] (0, 0) _ rfl G3.out Try.underlying39 rfl (by kernel_rfl)) rfl ?_
  exact ⟨rfl, HB3.out⟩
/-- What Rect tells. -/
def rectV (pad : Nat) : Option Rc → Rc
  | some r => inR pad r
  | none => r00
theorem AtAt.look {W : World} {b w h pad : Nat} {s : AtS} {c : AtC} (a : AtAt W b w h pad s c) {k : ByteArray} (hk : k.size ≤ maxLen) : (Instr.lookup 30 (.map (some c.bM)) (.string k) true).run Try.prog W = .ok (.tuple #[Er ((s.pl k).getD r00), .bool (s.pl k).isSome]) W := by
  have := a.mp.look_ok Try.strKeyed Try.underlying30 (zeroRect W) (key_of hk)
  rw [this]
  cases s.pl k <;> rfl
theorem AtAt.look1 {W : World} {b w h pad : Nat} {s : AtS} {c : AtC} (a : AtAt W b w h pad s c) {k : ByteArray} (hk : k.size ≤ maxLen) : (Instr.lookup 30 (.map (some c.bM)) (.string k) false).run Try.prog W = .ok (Er (s.at k)) W := by
  have := a.mp.look Try.strKeyed Try.underlying30 (zeroRect W) (key_of hk)
  rw [this]
  unfold AtS.at
  cases s.pl k <;> rfl
set_option maxHeartbeats 1000000 in
set_option maxRecDepth 100000 in
theorem rect_c (W : World) (b w h pad : Nat) (s : AtS) (c : AtC) (hA : AtAt W b w h pad s c) (k : ByteArray) (hk : k.size ≤ maxLen) :
    Calls Try.prog 13 #[.pointer (some ⟨b, 0, none⟩), .string k] W fun e w' => e = .returned (.tuple #[Er (rectV pad (s.pl k)), .bool (s.pl k).isSome]) ∧ Below W.heap.size W w' := by
  have HA := Lib.hid hA; have HK := Lib.hid hk
  have hp := hA.p4
  clear hA hk
  go_enter Try.func13, Try.ntmps13
  go_upto_region 1 with (fail)
  have bb := below_alloc (Below.refl _ W) (.cells #[.int .i64 0, .int .i64 0, .int .i64 0, .int .i64 0] 39)
  have g1 := heap_alloc_new W (.cells #[.int .i64 0, .int .i64 0, .int .i64 0, .int .i64 0] 39)
  have A1 := Lib.hid (HA.out.below bb)
  have B1 := Lib.hid bb; have G1 := Lib.hid g1
  clear bb g1
  generalize W.alloc (.cells #[.int .i64 0, .int .i64 0, .int .i64 0, .int .i64 0] 39) = w1 at *
  obtain ⟨c0, c1, c2, c3, c4, c5, c6, c7⟩ := A1.out.cell
  have hlk := A1.out.look HK.out
  have hpg := Lib.hid (fun r (hr : s.pl k = some r) => (HA.out.inv.pg k ((HA.out.inv.mem k).1 (by rw [hr]; rfl))))
  have hat : Hid (∀ r, s.pl k = some r → s.at k = r) := Lib.hid (fun r hr => by unfold AtS.at; rw [hr]; rfl)
  cases hpl : s.pl k with
  | none =>
    rw [hpl] at hlk
    simp only [Option.getD_none, Option.isSome_none] at hlk
    unfold Er r00 at hlk
    clear c0 c1 c2 c3 c4 c5 c7 hpg hat
    go_upto_region 2 with (fail)
    have bb := below_alloc (Below.refl _ w1) (.cells #[.int .i64 0, .int .i64 0, .int .i64 0, .int .i64 0] 39)
    have B2 := Lib.hid (below_step B1.out bb)
    have G2 := Lib.hid (blk_below G1.out bb)
    clear bb hlk c6
    generalize w1.alloc (.cells #[.int .i64 0, .int .i64 0, .int .i64 0, .int .i64 0] 39) = w2 at *
    have d0 : w2.cell? ⟨W.heap.size, 0, none⟩ = some (.int .i64 0) := (blk_cell G2.out 0).trans rfl
    have d1 : w2.cell? ⟨W.heap.size, 1, none⟩ = some (.int .i64 0) := (blk_cell G2.out 1).trans rfl
    have d2 : w2.cell? ⟨W.heap.size, 2, none⟩ = some (.int .i64 0) := (blk_cell G2.out 2).trans rfl
    have d3 : w2.cell? ⟨W.heap.size, 3, none⟩ = some (.int .i64 0) := (blk_cell G2.out 3).trans rfl
    have f0 : w2.frozen? ⟨W.heap.size, 0, none⟩ = false := blk_frozen G2.out 0
    have f1 : w2.frozen? ⟨W.heap.size, 1, none⟩ = false := blk_frozen G2.out 1
    have f2 : w2.frozen? ⟨W.heap.size, 2, none⟩ = false := blk_frozen G2.out 2
    have f3 : w2.frozen? ⟨W.heap.size, 3, none⟩ = false := blk_frozen G2.out 3
    go_wp2_with fail
    obtain ⟨m1, m2⟩ := set4 w2 W.heap.size _ _ _ _ (.int .i64 0) (.int .i64 0) (.int .i64 0) (.int .i64 0) _ G2.out
    refine bodyPost_ret (res_ct rfl _ _ W.heap.size 39 #[.int .i64 0, .int .i64 0, .int .i64 0, .int .i64 0] _ rfl m1 Try.underlying39 rfl (by kernel_rfl)) rfl ?_
    exact ⟨by rw [hpl]; rfl, B2.out.trans (m2.below B2.out.size (fun k hk => by subst hk; exact Nat.le_refl _))⟩
  | some r =>
    rw [hpl] at hlk
    simp only [Option.getD_some, Option.isSome_some] at hlk
    obtain ⟨X, Y, M, N⟩ := r
    have hb := hpg.out _ hpl
    rw [hat.out _ hpl] at hb
    simp only at hb
    obtain ⟨q1, q2, q3, q4, q5, q6⟩ := hb
    have hw := HA.out.w1; have hh := HA.out.h1
    unfold Er at hlk
    clear c0 c1 c2 c3 c4 c5 c7 hpg hat
    go_upto_region 2 with (fail)
    have bb := below_alloc (Below.refl _ w1) (.cells #[.int .i64 X, .int .i64 Y, .int .i64 M, .int .i64 N] 39)
    have B2 := Lib.hid (below_step B1.out bb)
    have G2 := Lib.hid (blk_below G1.out bb)
    have G6 := heap_alloc_new w1 (.cells #[.int .i64 X, .int .i64 Y, .int .i64 M, .int .i64 N] 39)
    obtain ⟨c0, c1, c2, c3, c4, c5, c6', c7⟩ := (A1.out.below bb).cell
    clear bb hlk c6 c0 c1 c2 c4 c5 c6' c7
    generalize w1.alloc (.cells #[.int .i64 X, .int .i64 Y, .int .i64 M, .int .i64 N] 39) = w2 at *
    have s0 : w2.cell? ⟨w1.heap.size, 0, none⟩ = some (.int .i64 X) := (blk_cell G6 0).trans rfl
    have s1 : w2.cell? ⟨w1.heap.size, 1, none⟩ = some (.int .i64 Y) := (blk_cell G6 1).trans rfl
    have s2 : w2.cell? ⟨w1.heap.size, 2, none⟩ = some (.int .i64 M) := (blk_cell G6 2).trans rfl
    have s3 : w2.cell? ⟨w1.heap.size, 3, none⟩ = some (.int .i64 N) := (blk_cell G6 3).trans rfl
    have hin := Lib.hid (inner_c w2 b pad hp c3 X Y M N (by omega) (by omega) (by omega) (by omega))
    unfold Er inR at hin
    clear c3 G6
    go_wp2_with fail
    refine hin.out.mono ?_
    rintro e w3 ⟨rfl, hb3⟩
    have B3 := Lib.hid (below_step B2.out hb3)
    have G3 := Lib.hid (blk_below G2.out hb3)
    clear hb3 s0 s1 s2 s3 hin
    have d0 : w3.cell? ⟨W.heap.size, 0, none⟩ = some (.int .i64 0) := (blk_cell G3.out 0).trans rfl
    have d1 : w3.cell? ⟨W.heap.size, 1, none⟩ = some (.int .i64 0) := (blk_cell G3.out 1).trans rfl
    have d2 : w3.cell? ⟨W.heap.size, 2, none⟩ = some (.int .i64 0) := (blk_cell G3.out 2).trans rfl
    have d3 : w3.cell? ⟨W.heap.size, 3, none⟩ = some (.int .i64 0) := (blk_cell G3.out 3).trans rfl
    have f0 : w3.frozen? ⟨W.heap.size, 0, none⟩ = false := blk_frozen G3.out 0
    have f1 : w3.frozen? ⟨W.heap.size, 1, none⟩ = false := blk_frozen G3.out 1
    have f2 : w3.frozen? ⟨W.heap.size, 2, none⟩ = false := blk_frozen G3.out 2
    have f3 : w3.frozen? ⟨W.heap.size, 3, none⟩ = false := blk_frozen G3.out 3
    go_wp2_with fail
    obtain ⟨m1, m2⟩ := set4 w3 W.heap.size _ _ _ _ (.int .i64 (X + (pad : Int))) (.int .i64 (Y + (pad : Int))) (.int .i64 (M - 2 * (pad : Int))) (.int .i64 (N - 2 * (pad : Int))) _ G3.out
    refine bodyPost_ret (res_ct rfl _ _ W.heap.size 39 #[.int .i64 (X + (pad : Int)), .int .i64 (Y + (pad : Int)), .int .i64 (M - 2 * (pad : Int)), .int .i64 (N - 2 * (pad : Int))] _ rfl m1 Try.underlying39 rfl (by kernel_rfl)) rfl ?_
    exact ⟨by rw [hpl]; rfl, B3.out.trans (m2.below B3.out.size (fun k hk => by subst hk; exact Nat.le_refl _))⟩
end Go.Proofs.Ytaccppchhljnkaa
