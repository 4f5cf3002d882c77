/- Atlases: the field of a deed, and a key's name. -/
import Derived.Test.YtaccppchhljnkaaAtA
set_option linter.unusedVariables false
set_option linter.unusedSimpArgs false
namespace Go.Proofs.Ytaccppchhljnkaa
open Go.RowKit Go.Shelf Go.Proofs.YtaccppchhljnkaaW.PrintWords Go.Proofs.YtaccppchhljnkaaW.PrintLast Go.Proofs.YtaccppchhljnkaaW.PrintMore
/-- A deed, as a value. -/
abbrev Ac (o k w h i : Int) : Value := .agg #[.int .u8 o, .int .u8 k, .int .u8 w, .int .u8 h, .int .u8 i]
/-- A texel of a deed's field. -/
def txA (i : Int) (j : Nat) : Int := bits BinOp.or IntKind.u8 ((i + (j : Int)) % 256) 1
set_option maxHeartbeats 4000000 in
set_option maxRecDepth 100000 in
theorem fieldA_c (W : World) (o k x y i : Int) (hx : 0 ≤ x ∧ x ≤ 255) (hy : 0 ≤ y ∧ y ≤ 255) (hi : 0 ≤ i ∧ i ≤ 255) (p q : Nat) (hp : (p : Int) = x % 14) (hq : (q : Int) = y % 14) :
    Calls Try.prog 18 #[Ac o k x y i] W fun e w' => ∃ A cap, e = .returned (Ef p q (.slice A (p * q) cap)) ∧ SlO w' 5 1 (.slice A (p * q) cap) (p * q) (((List.range (p * q)).map (txA i)).map (Value.int .u8)) ∧ Below W.heap.size W w' ∧ ∀ g, (Value.slice A (p * q) cap).ownBlock = some g → W.heap.size ≤ g := by
  obtain ⟨x0, x1⟩ := hx
  obtain ⟨y0, y1⟩ := hy
  have tx : x.tmod 14 = (p : Int) := by rw [Int.tmod_eq_emod_of_nonneg x0, hp]
  have ty : y.tmod 14 = (q : Int) := by rw [Int.tmod_eq_emod_of_nonneg y0, hq]
  have tx' : x % 14 = (p : Int) := hp.symm
  have ty' : y % 14 = (q : Int) := hq.symm
  have hp14 : p < 14 := by omega
  have hq14 : q < 14 := by omega
  have wp : IntKind.i64.wrap (p : Int) = (p : Int) := by rw [IntKind.wrap_i64]; omega
  have wq : IntKind.i64.wrap (q : Int) = (q : Int) := by rw [IntKind.wrap_i64]; omega
  obtain ⟨m, hm⟩ : ∃ m, p * q = m := ⟨_, rfl⟩
  have hm200 : m ≤ 169 := by rw [← hm]; exact Nat.le_trans (Nat.mul_le_mul (by omega : p ≤ 13) (by omega : q ≤ 13)) (by decide)
  have wm : IntKind.i64.wrap ((p : Int) * (q : Int)) = (m : Int) := by rw [← Int.natCast_mul, hm, IntKind.wrap_i64]; omega
  obtain ⟨i0, hi0, hz0, hz1, hz2⟩ := info_parts Try.info_u8O
  rw [hm]
  clear hp hq hm
  go_enter Try.func18, Try.ntmps18
  go_upto_region 3 with (fail)
  have g0 := heap_alloc_new W (.cells #[.int .u8 o, .int .u8 k, .int .u8 x, .int .u8 y, .int .u8 i] 35)
  have b0 := below_alloc (Below.refl _ W) (.cells #[.int .u8 o, .int .u8 k, .int .u8 x, .int .u8 y, .int .u8 i] 35)
  have hz0' : (W.alloc (.cells #[.int .u8 o, .int .u8 k, .int .u8 x, .int .u8 y, .int .u8 i] 35)).heap.size = W.heap.size + 1 := World.size_alloc _ _
  generalize W.alloc (.cells #[.int .u8 o, .int .u8 k, .int .u8 x, .int .u8 y, .int .u8 i] 35) = w1 at *
  have g1 := heap_alloc_new w1 (.cells #[.int .i64 0, .int .i64 0, .slice none 0 0] 44)
  have b1 := below_alloc (Below.refl _ w1) (.cells #[.int .i64 0, .int .i64 0, .slice none 0 0] 44)
  have hz1' : (w1.alloc (.cells #[.int .i64 0, .int .i64 0, .slice none 0 0] 44)).heap.size = w1.heap.size + 1 := World.size_alloc _ _
  generalize w1.alloc (.cells #[.int .i64 0, .int .i64 0, .slice none 0 0] 44) = w2 at *
  have g2 := heap_alloc_new w2 (.cells #[.int .i64 p, .int .i64 q, .slice none 0 0] 44)
  have b2 := below_alloc (Below.refl _ w2) (.cells #[.int .i64 p, .int .i64 q, .slice none 0 0] 44)
  have hz2' : (w2.alloc (.cells #[.int .i64 p, .int .i64 q, .slice none 0 0] 44)).heap.size = w2.heap.size + 1 := World.size_alloc _ _
  generalize w2.alloc (.cells #[.int .i64 p, .int .i64 q, .slice none 0 0] 44) = w3 at *
  rw [hz0'] at g1 hz1'
  rw [hz1'] at g2 hz2'
  have H0 := Lib.hid (blk_below (blk_below g0 b1) b2); have H1 := Lib.hid (blk_below g1 b2); have H2 := Lib.hid g2
  have HB3 := Lib.hid (below_step (below_step b0 b1) b2)
  have HZ3 : Hid (w3.heap.size = W.heap.size + 3) := Lib.hid (by omega)
  clear g0 b0 hz0' g1 b1 hz1' g2 b2 hz2'
  go_loopw [4] (fun v4 wr => ∃ (j : Nat) (A : Option Addr) (cap : Nat), v4 = .int .i64 j ∧ j ≤ m ∧ Hid (SlO wr 5 1 (.slice A j cap) j (((List.range j).map (txA i)).map (Value.int .u8))) ∧ Hid (wr.heap[W.heap.size]? = some (.cells #[.int .u8 o, .int .u8 k, .int .u8 x, .int .u8 y, .int .u8 i] 35 (0, 0))) ∧ Hid (wr.heap[W.heap.size + 1]? = some (.cells #[.int .i64 0, .int .i64 0, .slice none 0 0] 44 (0, 0))) ∧ Hid (wr.heap[W.heap.size + 1 + 1]? = some (.cells #[.int .i64 p, .int .i64 q, .slice A j cap] 44 (0, 0))) ∧ Hid (Below W.heap.size W wr) ∧ Hid (∀ g, (Value.slice A j cap).ownBlock = some g → W.heap.size + 3 ≤ g)) (fun v4 _ => m - (intOf v4).toNat)
  case atStart => exact ⟨0, none, 0, rfl, Nat.zero_le _, Lib.hid (SlO.nil _ _ _), H0, H1, H2, HB3, Lib.hid (fun g hg => by simp [Value.ownBlock] at hg)⟩
  case round =>
    obtain ⟨j, A, cap, rfl, hj, HSL, G0, G1, G2, HB, HO⟩ := hrel
    have c0 : wr.cell? ⟨W.heap.size + 1 + 1, 0, none⟩ = some (.int .i64 p) := (blk_cell G2.out 0).trans rfl
    have c1 : wr.cell? ⟨W.heap.size + 1 + 1, 1, none⟩ = some (.int .i64 q) := (blk_cell G2.out 1).trans rfl
    have c2 : wr.cell? ⟨W.heap.size + 1 + 1, 2, none⟩ = some (.slice A j cap) := (blk_cell G2.out 2).trans rfl
    have a4 : wr.cell? ⟨W.heap.size, 4, none⟩ = some (.int .u8 i) := (blk_cell G0.out 4).trans rfl
    clear H0 H1 H2 HB3
    by_cases hjm : j < m
    · have hjm' : (j : Int) < (m : Int) := by omega
      have hxt : bits BinOp.or IntKind.u8 ((i + (j : Int)) % 256) 1 = txA i j := rfl
      obtain ⟨tv, htv⟩ : ∃ tv, txA i j = tv := ⟨_, rfl⟩
      rw [htv] at hxt
      have HTV := Lib.hid htv
      clear htv
      go_upto_region 4 with (at_builtin; go_must (refine wpList_append_sl _ rfl (.tmp 24) (.tmp 31) 42 rfl 5 i0 (.int .u8 0) 1 1 Try.underlying42 hi0 hz0 hz1 hz2 rfl (by decide) _ j _ rfl (HSL.out.kept (Kept.alloc (fun _ => False) _ _) (by simp)) ⟨wr.heap.size, 0, none⟩ 1 1 [.int .u8 tv] rfl rfl ?c1 ?c2 ?c3 ?c4 ?_))
      case c1 =>
        intro j' u hj'
        match j', hj' with
        | 0, hj' => simp at hj'; subst hj'; simp [Addr.add]
      case c2 => intro u hu; simp at hu; subst hu; rfl
      case c3 => unfold maxLen; omega
      case c4 => omega
      · intro A' cap' w6 hs6 hg6 ho6 _
        have hk6 : Kept (fun x => (Value.slice A j cap).ownBlock = some x) wr w6 := (Kept.alloc _ wr _).trans (Kept.of_grownBy hg6)
        have hs7 : SlO w6 5 1 (.slice A' (j + 1) cap') (j + 1) (((List.range (j + 1)).map (txA i)).map (Value.int .u8)) := by
          rw [List.range_succ, List.map_append, List.map_append, List.map_singleton, List.map_singleton, HTV.out]
          simpa using hs6
        have hB6 : Below W.heap.size W w6 := HB.out.trans (hk6.below HB.out.size (fun q hq => by have := HO.out q hq; omega))
        have G0' := hk6.get G0.out (fun e => by have := HO.out _ e; omega)
        have G1' := hk6.get G1.out (fun e => by have := HO.out _ e; omega)
        have G2' := hk6.get G2.out (fun e => by have := HO.out _ e; omega)
        have hsz := lt_in G2.out
        have hO6 : ∀ g, (Value.slice A' (j + 1) cap').ownBlock = some g → W.heap.size + 3 ≤ g := fun g hg => by
          rcases ho6 with h | h
          · exact HO.out g (h ▸ hg)
          · rw [h] at hg; injection hg with hg; omega
        have hkk := Kept.setCell (· = W.heap.size + 1 + 1) w6 ⟨W.heap.size + 1 + 1, 2, none⟩ (.slice A' (j + 1) cap') rfl
        have n1 := Lib.hid (hs7.kept hkk (fun g hg e => by have := hO6 g hg; omega))
        have n2 := Lib.hid (hkk.get G0' (by omega))
        have n3 := Lib.hid (hkk.get G1' (by omega))
        have n4 : Hid ((w6.setCell ⟨W.heap.size + 1 + 1, 2, none⟩ (.slice A' (j + 1) cap')).heap[W.heap.size + 1 + 1]? = some (.cells #[.int .i64 p, .int .i64 q, .slice A' (j + 1) cap'] 44 (0, 0))) := Lib.hid (heap_setCell_in _ G2')
        have n5 := Lib.hid (hB6.trans (hkk.below hB6.size (fun q hq => by subst hq; omega)))
        have n6 := Lib.hid hO6
        have c2' : w6.cell? ⟨W.heap.size + 1 + 1, 2, none⟩ = some (.slice A j cap) := (blk_cell G2' 2).trans rfl
        have f2' : w6.frozen? ⟨W.heap.size + 1 + 1, 2, none⟩ = false := blk_frozen G2' 2
        clear hs6 hg6 ho6 hk6 hs7 hB6 G0' G1' G2' hsz hO6 hkk hxt c0 c1 c2 a4
        go_wp2_with fail
        go_roundw
        case rel => exact ⟨j + 1, A', cap', by go_num, by omega, n1, n2, n3, n4, n5, n6⟩
        case measure => simp [intOf]; omega
    · have hjm' : ¬ (j : Int) < (m : Int) := by omega
      obtain rfl : j = m := by omega
      have x0 : wr.cell? ⟨W.heap.size + 1, 0, none⟩ = some (.int .i64 0) := (blk_cell G1.out 0).trans rfl
      have x1 : wr.cell? ⟨W.heap.size + 1, 1, none⟩ = some (.int .i64 0) := (blk_cell G1.out 1).trans rfl
      have x2 : wr.cell? ⟨W.heap.size + 1, 2, none⟩ = some (.slice none 0 0) := (blk_cell G1.out 2).trans rfl
      have x3 : wr.frozen? ⟨W.heap.size + 1, 0, none⟩ = false := blk_frozen G1.out 0
      have x4 : wr.frozen? ⟨W.heap.size + 1, 1, none⟩ = false := blk_frozen G1.out 1
      have x5 : wr.frozen? ⟨W.heap.size + 1, 2, none⟩ = false := blk_frozen G1.out 2
      obtain ⟨y1, y2⟩ := set3 wr (W.heap.size + 1) _ _ _ (.int .i64 p) (.int .i64 q) (.slice A j cap) _ G1.out
      have Y1 := Lib.hid y1; have Y2 := Lib.hid y2
      clear y1 y2 a4
      go_wp2_with fail
      refine bodyPost_ret (results_cell_row rfl _ _ (W.heap.size + 1) 44 #[.int .i64 p, .int .i64 q, .slice A j cap] (0, 0) _ rfl Y1.out Try.underlying44 rfl (by kernel_rfl)) rfl ?_
      exact ⟨A, cap, rfl, by have hs9 := HSL.out.kept Y2.out (fun g hg e => by have := HO.out g hg; omega); simpa using hs9, HB.out.trans (Y2.out.below HB.out.size (fun q hq => by subst hq; omega)), fun g hg => by have := HO.out g hg; omega⟩
theorem wrap_u8A (x : Int) : 0 ≤ IntKind.u8.wrap x ∧ IntKind.u8.wrap x ≤ 255 := by
  have h : IntKind.u8.wrap x = x % 256 := by simp [IntKind.wrap, IntKind.signed, IntKind.bits]
  rw [h]; omega
theorem txA_in (i : Int) (j : Nat) : 0 ≤ txA i j ∧ txA i j ≤ 255 := wrap_u8A _
/-- A key's name. -/
def nmA (n : Nat) : ByteArray := ⟨#[107, (⟨#[48, 49, 50, 51, 52, 53, 54, 55, 56, 57, 97, 98, 99, 100, 101, 102]⟩ : ByteArray).data.getD (n % 16) 0]⟩
theorem nm_at : ∀ m, m < 16 → ((⟨#[107]⟩ : ByteArray) ++ (⟨#[48, 49, 50, 51, 52, 53, 54, 55, 56, 57, 97, 98, 99, 100, 101, 102]⟩ : ByteArray).extract m (m + 1)) = ⟨#[107, (⟨#[48, 49, 50, 51, 52, 53, 54, 55, 56, 57, 97, 98, 99, 100, 101, 102]⟩ : ByteArray).data.getD m 0]⟩ := by decide
set_option maxHeartbeats 1000000 in
set_option maxRecDepth 100000 in
theorem name_c (W : World) (n : Nat) (hn : n ≤ 255) :
    Calls Try.prog 25 #[.int .u8 n] W fun e w' => e = .returned (.string (nmA n)) ∧ w' = W := by
  have t1 : (n : Int).tmod 16 = ((n % 16 : Nat) : Int) := by rw [Int.tmod_eq_emod_of_nonneg (by omega)]; omega
  have t2 : (n : Int) % 16 = ((n % 16 : Nat) : Int) := by omega
  obtain ⟨m, hm⟩ : ∃ m, n % 16 = m := ⟨_, rfl⟩
  have hm16 : m < 16 := by omega
  have ht : nmA n = ⟨#[107, (⟨#[48, 49, 50, 51, 52, 53, 54, 55, 56, 57, 97, 98, 99, 100, 101, 102]⟩ : ByteArray).data.getD m 0]⟩ := by unfold nmA; rw [hm]
  rw [hm] at t1 t2
  rw [ht]
  clear hm ht hn
  go_enter Try.func25, Try.ntmps25
  go_wp2_with fail
  go_ret
  exact ⟨congrArg Ending.returned (congrArg Value.string (nm_at m hm16)), rfl⟩
end Go.Proofs.Ytaccppchhljnkaa
