/- ViewDark: for every input the law returns true; the card, tied. No condition. -/
import Derived.Test.YtaccppchhljnkaaDoorVAll
import Derived.Deep.RegionHeld3
import Derived.StillTailTactics
import Derived.Lib.SlBytesConst
import Derived.Test.YtaccppchhljnkaaDoorRows
import Derived.ProofKit
import Derived.SevenTiedAt
import Derived.Lib.SmallJoins
import Derived.OpenShut
import Derived.ShutString
import Derived.ChangeOld
import Derived.Below
/- ViewDark: its walk. -/
set_option linter.unusedVariables false
set_option linter.unusedSimpArgs false
namespace Go.Proofs.YtaccppchhljnkaaDoor
open Go.RowKit Go.Shelf Go.Proofs.YtaccppchhljnkaaDoorW.PrintWords Go.Proofs.YtaccppchhljnkaaDoorW.PrintLast Go.Proofs.YtaccppchhljnkaaDoorW.PrintMore
theorem rowL_len {W : Nat} {t : List Int} {k : Nat} : ∀ i, k * W + i ≤ t.length → (rowL W t k i).length = i
  | 0, _ => by simp [rowL]
  | i + 1, h => by
    obtain ⟨x, hx⟩ : ∃ x, t[k * W + i]? = some x := ⟨t[k * W + i]'(by omega), List.getElem?_eq_getElem _⟩
    rw [rowL_in W t k i x hx, List.length_append, rowL_len i (by omega)]
    rfl
theorem rowL_get {W : Nat} {t : List Int} {k : Nat} : ∀ i j, k * W + i ≤ t.length → j < i → (rowL W t k i)[j]? = some (sg (t.getD (k * W + j) 0))
  | 0, j, _, h => by omega
  | i + 1, j, h, hj => by
    obtain ⟨x, hx⟩ : ∃ x, t[k * W + i]? = some x := ⟨t[k * W + i]'(by omega), List.getElem?_eq_getElem _⟩
    rw [rowL_in W t k i x hx]
    have hl := rowL_len (W := W) (t := t) (k := k) i (by omega)
    by_cases e : j < i
    · rw [List.getElem?_append_left (by omega)]; exact rowL_get i j (by omega) e
    · obtain rfl : j = i := by omega
      rw [List.getElem?_append_right (by omega), hl, Nat.sub_self, List.getD_eq_getElem?_getD, hx]
      rfl
theorem shU_len {W : Nat} {t : List Int} : ∀ m, m * W ≤ t.length → (shU W t m).length = m * (W + 1)
  | 0, _ => by simp [shU]
  | m + 1, h => by
    rw [Nat.add_mul, Nat.one_mul] at h ⊢
    simp only [shU, List.length_append, List.length_cons, List.length_nil]
    rw [rowL_len W h, shU_len m (by omega)]
    omega
theorem shU_get {W : Nat} {t : List Int} : ∀ m i, m * W ≤ t.length → i < m * (W + 1) → (shU W t m)[i]? = some (if i % (W + 1) < W then sg (t.getD ((m - 1 - i / (W + 1)) * W + i % (W + 1)) 0) else 10)
  | 0, i, _, h => by omega
  | m + 1, i, h, hi => by
    rw [Nat.add_mul, Nat.one_mul] at h hi
    have hr := rowL_len (W := W) (t := t) (k := m) W h
    simp only [shU]
    by_cases c1 : i < W
    · rw [List.append_assoc, List.getElem?_append_left (by omega), rowL_get W i h c1, Nat.mod_eq_of_lt (by omega), Nat.div_eq_of_lt (by omega), if_pos c1]
      rfl
    · by_cases c2 : i = W
      · rw [List.append_assoc, List.getElem?_append_right (by omega), hr, c2, Nat.sub_self, Nat.mod_eq_of_lt (by omega), if_neg (by omega)]
        rfl
      · obtain ⟨j, rfl⟩ : ∃ j, i = j + (W + 1) := ⟨i - (W + 1), by omega⟩
        have hl : (rowL W t m W ++ [10]).length = W + 1 := by rw [List.length_append, hr]; rfl
        rw [List.getElem?_append_right (by omega), hl, Nat.add_sub_cancel, shU_get m j (by omega) (by omega), Nat.add_mod_right, Nat.add_div_right _ (by omega)]
        rw [show m + 1 - 1 - (j / (W + 1)).succ = m - 1 - j / (W + 1) from by omega]
theorem sub_twice {r H : Nat} (h : r < H) : H - 1 - (H - 1 - r) = r := by omega
/-- Where a texel's sign stands. -/
def atD (W H n : Nat) : Nat := (H - 1 - n / W) * (W + 1) + n % W
theorem atD_ix {W H n : Nat} (h : n < W * H) : n / W < H ∧ n % W < W ∧ atD W H n < H * (W + 1) ∧ atD W H n / (W + 1) = H - 1 - n / W ∧ atD W H n % (W + 1) = n % W := by
  have hW : 0 < W := by
    rcases Nat.eq_zero_or_pos W with h0 | h0
    · subst h0; omega
    · exact h0
  have h1 : n / W < H := Nat.div_lt_of_lt_mul h
  have h2 := Nat.mod_lt n hW
  unfold atD
  generalize n / W = r at *
  generalize n % W = c at *
  have e1 : ((H - 1 - r) * (W + 1) + c) / (W + 1) = H - 1 - r := by
    rw [Nat.mul_comm, Nat.mul_add_div (by omega), Nat.div_eq_of_lt (by omega), Nat.add_zero]
  have e2 : ((H - 1 - r) * (W + 1) + c) % (W + 1) = c := by
    rw [Nat.mul_comm, Nat.mul_add_mod, Nat.mod_eq_of_lt (by omega)]
  refine ⟨h1, h2, ?_, e1, e2⟩
  have h3 : H - 1 - r + 1 ≤ H := by omega
  have h4 := Nat.mul_le_mul_right (W + 1) h3
  rw [Nat.add_mul, Nat.one_mul] at h4
  omega
theorem sh_at {W H n : Nat} {t : List Int} (ht : t.length = W * H) (h : n < W * H) : (shU W t H)[atD W H n]? = some (sg (t.getD n 0)) := by
  obtain ⟨h1, h2, h3, h4, h5⟩ := atD_ix h
  rw [shU_get H _ (by rw [ht, Nat.mul_comm]; exact Nat.le_refl _) h3, h4, h5, if_pos h2, sub_twice h1, Nat.mul_comm, Nat.div_add_mod]
theorem sh_off {W H n : Nat} {t : List Int} {v : Int} (ht : t.length = W * H) (h : n < W * H) (i : Nat) (hi : i < H * (W + 1)) (hne : i ≠ atD W H n) : (shU W (t.set n v) H)[i]? = (shU W t H)[i]? := by
  obtain ⟨h1, h2, h3, h4, h5⟩ := atD_ix h
  rw [shU_get H i (by rw [List.length_set, ht, Nat.mul_comm]; exact Nat.le_refl _) hi, shU_get H i (by rw [ht, Nat.mul_comm]; exact Nat.le_refl _) hi]
  by_cases c : i % (W + 1) < W
  · rw [if_pos c, if_pos c, List.getD_eq_getElem?_getD, List.getD_eq_getElem?_getD, List.getElem?_set_ne]
    intro hn
    apply hne
    have hq : i / (W + 1) < H := Nat.div_lt_of_lt_mul (by rw [Nat.mul_comm]; exact hi)
    have e1 : n / W = H - 1 - i / (W + 1) := by
      rw [hn, Nat.mul_comm, Nat.mul_add_div (by omega), Nat.div_eq_of_lt c, Nat.add_zero]
    have e2 : n % W = i % (W + 1) := by
      rw [hn, Nat.mul_comm, Nat.mul_add_mod, Nat.mod_eq_of_lt c]
    unfold atD
    rw [e1, e2, sub_twice hq, Nat.mul_comm]
    exact (Nat.div_add_mod i (W + 1)).symm
  · rw [if_neg c, if_neg c]
theorem alloc_at (w : World) (o : Obj) : (w.alloc o).heap[w.heap.size]? = some o := by
  show (w.heap.push o)[w.heap.size]? = _
  exact Array.getElem?_push_size
theorem sgN_inj : ∀ a, a < 10 → ∀ b, b < 10 → sgN a = sgN b → a = b := by decide
set_option maxHeartbeats 1000000 in
set_option maxRecDepth 100000 in
theorem place_c (W : World) (d : Nat) (hd : d < 10) : Calls Tryd.prog 14 #[.int .u8 ((sgN d).toNat : Int)] W fun e w' => e = .returned (.int .i64 d) ∧ Below W.heap.size W w' := by
  have bb := below_alloc (Below.refl _ W) (Obj.cells #[.int .u8 32, .int .u8 46, .int .u8 58, .int .u8 45, .int .u8 61, .int .u8 43, .int .u8 42, .int .u8 35, .int .u8 37, .int .u8 64] 5 (10, 11))
  have G : (W.alloc (Obj.cells #[.int .u8 32, .int .u8 46, .int .u8 58, .int .u8 45, .int .u8 61, .int .u8 43, .int .u8 42, .int .u8 35, .int .u8 37, .int .u8 64] 5 (10, 11))).heap[W.heap.size]? = some (Obj.cells #[.int .u8 32, .int .u8 46, .int .u8 58, .int .u8 45, .int .u8 61, .int .u8 43, .int .u8 42, .int .u8 35, .int .u8 37, .int .u8 64] 5 (10, 11)) := alloc_at W _
  obtain ⟨c, hc⟩ : ∃ c : Int, ((sgN d).toNat : Int) = c := ⟨_, rfl⟩
  have HC := Lib.hid hc
  rw [hc]
  clear hc
  go_enter Tryd.func14, Tryd.ntmps14
  have kc := fun (w : World) (C : Array Value) (n c : Nat) => Lib.run_convert_bytes_const (P := Tryd.prog) w 25 5 C n c Tryd.underlying25 Tryd.underlying5
  go_upto_region 2 with (fail)
  generalize W.alloc (Obj.cells #[.int .u8 32, .int .u8 46, .int .u8 58, .int .u8 45, .int .u8 61, .int .u8 43, .int .u8 42, .int .u8 35, .int .u8 37, .int .u8 64] 5 (10, 11)) = w1 at *
  generalize hbS : W.heap.size = bS at *
  have HG := Lib.hid G; have HBB := Lib.hid bb; have HBS := Lib.hid hbS
  clear G bb hbS
  go_loopw [8] (fun v wr => ∃ j : Nat, v = .int .i64 j ∧ j ≤ d ∧ wr = w1) (fun v _ => 10 - (intOf v).toNat)
  case atStart => exact ⟨0, rfl, Nat.zero_le _, rfl⟩
  case round =>
    obtain ⟨j, rfl, hj, rfl⟩ := hrel
    have hj10 : (j : Int) < 10 := by omega
    have hjn : j < 10 := by omega
    have hcell : wr.cell? ⟨bS, j, none⟩ = some (.int .u8 ((sgN j).toNat : Int)) := by
      show World.cell? wr _ = _
      simp only [World.cell?, HG.out]
      have h9 : j = 0 ∨ j = 1 ∨ j = 2 ∨ j = 3 ∨ j = 4 ∨ j = 5 ∨ j = 6 ∨ j = 7 ∨ j = 8 ∨ j = 9 := by omega
      rcases h9 with rfl | rfl | rfl | rfl | rfl | rfl | rfl | rfl | rfl | rfl <;> rfl
    obtain ⟨e, he⟩ : ∃ e : Int, ((sgN j).toNat : Int) = e := ⟨_, rfl⟩
    rw [he] at hcell
    by_cases hjd : j = d
    · subst hjd
      have hec : (e == c) = true := by
        have := HC.out
        rw [beq_iff_eq]; omega
      clear he
      go_wp2_with fail
      go_ret
      refine ⟨rfl, ?_⟩
      first
        | exact HBB.out
        | (rw [HBS.out]; exact HBB.out)
    · have hec : (e == c) = false := by
        rw [beq_eq_false_iff_ne]
        intro h
        apply hjd
        have h1 := HC.out
        exact sgN_inj j hjn d hd (UInt8.toNat_inj.1 (by omega))
      clear he
      go_wp2_with fail
      go_roundw
      case rel => exact ⟨j + 1, by go_num, by omega, by first | rfl | trivial⟩
      case measure => simp [intOf]; omega
theorem slO_some {w : World} {e : TypeId} {A : Option Addr} {n cap : Nat} {xs : List Value} (h : SlO w e 1 (.slice A n cap) n xs) (hn : n ≠ 0) : ∃ g, A = some ⟨g, 0, none⟩ ∧ n ≤ cap ∧ (Value.slice A n cap).ownBlock = some g ∧ g < w.heap.size := by
  rcases h.form with ⟨_, h0, _⟩ | ⟨g, cap', e', hc, -, ho, hl, -⟩
  · exact absurd h0 hn
  · injection e' with e1 e2 e3
    subst e1 e3
    exact ⟨g, rfl, hc, ho, hl⟩
theorem ix_str (l : List UInt8) (i : Nat) (u : UInt8) (h : l[i]? = some u) (w : World) : (Instr.index 9 (.string ⟨l.toArray⟩) (.int .i64 (i : Int))).run Tryd.prog w = .ok (.int .u8 (u.toNat : Int)) w := by
  obtain ⟨hl, rfl⟩ := List.getElem?_eq_some_iff.1 h
  have hs : (i : Int) < ((⟨l.toArray⟩ : ByteArray).size : Int) := by
    show (i : Int) < ((l.toArray.size : Nat) : Int)
    rw [List.size_toArray]
    omega
  rw [run_index_string _ _ _ _ _ (by kernel_rfl), dif_pos ⟨by omega, hs⟩]
  rfl
theorem sg_le (a b : Int) (ha : 0 ≤ a ∧ a ≤ 255) (hb : 0 ≤ b ∧ b ≤ 255) (h : a ≤ b) : ∃ x y : Nat, sg a = sgN x ∧ sg b = sgN y ∧ x < 10 ∧ y < 10 ∧ (x : Int) ≤ y :=
  ⟨(a * 10 / 256).toNat, (b * 10 / 256).toNat, rfl, rfl, by omega, by omega, by omega⟩
attribute [local go_sem] max2_max min2_min max_two min_two
set_option maxHeartbeats 8000000 in
set_option maxRecDepth 100000 in
theorem viewDark_core (o k x y i : Int) (ho : 0 ≤ o ∧ o ≤ 255) (hk : 0 ≤ k ∧ k ≤ 255) (hx : 0 ≤ x ∧ x ≤ 255) (hy : 0 ≤ y ∧ y ≤ 255) (hi : 0 ≤ i ∧ i ≤ 255) (kx by' : Int) (hkx : 0 ≤ kx ∧ kx ≤ 255) (hby : 0 ≤ by' ∧ by' ≤ 255) (W0 : World) (hT : Tab W0) :
    Calls Tryd.prog 6 #[.agg #[.int .u8 o, .int .u8 k, .int .u8 x, .int .u8 y, .int .u8 i], .int .u8 kx, .int .u8 by'] W0 fun e w' => e = .returned (.bool true) ∧ Below W0.heap.size W0 w' := by
  obtain ⟨p, hp⟩ : ∃ p : Nat, (p : Int) = x % 14 := ⟨(x % 14).toNat, by omega⟩
  obtain ⟨q, hq⟩ : ∃ q : Nat, (q : Int) = y % 14 := ⟨(y % 14).toNat, by omega⟩
  have hpq : p ≤ 13 ∧ q ≤ 13 := by omega
  obtain ⟨N, hN⟩ : ∃ N, p * q = N := ⟨_, rfl⟩
  have hN1 : N ≤ 169 := by rw [← hN]; exact Nat.mul_le_mul hpq.1 hpq.2
  have HFA := Lib.hid (fun W => fieldA_c W o k x y i hx hy hi p q hp hq)
  have bb := below_alloc (Below.refl _ W0) (.cells #[.int .u8 o, .int .u8 k, .int .u8 x, .int .u8 y, .int .u8 i] 23)
  have G1 := heap_alloc_new W0 (.cells #[.int .u8 o, .int .u8 k, .int .u8 x, .int .u8 y, .int .u8 i] 23)
  have T1 := Lib.hid (hT.below bb)
  obtain ⟨T, hTx⟩ : ∃ T, (List.range (p * q)).map (txA i) = T := ⟨_, rfl⟩
  have hT8 : ∀ z ∈ T, 0 ≤ z ∧ z ≤ 255 := fun z hz => by
    rw [← hTx] at hz
    obtain ⟨j, _, rfl⟩ := List.mem_map.1 hz
    exact txA_in i j
  have hTl : T.length = N := by rw [← hTx, ← hN]; simp
  rw [hTx, hN] at HFA
  have HT8 := Lib.hid hT8; have HTL := Lib.hid hTl; have HN := Lib.hid hN
  clear hT hp hq hN hTx hT8 hTl ho hk hx hy hi
  go_enter Tryd.func6, Tryd.ntmps6
  go_upto_region 1 with (fail)
  have HB1 := Lib.hid bb; have HG1 := Lib.hid G1
  clear bb G1
  generalize W0.alloc (.cells #[.int .u8 o, .int .u8 k, .int .u8 x, .int .u8 y, .int .u8 i] 23) = w1 at *
  go_wp2_with fail
  refine (awake23 w1 T1.out).mono ?_
  rintro e w2 ⟨rfl, hb2⟩
  have HB2 := Lib.hid (HB1.out.trans (hb2.mono HB1.out.size))
  have T2 := Lib.hid (T1.out.below hb2)
  have G2 := blk_below HG1.out hb2
  obtain ⟨bx, hbx⟩ : ∃ bx, W0.heap.size = bx := ⟨_, rfl⟩
  have HBX := Lib.hid hbx
  rw [hbx] at G2 ⊢
  have a0 : w2.cell? ⟨bx, 0, none⟩ = some (.int .u8 o) := (blk_cell G2 0).trans rfl
  have a1 : w2.cell? ⟨bx, 1, none⟩ = some (.int .u8 k) := (blk_cell G2 1).trans rfl
  have a2 : w2.cell? ⟨bx, 2, none⟩ = some (.int .u8 x) := (blk_cell G2 2).trans rfl
  have a3 : w2.cell? ⟨bx, 3, none⟩ = some (.int .u8 y) := (blk_cell G2 3).trans rfl
  have a4 : w2.cell? ⟨bx, 4, none⟩ = some (.int .u8 i) := (blk_cell G2 4).trans rfl
  clear hb2 G2 hbx
  go_wp2_with fail
  refine (HFA.out w2).mono ?_
  rintro e w3 ⟨A3, c3, rfl, hs3, hb3, ho3⟩
  clear a0 a1 a2 a3 a4
  unfold Ef
  have bb3 := below_alloc (Below.refl _ w3) (.cells #[.int .i64 p, .int .i64 q, .slice A3 N c3] 27)
  have G3 := heap_alloc_new w3 (.cells #[.int .i64 p, .int .i64 q, .slice A3 N c3] 27)
  have S4 := Lib.hid (hs3.kept (Kept.of_below (fun _ => False) bb3) (fun _ _ h => h))
  have HB4 := Lib.hid (HB2.out.trans ((hb3.trans (bb3.mono hb3.size)).mono HB2.out.size))
  have T4 := Lib.hid (T2.out.below (hb3.trans (bb3.mono hb3.size)))
  clear hs3 hb3 ho3 bb3
  go_upto_region 4 with (fail)
  generalize w3.alloc (.cells #[.int .i64 p, .int .i64 q, .slice A3 N c3] 27) = w4 at *
  generalize w3.heap.size = b5 at *
  have HG4 := Lib.hid G3
  have f2 : w4.cell? ⟨b5, 2, none⟩ = some (.slice A3 N c3) := (blk_cell G3 2).trans rfl
  clear G3
  have HCL : Hid (∀ w', Below w4.heap.size w4 w' → w'.cell? ⟨b5, 0, none⟩ = some (.int .i64 p) ∧ w'.cell? ⟨b5, 1, none⟩ = some (.int .i64 q) ∧ w'.cell? ⟨b5, 2, none⟩ = some (.slice A3 N c3)) := Lib.hid (fun w' hb => by
    have := blk_below HG4.out hb
    exact ⟨(blk_cell this 0).trans rfl, (blk_cell this 1).trans rfl, (blk_cell this 2).trans rfl⟩)
  have HEND : Hid (∀ w', Below w4.heap.size w4 w' → Below W0.heap.size W0 w') := Lib.hid (fun w' hb => HB4.out.trans (hb.mono HB4.out.size))
  by_cases hN0 : N = 0
  · subst hN0
    have hT0 : T = [] := List.eq_nil_of_length_eq_zero HTL.out
    have HC := Lib.hid (slO_C8 (by omega) S4.out).1
    have D1 := Lib.hid (fun W => digits_c (p : Int) (by omega) (by omega) W)
    have D2 := Lib.hid (fun W => digits_c (q : Int) (by omega) (by omega) W)
    have la := itoa_len (p : Int) (by omega) (by omega)
    have lb := itoa_len (q : Int) (by omega) (by omega)
    have q1 : ¬ 9223372036854775807 < (Lib.itoa (p : Int)).length + 1 := by omega
    have q2 : ¬ 9223372036854775807 < (Lib.itoa (p : Int)).length + 1 + (Lib.itoa (q : Int)).length := by omega
    have q3 : ¬ 9223372036854775807 < (Lib.itoa (p : Int)).length + 1 + (Lib.itoa (q : Int)).length + 2 := by omega
    obtain ⟨L, hL⟩ : ∃ L : ByteArray, bs (tabL p q T) = L := ⟨_, rfl⟩
    have hstr : ((((⟨(Lib.itoa (p : Int)).toArray⟩ : ByteArray) ++ ⟨#[32]⟩) ++ ⟨(Lib.itoa (q : Int)).toArray⟩) ++ ⟨#[10, 10]⟩) = L := by
      rw [← hL, hT0, show (⟨#[32]⟩ : ByteArray) = ⟨([32] : List UInt8).toArray⟩ from rfl, show (⟨#[10, 10]⟩ : ByteArray) = ⟨([10, 10] : List UInt8).toArray⟩ from rfl, str_app, str_app, str_app]
      unfold tabL
      simp [Lib.join_nil]
    have HTB := Lib.hid (fun w (ht : Tab w) h => table_c w ht p q (by omega) (by omega) A3 0 c3 T HTL.out (by omega) h HT8.out)
    rw [hL] at HTB
    have TD := Lib.hid (T4.out.below (below_drew (Below.refl _ w4)))
    have CD := Lib.hid (Kd.C_below HC.out (below_drew (Below.refl _ w4)))
    obtain ⟨z0, z1, z2⟩ := HCL.out w4.drew (below_drew (Below.refl _ _))
    clear hT0 la lb hL
    go_upto_region 5 with (fail)
    go_region_held3 (fun w' => w'.cell? ⟨b5, 0, none⟩ = some (.int .i64 p) ∧ w'.cell? ⟨b5, 1, none⟩ = some (.int .i64 q) ∧ w'.cell? ⟨b5, 2, none⟩ = some (.slice A3 0 c3)) (first
      | assumption
      | exact ⟨z0, z1, z2⟩
      | exact HC5) (first
      | (go_at_call 13; refine (HTB.out w4.drew TD.out CD.out).mono ?_; rintro e w5 ⟨rfl, hb5⟩; have HB5 := Lib.hid ((below_drew (Below.refl _ w4)).trans hb5); have HC5 := HCL.out w5 HB5.out; clear hb5)
      | (go_at_call_of 12 (p : Int); refine (D1.out w5).mono ?_; rintro e w6 ⟨rfl, rfl⟩)
      | (go_at_call_of 12 (q : Int); refine (D2.out _).mono ?_; rintro e w7 ⟨rfl, rfl⟩))
    all_goals
      go_wp2_with fail
      go_ret
      exact ⟨rfl, HEND.out _ HB5.out⟩
  · have hne : ((N : Int) == 0) = false := by rw [beq_eq_false_iff_ne]; omega
    obtain ⟨i0, hi0, hz0, hz1, hz2⟩ := info_parts Tryd.info_u8O
    obtain ⟨ad, hA3⟩ : ∃ ad, A3 = some ad := by
      have h0 : T[0]? = some (T[0]'(by rw [HTL.out]; omega)) := List.getElem?_eq_getElem _
      obtain ⟨ad, e, _⟩ := c8_at (slO_C8 (by omega) S4.out).1 0 _ (by omega) h0
      exact ⟨ad, e⟩
    subst hA3
    have HNW : Hid (∀ w', Below w4.heap.size w4 w' → ∀ j u, (T.map (Value.int .u8))[j]? = some u → w'.cell? (ad.add j) = some u) := Lib.hid (fun w' hb j u hj => by
      rw [List.getElem?_map] at hj
      cases hz : T[j]? with
      | none => rw [hz] at hj; cases hj
      | some z =>
        rw [hz] at hj
        injection hj with hj
        subst hj
        have hjn : j < N := by
          have := (List.getElem?_eq_some_iff.1 hz).1
          rw [HTL.out] at this; exact this
        obtain ⟨ad2, e, hc⟩ := c8_at (Kd.C_below (slO_C8 (by omega) S4.out).1 hb) j z hjn hz
        injection e with e
        subst e
        exact hc)
    clear f2
    obtain ⟨z0, z1, z2⟩ := HCL.out w4 (Below.refl _ _)
    go_upto_region 6 with (fail)
    clear hne
    go_cut [8] (fun v8 wc => ∃ g8 A8 c8, v8 = .pointer (some ⟨g8, 0, none⟩) ∧ N ≤ c8 ∧ Hid (wc.heap[g8]? = some (.cells #[.int .i64 p, .int .i64 q, .slice (some ⟨A8, 0, none⟩) N c8] 27 (0, 0))) ∧ Hid (SlO wc 5 1 (.slice (some ⟨A8, 0, none⟩) N c8) N (T.map (Value.int .u8))) ∧ Hid (w4.heap.size ≤ A8 ∧ w4.heap.size ≤ g8 ∧ g8 ≠ A8) ∧ Hid (Below w4.heap.size w4 wc))
    case first =>
      refine wp_region_noPanic ?_
      have hS0 : (fun w' : World => Below w4.heap.size w4 w') w4.drew := below_drew (Below.refl _ _)
      refine wp_region_held_drew (S := fun w' : World => Below w4.heap.size w4 w') (by kernel_rfl) hS0 (fun _ => ?_)
      refine wpAnyH_take (i := 0) (oi := _) (v := (.pointer (some ⟨b5, 0, none⟩))) rfl (by kernel_rfl) (by kernel_rfl) (by kernel_rfl) (fun _ _ _ h => h) (Or.inl ⟨by rfl, ?_⟩) hS0 ?_
      · intro w' hSw; go_simp
      try simp only [Act.put, List.setIfInBounds_toArray, List.set_cons_zero, List.set_cons_succ]
      refine wpAnyH_take (i := 1) (oi := _) (v := (.int .i64 p)) rfl (by kernel_rfl) (by kernel_rfl) (by kernel_rfl) (fun _ _ _ h => h) (Or.inl ⟨by rfl, ?_⟩) hS0 ?_
      · intro w' hSw; obtain ⟨v0, v1, v2⟩ := HCL.out w' hSw; go_simp
      try simp only [Act.put, List.setIfInBounds_toArray, List.set_cons_zero, List.set_cons_succ]
      refine wpAnyH_take (i := 2) (oi := _) (v := (.pointer (some ⟨b5, 1, none⟩))) rfl (by kernel_rfl) (by kernel_rfl) (by kernel_rfl) (fun _ _ _ h => h) (Or.inl ⟨by rfl, ?_⟩) hS0 ?_
      · intro w' hSw; go_simp
      try simp only [Act.put, List.setIfInBounds_toArray, List.set_cons_zero, List.set_cons_succ]
      refine wpAnyH_take (i := 3) (oi := _) (v := (.int .i64 q)) rfl (by kernel_rfl) (by kernel_rfl) (by kernel_rfl) (fun _ _ _ h => h) (Or.inl ⟨by rfl, ?_⟩) hS0 ?_
      · intro w' hSw; obtain ⟨v0, v1, v2⟩ := HCL.out w' hSw; go_simp
      try simp only [Act.put, List.setIfInBounds_toArray, List.set_cons_zero, List.set_cons_succ]
      refine wpAnyH_take (i := 4) (oi := _) (v := (.pointer (some ⟨b5, 2, none⟩))) rfl (by kernel_rfl) (by kernel_rfl) (by kernel_rfl) (fun _ _ _ h => h) (Or.inl ⟨by rfl, ?_⟩) hS0 ?_
      · intro w' hSw; go_simp
      try simp only [Act.put, List.setIfInBounds_toArray, List.set_cons_zero, List.set_cons_succ]
      refine wpAnyH_take (i := 5) (oi := _) (v := (.slice (some ad) N c3)) rfl (by kernel_rfl) (by kernel_rfl) (by kernel_rfl) (fun _ _ _ h => h) (Or.inl ⟨by rfl, ?_⟩) hS0 ?_
      · intro w' hSw; obtain ⟨v0, v1, v2⟩ := HCL.out w' hSw; go_simp
      try simp only [Act.put, List.setIfInBounds_toArray, List.set_cons_zero, List.set_cons_succ]
      refine wpAnyH_ready (rs := [6, 8]) (by kernel_rfl) (by simp) ?_
      refine AllReadyH.cons (o := _) rfl (fun K hK => ?_) (AllReadyH.cons (o := _) rfl (fun K hK => ?_) (AllReadyH.nil))
      · refine step_append_sl _ rfl (.const (.slice none 0 0)) (.tmp 40) 25 rfl 5 i0 (.int .u8 0) 1 1 Tryd.underlying25 hi0 hz0 hz1 hz2 rfl (by decide) _ 0 [] rfl (SlO.nil _ _ _) ad N c3 (T.map (Value.int .u8)) rfl (by simp [HTL.out]) (HNW.out _ (by repeat (first | exact Below.refl _ _ | apply below_drew | apply below_alloc))) (fun u hu => by obtain ⟨z, _, rfl⟩ := List.mem_map.1 hu; rfl) (by unfold maxLen; omega) (by omega) (fun A' cap' w' hs' hg' ho' _ => ?_)
        rw [Nat.zero_add] at hs' ho'
        obtain ⟨A8, rfl, hc8, hg8, hl8⟩ := slO_some hs' hN0
        have HS' := Lib.hid hs'; have HG' := Lib.hid hg'; have HO' := Lib.hid ho'; have HG8 := Lib.hid hg8; have HL8 := Lib.hid hl8
        clear hs' hg' ho' hg8 hl8
        have hS1 : Below w4.heap.size w4 w' := (below_drew (Below.refl _ w4)).trans ((Kept.of_grownBy HG'.out).below (Nat.le_refl _) (fun k e => by cases e))
        go_simp
        refine hK.out _ _ hS1 (fun _ => ?_)
        clear hK K
        try simp only [Act.put, List.setIfInBounds_toArray, List.set_cons_zero, List.set_cons_succ]
        refine wpAnyH_take (i := 7) (oi := _) (v := (.agg #[.int .i64 p, .int .i64 q, .slice (some ⟨A8, 0, none⟩) N cap'])) rfl (by kernel_rfl) (by kernel_rfl) (by kernel_rfl) (fun _ _ _ h => h) (Or.inl ⟨by rfl, ?_⟩) hS1 ?_
        · intro w'' hSw; go_simp
        try simp only [Act.put, List.setIfInBounds_toArray, List.set_cons_zero, List.set_cons_succ]
        refine wpAnyH_ready (rs := [8]) (by kernel_rfl) (by simp) ?_
        refine AllReadyH.cons (o := _) rfl (fun K hK => ?_) (AllReadyH.nil)
        go_simp
        have hS2 : Below w4.heap.size w4 (w'.alloc (.cells #[.int .i64 0, .int .i64 0, .slice none 0 0] 27)) := below_alloc hS1 _
        refine hK.out _ _ hS2 (fun _ => ?_)
        clear hK K
        try simp only [Act.put, List.setIfInBounds_toArray, List.set_cons_zero, List.set_cons_succ]
        refine wpAnyH_ready (rs := [9]) (by kernel_rfl) (by simp) ?_
        refine AllReadyH.cons (o := _) rfl (fun K hK => ?_) (AllReadyH.nil)
        go_simp
        have hS3 : Below w4.heap.size w4 (w'.alloc (.cells #[.int .i64 p, .int .i64 q, .slice (some ⟨A8, 0, none⟩) N cap'] 27)) := below_alloc hS1 _
        refine hK.out _ _ hS3 (fun _ => ?_)
        clear hK K
        try simp only [Act.put, List.setIfInBounds_toArray, List.set_cons_zero, List.set_cons_succ]
        refine wpAnyH_done (by kernel_rfl) ?_ _
        refine NoPanic.normal ?_
        go_wp2_with fail
        go_meet
        case rel =>
          have hg := HG8.out
          have hA8 : A8 = w4.heap.size := by
            rcases HO'.out with h | h
            · rw [h] at hg; cases hg
            · rw [h] at hg; injection hg with hg; exact hg.symm
          have hl := HL8.out
          exact ⟨w'.heap.size, A8, cap', rfl, hc8, Lib.hid (heap_alloc_new w' _), Lib.hid (HS'.out.kept (Kept.alloc (fun _ => False) _ _) (fun _ _ h => h)), Lib.hid ⟨by omega, hS1.size, by omega⟩, Lib.hid hS3⟩
      · go_simp
        have hS1 : Below w4.heap.size w4 (w4.alloc (.cells #[.int .i64 0, .int .i64 0, .slice none 0 0] 27)).drew := below_drew (below_alloc (Below.refl _ _) _)
        refine hK.out _ _ hS1 (fun _ => ?_)
        clear hK K
        try simp only [Act.put, List.setIfInBounds_toArray, List.set_cons_zero, List.set_cons_succ]
        refine wpAnyH_ready (rs := [6]) (by kernel_rfl) (by simp) ?_
        refine AllReadyH.cons (o := _) rfl (fun K hK => ?_) (AllReadyH.nil)
        refine step_append_sl _ rfl (.const (.slice none 0 0)) (.tmp 40) 25 rfl 5 i0 (.int .u8 0) 1 1 Tryd.underlying25 hi0 hz0 hz1 hz2 rfl (by decide) _ 0 [] rfl (SlO.nil _ _ _) ad N c3 (T.map (Value.int .u8)) rfl (by simp [HTL.out]) (HNW.out _ (by repeat (first | exact Below.refl _ _ | apply below_drew | apply below_alloc))) (fun u hu => by obtain ⟨z, _, rfl⟩ := List.mem_map.1 hu; rfl) (by unfold maxLen; omega) (by omega) (fun A' cap' w' hs' hg' ho' _ => ?_)
        rw [Nat.zero_add] at hs' ho'
        obtain ⟨A8, rfl, hc8, hg8, hl8⟩ := slO_some hs' hN0
        have HS' := Lib.hid hs'; have HG' := Lib.hid hg'; have HO' := Lib.hid ho'; have HG8 := Lib.hid hg8; have HL8 := Lib.hid hl8
        clear hs' hg' ho' hg8 hl8
        have hS2 : Below w4.heap.size w4 w' := hS1.trans ((Kept.of_grownBy HG'.out).below hS1.size (fun k e => by cases e))
        have GZ : w'.heap[w4.heap.size]? = some (.cells #[.int .i64 0, .int .i64 0, .slice none 0 0] 27 (0, 0)) := (Kept.of_grownBy HG'.out).get (heap_alloc_new w4 _) (fun e => by cases e)
        have y0 : w'.cell? ⟨w4.heap.size, 0, none⟩ = some (.int .i64 0) := (blk_cell GZ 0).trans rfl
        have y1 : w'.cell? ⟨w4.heap.size, 1, none⟩ = some (.int .i64 0) := (blk_cell GZ 1).trans rfl
        have y2 : w'.cell? ⟨w4.heap.size, 2, none⟩ = some (.slice none 0 0) := (blk_cell GZ 2).trans rfl
        have x0 := blk_frozen GZ 0
        have x1 := blk_frozen GZ 1
        have x2 := blk_frozen GZ 2
        go_simp
        refine hK.out _ _ hS2 (fun _ => ?_)
        clear hK K
        try simp only [Act.put, List.setIfInBounds_toArray, List.set_cons_zero, List.set_cons_succ]
        refine wpAnyH_take (i := 7) (oi := _) (v := (.agg #[.int .i64 p, .int .i64 q, .slice (some ⟨A8, 0, none⟩) N cap'])) rfl (by kernel_rfl) (by kernel_rfl) (by kernel_rfl) (fun _ _ _ h => h) (Or.inl ⟨by rfl, ?_⟩) hS2 ?_
        · intro w'' hSw; go_simp
        try simp only [Act.put, List.setIfInBounds_toArray, List.set_cons_zero, List.set_cons_succ]
        refine wpAnyH_ready (rs := [9]) (by kernel_rfl) (by simp) ?_
        refine AllReadyH.cons (o := _) rfl (fun K hK => ?_) (AllReadyH.nil)
        go_simp
        have hS3 : Below w4.heap.size w4 (((w'.setCell ⟨w4.heap.size, 0, none⟩ (.int .i64 p)).setCell ⟨w4.heap.size, 1, none⟩ (.int .i64 q)).setCell ⟨w4.heap.size, 2, none⟩ (.slice (some ⟨A8, 0, none⟩) N cap')) := below_set (below_set (below_set hS2 (Nat.le_refl _)) (Nat.le_refl _)) (Nat.le_refl _)
        refine hK.out _ _ hS3 (fun _ => ?_)
        clear hK K
        try simp only [Act.put, List.setIfInBounds_toArray, List.set_cons_zero, List.set_cons_succ]
        refine wpAnyH_done (by kernel_rfl) ?_ _
        refine NoPanic.normal ?_
        go_wp2_with fail
        go_meet
        case rel =>
          have hg := HG8.out
          have hA8 : A8 = w4.heap.size + 1 := by
            rcases HO'.out with h | h
            · rw [h] at hg; cases hg
            · rw [h] at hg; injection hg with hg; exact hg.symm.trans (by show (w4.heap.push _).size = _; simp)
          have hl := HL8.out
          have hk3 : Kept (· = w4.heap.size) w' (((w'.setCell ⟨w4.heap.size, 0, none⟩ (.int .i64 p)).setCell ⟨w4.heap.size, 1, none⟩ (.int .i64 q)).setCell ⟨w4.heap.size, 2, none⟩ (.slice (some ⟨A8, 0, none⟩) N cap')) := ((Kept.setCell (· = w4.heap.size) w' _ _ rfl).trans (Kept.setCell (· = w4.heap.size) _ _ _ rfl)).trans (Kept.setCell (· = w4.heap.size) _ _ _ rfl)
          exact ⟨w4.heap.size, A8, cap', rfl, hc8, Lib.hid ((heap_setCell_in _ (heap_setCell_in _ (heap_setCell_in _ GZ)))), Lib.hid (HS'.out.kept hk3 (fun k h1 h2 => by rw [HG8.out] at h1; injection h1 with h1; omega)), Lib.hid ⟨by omega, Nat.le_refl _, by omega⟩, Lib.hid hS3⟩
    case rest =>
      obtain ⟨g8, A8, c8, rfl, hc8, HG8, HS8, HL8, HBC⟩ := hcut
      obtain ⟨n, hn⟩ : ∃ n : Nat, (n : Int) = kx % N := ⟨(kx % N).toNat, by have := Int.emod_nonneg kx (show (N : Int) ≠ 0 by omega); omega⟩
      have hnN : n < N := by have := Int.emod_lt_of_pos kx (show (0 : Int) < N by omega); omega
      have tk : kx.tmod (N : Int) = (n : Int) := by rw [hn]; exact Int.tmod_eq_emod_of_nonneg hkx.1
      have wn : IntKind.i64.wrap (n : Int) = n := by rw [IntKind.wrap_i64]; omega
      have wk : IntKind.i64.wrap kx = kx := by rw [IntKind.wrap_i64]; omega
      have q0 : ((N : Int) == 0) = false := by rw [beq_eq_false_iff_ne]; omega
      have c2 : wc.cell? ⟨g8, 2, none⟩ = some (.slice (some ⟨A8, 0, none⟩) N c8) := (blk_cell HG8.out 2).trans rfl
      obtain ⟨t, ht⟩ : ∃ t, T[n]? = some t := ⟨T[n]'(by rw [HTL.out]; exact hnN), List.getElem?_eq_getElem _⟩
      have ct : wc.cell? ⟨A8, n, none⟩ = some (.int .u8 t) := by
        obtain ⟨ad, e, h⟩ := c8_at (slO_C8 (by omega) HS8.out).1 n t hnN ht
        injection e with e
        subst e
        rw [show (⟨A8, 0, none⟩ : Addr).add n = ⟨A8, n, none⟩ from by unfold Addr.add; split <;> simp_all] at h
        exact h
      have HT := Lib.hid ht
      have HN2 := Lib.hid hn
      clear hn ht
      go_upto_region 8 with (fail)
      refine wp_region_still_tail 11 (by kernel_rfl) (by kernel_rfl) ?_
      simp only [List.take_succ_cons, List.take_zero, List.drop_succ_cons, List.drop_zero]
      iterate 11 still_step
      refine wpStill_nil ?_
      change wpList _ _ _ _ _ wc.drew
      have cd : wc.drew.cell? ⟨A8, n, none⟩ = some (.int .u8 t) := ct
      obtain ⟨cur, GA, h4, h5, h6⟩ : ∃ cur : Array Value, wc.heap[A8]? = some (.cells cur 5 (0, 0)) ∧ c8 ≤ maxLen ∧ c8 * 1 ≤ cur.size ∧ cur.toList.take (N * 1) = T.map (Value.int .u8) := by
        rcases HS8.out.2 with ⟨e, h0⟩ | ⟨g, cap', cur, e, hg, hc, h4, h5, h6⟩
        · injection e with e1
          cases e1
        · injection e with e1 e2 e3
          injection e1 with e1
          injection e1 with e1 _
          subst e1 e3
          exact ⟨cur, hg, by omega, by omega, h6⟩
      have fd : wc.drew.frozen? ⟨A8, n, none⟩ = false := blk_frozen (show wc.drew.heap[A8]? = _ from GA) n
      have HGA := Lib.hid GA; have H6 := Lib.hid h6; have H5 := Lib.hid h5; have H4 := Lib.hid h4
      clear GA h6 h5 h4
      clear c2 ct
      go_upto_region 9 with (fail)
      clear cd fd
      obtain ⟨v9, hv9⟩ : ∃ v, max t by' = v := ⟨_, rfl⟩
      rw [hv9]
      have HV9 := Lib.hid hv9
      clear hv9
      have HB9 := Lib.hid (below_drew (below_set (j := n) (v := .int .u8 v9) HBC.out HL8.out.1))
      have GA9 := heap_setCell_in (off := n) (.int .u8 v9) HGA.out
      have HG9 := Lib.hid ((Kept.setCell (· = A8) wc ⟨A8, n, none⟩ (.int .u8 v9) rfl).get HG8.out (fun e => HL8.out.2.2 e))
      have HS9 : Hid (SlO (wc.setCell ⟨A8, n, none⟩ (.int .u8 v9)).drew 5 1 (.slice (some ⟨A8, 0, none⟩) N c8) N ((T.set n v9).map (Value.int .u8))) := Lib.hid ⟨by simp [HTL.out], .inr ⟨A8, c8, _, rfl, GA9, hc8, by have := H4.out; omega, by simp; have := H5.out; omega, by rw [Array.toList_setIfInBounds, List.take_set, H6.out, List.map_set]⟩⟩
      have HG9' : Hid ((wc.setCell ⟨A8, n, none⟩ (.int .u8 v9)).drew.heap[g8]? = some (.cells #[.int .i64 p, .int .i64 q, .slice (some ⟨A8, 0, none⟩) N c8] 27 (0, 0))) := Lib.hid HG9.out
      clear GA9 HG9
      generalize (wc.setCell ⟨A8, n, none⟩ (.int .u8 v9)).drew = w9 at *
      have HT9 : Hid (∀ z ∈ T.set n v9, 0 ≤ z ∧ z ≤ 255) := Lib.hid (fun z hz => by
        rcases List.mem_or_eq_of_mem_set hz with h | h
        · exact HT8.out z h
        · have h1 := HT8.out t (List.mem_of_getElem? HT.out)
          have h2 := HV9.out
          omega)
      have HCA : Hid (∀ w', Below w4.heap.size w4 w' → Kd.C (Kd.int .u8) w' (some ad) N T) := Lib.hid (fun w' hb => Kd.C_below (slO_C8 (by omega) S4.out).1 hb)
      have HCB : Hid (∀ w', Below w9.heap.size w9 w' → Kd.C (Kd.int .u8) w' (some ⟨A8, 0, none⟩) N (T.set n v9)) := Lib.hid (fun w' hb => Kd.C_below (slO_C8 (by omega) HS9.out).1 hb)
      obtain ⟨SA, hSA⟩ : ∃ S : ByteArray, (⟨(shU p T q).toArray⟩ : ByteArray) = S := ⟨_, rfl⟩
      obtain ⟨SB, hSB⟩ : ∃ S : ByteArray, (⟨(shU p (T.set n v9) q).toArray⟩ : ByteArray) = S := ⟨_, rfl⟩
      have HSHA := Lib.hid (fun w' h => shades_c w' p q (some ad) N c3 T (by omega) (by omega) HTL.out h HT8.out)
      have HSHB := Lib.hid (fun w' h => shades_c w' p q (some ⟨A8, 0, none⟩) N c8 (T.set n v9) (by omega) (by omega) (by rw [List.length_set]; exact HTL.out) h HT9.out)
      rw [hSA] at HSHA
      rw [hSB] at HSHB
      simp only [Ef] at HSHA HSHB
      have HEA := Lib.hid hSA; have HEB := Lib.hid hSB
      clear hSA hSB
      have HCC : Hid (∀ w', Below w9.heap.size w9 w' → (w'.cell? ⟨b5, 0, none⟩ = some (.int .i64 p) ∧ w'.cell? ⟨b5, 1, none⟩ = some (.int .i64 q) ∧ w'.cell? ⟨b5, 2, none⟩ = some (.slice (some ad) N c3)) ∧ w'.cell? ⟨g8, 0, none⟩ = some (.int .i64 p) ∧ w'.cell? ⟨g8, 1, none⟩ = some (.int .i64 q) ∧ w'.cell? ⟨g8, 2, none⟩ = some (.slice (some ⟨A8, 0, none⟩) N c8)) := Lib.hid (fun w' hb => by
        have := blk_below HG9'.out hb
        exact ⟨HCL.out w' (HB9.out.trans (hb.mono HB9.out.size)), (blk_cell this 0).trans rfl, (blk_cell this 1).trans rfl, (blk_cell this 2).trans rfl⟩)
      obtain ⟨⟨z0, z1, z2⟩, z3, z4, z5⟩ := HCC.out w9.drew (below_drew (Below.refl _ _))
      have hD9 := Lib.hid (below_drew (Below.refl w9.heap.size w9))
      go_upto_region 9 with (fail)
      go_cut [10, 11] (fun va vb wc => va = .string SA ∧ vb = .string SB ∧ Hid (Below w9.heap.size w9 wc))
      case first =>
       go_region_held3 (fun w' => (w'.cell? ⟨b5, 0, none⟩ = some (.int .i64 p) ∧ w'.cell? ⟨b5, 1, none⟩ = some (.int .i64 q) ∧ w'.cell? ⟨b5, 2, none⟩ = some (.slice (some ad) N c3)) ∧ w'.cell? ⟨g8, 0, none⟩ = some (.int .i64 p) ∧ w'.cell? ⟨g8, 1, none⟩ = some (.int .i64 q) ∧ w'.cell? ⟨g8, 2, none⟩ = some (.slice (some ⟨A8, 0, none⟩) N c8)) (first
        | assumption
        | exact ⟨⟨z0, z1, z2⟩, z3, z4, z5⟩
        | exact HC6
        | exact HC5) (first
        | (go_at_call_of 11 (Value.agg #[.int .i64 p, .int .i64 q, .slice (some ad) N c3]); refine (HSHA.out w9.drew (HCA.out _ (below_drew HB9.out))).mono ?_; rintro e w5 ⟨rfl, hb5⟩; have HB5 := Lib.hid (hD9.out.trans hb5); have HC5 := HCC.out w5 HB5.out; clear hb5)
        | (go_at_call_of 11 (Value.agg #[.int .i64 p, .int .i64 q, .slice (some ⟨A8, 0, none⟩) N c8]); refine (HSHB.out w9.drew (HCB.out _ hD9.out)).mono ?_; rintro e w5 ⟨rfl, hb5⟩; have HB5 := Lib.hid (hD9.out.trans hb5); have HC5 := HCC.out w5 HB5.out; clear hb5)
        | (go_at_call_of 11 (Value.agg #[.int .i64 p, .int .i64 q, .slice (some ad) N c3]); refine (HSHA.out w5 (HCA.out _ (HB9.out.trans (HB5.out.mono HB9.out.size)))).mono ?_; rintro e w6 ⟨rfl, hb6⟩; have HB6 := Lib.hid (HB5.out.trans (hb6.mono HB5.out.size)); have HC6 := HCC.out w6 HB6.out; clear hb6)
        | (go_at_call_of 11 (Value.agg #[.int .i64 p, .int .i64 q, .slice (some ⟨A8, 0, none⟩) N c8]); refine (HSHB.out w5 (HCB.out _ HB5.out)).mono ?_; rintro e w6 ⟨rfl, hb6⟩; have HB6 := Lib.hid (HB5.out.trans (hb6.mono HB5.out.size)); have HC6 := HCC.out w6 HB6.out; clear hb6))
       all_goals
         go_wp2_with fail
         go_meet
         case rel => exact ⟨rfl, rfl, HB6⟩
      case rest =>
        obtain ⟨rfl, rfl, HBX⟩ := hcut
        clear z0 z1 z2 z3 z4 z5 tk wn wk q0
        obtain ⟨⟨z0, z1, _⟩, _⟩ := HCC.out wc HBX.out
        obtain ⟨⟨y0, y1, _⟩, _⟩ := HCC.out wc.drew (below_drew HBX.out)
        have hp0 : p ≠ 0 := by
          intro h0
          have := HN.out
          rw [h0, Nat.zero_mul] at this
          omega
        have hpN : n < p * q := by rw [HN.out]; exact hnN
        obtain ⟨a1, a2, a3, -, -⟩ := atD_ix hpN
        obtain ⟨r, hr⟩ : ∃ r, n / p = r := ⟨_, rfl⟩
        obtain ⟨c, hc⟩ : ∃ c, n % p = c := ⟨_, rfl⟩
        obtain ⟨d, hd⟩ : ∃ d, atD p q n = d := ⟨_, rfl⟩
        have td : (n : Int).tdiv p = r := by rw [← hr]; rfl
        have tm : (n : Int).tmod p = c := by rw [← hc]; rfl
        rw [hr] at a1
        rw [hc] at a2
        rw [hd] at a3
        have hsub : ((q - 1 - r : Nat) : Int) = (q : Int) - 1 - r := by omega
        obtain ⟨Pn, hPn⟩ : ∃ Pn, (q - 1 - r) * (p + 1) = Pn := ⟨_, rfl⟩
        have hP : ((q : Int) - 1 - r) * ((p : Int) + 1) = Pn := by rw [← hsub, ← hPn, Int.natCast_mul]; rfl
        have hdP : Pn + c = d := by rw [← hd, ← hPn, ← hr, ← hc]; rfl
        have e1 : IntKind.i64.wrap ((q : Int) - 1) = (q : Int) - 1 := by rw [IntKind.wrap_i64]; omega
        have e2 : IntKind.i64.wrap ((q : Int) - 1 - r) = (q : Int) - 1 - r := by rw [IntKind.wrap_i64]; omega
        have e3 : IntKind.i64.wrap ((p : Int) + 1) = (p : Int) + 1 := by rw [IntKind.wrap_i64]; omega
        obtain ⟨L, hL⟩ : ∃ L, q * (p + 1) = L := ⟨_, rfl⟩
        have hL1 : L ≤ 13 * 14 := by rw [← hL]; exact Nat.mul_le_mul hpq.2 (by omega)
        rw [hL] at a3
        have e4 : IntKind.i64.wrap (Pn : Int) = Pn := by rw [IntKind.wrap_i64]; omega
        have e5 : IntKind.i64.wrap ((Pn : Int) + c) = d := by rw [IntKind.wrap_i64]; omega
        have e6 : IntKind.i64.wrap (r : Int) = r := by rw [IntKind.wrap_i64]; omega
        have e7 : IntKind.i64.wrap (c : Int) = c := by rw [IntKind.wrap_i64]; omega
        have q0 : ((p : Int) == 0) = false := by rw [beq_eq_false_iff_ne]; omega
        have hsl : q * p ≤ T.length := by rw [HTL.out, ← HN.out, Nat.mul_comm]; exact Nat.le_refl _
        have sa : SA.size = L := by rw [← HEA.out, ← hL]; exact List.size_toArray.trans (shU_len q hsl)
        have sb : SB.size = L := by rw [← HEB.out, ← hL]; exact List.size_toArray.trans (shU_len q (by rw [List.length_set]; exact hsl))
        have HD := Lib.hid hd; have HR := Lib.hid hr
        have hge : ¬ (L : Int) ≤ (d : Int) := by omega
        have HLL := Lib.hid hL
        clear hr hc hd hsub hPn hdP hL hsl
        go_upto_region 10 with (fail)
        go_quiet (fail)
        go_upto_region 11 with (fail)
        have HBY := Lib.hid (HBX.out.trans (below_drewN (Below.refl _ wc) nq |>.mono HBX.out.size))
        generalize wc.drewN nq = wd at *
        clear z0 z1 y0 y1
        go_upto_region 14 with (fail)
        go_loopw [94] (fun v wr => ∃ j : Nat, v = .int .i64 j ∧ j ≤ L ∧ Hid (Below w9.heap.size w9 wr)) (fun v _ => L - (intOf v).toNat)
        case atStart => exact ⟨0, rfl, Nat.zero_le _, HBY⟩
        case round =>
          obtain ⟨j, rfl, hj, HBW⟩ := hrel
          by_cases hjL : j < L
          · have c1 : (j : Int) < (L : Int) := by omega
            by_cases hjd : j = d
            · subst hjd
              go_upto_region 16 with (fail)
              go_quiet (fail)
              go_wp2_with fail
              go_roundw
              case rel => exact ⟨j + 1, by go_num, by omega, Lib.hid (below_drewN HBW.out nq)⟩
              case measure => simp [intOf]; omega
            · have c2 : ((j : Int) == (d : Int)) = false := by rw [beq_eq_false_iff_ne]; omega
              have c3 : decide ((j : Int) = (d : Int)) = false := decide_eq_false (by omega)
              have c4 : decide (j = d) = false := decide_eq_false hjd
              have c5 : ((j : Int) != (d : Int)) = true := by rw [bne, c2]; rfl
              have c6 : ¬ ((j : Int) = (d : Int)) := by omega
              have c7 : (j == d) = false := by rw [beq_eq_false_iff_ne]; exact hjd
              have hlen : (shU p T q).length = L := List.size_toArray.symm.trans ((congrArg ByteArray.size HEA.out).trans sa)
              obtain ⟨u, hu⟩ : ∃ u, (shU p T q)[j]? = some u := ⟨_, List.getElem?_eq_getElem (by rw [hlen]; exact hjL)⟩
              have hu2 : (shU p (T.set n v9) q)[j]? = some u := by
                rw [sh_off (by rw [HTL.out, HN.out]) hpN j (by rw [HLL.out]; exact hjL) (by rw [HD.out]; exact hjd)]
                exact hu
              obtain ⟨z, hz⟩ : ∃ z : Int, ((u.toNat : Nat) : Int) = z := ⟨_, rfl⟩
              have hia : ∀ w, (Instr.index 9 (.string SA) (.int .i64 (j : Int))).run Tryd.prog w = .ok (.int .u8 z) w := fun w => by rw [← HEA.out, ← hz]; exact ix_str _ j u hu w
              have hib : ∀ w, (Instr.index 9 (.string SB) (.int .i64 (j : Int))).run Tryd.prog w = .ok (.int .u8 z) w := fun w => by rw [← HEB.out, ← hz]; exact ix_str _ j u hu2 w
              clear hu hu2 hz hlen
              go_upto_region 16 with (fail)
              go_quiet (fail)
              go_wp2_with fail
              go_roundw
              case rel => exact ⟨j + 1, by go_num, by omega, Lib.hid (below_drewN HBW.out nq)⟩
              case measure => simp [intOf]; omega
          · have c1 : ¬ (j : Int) < (L : Int) := by omega
            obtain ⟨x1, x2, ex1, ex2, hx1, hx2, hx⟩ := sg_le t v9 (HT8.out t (List.mem_of_getElem? HT.out)) (HT9.out v9 (List.mem_of_getElem? (List.getElem?_set_self (by rw [HTL.out]; exact hnN)))) (by have := HV9.out; omega)
            have hu1 : (shU p T q)[d]? = some (sgN x1) := by
              rw [← HD.out, sh_at (by rw [HTL.out, HN.out]) hpN, List.getD_eq_getElem?_getD, HT.out, ← ex1]
              rfl
            have hu2 : (shU p (T.set n v9) q)[d]? = some (sgN x2) := by
              rw [← HD.out, sh_at (by rw [List.length_set, HTL.out, HN.out]) hpN, List.getD_eq_getElem?_getD, List.getElem?_set_self (by rw [HTL.out]; exact hnN), ← ex2]
              rfl
            obtain ⟨ka, hka⟩ : ∃ z : Int, (((sgN x1).toNat : Nat) : Int) = z := ⟨_, rfl⟩
            obtain ⟨kb, hkb⟩ : ∃ z : Int, (((sgN x2).toNat : Nat) : Int) = z := ⟨_, rfl⟩
            have hia : ∀ w, (Instr.index 9 (.string SA) (.int .i64 (d : Int))).run Tryd.prog w = .ok (.int .u8 ka) w := fun w => by rw [← HEA.out, ← hka]; exact ix_str _ d _ hu1 w
            have hib : ∀ w, (Instr.index 9 (.string SB) (.int .i64 (d : Int))).run Tryd.prog w = .ok (.int .u8 kb) w := fun w => by rw [← HEB.out, ← hkb]; exact ix_str _ d _ hu2 w
            have HPA : Hid (∀ w, Below w9.heap.size w9 w → Calls Tryd.prog 14 #[.int .u8 ka] w fun e w' => e = .returned (.int .i64 x1) ∧ Below w9.heap.size w9 w') := Lib.hid (fun w hb => by
              rw [← hka]
              exact (place_c w x1 hx1).mono (fun e w' h => ⟨h.1, hb.trans (h.2.mono hb.size)⟩))
            have HPB : Hid (∀ w, Below w9.heap.size w9 w → Calls Tryd.prog 14 #[.int .u8 kb] w fun e w' => e = .returned (.int .i64 x2) ∧ Below w9.heap.size w9 w') := Lib.hid (fun w hb => by
              rw [← hkb]
              exact (place_c w x2 hx2).mono (fun e w' h => ⟨h.1, hb.trans (h.2.mono hb.size)⟩))
            have h0 : (0 : Int) ≤ x1 := by omega
            clear hu1 hu2 hka hkb ex1 ex2 hx1 hx2
            have hW0 := HBW.out
            have hW1 := below_drew HBW.out
            go_upto_region 20 with (fail)
            go_region_held3 (fun w' => Below w9.heap.size w9 w') (first
              | assumption
              | exact hb') (first
              | (go_at_call_of 14 ka; refine (HPA.out _ (by assumption)).mono ?_; rintro e w' ⟨rfl, hb'⟩)
              | (go_at_call_of 14 kb; refine (HPB.out _ (by assumption)).mono ?_; rintro e w' ⟨rfl, hb'⟩))
            all_goals
              go_wp2_with fail
              go_ret
              exact ⟨rfl, HEND.out _ (HB9.out.trans (hb'.mono HB9.out.size))⟩
end Go.Proofs.YtaccppchhljnkaaDoor
set_option linter.unusedVariables false
set_option linter.unusedSimpArgs false
namespace Go.Proofs.YtaccppchhljnkaaDoor
section
open Go.Joins Go.ChangeShapes Go.WideShapes Go.RowKit Go.Deep
section
variable {H : Type} {enc : TypeId × Value → H} {P : Program} {w : World} {base : Nat} {spare : Nat → Bool} {held : Bool}
theorem open_five {r : Reach} {b0 : Nat} {t : TypeId} {f0 f1 f2 f3 f4 : Field} {v : Value} {d : DataW H} {p : List MemPlace} (q : IntKind) (hs : P.underlying t = some (.struct #[f0, f1, f2, f3, f4])) (hone : oneCellFields P #[f0, f1, f2, f3, f4] = true) (hC : P.cellsOf t = 5)
    (hq : P.underlying f0.type = some (.int q) ∧ P.underlying f1.type = some (.int q) ∧ P.underlying f2.type = some (.int q) ∧ P.underlying f3.type = some (.int q) ∧ P.underlying f4.type = some (.int q))
    (hv : Value.okWide P w r b0 t v) (h : DataW.Trod enc P w base spare held t v d p) :
    ∃ x0 x1 x2 x3 x4 : Int, v = .agg #[.int q x0, .int q x1, .int q x2, .int q x3, .int q x4] ∧
      (Lit.int q x0).wf = true ∧ (Lit.int q x1).wf = true ∧ (Lit.int q x2).wf = true ∧ (Lit.int q x3).wf = true ∧ (Lit.int q x4).wf = true := by
  obtain ⟨cs, rfl, hsz⟩ := okWide_struct hs hv
  obtain ⟨l⟩ := cs
  match l, hsz.trans hC with
  | [c0, c1, c2, c3, c4], _ =>
    obtain ⟨fuel, hf⟩ := h
    obtain ⟨xs, n, _, _, _, hlen, hg⟩ := DataW.trod_struct hs hf
    obtain ⟨o0, k0⟩ := hone_of hone 0 f0 rfl
    obtain ⟨o1, k1⟩ := hone_of hone 1 f1 rfl
    obtain ⟨o2, k2⟩ := hone_of hone 2 f2 rfl
    obtain ⟨o3, k3⟩ := hone_of hone 3 f3 rfl
    obtain ⟨o4, k4⟩ := hone_of hone 4 f4 rfl
    have one : ∀ {f : Field} {c : Value} {y : Option (DataW H × List MemPlace)}, P.underlying f.type = some (.int q) → y.isSome → DataW.trod enc P w base spare held n f.type [c] = y → ∃ x : Int, c = .int q x ∧ (Lit.int q x).wf = true := by
      intro f c y hu hy hh
      obtain ⟨y, rfl⟩ := Option.isSome_iff_exists.1 hy
      obtain ⟨x, hx, _, hw⟩ := DataW.trod_int hu hh
      injection hx with hx
      exact ⟨x, hx, hw⟩
    have g0 := hg 0 f0 rfl; have g1 := hg 1 f1 rfl; have g2 := hg 2 f2 rfl; have g3 := hg 3 f3 rfl; have g4 := hg 4 f4 rfl
    have hl6 : xs.length = 5 := hlen
    obtain ⟨x0, rfl, w0⟩ := one (y := xs[0]?) hq.1 (by simp; omega) (by simpa [Value.cells, o0, k0] using g0)
    obtain ⟨x1, rfl, w1⟩ := one (y := xs[1]?) hq.2.1 (by simp; omega) (by simpa [Value.cells, o1, k1] using g1)
    obtain ⟨x2, rfl, w2⟩ := one (y := xs[2]?) hq.2.2.1 (by simp; omega) (by simpa [Value.cells, o2, k2] using g2)
    obtain ⟨x3, rfl, w3⟩ := one (y := xs[3]?) hq.2.2.2.1 (by simp; omega) (by simpa [Value.cells, o3, k3] using g3)
    obtain ⟨x4, rfl, w4⟩ := one (y := xs[4]?) hq.2.2.2.2 (by simp; omega) (by simpa [Value.cells, o4, k4] using g4)
    exact ⟨x0, x1, x2, x3, x4, rfl, w0, w1, w2, w3, w4⟩
end
end
open Go.RowKit Go.Proofs.YtaccppchhljnkaaDoorW.PrintWords Go.Proofs.YtaccppchhljnkaaDoorW.PrintMore
theorem wfu8 {x : Int} (h : (Lit.int .u8 x).wf = true) : 0 ≤ x ∧ x ≤ 255 := by simpa [Lit.wf, IntKind.min, IntKind.max, IntKind.signed, IntKind.bits] using h
theorem wfi8 {x : Int} (h : (Lit.int .i8 x).wf = true) : -128 ≤ x ∧ x ≤ 127 := by simpa [Lit.wf, IntKind.min, IntKind.max, IntKind.signed, IntKind.bits] using h
theorem wfi16 {x : Int} (h : (Lit.int .i16 x).wf = true) : -32768 ≤ x ∧ x ≤ 32767 := by simpa [Lit.wf, IntKind.min, IntKind.max, IntKind.signed, IntKind.bits] using h

namespace viewDark
open Go.ChangeShapes Go.WideShapes Go.ChangeAt Go.RowKit
open Go.ChangeMaps (open_string shut_string)
theorem own : ownKnob Tryd.prog.godebug = none := by kernel_rfl
theorem laidOut : laidOutB Tryd.prog = true := by kernel_rfl

set_option maxRecDepth 100000 in
theorem lifted (os : Os) (started : os.Started) (H : Type) (enc : TypeId × Value → H) :
    ReturnsInHanded {} Tryd.checked os 6 .any (fun w args => (Rows.viewDarkSpec.pre enc Tryd.prog Tryd.f6 [] false w args ∧ laidMetH Tryd.prog vLaid w) ∧ sizedMet enc Tryd.prog Tryd.f6 (OpenSpec.ofChange Rows.viewDarkSpec) false w args) (Rows.viewDarkSpec.post enc Tryd.prog Tryd.f6 false true false false) := by
  refine returnsInHanded_of_change_and (C := Tryd.checked) (X := fun w _ => laidMetH Tryd.prog vLaid w) (fun _ _ _ hh h => h.of_heap hh) own started (by kernel_rfl) Tryd.func6
    (ChangeSpec.witness_shaped (enc := enc) (C := Tryd.checked) (os := os) (X := fun w _ => laidMetH Tryd.prog vLaid w) false (World.doorLaid Tryd.prog 400 os) #[.agg #[.int .u8 0, .int .u8 0, .int .u8 0, .int .u8 0, .int .u8 0], .int .u8 0, .int .u8 0] 8 rfl (World.shaped_of_RefB (by kernel_rfl) (by kernel_rfl)) (by kernel_rfl) (by kernel_rfl) (by kernel_rfl) (door_met os _)) ?_
  intro W base args ds gs before hval0 hW hcnd _ hL _
  have hval : ∀ (j : Nat) t v, Tryd.f6.params[j]? = some t → args[j]? = some v → Value.okWide Tryd.prog W .any base t v := hval0
  have hW' := hW
  obtain ⟨p, q, hA0, hV, rfl, hfz, hnd⟩ := hW
  have hA : DataW.TrodAll enc Tryd.prog W 0 (fun _ => true) true Tryd.f6.params.toList args.toList ds p := hA0
  rw [Tryd.params6] at hA hval
  obtain ⟨v0, vs0, d0, ds0, p0, q0, hargs, rfl, rfl, h0, r0⟩ := trodAll_cons hA
  obtain ⟨v1, vs1, d1, ds1, p1, q1, rfl, rfl, rfl, h1, r1⟩ := trodAll_cons r0
  obtain ⟨v2, vs2, d2, ds2, p2, q2, rfl, rfl, rfl, h2, r2⟩ := trodAll_cons r1
  obtain ⟨rfl, rfl, rfl⟩ := trodAll_nil r2
  obtain rfl : args = #[v0, v1, v2] := by cases args; simp_all
  obtain ⟨rfl, rfl⟩ := trodVars_none hV
  have k0 := h0
  have lt0 : ∀ x ∈ p0, x.block < W.heap.size := by obtain ⟨m, hm⟩ := k0; exact DataW.trod_lt m _ _ _ hm
  obtain ⟨a00, a01, a02, a03, a04, rfl, w00, w01, w02, w03, w04⟩ := open_five .u8 Tryd.underlying23 (by kernel_rfl) (by kernel_rfl) ⟨Tryd.underlying5, Tryd.underlying5, Tryd.underlying5, Tryd.underlying5, Tryd.underlying5⟩ (hval 0 23 v0 rfl rfl) h0
  obtain ⟨a1, rfl, rfl, rfl, w1⟩ := open_int Tryd.underlying5 (hval 1 5 v1 rfl rfl) h1
  obtain ⟨a2, rfl, rfl, rfl, w2⟩ := open_int Tryd.underlying5 (hval 2 5 v2 rfl rfl) h2
  clear hA0 hval0
  refine (viewDark_core a00 a01 a02 a03 a04 (wfu8 w00) (wfu8 w01) (wfu8 w02) (wfu8 w03) (wfu8 w04) a1 a2 (wfu8 w1) (wfu8 w2) W (tab_of hL)).mono fun e W' ⟨he, bel⟩ => ?_
  subst he
  exact ⟨_, rfl, _, _, _, [], _, [], hW', trodAll_mk1 (shut_bool Tryd.underlying4 _), (trodAll_cons_mk (Below.trod laidOut (by kernel_rfl) (of_decide_eq_true (by kernel_rfl)) k0 bel lt0) (trodAll_cons_mk (shut_int Tryd.underlying5 w1) (trodAll_cons_mk (shut_int Tryd.underlying5 w2) trodAll_mk0))), rfl, bel.frame _, fun h => by cases h⟩

theorem over : Rows.viewDarkRow.holds Tryd.pinned (OpenSpec.ofChange Rows.viewDarkSpec) :=
  OpenClaim.holds_of_wide 6 Tryd.f6 rfl rfl rfl rfl rfl rfl rfl ⟨rfl, rfl, rfl, rfl, rfl⟩ rfl rfl rfl rfl rfl (by kernel_rfl) Tryd.func6 (by kernel_rfl)
    (of_decide_eq_true (by kernel_rfl)) (by unfold Func.isWrapper; first | (rw [if_pos (by decide +kernel)]; kernel_rfl) | (rw [if_neg (by decide +kernel)]; exact ⟨rfl, rfl⟩))
    (fun os started H enc _ => lifted os started H enc)

theorem proved : Rows.ViewDarkCardSaid :=
  Claim7.holds_tied_plain_at .later [] [.data, .data, .data] true (true, "9f61736623f24a406a096889e4604567b643a8a2236ce8bbd74d46cd243b27bf") false
    over (fun _ h => by cases h) (by kernel_rfl) (fun _ h => by cases h) viewDark_row_tie rfl ⟨rfl, rfl⟩ (by kernel_rfl) rfl
    (fun f fn hf hfn => by
      obtain rfl : f = 6 := Option.some.inj ((show Tryd.prog.funcNamed Rows.viewDarkRow.func = some 6 by kernel_rfl).symm.trans hf) |>.symm
      obtain rfl : fn = Tryd.f6 := (Option.some.inj (Tryd.func6.symm.trans hfn)).symm
      exact ⟨by kernel_rfl, fun j t ht => by
        rw [Tryd.params6] at ht
        have hm := Array.mem_of_getElem? ht
        have hm2 : t = 23 ∨ t = 5 := by
          simp at hm
          exact hm
        rcases hm2 with rfl | rfl
        · exact (show Tryd.prog.wantsStandIn 23 = false by kernel_rfl)
        · exact (show Tryd.prog.wantsStandIn 5 = false by kernel_rfl)⟩)
    (by kernel_rfl)
end viewDark
end Go.Proofs.YtaccppchhljnkaaDoor
