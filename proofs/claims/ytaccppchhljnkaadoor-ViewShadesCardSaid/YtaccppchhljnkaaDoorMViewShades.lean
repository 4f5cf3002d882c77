/- ViewShades: for every input the law returns true; the card, tied. No condition. -/
import Derived.Test.YtaccppchhljnkaaDoorVAll
import Derived.Test.YtaccppchhljnkaaDoorRows
import Derived.ProofKit
import Derived.SevenTiedAt
import Derived.Lib.SmallJoins
import Derived.OpenShut
import Derived.ShutString
import Derived.ChangeOld
import Derived.Below
/- ViewShades: its walk. -/
set_option linter.unusedVariables false
set_option linter.unusedSimpArgs false
namespace Go.Proofs.YtaccppchhljnkaaDoor
open Go.RowKit Go.Shelf Go.Proofs.YtaccppchhljnkaaDoorW.PrintWords Go.Proofs.YtaccppchhljnkaaDoorW.PrintLast Go.Proofs.YtaccppchhljnkaaDoorW.PrintMore
theorem ex_sg (d : Nat) (h : d < 10) : (⟨#[32, 46, 58, 45, 61, 43, 42, 35, 37, 64]⟩ : ByteArray).extract d (d + 1) = bs [sgN d] := by
  have h9 : d = 0 ∨ d = 1 ∨ d = 2 ∨ d = 3 ∨ d = 4 ∨ d = 5 ∨ d = 6 ∨ d = 7 ∨ d = 8 ∨ d = 9 := by omega
  rcases h9 with rfl | rfl | rfl | rfl | rfl | rfl | rfl | rfl | rfl | rfl <;> decide
theorem c8_take {W : World} {a : Option Addr} {n m : Nat} {xs : List Int} (h : Kd.C (Kd.int .u8) W a n xs) (hm : m ≤ n) : Kd.C (Kd.int .u8) W a m (xs.take m) := by
  obtain ⟨h1, h2, h3⟩ := h
  refine ⟨by rw [List.length_take]; omega, by omega, fun h0 => ?_⟩
  obtain ⟨ad, e, g⟩ := h3 (by omega)
  refine ⟨ad, e, fun j p hj => g j p ?_⟩
  by_cases c : j < m
  · rw [List.getElem?_take_of_lt c] at hj; exact hj
  · rw [List.getElem?_eq_none (by rw [List.length_take]; omega)] at hj; cases hj
attribute [local go_sem] max2_max min2_min max_two min_two
set_option maxHeartbeats 4000000 in
set_option maxRecDepth 100000 in
theorem viewShades_core (o k x y i : Int) (ho : 0 ≤ o ∧ o ≤ 255) (hk : 0 ≤ k ∧ k ≤ 255) (hx : 0 ≤ x ∧ x ≤ 255) (hy : 0 ≤ y ∧ y ≤ 255) (hi : 0 ≤ i ∧ i ≤ 255) (c : Int) (hc : 0 ≤ c ∧ c ≤ 255) (W0 : World) (hT : Tab W0) :
    Calls Tryd.prog 3 #[.agg #[.int .u8 o, .int .u8 k, .int .u8 x, .int .u8 y, .int .u8 i], .int .u8 c] W0 fun e w' => e = .returned (.bool true) ∧ Below W0.heap.size W0 w' := by
  obtain ⟨p, hp⟩ : ∃ p : Nat, (p : Int) = x % 14 := ⟨(x % 14).toNat, by omega⟩
  obtain ⟨q, hq⟩ : ∃ q : Nat, (q : Int) = y % 14 := ⟨(y % 14).toNat, by omega⟩
  have hpq : p ≤ 13 ∧ q ≤ 13 := by omega
  obtain ⟨N, hN⟩ : ∃ N, p * q = N := ⟨_, rfl⟩
  have hN1 : N ≤ 169 := by rw [← hN]; exact Nat.mul_le_mul hpq.1 hpq.2
  obtain ⟨M, hM⟩ : ∃ M : Nat, max 0 ((N : Int) - c % 5) = (M : Int) := ⟨(max 0 ((N : Int) - c % 5)).toNat, by omega⟩
  have hMN : M ≤ N := by omega
  have tc : c.tmod 5 = c % 5 := Int.tmod_eq_emod_of_nonneg hc.1
  have wc : IntKind.i64.wrap (c % 5) = c % 5 := by rw [IntKind.wrap_i64]; omega
  have wn : IntKind.i64.wrap ((N : Int) - c % 5) = (N : Int) - c % 5 := by rw [IntKind.wrap_i64]; omega
  have HFA := Lib.hid (fun W => fieldA_c W o k x y i hx hy hi p q hp hq)
  have bb := below_alloc (Below.refl _ W0) (.cells #[.int .u8 o, .int .u8 k, .int .u8 x, .int .u8 y, .int .u8 i] 23)
  have G1 := heap_alloc_new W0 (.cells #[.int .u8 o, .int .u8 k, .int .u8 x, .int .u8 y, .int .u8 i] 23)
  have T1 := Lib.hid (hT.below bb)
  obtain ⟨T, hTx⟩ : ∃ T, (List.range (p * q)).map (txA i) = T := ⟨_, rfl⟩
  have hT8 : ∀ z ∈ T, 0 ≤ z ∧ z ≤ 255 := fun z hz => by
    rw [← hTx] at hz
    obtain ⟨j, _, rfl⟩ := List.mem_map.1 hz
    exact txA_in i j
  have hTl : T.length = N := by rw [← hTx, ← hN]; simp
  rw [hTx, hN] at HFA
  have HT8 := Lib.hid hT8; have HTL := Lib.hid hTl
  clear hT hp hq hN hTx hT8 hTl ho hk hx hy hi
  go_enter Tryd.func3, Tryd.ntmps3
  go_upto_region 1 with (fail)
  have HB1 := Lib.hid bb; have HG1 := Lib.hid G1
  clear bb G1
  generalize W0.alloc (.cells #[.int .u8 o, .int .u8 k, .int .u8 x, .int .u8 y, .int .u8 i] 23) = w1 at *
  go_wp2_with fail
  refine (awake23 w1 T1.out).mono ?_
  rintro e w2 ⟨rfl, hb2⟩
  have HB2 := Lib.hid hb2
  have G2 := blk_below HG1.out hb2
  obtain ⟨bx, hbx⟩ : ∃ bx, W0.heap.size = bx := ⟨_, rfl⟩
  have HBX := Lib.hid hbx
  rw [hbx] at G2
  have a0 : w2.cell? ⟨bx, 0, none⟩ = some (.int .u8 o) := (blk_cell G2 0).trans rfl
  have a1 : w2.cell? ⟨bx, 1, none⟩ = some (.int .u8 k) := (blk_cell G2 1).trans rfl
  have a2 : w2.cell? ⟨bx, 2, none⟩ = some (.int .u8 x) := (blk_cell G2 2).trans rfl
  have a3 : w2.cell? ⟨bx, 3, none⟩ = some (.int .u8 y) := (blk_cell G2 3).trans rfl
  have a4 : w2.cell? ⟨bx, 4, none⟩ = some (.int .u8 i) := (blk_cell G2 4).trans rfl
  clear hb2 G2
  go_wp2_with fail
  refine (HFA.out w2).mono ?_
  rintro e w3 ⟨A3, c3, rfl, hs3, hb3, ho3⟩
  clear hbx a0 a1 a2 a3 a4
  obtain ⟨_, _, e4, hc3⟩ := hs3.isSlice
  injection e4 with e5 e6 e7
  subst e5 e7
  unfold Ef
  have bb3 := below_alloc (Below.refl _ w3) (.cells #[.int .i64 p, .int .i64 q, .slice A3 N c3] 27)
  have G3 := heap_alloc_new w3 (.cells #[.int .i64 p, .int .i64 q, .slice A3 N c3] 27)
  have S4 := Lib.hid (hs3.kept (Kept.of_below (fun _ => False) bb3) (fun _ _ h => h))
  have HB3 := Lib.hid (HB2.out.trans ((hb3.trans (bb3.mono hb3.size)).mono HB2.out.size))
  have hlt3 : ∀ g, (Value.slice A3 N c3).ownBlock = some g → g < w3.heap.size := fun g hg => hs3.lt hg
  have HLT := Lib.hid hlt3
  have HSZ3 : Hid (w2.heap.size ≤ w3.heap.size) := Lib.hid hb3.size
  clear hs3 hb3 ho3 e6 bb3 hlt3
  go_upto_region 4 with (fail)
  generalize w3.alloc (.cells #[.int .i64 p, .int .i64 q, .slice A3 N c3] 27) = w4 at *
  obtain ⟨b5, hb5⟩ : ∃ b5, w3.heap.size = b5 := ⟨_, rfl⟩
  rw [hb5] at G3
  have HE5 := Lib.hid hb5
  have f2 : w4.cell? ⟨b5, 2, none⟩ = some (.slice A3 N c3) := (blk_cell G3 2).trans rfl
  have z2 := blk_frozen G3 2
  have hMc : M ≤ c3 := by omega
  have hMc' : (M : Int) ≤ (c3 : Int) := by omega
  have hM0 : (0 : Int) ≤ (M : Int) := by omega
  have G4 := heap_setCell_in (off := 2) (.slice A3 M c3) G3
  have G5 : (w4.setCell ⟨b5, 2, none⟩ (.slice A3 M c3)).heap[b5]? = some (.cells #[.int .i64 p, .int .i64 q, .slice A3 M c3] 27 (0, 0)) := G4
  have S5 := S4.out.kept (Kept.setCell (· = b5) w4 ⟨b5, 2, none⟩ (.slice A3 M c3) rfl) (fun g hg e => by have := HLT.out g hg; omega)
  have C5 := c8_take (slO_C8 (by omega) S5).1 hMN
  have B5 : Below w1.heap.size w1 (w4.setCell ⟨b5, 2, none⟩ (.slice A3 M c3)) := below_set HB3.out (by have := HB2.out.size; have := HSZ3.out; omega)
  go_upto_region 5 with (fail)
  rw [hb5]
  generalize w4.setCell ⟨b5, 2, none⟩ (.slice A3 M c3) = w5 at *
  obtain ⟨U, hU⟩ : ∃ U, T.take M = U := ⟨_, rfl⟩
  rw [hU] at C5
  have HUL : Hid (U.length = M) := Lib.hid (by rw [← hU, List.length_take, HTL.out]; omega)
  have HU8 : Hid (∀ z ∈ U, 0 ≤ z ∧ z ≤ 255) := Lib.hid (fun z hz => HT8.out z (List.mem_of_mem_take (hU ▸ hz)))
  have HC5 := Lib.hid C5
  have HB5 : Hid (Below bx W0 w5) := Lib.hid (by
    have h1 := HBX.out
    have h2 := HB1.out
    rw [h1] at h2
    exact h2.trans (B5.mono (by have h3 := HB1.out.size; rw [h1] at h3; exact h3)))
  clear G3 G4 S5 C5 B5 hU hb5 f2 z2 hMc hMc' hM tc wc wn S4
  have f0 : w5.cell? ⟨b5, 0, none⟩ = some (.int .i64 p) := (blk_cell G5 0).trans rfl
  have f1 : w5.cell? ⟨b5, 1, none⟩ = some (.int .i64 q) := (blk_cell G5 1).trans rfl
  have f2 : w5.cell? ⟨b5, 2, none⟩ = some (.slice A3 M c3) := (blk_cell G5 2).trans rfl
  have wq : IntKind.i64.wrap ((q : Int) - 1) = (q : Int) - 1 := by rw [IntKind.wrap_i64]; omega
  go_upto_region 7 with (fail)
  clear wq
  have hbs0 : (⟨#[]⟩ : ByteArray) = bs [] := rfl
  rw [hbs0]
  clear hbs0
  go_loopw [6, 7] (fun v6 v7 wr => ∃ (m : Nat) (l : List UInt8), v6 = .string (bs l) ∧ v7 = .int .i64 ((m : Int) - 1) ∧ m ≤ q ∧ Hid (l ++ shU p U m = shU p U q) ∧ wr = w5) (fun _ v7 _ => (intOf v7 + 1).toNat)
  case atStart => exact ⟨q, [], rfl, rfl, Nat.le_refl _, Lib.hid rfl, rfl⟩
  case round =>
    obtain ⟨m, l, rfl, rfl, hm, HL, rfl⟩ := hrel
    have HLL : Hid (l.length ≤ 200) := Lib.hid (by
      have h1 := congrArg List.length HL.out
      have h2 := shU_le p U q
      have h3 : q * (p + 1) ≤ 13 * 14 := Nat.mul_le_mul hpq.2 (by omega)
      rw [List.length_append] at h1
      omega)
    by_cases hm0 : m = 0
    · subst hm0
      have hneg : ¬ (0 : Int) ≤ ((0 : Nat) : Int) - 1 := by omega
      have hl := HL.out
      rw [shU, List.append_nil] at hl
      have HL2 := Lib.hid hl
      clear hl
      go_wp2_with fail
      refine (shades_c wr p q A3 M c3 U (by omega) (by omega) HUL.out HC5.out HU8.out).mono ?_
      rintro e w7 ⟨rfl, hb7⟩
      rw [← HL2.out]
      go_wp2_with fail
      go_ret
      refine ⟨rfl, ?_⟩
      rw [HBX.out]
      exact HB5.out.trans (hb7.mono (by have := HB5.out.size; rw [HBX.out] at this; exact this))
    · obtain ⟨kk, rfl⟩ : ∃ kk, m = kk + 1 := ⟨m - 1, by omega⟩
      have ek : ((kk + 1 : Nat) : Int) - 1 = (kk : Int) := by omega
      rw [ek]
      obtain ⟨P, hP⟩ : ∃ P, kk * p = P := ⟨_, rfl⟩
      have hP4 : P ≤ 169 := by rw [← hP]; exact Nat.le_trans (Nat.mul_le_mul (show kk ≤ 13 by omega) hpq.1) (by decide)
      have wp : IntKind.i64.wrap ((kk : Int) * (p : Int)) = (P : Int) := by rw [← Int.natCast_mul, hP, IntKind.wrap_i64]; omega
      have wk : IntKind.i64.wrap ((kk : Int) - 1) = (kk : Int) - 1 := by rw [IntKind.wrap_i64]; omega
      have HP := Lib.hid hP
      clear ek hP
      go_upto_region 10 with (fail)
      go_loopw [6, 8] (fun v6 v8 wi => ∃ j : Nat, v6 = .string (bs (l ++ rowL p U kk j)) ∧ v8 = .int .i64 j ∧ j ≤ p ∧ wi = wr) (fun _ v8 _ => p - (intOf v8).toNat)
      case atStart => exact ⟨0, by simp [rowL], rfl, Nat.zero_le _, rfl⟩
      case round =>
        obtain ⟨j, rfl, rfl, hj, rfl⟩ := hrel
        have HRL := Lib.hid (rowL_le p U kk j)
        by_cases hjp : j < p
        · have hjp' : (j : Int) < (p : Int) := by omega
          obtain ⟨Q, hQ⟩ : ∃ Q, P + j = Q := ⟨_, rfl⟩
          have wq : IntKind.i64.wrap ((P : Int) + (j : Int)) = (Q : Int) := by rw [IntKind.wrap_i64]; omega
          have HQ : Hid (kk * p + j = Q) := Lib.hid (by rw [HP.out]; exact hQ)
          clear hQ
          by_cases hQn : Q < M
          · have hQn' : (Q : Int) < (M : Int) := by omega
            obtain ⟨z, hz⟩ : ∃ z, U[Q]? = some z := ⟨U[Q]'(by rw [HUL.out]; exact hQn), List.getElem?_eq_getElem _⟩
            obtain ⟨ad, rfl, hcx⟩ := c8_at HC5.out Q z hQn hz
            have hzr := HU8.out z (List.mem_of_getElem? hz)
            obtain ⟨d, hd⟩ : ∃ d : Nat, (z * 10 / 256).toNat = d := ⟨_, rfl⟩
            have hdx : (d : Int) = z * 10 / 256 := by omega
            have hd10 : d < 10 := by omega
            have wx : IntKind.i64.wrap z = z := by rw [IntKind.wrap_i64]; omega
            have wx1 : IntKind.i64.wrap (z * 10) = z * 10 := by rw [IntKind.wrap_i64]; omega
            have wd : (z * 10).tdiv 256 = (d : Int) := by rw [Int.tdiv_eq_ediv_of_nonneg (by omega), hdx]
            have wd2 : IntKind.i64.wrap (d : Int) = (d : Int) := by rw [IntKind.wrap_i64]; omega
            have wd3 : IntKind.i64.wrap ((d : Int) + 1) = ((d + 1 : Nat) : Int) := by rw [IntKind.wrap_i64]; omega
            have hd1 : d + 1 ≤ 10 := by omega
            have hdl : d ≤ 10 := by omega
            have hlen : ¬ 9223372036854775807 < l.length + (rowL p U kk j).length + 1 := by have := HLL.out; have := HRL.out; omega
            have HX : Hid (rowL p U kk (j + 1) = rowL p U kk j ++ [sgN d]) := Lib.hid (by
              rw [rowL_in p U kk j z (by rw [HQ.out]; exact hz), sg, hd])
            have HEX := Lib.hid (ex_sg d hd10)
            clear hz hd hdx hzr
            go_wp2_with fail
            go_roundw
            case rel => exact ⟨j + 1, by
              rw [HX.out, HEX.out, ← List.append_assoc]
              exact congrArg Value.string (str_app (l ++ rowL p U kk j) [sgN d]), by go_num, by omega, by first | rfl | trivial⟩
            case measure => simp [intOf]; omega
          · have hQn' : ¬ (Q : Int) < (M : Int) := by omega
            have HX : Hid (rowL p U kk (j + 1) = rowL p U kk j) := Lib.hid (rowL_out p U kk j (by rw [HQ.out, HUL.out]; omega))
            go_wp2_with fail
            go_roundw
            case rel => exact ⟨j + 1, by rw [HX.out], by go_num, by omega, by first | rfl | trivial⟩
            case measure => simp [intOf]; omega
        · have hjp' : ¬ (j : Int) < (p : Int) := by omega
          obtain rfl : j = p := by omega
          have q1 : ¬ 9223372036854775807 < l.length + (rowL j U kk j).length + 1 := by have := HLL.out; have := HRL.out; omega
          go_wp2_with fail
          go_roundw
          case rel => exact ⟨kk, l ++ (rowL j U kk j ++ [10]), by
            rw [← List.append_assoc]
            exact congrArg Value.string (str_app (l ++ rowL j U kk j) [10]), rfl, by omega, Lib.hid (by rw [← HL.out, shU]; simp), by first | rfl | trivial⟩
          case measure => simp [intOf]
end Go.Proofs.YtaccppchhljnkaaDoor
set_option linter.unusedVariables false
set_option linter.unusedSimpArgs false
namespace Go.Proofs.YtaccppchhljnkaaDoor
section
open Go.Joins Go.ChangeShapes Go.WideShapes Go.RowKit Go.Deep
section
variable {H : Type} {enc : TypeId × Value → H} {P : Program} {w : World} {base : Nat} {spare : Nat → Bool} {held : Bool}
theorem open_five {r : Reach} {b0 : Nat} {t : TypeId} {f0 f1 f2 f3 f4 : Field} {v : Value} {d : DataW H} {p : List MemPlace} (q : IntKind) (hs : P.underlying t = some (.struct #[f0, f1, f2, f3, f4])) (hone : oneCellFields P #[f0, f1, f2, f3, f4] = true) (hC : P.cellsOf t = 5)
    (hq : P.underlying f0.type = some (.int q) ∧ P.underlying f1.type = some (.int q) ∧ P.underlying f2.type = some (.int q) ∧ P.underlying f3.type = some (.int q) ∧ P.underlying f4.type = some (.int q))
    (hv : Value.okWide P w r b0 t v) (h : DataW.Trod enc P w base spare held t v d p) :
    ∃ x0 x1 x2 x3 x4 : Int, v = .agg #[.int q x0, .int q x1, .int q x2, .int q x3, .int q x4] ∧
      (Lit.int q x0).wf = true ∧ (Lit.int q x1).wf = true ∧ (Lit.int q x2).wf = true ∧ (Lit.int q x3).wf = true ∧ (Lit.int q x4).wf = true := by
  obtain ⟨cs, rfl, hsz⟩ := okWide_struct hs hv
  obtain ⟨l⟩ := cs
  match l, hsz.trans hC with
  | [c0, c1, c2, c3, c4], _ =>
    obtain ⟨fuel, hf⟩ := h
    obtain ⟨xs, n, _, _, _, hlen, hg⟩ := DataW.trod_struct hs hf
    obtain ⟨o0, k0⟩ := hone_of hone 0 f0 rfl
    obtain ⟨o1, k1⟩ := hone_of hone 1 f1 rfl
    obtain ⟨o2, k2⟩ := hone_of hone 2 f2 rfl
    obtain ⟨o3, k3⟩ := hone_of hone 3 f3 rfl
    obtain ⟨o4, k4⟩ := hone_of hone 4 f4 rfl
    have one : ∀ {f : Field} {c : Value} {y : Option (DataW H × List MemPlace)}, P.underlying f.type = some (.int q) → y.isSome → DataW.trod enc P w base spare held n f.type [c] = y → ∃ x : Int, c = .int q x ∧ (Lit.int q x).wf = true := by
      intro f c y hu hy hh
      obtain ⟨y, rfl⟩ := Option.isSome_iff_exists.1 hy
      obtain ⟨x, hx, _, hw⟩ := DataW.trod_int hu hh
      injection hx with hx
      exact ⟨x, hx, hw⟩
    have g0 := hg 0 f0 rfl; have g1 := hg 1 f1 rfl; have g2 := hg 2 f2 rfl; have g3 := hg 3 f3 rfl; have g4 := hg 4 f4 rfl
    have hl6 : xs.length = 5 := hlen
    obtain ⟨x0, rfl, w0⟩ := one (y := xs[0]?) hq.1 (by simp; omega) (by simpa [Value.cells, o0, k0] using g0)
    obtain ⟨x1, rfl, w1⟩ := one (y := xs[1]?) hq.2.1 (by simp; omega) (by simpa [Value.cells, o1, k1] using g1)
    obtain ⟨x2, rfl, w2⟩ := one (y := xs[2]?) hq.2.2.1 (by simp; omega) (by simpa [Value.cells, o2, k2] using g2)
    obtain ⟨x3, rfl, w3⟩ := one (y := xs[3]?) hq.2.2.2.1 (by simp; omega) (by simpa [Value.cells, o3, k3] using g3)
    obtain ⟨x4, rfl, w4⟩ := one (y := xs[4]?) hq.2.2.2.2 (by simp; omega) (by simpa [Value.cells, o4, k4] using g4)
    exact ⟨x0, x1, x2, x3, x4, rfl, w0, w1, w2, w3, w4⟩
end
end
open Go.RowKit Go.Proofs.YtaccppchhljnkaaDoorW.PrintWords Go.Proofs.YtaccppchhljnkaaDoorW.PrintMore
theorem wfu8 {x : Int} (h : (Lit.int .u8 x).wf = true) : 0 ≤ x ∧ x ≤ 255 := by simpa [Lit.wf, IntKind.min, IntKind.max, IntKind.signed, IntKind.bits] using h
theorem wfi8 {x : Int} (h : (Lit.int .i8 x).wf = true) : -128 ≤ x ∧ x ≤ 127 := by simpa [Lit.wf, IntKind.min, IntKind.max, IntKind.signed, IntKind.bits] using h
theorem wfi16 {x : Int} (h : (Lit.int .i16 x).wf = true) : -32768 ≤ x ∧ x ≤ 32767 := by simpa [Lit.wf, IntKind.min, IntKind.max, IntKind.signed, IntKind.bits] using h

namespace viewShades
open Go.ChangeShapes Go.WideShapes Go.ChangeAt Go.RowKit
open Go.ChangeMaps (open_string shut_string)
theorem own : ownKnob Tryd.prog.godebug = none := by kernel_rfl
theorem laidOut : laidOutB Tryd.prog = true := by kernel_rfl

set_option maxRecDepth 100000 in
theorem lifted (os : Os) (started : os.Started) (H : Type) (enc : TypeId × Value → H) :
    ReturnsInHanded {} Tryd.checked os 3 .any (fun w args => (Rows.viewShadesSpec.pre enc Tryd.prog Tryd.f3 [] false w args ∧ laidMetH Tryd.prog vLaid w) ∧ sizedMet enc Tryd.prog Tryd.f3 (OpenSpec.ofChange Rows.viewShadesSpec) false w args) (Rows.viewShadesSpec.post enc Tryd.prog Tryd.f3 false true false false) := by
  refine returnsInHanded_of_change_and (C := Tryd.checked) (X := fun w _ => laidMetH Tryd.prog vLaid w) (fun _ _ _ hh h => h.of_heap hh) own started (by kernel_rfl) Tryd.func3
    (ChangeSpec.witness_shaped (enc := enc) (C := Tryd.checked) (os := os) (X := fun w _ => laidMetH Tryd.prog vLaid w) false (World.doorLaid Tryd.prog 400 os) #[.agg #[.int .u8 0, .int .u8 0, .int .u8 0, .int .u8 0, .int .u8 0], .int .u8 0] 8 rfl (World.shaped_of_RefB (by kernel_rfl) (by kernel_rfl)) (by kernel_rfl) (by kernel_rfl) (by kernel_rfl) (door_met os _)) ?_
  intro W base args ds gs before hval0 hW hcnd _ hL _
  have hval : ∀ (j : Nat) t v, Tryd.f3.params[j]? = some t → args[j]? = some v → Value.okWide Tryd.prog W .any base t v := hval0
  have hW' := hW
  obtain ⟨p, q, hA0, hV, rfl, hfz, hnd⟩ := hW
  have hA : DataW.TrodAll enc Tryd.prog W 0 (fun _ => true) true Tryd.f3.params.toList args.toList ds p := hA0
  rw [Tryd.params3] at hA hval
  obtain ⟨v0, vs0, d0, ds0, p0, q0, hargs, rfl, rfl, h0, r0⟩ := trodAll_cons hA
  obtain ⟨v1, vs1, d1, ds1, p1, q1, rfl, rfl, rfl, h1, r1⟩ := trodAll_cons r0
  obtain ⟨rfl, rfl, rfl⟩ := trodAll_nil r1
  obtain rfl : args = #[v0, v1] := by cases args; simp_all
  obtain ⟨rfl, rfl⟩ := trodVars_none hV
  have k0 := h0
  have lt0 : ∀ x ∈ p0, x.block < W.heap.size := by obtain ⟨m, hm⟩ := k0; exact DataW.trod_lt m _ _ _ hm
  obtain ⟨a00, a01, a02, a03, a04, rfl, w00, w01, w02, w03, w04⟩ := open_five .u8 Tryd.underlying23 (by kernel_rfl) (by kernel_rfl) ⟨Tryd.underlying5, Tryd.underlying5, Tryd.underlying5, Tryd.underlying5, Tryd.underlying5⟩ (hval 0 23 v0 rfl rfl) h0
  obtain ⟨a1, rfl, rfl, rfl, w1⟩ := open_int Tryd.underlying5 (hval 1 5 v1 rfl rfl) h1
  clear hA0 hval0
  refine (viewShades_core a00 a01 a02 a03 a04 (wfu8 w00) (wfu8 w01) (wfu8 w02) (wfu8 w03) (wfu8 w04) a1 (wfu8 w1) W (tab_of hL)).mono fun e W' ⟨he, bel⟩ => ?_
  subst he
  exact ⟨_, rfl, _, _, _, [], _, [], hW', trodAll_mk1 (shut_bool Tryd.underlying4 _), (trodAll_cons_mk (Below.trod laidOut (by kernel_rfl) (of_decide_eq_true (by kernel_rfl)) k0 bel lt0) (trodAll_cons_mk (shut_int Tryd.underlying5 w1) trodAll_mk0)), rfl, bel.frame _, fun h => by cases h⟩

theorem over : Rows.viewShadesRow.holds Tryd.pinned (OpenSpec.ofChange Rows.viewShadesSpec) :=
  OpenClaim.holds_of_wide 3 Tryd.f3 rfl rfl rfl rfl rfl rfl rfl ⟨rfl, rfl, rfl, rfl, rfl⟩ rfl rfl rfl rfl rfl (by kernel_rfl) Tryd.func3 (by kernel_rfl)
    (of_decide_eq_true (by kernel_rfl)) (by unfold Func.isWrapper; first | (rw [if_pos (by decide +kernel)]; kernel_rfl) | (rw [if_neg (by decide +kernel)]; exact ⟨rfl, rfl⟩))
    (fun os started H enc _ => lifted os started H enc)

theorem proved : Rows.ViewShadesCardSaid :=
  Claim7.holds_tied_plain_at .later [] [.data, .data, .data] true (true, "9f61736623f24a406a096889e4604567b643a8a2236ce8bbd74d46cd243b27bf") false
    over (fun _ h => by cases h) (by kernel_rfl) (fun _ h => by cases h) viewShades_row_tie rfl ⟨rfl, rfl⟩ (by kernel_rfl) rfl
    (fun f fn hf hfn => by
      obtain rfl : f = 3 := Option.some.inj ((show Tryd.prog.funcNamed Rows.viewShadesRow.func = some 3 by kernel_rfl).symm.trans hf) |>.symm
      obtain rfl : fn = Tryd.f3 := (Option.some.inj (Tryd.func3.symm.trans hfn)).symm
      exact ⟨by kernel_rfl, fun j t ht => by
        rw [Tryd.params3] at ht
        have hm := Array.mem_of_getElem? ht
        have hm2 : t = 23 ∨ t = 5 := by
          simp at hm
          exact hm
        rcases hm2 with rfl | rfl
        · exact (show Tryd.prog.wantsStandIn 23 = false by kernel_rfl)
        · exact (show Tryd.prog.wantsStandIn 5 = false by kernel_rfl)⟩)
    (by kernel_rfl)
end viewShades
end Go.Proofs.YtaccppchhljnkaaDoor
