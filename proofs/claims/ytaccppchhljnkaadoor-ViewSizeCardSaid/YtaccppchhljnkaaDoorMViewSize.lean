/- ViewSize: for every input the law returns true; the card, tied. No condition. -/
import Derived.Test.YtaccppchhljnkaaDoorVAll
import Derived.Lib.OthersKept
import Derived.Test.YtaccppchhljnkaaDoorRows
import Derived.ProofKit
import Derived.SevenTiedAt
import Derived.Lib.SmallJoins
import Derived.OpenShut
import Derived.ShutString
import Derived.ChangeOld
import Derived.Below
/- ViewSize: its walk. -/
set_option linter.unusedVariables false
set_option linter.unusedSimpArgs false
namespace Go.Proofs.YtaccppchhljnkaaDoor
open Go.RowKit Go.Shelf Go.Proofs.YtaccppchhljnkaaDoorW.PrintWords Go.Proofs.YtaccppchhljnkaaDoorW.PrintLast Go.Proofs.YtaccppchhljnkaaDoorW.PrintMore
theorem sgN_ok : ∀ d, sgN d ≠ 10 ∧ (sgN d).toNat < 128
  | 0 => by decide
  | 1 => by decide
  | 2 => by decide
  | 3 => by decide
  | 4 => by decide
  | 5 => by decide
  | 6 => by decide
  | 7 => by decide
  | 8 => by decide
  | 9 => by decide
  | n + 10 => by
    have : sgN (n + 10) = 0 := by
      unfold sgN
      rw [List.getD_eq_getElem?_getD, List.getElem?_eq_none (by simp)]
      rfl
    rw [this]; decide
theorem rowL_mem {W : Nat} {t : List Int} {k i : Nat} {u : UInt8} (h : u ∈ rowL W t k i) : ∃ x ∈ t, u = sg x := by
  unfold rowL at h
  obtain ⟨j, _, hj⟩ := List.mem_filterMap.1 h
  cases hx : t[k * W + j]? with
  | none => rw [hx] at hj; cases hj
  | some x => rw [hx] at hj; injection hj with hj; exact ⟨x, List.mem_of_getElem? hx, hj.symm⟩
theorem rowL_len {W : Nat} {t : List Int} {k : Nat} : ∀ i, k * W + i ≤ t.length → (rowL W t k i).length = i
  | 0, _ => by simp [rowL]
  | i + 1, h => by
    obtain ⟨x, hx⟩ : ∃ x, t[k * W + i]? = some x := ⟨t[k * W + i]'(by omega), List.getElem?_eq_getElem _⟩
    rw [rowL_in W t k i x hx, List.length_append, rowL_len i (by omega)]
    rfl
theorem shU_len {W : Nat} {t : List Int} : ∀ m, m * W ≤ t.length → (shU W t m).length = m * (W + 1)
  | 0, _ => by simp [shU]
  | m + 1, h => by
    rw [Nat.add_mul, Nat.one_mul] at h ⊢
    simp only [shU, List.length_append, List.length_cons, List.length_nil]
    rw [rowL_len W h, shU_len m (by omega)]
    omega
theorem shU_mem {W : Nat} {t : List Int} : ∀ m, ∀ u ∈ shU W t m, u = 10 ∨ ∃ x ∈ t, u = sg x
  | 0, u, h => by cases h
  | m + 1, u, h => by
    simp only [shU, List.mem_append, List.mem_cons, List.not_mem_nil, or_false] at h
    rcases h with (h | h) | h
    · exact .inr (rowL_mem h)
    · exact .inl h
    · exact shU_mem m u h
theorem shU_asc {W : Nat} {t : List Int} {m : Nat} {u : UInt8} (h : u ∈ shU W t m) : u.toNat < 128 := by
  rcases shU_mem m u h with rfl | ⟨x, _, rfl⟩
  · decide
  · exact (sgN_ok _).2
theorem shU_cnt {W : Nat} {t : List Int} : ∀ m, (shU W t m).count 10 = m
  | 0 => by simp [shU]
  | m + 1 => by
    have h0 : (rowL W t m W).count 10 = 0 := List.count_eq_zero.2 (fun h => by
      obtain ⟨x, _, hx⟩ := rowL_mem h
      exact (sgN_ok _).1 hx.symm)
    simp only [shU, List.count_append]
    rw [h0, shU_cnt m]
    simp; omega
theorem bs_get (l : List UInt8) (i : Nat) (h : i < l.length) (h2 : i < (bs l).size) : (bs l)[i]'h2 = l[i] := by
  show (bs l).data[i] = _
  simp [bs]
set_option maxHeartbeats 4000000 in
set_option maxRecDepth 100000 in
theorem viewSize_core (o k x y i : Int) (ho : 0 ≤ o ∧ o ≤ 255) (hk : 0 ≤ k ∧ k ≤ 255) (hx : 0 ≤ x ∧ x ≤ 255) (hy : 0 ≤ y ∧ y ≤ 255) (hi : 0 ≤ i ∧ i ≤ 255) (W0 : World) (hT : Tab W0) :
    Calls Tryd.prog 5 #[.agg #[.int .u8 o, .int .u8 k, .int .u8 x, .int .u8 y, .int .u8 i]] W0 fun e w' => e = .returned (.bool true) ∧ Below W0.heap.size W0 w' := by
  obtain ⟨p, hp⟩ : ∃ p : Nat, (p : Int) = x % 14 := ⟨(x % 14).toNat, by omega⟩
  obtain ⟨q, hq⟩ : ∃ q : Nat, (q : Int) = y % 14 := ⟨(y % 14).toNat, by omega⟩
  have hpq : p ≤ 13 ∧ q ≤ 13 := by omega
  obtain ⟨N, hN⟩ : ∃ N, p * q = N := ⟨_, rfl⟩
  have hN1 : N ≤ 169 := by rw [← hN]; exact Nat.mul_le_mul hpq.1 hpq.2
  have HFA := Lib.hid (fun W => fieldA_c W o k x y i hx hy hi p q hp hq)
  have bb := below_alloc (Below.refl _ W0) (.cells #[.int .u8 o, .int .u8 k, .int .u8 x, .int .u8 y, .int .u8 i] 23)
  have G1 := heap_alloc_new W0 (.cells #[.int .u8 o, .int .u8 k, .int .u8 x, .int .u8 y, .int .u8 i] 23)
  have T1 := Lib.hid (hT.below bb)
  obtain ⟨T, hTx⟩ : ∃ T, (List.range (p * q)).map (txA i) = T := ⟨_, rfl⟩
  have hT8 : ∀ z ∈ T, 0 ≤ z ∧ z ≤ 255 := fun z hz => by
    rw [← hTx] at hz
    obtain ⟨j, _, rfl⟩ := List.mem_map.1 hz
    exact txA_in i j
  have hTl : T.length = N := by rw [← hTx, ← hN]; simp
  obtain ⟨L, hL⟩ : ∃ L, shU p T q = L := ⟨_, rfl⟩
  have hLl : L.length = q * (p + 1) := by rw [← hL]; exact shU_len q (by rw [hTl, ← hN, Nat.mul_comm]; exact Nat.le_refl _)
  have hLc : L.count 10 = q := by rw [← hL]; exact shU_cnt q
  have hLa : ∀ u ∈ L, u.toNat < 128 := fun u hu => shU_asc (hL ▸ hu)
  have hLL : L.length ≤ 182 := by
    have h1 : p + 1 ≤ 14 := by omega
    have h2 := Nat.mul_le_mul hpq.2 h1
    rw [hLl]; exact h2
  have HSH := Lib.hid (fun w A cap h => shades_c w p q A N cap T (by omega) (by omega) hTl h hT8)
  rw [hL] at HSH
  rw [hTx, hN] at HFA
  have HLL := Lib.hid hLl; have HLC := Lib.hid hLc; have HLA := Lib.hid hLa
  clear hT hp hq hN hTx hT8 hTl ho hk hx hy hi hL hLl hLc hLa
  go_enter Tryd.func5, Tryd.ntmps5
  go_upto_region 1 with (fail)
  have HB1 := Lib.hid bb; have HG1 := Lib.hid G1
  clear bb G1
  generalize W0.alloc (.cells #[.int .u8 o, .int .u8 k, .int .u8 x, .int .u8 y, .int .u8 i] 23) = w1 at *
  go_wp2_with fail
  refine (awake23 w1 T1.out).mono ?_
  rintro e w2 ⟨rfl, hb2⟩
  have HB2 := Lib.hid hb2
  have G2 := blk_below HG1.out hb2
  obtain ⟨bx, hbx⟩ : ∃ bx, W0.heap.size = bx := ⟨_, rfl⟩
  have HBX := Lib.hid hbx
  rw [hbx] at G2
  have a0 : w2.cell? ⟨bx, 0, none⟩ = some (.int .u8 o) := (blk_cell G2 0).trans rfl
  have a1 : w2.cell? ⟨bx, 1, none⟩ = some (.int .u8 k) := (blk_cell G2 1).trans rfl
  have a2 : w2.cell? ⟨bx, 2, none⟩ = some (.int .u8 x) := (blk_cell G2 2).trans rfl
  have a3 : w2.cell? ⟨bx, 3, none⟩ = some (.int .u8 y) := (blk_cell G2 3).trans rfl
  have a4 : w2.cell? ⟨bx, 4, none⟩ = some (.int .u8 i) := (blk_cell G2 4).trans rfl
  clear hb2 G2
  go_wp2_with fail
  refine (HFA.out w2).mono ?_
  rintro e w3 ⟨A3, c3, rfl, hs3, hb3, ho3⟩
  clear hbx a0 a1 a2 a3 a4
  unfold Ef
  have bb3 := below_alloc (Below.refl _ w3) (.cells #[.int .i64 p, .int .i64 q, .slice A3 N c3] 27)
  have G3 := heap_alloc_new w3 (.cells #[.int .i64 p, .int .i64 q, .slice A3 N c3] 27)
  have C4 := Lib.hid (Kd.C_below (slO_C8 (by omega) hs3).1 bb3)
  have HB4 := Lib.hid (HB1.out.trans ((HB2.out.trans ((hb3.trans (bb3.mono hb3.size)).mono HB2.out.size)).mono HB1.out.size))
  clear hs3 hb3 ho3 bb3
  go_upto_region 4 with (fail)
  generalize w3.alloc (.cells #[.int .i64 p, .int .i64 q, .slice A3 N c3] 27) = w4 at *
  generalize w3.heap.size = b5 at *
  have HG4 := Lib.hid G3
  have f0 : w4.cell? ⟨b5, 0, none⟩ = some (.int .i64 p) := (blk_cell G3 0).trans rfl
  have f1 : w4.cell? ⟨b5, 1, none⟩ = some (.int .i64 q) := (blk_cell G3 1).trans rfl
  have f2 : w4.cell? ⟨b5, 2, none⟩ = some (.slice A3 N c3) := (blk_cell G3 2).trans rfl
  clear G3
  go_wp2_with fail
  refine (HSH.out w4 A3 c3 C4.out).mono ?_
  rintro e w5 ⟨rfl, hb5⟩
  have HB5 := Lib.hid (HB4.out.trans (hb5.mono HB4.out.size))
  have HG5 := Lib.hid (blk_below HG4.out hb5)
  have hbs0 : (⟨L.toArray⟩ : ByteArray) = bs L := rfl
  rw [hbs0]
  clear hbs0 f0 f1 f2 hb5
  obtain ⟨S, hS⟩ : ∃ S, bs L = S := ⟨_, rfl⟩
  have hSz : S.size = L.length := by rw [← hS]; simp [bs, ByteArray.size]
  rw [hS]
  have HS := Lib.hid hS
  have HSZ := Lib.hid hSz
  clear hS hSz
  go_upto_region 7 with (fail)
  obtain ⟨bI, hbI⟩ : ∃ bI, w5.heap.size = bI := ⟨_, rfl⟩
  have HI0 : Hid ((w5.iter S 0).heap[bI]? = some (.stringIter S 0)) := Lib.hid (by rw [← hbI]; exact World.iter_heap w5 S 0)
  have HBI0 : Hid (Below bI w5 (w5.iter S 0)) := Lib.hid (by rw [← hbI]; exact below_alloc (Below.refl _ w5) (.stringIter S 0))
  rw [hbI]
  have HBI := Lib.hid hbI
  clear hbI
  go_loopw [5] (fun v5 wr => ∃ j : Nat, v5 = .int .i64 (((L.take j).count 10 : Nat) : Int) ∧ j ≤ L.length ∧ Hid (wr.heap[bI]? = some (.stringIter S j)) ∧ Hid (Below bI w5 wr)) (fun _ wr => L.length - wr.iterPos bI)
  case atStart => exact ⟨0, by simp, Nat.zero_le _, HI0, HBI0⟩
  case round =>
    obtain ⟨j, rfl, hj, HI, HB⟩ := hrel
    have hpos := Lib.hid (iterPos_of HI.out)
    by_cases hjl : j < L.length
    · have hjS : j < S.size := by rw [HSZ.out]; exact hjl
      obtain ⟨u, hu⟩ : ∃ u, L[j] = u := ⟨_, rfl⟩
      have hSu : S[j]'hjS = u := by
        rw [← hu]
        have := bs_get L j hjl (by rw [HS.out]; exact hjS)
        rw [← this]
        congr 1
        exact HS.out.symm
      have hua : u.toNat < 128 := HLA.out u (hu ▸ List.getElem_mem _)
      have hnx : ∀ ty, (Instr.next (.pointer (some ⟨bI, 0, none⟩)) true ty).run Tryd.prog wr = .ok (.tuple #[.bool true, .int .i64 j, .int .i32 (u.toNat : Int)]) (wr.iterAt bI S (j + 1)) := fun ty => by
        rw [Lib.run_next_ascii_at wr bI S j ty HI.out hjS (by rw [hSu]; exact hua), hSu]
      have HI2 := Lib.hid (Lib.iterAt_heap wr bI S j (j + 1) HI.out)
      have HB2 := Lib.hid (Lib.below_iterAt HB.out (k := bI) (Nat.le_refl _) S (j + 1))
      have htk : L.take (j + 1) = L.take j ++ [u] := by rw [List.take_add_one, List.getElem?_eq_getElem hjl, hu]; rfl
      obtain ⟨C, hC⟩ : ∃ C, (L.take j).count 10 = C := ⟨_, rfl⟩
      have hC1 : C ≤ 182 := by
        rw [← hC]
        exact Nat.le_trans List.count_le_length (Nat.le_trans (by rw [List.length_take]; omega) hLL)
      rw [hC]
      by_cases hu10 : u = 10
      · have hd : (((u.toNat : Nat) : Int) == 10) = true := by rw [hu10]; decide
        have HC : Hid ((L.take (j + 1)).count 10 = C + 1) := Lib.hid (by rw [htk, List.count_append, hC, hu10]; rfl)
        have wC : IntKind.i64.wrap ((C : Int) + 1) = ((C + 1 : Nat) : Int) := by rw [IntKind.wrap_i64]; omega
        clear hu hSu hua htk hC hu10 hjS
        obtain ⟨c, hc⟩ : ∃ c : Int, ((u.toNat : Nat) : Int) = c := ⟨_, rfl⟩
        rw [hc] at hd hnx
        clear hc
        go_wp2_with fail
        go_roundw
        case rel => exact ⟨j + 1, by rw [HC.out, Int.natCast_add]; rfl, by omega, HI2, HB2⟩
        case measure =>
          rw [iterPos_of HI2.out, hpos.out]
          omega
      · have hd : (((u.toNat : Nat) : Int) == 10) = false := by
          rw [beq_eq_false_iff_ne]
          intro h
          apply hu10
          have h2 : u.toNat = 10 := by omega
          exact UInt8.toNat_inj.1 h2
        have HC : Hid ((L.take (j + 1)).count 10 = C) := Lib.hid (by rw [htk, List.count_append, hC, List.count_singleton]; simp [hu10])
        clear hu hSu hua htk hC hu10 hjS
        obtain ⟨c, hc⟩ : ∃ c : Int, ((u.toNat : Nat) : Int) = c := ⟨_, rfl⟩
        rw [hc] at hd hnx
        clear hc
        go_wp2_with fail
        go_roundw
        case rel => exact ⟨j + 1, by rw [HC.out], by omega, HI2, HB2⟩
        case measure =>
          rw [iterPos_of HI2.out, hpos.out]
          omega
    · obtain rfl : j = L.length := by omega
      have hnx : ∀ ty, (Instr.next (.pointer (some ⟨bI, 0, none⟩)) true ty).run Tryd.prog wr = .ok (.tuple #[.bool false]) wr := fun ty => Lib.run_next_end_at wr bI S _ ty HI.out (by rw [HSZ.out]; omega)
      rw [List.take_length, HLC.out]
      have HG6 := blk_below HG5.out (HBI.out ▸ HB.out)
      have f0 : wr.cell? ⟨b5, 0, none⟩ = some (.int .i64 p) := (blk_cell HG6 0).trans rfl
      have f1 : wr.cell? ⟨b5, 1, none⟩ = some (.int .i64 q) := (blk_cell HG6 1).trans rfl
      have n1 : ((q : Int) == (q : Int)) = true := by simp
      obtain ⟨R, hR⟩ : ∃ R, q * (p + 1) = R := ⟨_, rfl⟩
      have hR1 : R ≤ 182 := by rw [← hR, ← HLL.out]; exact hLL
      have wp1 : IntKind.i64.wrap ((p : Int) + 1) = (p : Int) + 1 := by rw [IntKind.wrap_i64]; omega
      have wr1 : IntKind.i64.wrap ((q : Int) * ((p : Int) + 1)) = (R : Int) := by rw [show (p : Int) + 1 = ((p + 1 : Nat) : Int) from by omega, ← Int.natCast_mul, hR, IntKind.wrap_i64]; omega
      have hsz : S.size = R := by rw [HSZ.out, HLL.out, hR]
      have n2 : ((R : Int) == (R : Int)) = true := by simp
      clear hR HG6
      go_wp2_with fail
      go_ret
      refine ⟨rfl, ?_⟩
      have h1 := HB.out
      rw [← HBI.out] at h1
      exact HB5.out.trans (h1.mono HB5.out.size)
end Go.Proofs.YtaccppchhljnkaaDoor
set_option linter.unusedVariables false
set_option linter.unusedSimpArgs false
namespace Go.Proofs.YtaccppchhljnkaaDoor
section
open Go.Joins Go.ChangeShapes Go.WideShapes Go.RowKit Go.Deep
section
variable {H : Type} {enc : TypeId × Value → H} {P : Program} {w : World} {base : Nat} {spare : Nat → Bool} {held : Bool}
theorem open_five {r : Reach} {b0 : Nat} {t : TypeId} {f0 f1 f2 f3 f4 : Field} {v : Value} {d : DataW H} {p : List MemPlace} (q : IntKind) (hs : P.underlying t = some (.struct #[f0, f1, f2, f3, f4])) (hone : oneCellFields P #[f0, f1, f2, f3, f4] = true) (hC : P.cellsOf t = 5)
    (hq : P.underlying f0.type = some (.int q) ∧ P.underlying f1.type = some (.int q) ∧ P.underlying f2.type = some (.int q) ∧ P.underlying f3.type = some (.int q) ∧ P.underlying f4.type = some (.int q))
    (hv : Value.okWide P w r b0 t v) (h : DataW.Trod enc P w base spare held t v d p) :
    ∃ x0 x1 x2 x3 x4 : Int, v = .agg #[.int q x0, .int q x1, .int q x2, .int q x3, .int q x4] ∧
      (Lit.int q x0).wf = true ∧ (Lit.int q x1).wf = true ∧ (Lit.int q x2).wf = true ∧ (Lit.int q x3).wf = true ∧ (Lit.int q x4).wf = true := by
  obtain ⟨cs, rfl, hsz⟩ := okWide_struct hs hv
  obtain ⟨l⟩ := cs
  match l, hsz.trans hC with
  | [c0, c1, c2, c3, c4], _ =>
    obtain ⟨fuel, hf⟩ := h
    obtain ⟨xs, n, _, _, _, hlen, hg⟩ := DataW.trod_struct hs hf
    obtain ⟨o0, k0⟩ := hone_of hone 0 f0 rfl
    obtain ⟨o1, k1⟩ := hone_of hone 1 f1 rfl
    obtain ⟨o2, k2⟩ := hone_of hone 2 f2 rfl
    obtain ⟨o3, k3⟩ := hone_of hone 3 f3 rfl
    obtain ⟨o4, k4⟩ := hone_of hone 4 f4 rfl
    have one : ∀ {f : Field} {c : Value} {y : Option (DataW H × List MemPlace)}, P.underlying f.type = some (.int q) → y.isSome → DataW.trod enc P w base spare held n f.type [c] = y → ∃ x : Int, c = .int q x ∧ (Lit.int q x).wf = true := by
      intro f c y hu hy hh
      obtain ⟨y, rfl⟩ := Option.isSome_iff_exists.1 hy
      obtain ⟨x, hx, _, hw⟩ := DataW.trod_int hu hh
      injection hx with hx
      exact ⟨x, hx, hw⟩
    have g0 := hg 0 f0 rfl; have g1 := hg 1 f1 rfl; have g2 := hg 2 f2 rfl; have g3 := hg 3 f3 rfl; have g4 := hg 4 f4 rfl
    have hl6 : xs.length = 5 := hlen
    obtain ⟨x0, rfl, w0⟩ := one (y := xs[0]?) hq.1 (by simp; omega) (by simpa [Value.cells, o0, k0] using g0)
    obtain ⟨x1, rfl, w1⟩ := one (y := xs[1]?) hq.2.1 (by simp; omega) (by simpa [Value.cells, o1, k1] using g1)
    obtain ⟨x2, rfl, w2⟩ := one (y := xs[2]?) hq.2.2.1 (by simp; omega) (by simpa [Value.cells, o2, k2] using g2)
    obtain ⟨x3, rfl, w3⟩ := one (y := xs[3]?) hq.2.2.2.1 (by simp; omega) (by simpa [Value.cells, o3, k3] using g3)
    obtain ⟨x4, rfl, w4⟩ := one (y := xs[4]?) hq.2.2.2.2 (by simp; omega) (by simpa [Value.cells, o4, k4] using g4)
    exact ⟨x0, x1, x2, x3, x4, rfl, w0, w1, w2, w3, w4⟩
end
end
open Go.RowKit Go.Proofs.YtaccppchhljnkaaDoorW.PrintWords Go.Proofs.YtaccppchhljnkaaDoorW.PrintMore
theorem wfu8 {x : Int} (h : (Lit.int .u8 x).wf = true) : 0 ≤ x ∧ x ≤ 255 := by simpa [Lit.wf, IntKind.min, IntKind.max, IntKind.signed, IntKind.bits] using h
theorem wfi8 {x : Int} (h : (Lit.int .i8 x).wf = true) : -128 ≤ x ∧ x ≤ 127 := by simpa [Lit.wf, IntKind.min, IntKind.max, IntKind.signed, IntKind.bits] using h
theorem wfi16 {x : Int} (h : (Lit.int .i16 x).wf = true) : -32768 ≤ x ∧ x ≤ 32767 := by simpa [Lit.wf, IntKind.min, IntKind.max, IntKind.signed, IntKind.bits] using h

namespace viewSize
open Go.ChangeShapes Go.WideShapes Go.ChangeAt Go.RowKit
open Go.ChangeMaps (open_string shut_string)
theorem own : ownKnob Tryd.prog.godebug = none := by kernel_rfl
theorem laidOut : laidOutB Tryd.prog = true := by kernel_rfl

set_option maxRecDepth 100000 in
theorem lifted (os : Os) (started : os.Started) (H : Type) (enc : TypeId × Value → H) :
    ReturnsInHanded {} Tryd.checked os 5 .any (fun w args => (Rows.viewSizeSpec.pre enc Tryd.prog Tryd.f5 [] false w args ∧ laidMetH Tryd.prog vLaid w) ∧ sizedMet enc Tryd.prog Tryd.f5 (OpenSpec.ofChange Rows.viewSizeSpec) false w args) (Rows.viewSizeSpec.post enc Tryd.prog Tryd.f5 false true false false) := by
  refine returnsInHanded_of_change_and (C := Tryd.checked) (X := fun w _ => laidMetH Tryd.prog vLaid w) (fun _ _ _ hh h => h.of_heap hh) own started (by kernel_rfl) Tryd.func5
    (ChangeSpec.witness_shaped (enc := enc) (C := Tryd.checked) (os := os) (X := fun w _ => laidMetH Tryd.prog vLaid w) false (World.doorLaid Tryd.prog 400 os) #[.agg #[.int .u8 0, .int .u8 0, .int .u8 0, .int .u8 0, .int .u8 0]] 8 rfl (World.shaped_of_RefB (by kernel_rfl) (by kernel_rfl)) (by kernel_rfl) (by kernel_rfl) (by kernel_rfl) (door_met os _)) ?_
  intro W base args ds gs before hval0 hW hcnd _ hL _
  have hval : ∀ (j : Nat) t v, Tryd.f5.params[j]? = some t → args[j]? = some v → Value.okWide Tryd.prog W .any base t v := hval0
  have hW' := hW
  obtain ⟨p, q, hA0, hV, rfl, hfz, hnd⟩ := hW
  have hA : DataW.TrodAll enc Tryd.prog W 0 (fun _ => true) true Tryd.f5.params.toList args.toList ds p := hA0
  rw [Tryd.params5] at hA hval
  obtain ⟨v0, vs0, d0, ds0, p0, q0, hargs, rfl, rfl, h0, r0⟩ := trodAll_cons hA
  obtain ⟨rfl, rfl, rfl⟩ := trodAll_nil r0
  obtain rfl : args = #[v0] := by cases args; simp_all
  obtain ⟨rfl, rfl⟩ := trodVars_none hV
  have k0 := h0
  have lt0 : ∀ x ∈ p0, x.block < W.heap.size := by obtain ⟨m, hm⟩ := k0; exact DataW.trod_lt m _ _ _ hm
  obtain ⟨a00, a01, a02, a03, a04, rfl, w00, w01, w02, w03, w04⟩ := open_five .u8 Tryd.underlying23 (by kernel_rfl) (by kernel_rfl) ⟨Tryd.underlying5, Tryd.underlying5, Tryd.underlying5, Tryd.underlying5, Tryd.underlying5⟩ (hval 0 23 v0 rfl rfl) h0
  clear hA0 hval0
  refine (viewSize_core a00 a01 a02 a03 a04 (wfu8 w00) (wfu8 w01) (wfu8 w02) (wfu8 w03) (wfu8 w04) W (tab_of hL)).mono fun e W' ⟨he, bel⟩ => ?_
  subst he
  exact ⟨_, rfl, _, _, _, [], _, [], hW', trodAll_mk1 (shut_bool Tryd.underlying4 _), (trodAll_cons_mk (Below.trod laidOut (by kernel_rfl) (of_decide_eq_true (by kernel_rfl)) k0 bel lt0) trodAll_mk0), rfl, bel.frame _, fun h => by cases h⟩

theorem over : Rows.viewSizeRow.holds Tryd.pinned (OpenSpec.ofChange Rows.viewSizeSpec) :=
  OpenClaim.holds_of_wide 5 Tryd.f5 rfl rfl rfl rfl rfl rfl rfl ⟨rfl, rfl, rfl, rfl, rfl⟩ rfl rfl rfl rfl rfl (by kernel_rfl) Tryd.func5 (by kernel_rfl)
    (of_decide_eq_true (by kernel_rfl)) (by unfold Func.isWrapper; first | (rw [if_pos (by decide +kernel)]; kernel_rfl) | (rw [if_neg (by decide +kernel)]; exact ⟨rfl, rfl⟩))
    (fun os started H enc _ => lifted os started H enc)

theorem proved : Rows.ViewSizeCardSaid :=
  Claim7.holds_tied_plain_at .later [] [.data, .data, .data] true (true, "9f61736623f24a406a096889e4604567b643a8a2236ce8bbd74d46cd243b27bf") false
    over (fun _ h => by cases h) (by kernel_rfl) (fun _ h => by cases h) viewSize_row_tie rfl ⟨rfl, rfl⟩ (by kernel_rfl) rfl
    (fun f fn hf hfn => by
      obtain rfl : f = 5 := Option.some.inj ((show Tryd.prog.funcNamed Rows.viewSizeRow.func = some 5 by kernel_rfl).symm.trans hf) |>.symm
      obtain rfl : fn = Tryd.f5 := (Option.some.inj (Tryd.func5.symm.trans hfn)).symm
      exact ⟨by kernel_rfl, fun j t ht => by
        rw [Tryd.params5] at ht
        have hm := Array.mem_of_getElem? ht
        have hm2 : t = 23 := by
          simp at hm
          exact hm
        rcases hm2 with rfl
        · exact (show Tryd.prog.wantsStandIn 23 = false by kernel_rfl)⟩)
    (by kernel_rfl)
end viewSize
end Go.Proofs.YtaccppchhljnkaaDoor
