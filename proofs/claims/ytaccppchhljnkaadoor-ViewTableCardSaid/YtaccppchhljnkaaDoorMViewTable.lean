/- ViewTable: for every input the law returns true; the card, tied. No condition. -/
import Derived.Test.YtaccppchhljnkaaDoorVAll
import Derived.OpenShut
import Derived.Lib.SmallJoins
import Derived.Test.YtaccppchhljnkaaDoorRows
import Derived.ProofKit
import Derived.SevenTiedAt
import Derived.ShutString
import Derived.ChangeOld
import Derived.Below
/- ViewTable: its walk. -/
set_option linter.unusedVariables false
set_option linter.unusedSimpArgs false
namespace Go.Proofs.YtaccppchhljnkaaDoor
section
open Go.Joins Go.ChangeShapes Go.WideShapes Go.RowKit Go.Deep Go.Proofs.YtaccppchhljnkaaDoorW.PrintWords
theorem open_by {H : Type} {enc : TypeId × Value → H} {w : World} {base : Nat} {spare : Nat → Bool} {held : Bool} {fuel : Nat} {c : Value} {y : DataW H × List MemPlace}
    (hf : DataW.trod enc Tryd.prog w base spare held fuel 25 [c] = some y) :
    ∃ (a : Option Addr) (len cap : Nat) (l : List Int), c = .slice a len cap ∧ l.length = len ∧ Kd.C (Kd.int .u8) w a len l ∧ len ≤ cap ∧ ∀ x ∈ l, 0 ≤ x ∧ x ≤ 255 := by
  rcases open_ints Tryd.underlying25 Tryd.underlying5 (by kernel_rfl) hf with ⟨hcs, _⟩ | ⟨x, l, c', zs, hcs, _, hl, hm, hz, _, hcell, hwz⟩
  · have hcs' : c = .slice none 0 0 := by simpa using hcs
    exact ⟨none, 0, 0, [], hcs', rfl, ⟨rfl, by simp, fun h => absurd h (by simp)⟩, Nat.le_refl _, by simp⟩
  · have hcs' : c = .slice (some x) l c' := by simpa using hcs
    have hz' : l ≤ zs.length := by rw [hz]; split <;> omega
    have hlen : (zs.take l).length = l := by rw [List.length_take]; omega
    refine ⟨some x, l, c', zs.take l, hcs', hlen, ⟨hlen, by unfold maxLen at hm; omega, fun _ => ⟨x, rfl, fun j p hj => ⟨[.int .u8 p], rfl, rfl, fun i u hu => ?_⟩⟩⟩, hl, fun q hq => ?_⟩
    · have hi : i = 0 := by
        match i, hu with
        | 0, _ => rfl
        | i + 1, hu => simp at hu
      subst hi
      have hjl : j < zs.length := by
        have := (List.getElem?_eq_some_iff.1 hj).1
        rw [hlen] at this; omega
      have hp : zs.getD j 0 = p := by
        rw [List.getElem?_take] at hj
        split at hj
        · rw [List.getD_eq_getElem?_getD, hj]; rfl
        · cases hj
      have hu' : u = .int .u8 p := by simpa using hu.symm
      subst hu'
      have := hcell j hjl
      rw [hp] at this
      show w.cell? (x.add (j * 1 + 0)) = _
      rw [Nat.mul_one]
      simpa using this
    · have := hwz q (List.mem_of_mem_take hq)
      simpa [Lit.wf, IntKind.min, IntKind.max, IntKind.signed, IntKind.bits] using this
set_option maxRecDepth 100000 in
theorem open_fld {H : Type} {enc : TypeId × Value → H} {w : World} {base : Nat} {spare : Nat → Bool} {held : Bool} {r : Reach} {b0 : Nat} {v : Value} {d : DataW H} {p : List MemPlace}
    (hv : Value.okWide Tryd.prog w r b0 27 v) (h : DataW.Trod enc Tryd.prog w base spare held 27 v d p) :
    ∃ (m k : Int) (a : Option Addr) (len cap : Nat) (l : List Int), v = .agg #[.int .i64 m, .int .i64 k, .slice a len cap] ∧ (Lit.int .i64 m).wf = true ∧ (Lit.int .i64 k).wf = true ∧ l.length = len ∧ Kd.C (Kd.int .u8) w a len l ∧ len ≤ cap ∧ ∀ x ∈ l, 0 ≤ x ∧ x ≤ 255 := by
  have hs := Tryd.underlying27
  obtain ⟨cs, rfl, hsz⟩ := okWide_struct hs hv
  have hC : Tryd.prog.cellsOf 27 = 3 := by kernel_rfl
  obtain ⟨l⟩ := cs
  match l, hsz.trans hC with
  | [c0, c1, c2], _ =>
    obtain ⟨fuel, hf⟩ := h
    obtain ⟨xs, n, _, _, _, hlen, hg⟩ := DataW.trod_struct hs hf
    have g0 := hg 0 _ rfl
    have g1 := hg 1 _ rfl
    have g2 := hg 2 _ rfl
    have hl3 : xs.length = 3 := hlen
    have k3 : Tryd.prog.cellsOf 3 = 1 := by kernel_rfl
    have k25 : Tryd.prog.cellsOf 25 = 1 := by kernel_rfl
    obtain ⟨y0, e0⟩ : ∃ y, xs[0]? = some y := ⟨xs[0]'(by omega), List.getElem?_eq_getElem _⟩
    obtain ⟨y1, e1⟩ : ∃ y, xs[1]? = some y := ⟨xs[1]'(by omega), List.getElem?_eq_getElem _⟩
    obtain ⟨y2, e2⟩ : ∃ y, xs[2]? = some y := ⟨xs[2]'(by omega), List.getElem?_eq_getElem _⟩
    rw [e0] at g0; rw [e1] at g1; rw [e2] at g2
    have g0' : DataW.trod enc Tryd.prog w base spare held n 3 [c0] = some y0 := by simpa [Value.cells, k3] using g0
    have g1' : DataW.trod enc Tryd.prog w base spare held n 3 [c1] = some y1 := by simpa [Value.cells, k3] using g1
    have g2' : DataW.trod enc Tryd.prog w base spare held n 25 [c2] = some y2 := by simpa [Value.cells, k25] using g2
    obtain ⟨m, hm, _, wm⟩ := DataW.trod_int Tryd.underlying3 g0'
    obtain ⟨k, hk, _, wk⟩ := DataW.trod_int Tryd.underlying3 g1'
    injection hm with hm
    injection hk with hk
    subst hm hk
    obtain ⟨a, len, cap, l, rfl, q1, q2, q3, q4⟩ := open_by g2'
    exact ⟨m, k, a, len, cap, l, rfl, wm, wk, q1, q2, q3, q4⟩
end
theorem c8_take {W : World} {a : Option Addr} {n m : Nat} {xs : List Int} (h : Go.Proofs.YtaccppchhljnkaaDoorW.PrintWords.Kd.C (Go.Proofs.YtaccppchhljnkaaDoorW.PrintWords.Kd.int .u8) W a n xs) (hm : m ≤ n) : Go.Proofs.YtaccppchhljnkaaDoorW.PrintWords.Kd.C (Go.Proofs.YtaccppchhljnkaaDoorW.PrintWords.Kd.int .u8) W a m (xs.take m) := by
  obtain ⟨h1, h2, h3⟩ := h
  refine ⟨by rw [List.length_take]; omega, by omega, fun h0 => ?_⟩
  obtain ⟨ad, e, g⟩ := h3 (by omega)
  refine ⟨ad, e, fun j p hj => g j p ?_⟩
  by_cases c : j < m
  · rw [List.getElem?_take_of_lt c] at hj; exact hj
  · rw [List.getElem?_eq_none (by rw [List.length_take]; omega)] at hj; cases hj
section
open Go.RowKit Go.Shelf Go.Proofs.YtaccppchhljnkaaDoorW.PrintWords Go.Proofs.YtaccppchhljnkaaDoorW.PrintLast Go.Proofs.YtaccppchhljnkaaDoorW.PrintMore
theorem wfi64 {x : Int} (h : (Lit.int .i64 x).wf = true) : -9223372036854775808 ≤ x ∧ x ≤ 9223372036854775807 := by simpa [Lit.wf, IntKind.min, IntKind.max, IntKind.signed, IntKind.bits] using h
theorem c8_kept {w w' : World} {a : Option Addr} {n : Nat} {xs : List Int} (h : Kd.C (Kd.int .u8) w a n xs) (hk : ∀ ad v, a = some ad → ∀ j, w.cell? (ad.add j) = some v → w'.cell? (ad.add j) = some v) : Kd.C (Kd.int .u8) w' a n xs := by
  obtain ⟨h1, h2, h3⟩ := h
  refine ⟨h1, h2, fun h0 => ?_⟩
  obtain ⟨ad, e, g⟩ := h3 h0
  refine ⟨ad, e, fun j p hj => ?_⟩
  obtain ⟨c, e1, e2, e3⟩ := g j p hj
  exact ⟨c, e1, e2, fun r u hu => hk ad u e _ (e3 r u hu)⟩
def hdL (m k : Int) : List UInt8 := Lib.itoa m ++ [32] ++ Lib.itoa k ++ [10]
attribute [local go_sem] max2_max min2_min max_two min_two
set_option maxHeartbeats 4000000 in
set_option maxRecDepth 100000 in
theorem viewTable_core (m k : Int) (wm : (Lit.int .i64 m).wf = true) (wk : (Lit.int .i64 k).wf = true) (a : Option Addr) (n cap : Nat) (t : List Int) (hn : t.length = n) (W0 : World) (hC : Kd.C (Kd.int .u8) W0 a n t) (hcap : n ≤ cap) (h8 : ∀ x ∈ t, 0 ≤ x ∧ x ≤ 255) (hT : Tab W0) :
    Calls Tryd.prog 4 #[.agg #[.int .i64 m, .int .i64 k, .slice a n cap]] W0 fun e w' => e = .returned (.bool true) ∧ Below W0.heap.size W0 w' := by
  have hm := wfi64 wm
  have hk := wfi64 wk
  obtain ⟨M, hM⟩ : ∃ M, min n 60 = M := ⟨_, rfl⟩
  have hMi : min (n : Int) 60 = (M : Int) := by omega
  have hMn : M ≤ n := by omega
  have hM60 : M ≤ 60 := by omega
  have hMc : M ≤ cap := by omega
  have hMc' : (M : Int) ≤ (cap : Int) := by omega
  have bb := below_alloc (Below.refl _ W0) (.cells #[.int .i64 m, .int .i64 k, .slice a n cap] 27)
  have G1 := heap_alloc_new W0 (.cells #[.int .i64 m, .int .i64 k, .slice a n cap] 27)
  have T1 := Lib.hid (hT.below bb)
  have HC0 := Lib.hid hC
  have T0 := Lib.hid hT
  have HN := Lib.hid hn; have H8 := Lib.hid h8; have HB1 := Lib.hid bb; have HG1 := Lib.hid G1
  clear hT hC hn h8 bb G1 wm wk hM
  go_enter Tryd.func4, Tryd.ntmps4
  go_upto_region 1 with (fail)
  generalize W0.alloc (.cells #[.int .i64 m, .int .i64 k, .slice a n cap] 27) = w1 at *
  go_wp2_with fail
  refine (awake23 w1 T1.out).mono ?_
  rintro e w2 ⟨rfl, hb2⟩
  have HB2 := Lib.hid (HB1.out.trans (hb2.mono HB1.out.size))
  have T2 := Lib.hid (T1.out.below hb2)
  have G2 := blk_below HG1.out hb2
  obtain ⟨bx, hbx⟩ : ∃ bx, W0.heap.size = bx := ⟨_, rfl⟩
  have HBX := Lib.hid hbx
  rw [hbx] at G2 ⊢
  have f2 : w2.cell? ⟨bx, 2, none⟩ = some (.slice a n cap) := (blk_cell G2 2).trans rfl
  have z2 := blk_frozen G2 2
  have G3 : (w2.setCell ⟨bx, 2, none⟩ (.slice a M cap)).heap[bx]? = some (.cells #[.int .i64 m, .int .i64 k, .slice a M cap] 27 (0, 0)) := heap_setCell_in _ G2
  have HB3 : Hid (Below bx W0 (w2.setCell ⟨bx, 2, none⟩ (.slice a M cap))) := Lib.hid (by
    have h2 : Below W0.heap.size W0 (w2.setCell ⟨bx, 2, none⟩ (.slice a M cap)) := below_set HB2.out (Nat.le_of_eq hbx)
    rw [hbx] at h2
    exact h2)
  have HT3 : Hid (Tab (w2.setCell ⟨bx, 2, none⟩ (.slice a M cap))) := Lib.hid (T0.out.below (by rw [hbx]; exact HB3.out))
  clear hb2 hbx
  go_upto_region 4 with (fail)
  generalize w2.setCell ⟨bx, 2, none⟩ (.slice a M cap) = w3 at *
  have HG3 := Lib.hid G3
  have HCU : Hid (Kd.C (Kd.int .u8) w3 a M (t.take M)) := Lib.hid (c8_take (Kd.C_below HC0.out (by rw [HBX.out]; exact HB3.out)) hMn)
  obtain ⟨U, hU⟩ : ∃ U, t.take M = U := ⟨_, rfl⟩
  rw [hU] at HCU
  have HUL : Hid (U.length = M) := Lib.hid (by rw [← hU, List.length_take, HN.out]; omega)
  have HU8 : Hid (∀ z ∈ U, 0 ≤ z ∧ z ≤ 255) := Lib.hid (fun z hz => H8.out z (List.mem_of_mem_take (hU ▸ hz)))
  have d0 : w3.cell? ⟨bx, 0, none⟩ = some (.int .i64 m) := (blk_cell G3 0).trans rfl
  have d1 : w3.cell? ⟨bx, 1, none⟩ = some (.int .i64 k) := (blk_cell G3 1).trans rfl
  have D1 := Lib.hid (fun W => digits_c m hm.1 hm.2 W)
  have D2 := Lib.hid (fun W => digits_c k hk.1 hk.2 W)
  have la := itoa_len m hm.1 hm.2
  have lb := itoa_len k hk.1 hk.2
  have q1 : ¬ 9223372036854775807 < (Lib.itoa m).length + 1 := by omega
  have q2 : ¬ 9223372036854775807 < (Lib.itoa m).length + 1 + (Lib.itoa k).length := by omega
  have q3 : ¬ 9223372036854775807 < (Lib.itoa m).length + 1 + (Lib.itoa k).length + 1 := by omega
  have HHL : Hid ((hdL m k).length ≤ 42) := Lib.hid (by unfold hdL; simp only [List.length_append, List.length_cons, List.length_nil]; omega)
  have hhd : ((((⟨(Lib.itoa m).toArray⟩ : ByteArray) ++ ⟨#[32]⟩) ++ ⟨(Lib.itoa k).toArray⟩) ++ ⟨#[10]⟩) = bs (hdL m k) := by
    rw [show (⟨#[32]⟩ : ByteArray) = ⟨([32] : List UInt8).toArray⟩ from rfl, show (⟨#[10]⟩ : ByteArray) = ⟨([10] : List UInt8).toArray⟩ from rfl, str_app, str_app, str_app]
    rfl
  have HHD := Lib.hid hhd
  clear hU G2 G3 f2 z2 la lb hhd
  go_quiet ((first | (go_at_call_of 12 m; exact Calls.quiet_of_same (D1.out _)) | (go_at_call_of 12 k; exact Calls.quiet_of_same (D2.out _))))
  have HG4 := Lib.hid (blk_below HG3.out (below_drewN (Below.refl _ w3) nq))
  have HC4 := Lib.hid (Kd.C_below HCU.out (below_drewN (Below.refl _ w3) nq))
  have HT4 := Lib.hid (HT3.out.below (below_drewN (Below.refl _ w3) nq))
  have HB4 := Lib.hid (below_drewN HB3.out nq)
  generalize w3.drewN nq = w4 at *
  rw [HHD.out]
  obtain ⟨hd, hhd⟩ : ∃ hd, hdL m k = hd := ⟨_, rfl⟩
  rw [hhd] at HHL ⊢
  have HHE := Lib.hid hhd
  have f2 : w4.cell? ⟨bx, 2, none⟩ = some (.slice a M cap) := (blk_cell HG4.out 2).trans rfl
  clear q1 q2 q3 d0 d1 D1 D2 HCU HG3 HT3 HB3 hhd HHD
  go_upto_region 6 with (fail)
  clear f2
  go_loopw [3, 28] (fun v3 v28 wr => ∃ i : Nat, v3 = .string (bs (hd ++ Lib.join ((U.take i).map Lib.itoa) [32])) ∧ v28 = .int .i64 i ∧ i ≤ M ∧ wr = w4) (fun _ v28 _ => M - (intOf v28).toNat)
  case atStart => exact ⟨0, by simp [Lib.join_nil], rfl, Nat.zero_le _, rfl⟩
  case round =>
    obtain ⟨i, rfl, rfl, hi, rfl⟩ := hrel
    have hl20 : ∀ j, ∀ x ∈ (U.take j).map Lib.itoa, x.length ≤ 20 := fun j x hx => by
      obtain ⟨y, hy, rfl⟩ := List.mem_map.1 hx
      have := HU8.out y (List.mem_of_mem_take hy)
      exact itoa_len y (by omega) (by omega)
    have hJl : ∀ j, (Lib.join ((U.take j).map Lib.itoa) [32]).length ≤ 60 * 21 := fun j => by
      have h1 := join_le _ 20 (hl20 j)
      refine Nat.le_trans h1 (Nat.mul_le_mul ?_ (Nat.le_refl _))
      rw [List.length_map, List.length_take, HUL.out]; omega
    have HJL := Lib.hid hJl
    clear hl20 hJl
    by_cases hiM : i < M
    · have hiM' : (i : Int) < (M : Int) := by omega
      obtain ⟨x, hx⟩ : ∃ x, U[i]? = some x := ⟨U[i]'(by rw [HUL.out]; exact hiM), List.getElem?_eq_getElem _⟩
      obtain ⟨ad, rfl, hcx⟩ := c8_at HC4.out i x hiM hx
      have hxr := HU8.out x (List.mem_of_getElem? hx)
      have wx : IntKind.i64.wrap x = x := by rw [IntKind.wrap_i64]; omega
      have DX := Lib.hid (fun W => digits_c x (by omega) (by omega) W)
      have hxl := itoa_len x (by omega) (by omega)
      have htk : U.take (i + 1) = U.take i ++ [x] := by rw [List.take_add_one, hx]; rfl
      obtain ⟨J, hJ⟩ : ∃ J, Lib.join ((U.take i).map Lib.itoa) [32] = J := ⟨_, rfl⟩
      have hJ1 : J.length ≤ 1260 := by rw [← hJ]; exact HJL.out i
      rw [hJ]
      have hsn : Lib.join ((U.take (i + 1)).map Lib.itoa) [32] = if i = 0 then Lib.itoa x else J ++ [32] ++ Lib.itoa x := by
        rw [htk, List.map_append, List.map_cons, List.map_nil, join_snoc, hJ]
        by_cases h0 : i = 0
        · rw [if_pos (by rw [h0]; rfl), if_pos h0]
        · rw [if_neg (fun h => by
            have h2 := congrArg List.length h
            rw [List.length_map, List.length_take, HUL.out, List.length_nil] at h2
            omega), if_neg h0]
      have hhl := HHL.out
      by_cases h0 : i = 0
      · have h0' : ¬ (0 : Int) < (i : Int) := by omega
        have hJ0 : J = [] := by rw [← hJ, h0]; rfl
        rw [if_pos h0] at hsn
        have HSN := Lib.hid hsn
        subst hJ0
        have q1 : ¬ 9223372036854775807 < hd.length + (Lib.itoa x).length := by omega
        have hap : (hd ++ ([] : List UInt8)) = hd := List.append_nil _
        rw [hap]
        clear hx hxr htk hJ hsn hhl h0 hJ1 hxl hap
        go_wp2_with fail
        refine (DX.out _).mono ?_
        rintro e w5 ⟨rfl, rfl⟩
        go_wp2_with fail
        go_roundw
        case rel => exact ⟨i + 1, by rw [HSN.out]; exact congrArg Value.string (str_app hd (Lib.itoa x)), by go_num, by omega, by first | rfl | trivial⟩
        case measure => simp [intOf]; omega
      · have h0' : (0 : Int) < (i : Int) := by omega
        rw [if_neg h0] at hsn
        have HSN := Lib.hid hsn
        have q0 : ¬ 9223372036854775807 < hd.length + J.length + 1 := by omega
        have q1 : ¬ 9223372036854775807 < hd.length + J.length + 1 + (Lib.itoa x).length := by omega
        clear hx hxr htk hJ hsn hhl h0 hJ1 hxl
        go_wp2_with fail
        refine (DX.out _).mono ?_
        rintro e w5 ⟨rfl, rfl⟩
        go_wp2_with fail
        go_roundw
        case rel => exact ⟨i + 1, by
          rw [HSN.out]
          have e1 := str_app (hd ++ J) [32]
          have e2 := str_app (hd ++ J ++ [32]) (Lib.itoa x)
          rw [← e1] at e2
          rw [show hd ++ (J ++ [32] ++ Lib.itoa x) = hd ++ J ++ [32] ++ Lib.itoa x from by simp]
          exact congrArg Value.string e2, by go_num, by omega, by first | rfl | trivial⟩
        case measure => simp [intOf]; omega
    · have hiM' : ¬ (i : Int) < (M : Int) := by omega
      obtain rfl : i = M := by omega
      have hfin : bs (hd ++ Lib.join (U.map Lib.itoa) [32]) ++ ⟨#[10]⟩ = bs (tabL m k U) := by
        have e1 := str_app (hd ++ Lib.join (U.map Lib.itoa) [32]) [10]
        refine e1.trans ?_
        rw [← HHE.out]
        unfold tabL hdL
        rfl
      have HFN := Lib.hid hfin
      have hJ1 := HJL.out i
      have hhl := HHL.out
      have e0 : U.take i = U := List.take_of_length_le (by rw [HUL.out]; exact Nat.le_refl _)
      rw [e0] at hJ1 ⊢
      obtain ⟨J, hJ⟩ : ∃ J, Lib.join (U.map Lib.itoa) [32] = J := ⟨_, rfl⟩
      rw [hJ] at hJ1 HFN ⊢
      have q0 : ¬ 9223372036854775807 < hd.length + J.length + 1 := by omega
      have d0 : wr.cell? ⟨bx, 0, none⟩ = some (.int .i64 m) := (blk_cell HG4.out 0).trans rfl
      have d1 : wr.cell? ⟨bx, 1, none⟩ = some (.int .i64 k) := (blk_cell HG4.out 1).trans rfl
      have d2 : wr.cell? ⟨bx, 2, none⟩ = some (.slice a i cap) := (blk_cell HG4.out 2).trans rfl
      clear hfin hJ hhl hJ1 e0
      go_wp2_with fail
      refine (table_c wr HT4.out m k hm hk a i cap U HUL.out (by omega) HC4.out HU8.out).mono ?_
      rintro e w7 ⟨rfl, hb7⟩
      rw [← HFN.out]
      go_wp2_with fail
      go_ret
      refine ⟨rfl, ?_⟩
      have h1 := HB4.out
      rw [← HBX.out] at h1
      exact h1.trans (hb7.mono h1.size)
end
end Go.Proofs.YtaccppchhljnkaaDoor
set_option linter.unusedVariables false
set_option linter.unusedSimpArgs false
namespace Go.Proofs.YtaccppchhljnkaaDoor
open Go.RowKit Go.Proofs.YtaccppchhljnkaaDoorW.PrintWords Go.Proofs.YtaccppchhljnkaaDoorW.PrintMore
theorem wfu8 {x : Int} (h : (Lit.int .u8 x).wf = true) : 0 ≤ x ∧ x ≤ 255 := by simpa [Lit.wf, IntKind.min, IntKind.max, IntKind.signed, IntKind.bits] using h
theorem wfi8 {x : Int} (h : (Lit.int .i8 x).wf = true) : -128 ≤ x ∧ x ≤ 127 := by simpa [Lit.wf, IntKind.min, IntKind.max, IntKind.signed, IntKind.bits] using h
theorem wfi16 {x : Int} (h : (Lit.int .i16 x).wf = true) : -32768 ≤ x ∧ x ≤ 32767 := by simpa [Lit.wf, IntKind.min, IntKind.max, IntKind.signed, IntKind.bits] using h

namespace viewTable
open Go.ChangeShapes Go.WideShapes Go.ChangeAt Go.RowKit
open Go.ChangeMaps (open_string shut_string)
theorem own : ownKnob Tryd.prog.godebug = none := by kernel_rfl
theorem laidOut : laidOutB Tryd.prog = true := by kernel_rfl

set_option maxRecDepth 100000 in
theorem lifted (os : Os) (started : os.Started) (H : Type) (enc : TypeId × Value → H) :
    ReturnsInHanded {} Tryd.checked os 4 .any (fun w args => (Rows.viewTableSpec.pre enc Tryd.prog Tryd.f4 [] false w args ∧ laidMetH Tryd.prog vLaid w) ∧ sizedMet enc Tryd.prog Tryd.f4 (OpenSpec.ofChange Rows.viewTableSpec) false w args) (Rows.viewTableSpec.post enc Tryd.prog Tryd.f4 false true false false) := by
  refine returnsInHanded_of_change_and (C := Tryd.checked) (X := fun w _ => laidMetH Tryd.prog vLaid w) (fun _ _ _ hh h => h.of_heap hh) own started (by kernel_rfl) Tryd.func4
    (ChangeSpec.witness_shaped (enc := enc) (C := Tryd.checked) (os := os) (X := fun w _ => laidMetH Tryd.prog vLaid w) false (World.doorLaid Tryd.prog 400 os) #[.agg #[.int .i64 0, .int .i64 0, .slice none 0 0]] 8 rfl (World.shaped_of_RefB (by kernel_rfl) (by kernel_rfl)) (by kernel_rfl) (by kernel_rfl) (by kernel_rfl) (door_met os _)) ?_
  intro W base args ds gs before hval0 hW hcnd _ hL _
  have hval : ∀ (j : Nat) t v, Tryd.f4.params[j]? = some t → args[j]? = some v → Value.okWide Tryd.prog W .any base t v := hval0
  have hW' := hW
  obtain ⟨p, q, hA0, hV, rfl, hfz, hnd⟩ := hW
  have hA : DataW.TrodAll enc Tryd.prog W 0 (fun _ => true) true Tryd.f4.params.toList args.toList ds p := hA0
  rw [Tryd.params4] at hA hval
  obtain ⟨v0, vs0, d0, ds0, p0, q0, hargs, rfl, rfl, h0, r0⟩ := trodAll_cons hA
  obtain ⟨rfl, rfl, rfl⟩ := trodAll_nil r0
  obtain rfl : args = #[v0] := by cases args; simp_all
  obtain ⟨rfl, rfl⟩ := trodVars_none hV
  have k0 := h0
  have lt0 : ∀ x ∈ p0, x.block < W.heap.size := by obtain ⟨m, hm⟩ := k0; exact DataW.trod_lt m _ _ _ hm
  obtain ⟨m0, n0, a0, len0, cap0, l0, rfl, wm0, wn0, ll0, rd0, le0, wf0⟩ := open_fld (hval 0 27 v0 rfl rfl) h0
  clear hA0 hval0
  refine (viewTable_core m0 n0 wm0 wn0 a0 len0 cap0 l0 ll0 W rd0 le0 wf0 (tab_of hL)).mono fun e W' ⟨he, bel⟩ => ?_
  subst he
  exact ⟨_, rfl, _, _, _, [], _, [], hW', trodAll_mk1 (shut_bool Tryd.underlying4 _), (trodAll_cons_mk (Below.trod laidOut (by kernel_rfl) (of_decide_eq_true (by kernel_rfl)) k0 bel lt0) trodAll_mk0), rfl, bel.frame _, fun h => by cases h⟩

theorem over : Rows.viewTableRow.holds Tryd.pinned (OpenSpec.ofChange Rows.viewTableSpec) :=
  OpenClaim.holds_of_wide 4 Tryd.f4 rfl rfl rfl rfl rfl rfl rfl ⟨rfl, rfl, rfl, rfl, rfl⟩ rfl rfl rfl rfl rfl (by kernel_rfl) Tryd.func4 (by kernel_rfl)
    (of_decide_eq_true (by kernel_rfl)) (by unfold Func.isWrapper; first | (rw [if_pos (by decide +kernel)]; kernel_rfl) | (rw [if_neg (by decide +kernel)]; exact ⟨rfl, rfl⟩))
    (fun os started H enc _ => lifted os started H enc)

theorem proved : Rows.ViewTableCardSaid :=
  Claim7.holds_tied_plain_at .later [] [.data, .data, .data] true (true, "9f61736623f24a406a096889e4604567b643a8a2236ce8bbd74d46cd243b27bf") false
    over (fun _ h => by cases h) (by kernel_rfl) (fun _ h => by cases h) viewTable_row_tie rfl ⟨rfl, rfl⟩ (by kernel_rfl) rfl
    (fun f fn hf hfn => by
      obtain rfl : f = 4 := Option.some.inj ((show Tryd.prog.funcNamed Rows.viewTableRow.func = some 4 by kernel_rfl).symm.trans hf) |>.symm
      obtain rfl : fn = Tryd.f4 := (Option.some.inj (Tryd.func4.symm.trans hfn)).symm
      exact ⟨by kernel_rfl, fun j t ht => by
        rw [Tryd.params4] at ht
        have hm := Array.mem_of_getElem? ht
        have hm2 : t = 27 := by
          simp at hm
          exact hm
        rcases hm2 with rfl
        · exact (show Tryd.prog.wantsStandIn 27 = false by kernel_rfl)⟩)
    (by kernel_rfl)
end viewTable
end Go.Proofs.YtaccppchhljnkaaDoor
