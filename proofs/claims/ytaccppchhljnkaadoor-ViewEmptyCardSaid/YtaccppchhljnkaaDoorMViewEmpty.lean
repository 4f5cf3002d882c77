/- ViewEmpty: for every input the law returns true; the card, tied. No condition. -/
import Derived.Test.YtaccppchhljnkaaDoorVAll
import Derived.Lib.OthersKept
import Derived.Test.YtaccppchhljnkaaDoorRows
import Derived.ProofKit
import Derived.SevenTiedAt
import Derived.Lib.SmallJoins
import Derived.OpenShut
import Derived.ShutString
import Derived.ChangeOld
import Derived.Below
/- ViewEmpty: its walk. -/
set_option linter.unusedVariables false
set_option linter.unusedSimpArgs false
namespace Go.Proofs.YtaccppchhljnkaaDoor
open Go.RowKit Go.Shelf Go.Proofs.YtaccppchhljnkaaDoorW.PrintWords Go.Proofs.YtaccppchhljnkaaDoorW.PrintLast Go.Proofs.YtaccppchhljnkaaDoorW.PrintMore
theorem rowL_mem {W : Nat} {t : List Int} {k i : Nat} {u : UInt8} (h : u ∈ rowL W t k i) : ∃ x ∈ t, u = sg x := by
  unfold rowL at h
  obtain ⟨j, _, hj⟩ := List.mem_filterMap.1 h
  cases hx : t[k * W + j]? with
  | none => rw [hx] at hj; cases hj
  | some x => rw [hx] at hj; injection hj with hj; exact ⟨x, List.mem_of_getElem? hx, hj.symm⟩
theorem shU_mem {W : Nat} {t : List Int} : ∀ m, ∀ u ∈ shU W t m, u = 10 ∨ ∃ x ∈ t, u = sg x
  | 0, u, h => by cases h
  | m + 1, u, h => by
    simp only [shU, List.mem_append, List.mem_cons, List.not_mem_nil, or_false] at h
    rcases h with (h | h) | h
    · exact .inr (rowL_mem h)
    · exact .inl h
    · exact shU_mem m u h
theorem rowL_len {W : Nat} {t : List Int} {k : Nat} : ∀ i, k * W + i ≤ t.length → (rowL W t k i).length = i
  | 0, _ => by simp [rowL]
  | i + 1, h => by
    obtain ⟨x, hx⟩ : ∃ x, t[k * W + i]? = some x := ⟨t[k * W + i]'(by omega), List.getElem?_eq_getElem _⟩
    rw [rowL_in W t k i x hx, List.length_append, rowL_len i (by omega)]
    rfl
theorem shU_len {W : Nat} {t : List Int} : ∀ m, m * W ≤ t.length → (shU W t m).length = m * (W + 1)
  | 0, _ => by simp [shU]
  | m + 1, h => by
    rw [Nat.add_mul, Nat.one_mul] at h ⊢
    simp only [shU, List.length_append, List.length_cons, List.length_nil]
    rw [rowL_len W h, shU_len m (by omega)]
    omega
theorem bs_get (l : List UInt8) (i : Nat) (h : i < l.length) (h2 : i < (bs l).size) : (bs l)[i]'h2 = l[i] := by
  show (bs l).data[i] = _
  simp [bs]
attribute [local go_sem] max2_max min2_min max_two min_two
set_option maxHeartbeats 4000000 in
set_option maxRecDepth 100000 in
theorem viewEmpty_core (x y z : Int) (hx : 0 ≤ x ∧ x ≤ 255) (hy : 0 ≤ y ∧ y ≤ 255) (hz : 0 ≤ z ∧ z ≤ 255) (W0 : World) (hT : Tab W0) :
    Calls Tryd.prog 8 #[.int .u8 x, .int .u8 y, .int .u8 z] W0 fun e w' => e = .returned (.bool true) ∧ Below W0.heap.size W0 w' := by
  obtain ⟨W, hW⟩ : ∃ W : Nat, (W : Int) = max 1 (min (x % 70) 64) := ⟨(max 1 (min (x % 70) 64)).toNat, by omega⟩
  obtain ⟨H, hH⟩ : ∃ H : Nat, (H : Int) = max 1 (min (y % 70) 64) := ⟨(max 1 (min (y % 70) 64)).toNat, by omega⟩
  obtain ⟨pad, hpad⟩ : ∃ pad : Nat, (pad : Int) = max 0 (min (z % 7 - 1) 4) := ⟨(max 0 (min (z % 7 - 1) 4)).toNat, by omega⟩
  have hw1 : 1 ≤ W ∧ W ≤ 64 := by omega
  have hh1 : 1 ≤ H ∧ H ≤ 64 := by omega
  have HAW := Lib.hid (awake23 W0 hT)
  have T0 := Lib.hid hT
  have HNEW := Lib.hid (fun w => new_c w x y z hx hy hz W H pad hW hH hpad)
  have hpz : pgL W H pad (zeroS W) = List.replicate (W * H) 0 := by
    unfold pgL
    refine List.ext_getElem (by simp) (fun p h1 h2 => ?_)
    rw [List.getElem_map, List.getElem_replicate]
    exact pg_out (fun k hk => by cases hk)
  obtain ⟨N, hN⟩ : ∃ N, W * H = N := ⟨_, rfl⟩
  have hN4 : N ≤ 4096 := by rw [← hN]; exact Nat.le_trans (Nat.mul_le_mul hw1.2 hh1.2) (by decide)
  obtain ⟨L, hL⟩ : ∃ L, shU W (List.replicate N 0) H = L := ⟨_, rfl⟩
  have hLl : L.length = H * (W + 1) := by rw [← hL]; exact shU_len H (by rw [List.length_replicate, ← hN, Nat.mul_comm]; exact Nat.le_refl _)
  have hL1 : 1 < L.length := by
    rw [hLl]
    have := Nat.mul_le_mul hh1.1 (show 2 ≤ W + 1 by omega)
    omega
  have hLL : L.length ≤ 4160 := by
    rw [hLl]
    exact Nat.le_trans (Nat.mul_le_mul hh1.2 (show W + 1 ≤ 65 by omega)) (by decide)
  have hLa : ∀ u ∈ L, u = 10 ∨ u = 32 := fun u hu => by
    rcases shU_mem H u (hL ▸ hu) with h | ⟨a, ha, rfl⟩
    · exact .inl h
    · rw [(List.mem_replicate.1 ha).2]; exact .inr rfl
  have HSH := Lib.hid (fun w A cap h => shades_c w W H A N cap (List.replicate N 0) (by omega) (by omega) (by simp) h (fun a ha => by rw [(List.mem_replicate.1 ha).2]; omega))
  rw [hL] at HSH
  have HPZ := Lib.hid hpz; have HN := Lib.hid hN; have HLA := Lib.hid hLa
  clear hx hy hz hW hH hpad hT hpz hN hL hLl hLa
  go_enter Tryd.func8, Tryd.ntmps8
  go_wp2_with fail
  refine HAW.out.mono ?_
  rintro e w1 ⟨rfl, hb1⟩
  have HB1 := Lib.hid hb1
  clear hb1 HAW
  go_wp2_with fail
  refine (HNEW.out w1).mono ?_
  rintro e w2 ⟨b, bm, rfl, h2⟩
  have H2 : Hid (AtOn (fun q => q < W0.heap.size) W0 w2 b W H pad (zeroS W)) := Lib.hid ((h2.rebase (fun q hq => Nat.lt_of_lt_of_le hq HB1.out.size) (Kept.of_below _ HB1.out) (fun q hq => hq)).on)
  clear h2 HNEW
  go_wp2_with fail
  refine (page_on H2.out).mono ?_
  rintro e w3 ⟨A3, c3, rfl, hs3, hb3, -, -⟩
  rw [HPZ.out, HN.out] at hs3
  rw [HN.out]
  have C3 := Lib.hid (slO_C8 (by omega) hs3).1
  have H3 := Lib.hid (H2.out.below hb3)
  clear hs3 hb3
  go_wp2_with fail
  refine (HSH.out w3 A3 c3 C3.out).mono ?_
  rintro e w5 ⟨rfl, hb5⟩
  have H5 := Lib.hid (H3.out.below hb5)
  have hbs0 : (⟨L.toArray⟩ : ByteArray) = bs L := rfl
  rw [hbs0]
  clear hbs0 hb5
  obtain ⟨S, hS⟩ : ∃ S, bs L = S := ⟨_, rfl⟩
  have hSz : S.size = L.length := by rw [← hS]; simp [bs, ByteArray.size]
  rw [hS]
  have HS := Lib.hid hS
  have HSZ := Lib.hid hSz
  clear hS hSz
  go_upto_region 8 with (fail)
  obtain ⟨bI, hbI⟩ : ∃ bI, w5.heap.size = bI := ⟨_, rfl⟩
  have HI0 : Hid ((w5.iter S 0).heap[bI]? = some (.stringIter S 0)) := Lib.hid (by rw [← hbI]; exact World.iter_heap w5 S 0)
  have HBI0 : Hid (Below bI w5 (w5.iter S 0)) := Lib.hid (by rw [← hbI]; exact below_alloc (Below.refl _ w5) (.stringIter S 0))
  rw [hbI]
  have HBI := Lib.hid hbI
  clear hbI
  go_loopw [] (fun wr => ∃ j : Nat, j ≤ L.length ∧ Hid (wr.heap[bI]? = some (.stringIter S j)) ∧ Hid (Below bI w5 wr)) (fun wr => L.length - wr.iterPos bI)
  case atStart => exact ⟨0, Nat.zero_le _, HI0, HBI0⟩
  case round =>
    obtain ⟨j, hj, HI, HB⟩ := hrel
    have hpos := Lib.hid (iterPos_of HI.out)
    by_cases hjl : j < L.length
    · have hjS : j < S.size := by rw [HSZ.out]; exact hjl
      obtain ⟨u, hu⟩ : ∃ u, L[j] = u := ⟨_, rfl⟩
      have hSu : S[j]'hjS = u := by
        rw [← hu]
        have := bs_get L j hjl (by rw [HS.out]; exact hjS)
        rw [← this]
        congr 1
        exact HS.out.symm
      have hua := HLA.out u (hu ▸ List.getElem_mem _)
      have hu128 : u.toNat < 128 := by rcases hua with rfl | rfl <;> decide
      have hnx : ∀ ty, (Instr.next (.pointer (some ⟨bI, 0, none⟩)) true ty).run Tryd.prog wr = .ok (.tuple #[.bool true, .int .i64 j, .int .i32 (u.toNat : Int)]) (wr.iterAt bI S (j + 1)) := fun ty => by
        rw [Lib.run_next_ascii_at wr bI S j ty HI.out hjS (by rw [hSu]; exact hu128), hSu]
      have HI2 := Lib.hid (Lib.iterAt_heap wr bI S j (j + 1) HI.out)
      have HB2 := Lib.hid (Lib.below_iterAt HB.out (k := bI) (Nat.le_refl _) S (j + 1))
      have hc : ((u.toNat : Nat) : Int) = 10 ∨ ((u.toNat : Nat) : Int) = 32 := by rcases hua with rfl | rfl <;> decide
      clear hu hSu hua hu128 hjS
      obtain ⟨c, hcc⟩ : ∃ c : Int, ((u.toNat : Nat) : Int) = c := ⟨_, rfl⟩
      rw [hcc] at hc hnx
      clear hcc
      rcases hc with rfl | rfl
      all_goals
        go_wp2_with fail
        go_roundw
        case rel => exact ⟨j + 1, by omega, HI2, HB2⟩
        case measure =>
          rw [iterPos_of HI2.out, hpos.out]
          omega
    · obtain rfl : j = L.length := by omega
      have hnx : ∀ ty, (Instr.next (.pointer (some ⟨bI, 0, none⟩)) true ty).run Tryd.prog wr = .ok (.tuple #[.bool false]) wr := fun ty => Lib.run_next_end_at wr bI S _ ty HI.out (by rw [HSZ.out]; omega)
      have H6 := Lib.hid (H5.out.below (HBI.out ▸ HB.out))
      have T6 := Lib.hid (T0.out.below (H6.out.out (fun q hq => hq) (Nat.le_refl _)))
      have hky : kyL pad (zeroS W) (zeroS W).keys = [] := rfl
      have hsz := HSZ.out
      obtain ⟨R, hR⟩ : ∃ R, L.length = R := ⟨_, rfl⟩
      rw [hR] at hsz hL1
      have hL1' : (1 : Int) < (R : Int) := by omega
      clear hR
      go_wp2_with fail
      refine (vkeys_c H6.out T6.out (fun k hk => by cases hk)).mono ?_
      rintro e w7 ⟨rfl, hb7⟩
      rw [hky]
      clear hky hnx
      go_wp2_with fail
      go_ret
      exact ⟨rfl, (H6.out.below hb7).out (fun q hq => hq) (Nat.le_refl _)⟩
end Go.Proofs.YtaccppchhljnkaaDoor
set_option linter.unusedVariables false
set_option linter.unusedSimpArgs false
namespace Go.Proofs.YtaccppchhljnkaaDoor
open Go.RowKit Go.Proofs.YtaccppchhljnkaaDoorW.PrintWords Go.Proofs.YtaccppchhljnkaaDoorW.PrintMore
theorem wfu8 {x : Int} (h : (Lit.int .u8 x).wf = true) : 0 ≤ x ∧ x ≤ 255 := by simpa [Lit.wf, IntKind.min, IntKind.max, IntKind.signed, IntKind.bits] using h
theorem wfi8 {x : Int} (h : (Lit.int .i8 x).wf = true) : -128 ≤ x ∧ x ≤ 127 := by simpa [Lit.wf, IntKind.min, IntKind.max, IntKind.signed, IntKind.bits] using h
theorem wfi16 {x : Int} (h : (Lit.int .i16 x).wf = true) : -32768 ≤ x ∧ x ≤ 32767 := by simpa [Lit.wf, IntKind.min, IntKind.max, IntKind.signed, IntKind.bits] using h

namespace viewEmpty
open Go.ChangeShapes Go.WideShapes Go.ChangeAt Go.RowKit
open Go.ChangeMaps (open_string shut_string)
theorem own : ownKnob Tryd.prog.godebug = none := by kernel_rfl
theorem laidOut : laidOutB Tryd.prog = true := by kernel_rfl

set_option maxRecDepth 100000 in
theorem lifted (os : Os) (started : os.Started) (H : Type) (enc : TypeId × Value → H) :
    ReturnsInHanded {} Tryd.checked os 8 .any (fun w args => (Rows.viewEmptySpec.pre enc Tryd.prog Tryd.f8 [] false w args ∧ laidMetH Tryd.prog vLaid w) ∧ sizedMet enc Tryd.prog Tryd.f8 (OpenSpec.ofChange Rows.viewEmptySpec) false w args) (Rows.viewEmptySpec.post enc Tryd.prog Tryd.f8 false true false false) := by
  refine returnsInHanded_of_change_and (C := Tryd.checked) (X := fun w _ => laidMetH Tryd.prog vLaid w) (fun _ _ _ hh h => h.of_heap hh) own started (by kernel_rfl) Tryd.func8
    (ChangeSpec.witness_shaped (enc := enc) (C := Tryd.checked) (os := os) (X := fun w _ => laidMetH Tryd.prog vLaid w) false (World.doorLaid Tryd.prog 400 os) #[.int .u8 0, .int .u8 0, .int .u8 0] 8 rfl (World.shaped_of_RefB (by kernel_rfl) (by kernel_rfl)) (by kernel_rfl) (by kernel_rfl) (by kernel_rfl) (door_met os _)) ?_
  intro W base args ds gs before hval0 hW hcnd _ hL _
  have hval : ∀ (j : Nat) t v, Tryd.f8.params[j]? = some t → args[j]? = some v → Value.okWide Tryd.prog W .any base t v := hval0
  have hW' := hW
  obtain ⟨p, q, hA0, hV, rfl, hfz, hnd⟩ := hW
  have hA : DataW.TrodAll enc Tryd.prog W 0 (fun _ => true) true Tryd.f8.params.toList args.toList ds p := hA0
  rw [Tryd.params8] at hA hval
  obtain ⟨v0, vs0, d0, ds0, p0, q0, hargs, rfl, rfl, h0, r0⟩ := trodAll_cons hA
  obtain ⟨v1, vs1, d1, ds1, p1, q1, rfl, rfl, rfl, h1, r1⟩ := trodAll_cons r0
  obtain ⟨v2, vs2, d2, ds2, p2, q2, rfl, rfl, rfl, h2, r2⟩ := trodAll_cons r1
  obtain ⟨rfl, rfl, rfl⟩ := trodAll_nil r2
  obtain rfl : args = #[v0, v1, v2] := by cases args; simp_all
  obtain ⟨rfl, rfl⟩ := trodVars_none hV
  obtain ⟨a0, rfl, rfl, rfl, w0⟩ := open_int Tryd.underlying5 (hval 0 5 v0 rfl rfl) h0
  obtain ⟨a1, rfl, rfl, rfl, w1⟩ := open_int Tryd.underlying5 (hval 1 5 v1 rfl rfl) h1
  obtain ⟨a2, rfl, rfl, rfl, w2⟩ := open_int Tryd.underlying5 (hval 2 5 v2 rfl rfl) h2
  clear hA0 hval0
  refine (viewEmpty_core a0 a1 a2 (wfu8 w0) (wfu8 w1) (wfu8 w2) W (tab_of hL)).mono fun e W' ⟨he, bel⟩ => ?_
  subst he
  exact ⟨_, rfl, _, _, _, [], _, [], hW', trodAll_mk1 (shut_bool Tryd.underlying4 _), (trodAll_cons_mk (shut_int Tryd.underlying5 w0) (trodAll_cons_mk (shut_int Tryd.underlying5 w1) (trodAll_cons_mk (shut_int Tryd.underlying5 w2) trodAll_mk0))), rfl, bel.frame _, fun h => by cases h⟩

theorem over : Rows.viewEmptyRow.holds Tryd.pinned (OpenSpec.ofChange Rows.viewEmptySpec) :=
  OpenClaim.holds_of_wide 8 Tryd.f8 rfl rfl rfl rfl rfl rfl rfl ⟨rfl, rfl, rfl, rfl, rfl⟩ rfl rfl rfl rfl rfl (by kernel_rfl) Tryd.func8 (by kernel_rfl)
    (of_decide_eq_true (by kernel_rfl)) (by unfold Func.isWrapper; first | (rw [if_pos (by decide +kernel)]; kernel_rfl) | (rw [if_neg (by decide +kernel)]; exact ⟨rfl, rfl⟩))
    (fun os started H enc _ => lifted os started H enc)

theorem proved : Rows.ViewEmptyCardSaid :=
  Claim7.holds_tied_plain_at .later [] [.data, .data, .data] true (true, "9f61736623f24a406a096889e4604567b643a8a2236ce8bbd74d46cd243b27bf") false
    over (fun _ h => by cases h) (by kernel_rfl) (fun _ h => by cases h) viewEmpty_row_tie rfl ⟨rfl, rfl⟩ (by kernel_rfl) rfl
    (fun f fn hf hfn => by
      obtain rfl : f = 8 := Option.some.inj ((show Tryd.prog.funcNamed Rows.viewEmptyRow.func = some 8 by kernel_rfl).symm.trans hf) |>.symm
      obtain rfl : fn = Tryd.f8 := (Option.some.inj (Tryd.func8.symm.trans hfn)).symm
      exact ⟨by kernel_rfl, fun j t ht => by
        rw [Tryd.params8] at ht
        have hm := Array.mem_of_getElem? ht
        have hm2 : t = 5 := by
          simp at hm
          exact hm
        rcases hm2 with rfl
        · exact (show Tryd.prog.wantsStandIn 5 = false by kernel_rfl)⟩)
    (by kernel_rfl)
end viewEmpty
end Go.Proofs.YtaccppchhljnkaaDoor
