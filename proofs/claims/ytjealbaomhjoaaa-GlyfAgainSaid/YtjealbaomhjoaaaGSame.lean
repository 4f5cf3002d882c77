/- GlyfSame: the walk. -/
import Derived.Test.YtjealbaomhjoaaaGlS
import Derived.Test.YtjealbaomhjoaaaInner
import Derived.Test.YtjealbaomhjoaaaGOut
import Derived.Test.YtjealbaomhjoaaaGAwake
import Derived.Deep.QuietTactic
import Derived.BigQuiet
import Derived.RegionTactic
import Derived.BigRegion
import Derived.StillTailTactics
import Derived.Deep.RegionHeld3
import Derived.Deep.DeepCutAuto
import Derived.Deep.CutBlock
import Derived.Deep.CutRange
set_option linter.unusedVariables false
set_option linter.unusedSimpArgs false
namespace Go.Proofs.Ytjealbaomhjoaaa
open Go.RowKit Go.Proofs.Ytjealbaomhjoaaa.G Go.Proofs.YtjealbaomhjoaaaW.PrintWords Go.Proofs.YtjealbaomhjoaaaW.PrintMore
theorem alloc_drewN (w : World) (k : Nat) (o : Obj) : (w.drewN k).alloc o = (w.alloc o).drewN k := rfl
theorem setCell_drewN (w : World) (k : Nat) (a : Addr) (v : Value) : (w.drewN k).setCell a v = (w.setCell a v).drewN k := rfl

theorem same_any (a b : List (List S34)) (ha : Small a) (A B : Option Addr) (ca cb na nb : Nat) (w : World) (ea : na = a.length) (eb : nb = b.length) (ra : Kd.C (Kd.slice 34 k34) w A a.length a) (la : a.length ≤ ca) (rb : Kd.C (Kd.slice 34 k34) w B b.length b) (lb : b.length ≤ cb) :
    Calls Try.prog 30 #[.agg #[.slice A na ca], .agg #[.slice B nb cb]] w fun e w' => e = .returned (.bool (eqO a b)) ∧ Below w.heap.size w w' := by
  subst ea; subst eb
  obtain ⟨K, hK⟩ := same_f a b ha
  exact glyf_Same.calls K A ca a B cb b _ w ra la rb lb (hK K (Nat.le_refl _))
theorem rsame_any (a b : List (List S34)) (ha : Small a) (A B : Option Addr) (ca cb na nb : Nat) (w : World) (ea : na = a.length) (eb : nb = b.length) (ra : Kd.C (Kd.slice 34 k34) w A a.length a) (la : a.length ≤ ca) (rb : Kd.C (Kd.slice 34 k34) w B b.length b) (lb : b.length ≤ cb) :
    Calls Try.prog 29 #[.agg #[.slice A na ca], .agg #[.slice B nb cb]] w fun e w' => e = .returned (.bool (eqO a b)) ∧ Below w.heap.size w w' := by
  subst ea; subst eb
  obtain ⟨K, hK⟩ := rsame_f a b ha
  exact punchcutlaw04_same.calls K A ca a B cb b _ w ra la rb lb (hK K (Nat.le_refl _))

theorem same_self (a : List (List S34)) (ha : Small a) (A B : Option Addr) (ca cb na nb : Nat) (w : World) (ea : na = a.length) (eb : nb = a.length) (ra : Kd.C (Kd.slice 34 k34) w A a.length a) (la : a.length ≤ ca) (rb : Kd.C (Kd.slice 34 k34) w B a.length a) (lb : a.length ≤ cb) :
    Calls Try.prog 30 #[.agg #[.slice A na ca], .agg #[.slice B nb cb]] w fun e w' => e = .returned (.bool true) ∧ Below w.heap.size w w' := by
  have h := same_any a a ha A B ca cb na nb w ea eb ra la rb lb
  rw [(eqO_iff a a).2 rfl] at h
  exact h
set_option maxHeartbeats 4000000 in
set_option maxRecDepth 100000 in
theorem glyfSame_core (a0 a1 : Option Addr) (c0 c1 : Nat) (l0 l1 : List (List S66)) (n : Int) (w : World) (rd0 : Kd.C (Kd.slice 66 k66) w a0 l0.length l0) (le0 : l0.length ≤ c0) (rd1 : Kd.C (Kd.slice 66 k66) w a1 l1.length l1) (le1 : l1.length ≤ c1) (hn : 0 ≤ n ∧ n ≤ 255) :
    Calls Try.prog 14 #[.slice a0 l0.length c0, .slice a1 l1.length c1, .int .u8 n] w fun e w' => e = .returned (.bool true) ∧ Below w.heap.size w w' := by
  have R0 := Lib.hid rd0; have R1 := Lib.hid rd1; clear rd0 rd1
  go_enter Try.func14, Try.ntmps14
  go_wp2_with fail
  refine (awake_c w).mono ?_
  rintro e w1 ⟨rfl, hb1⟩
  have B1 := Lib.hid hb1; clear hb1
  go_wp2_with fail
  refine (outline_any l0 a0 c0 w1 (Kd.C_below R0.out B1.out) le0).mono ?_
  rintro e w2 ⟨A2, c2, rfl, hs2, hb2⟩
  have S2 := Lib.hid hs2
  have B2 := Lib.hid (B1.out.trans (hb2.mono B1.out.size)); clear hs2 hb2
  go_wp2_with fail
  refine (outline_any l1 a1 c1 w2 (Kd.C_below R1.out B2.out) le1).mono ?_
  rintro e w3 ⟨A3, c3, rfl, hs3, hb3⟩
  have S3 := Lib.hid hs3
  have S23 := Lib.hid (Kd.S_below S2.out hb3)
  have B3 := Lib.hid (B2.out.trans (hb3.mono B2.out.size)); clear hs3 hb3
  go_upto_region 4 with (fail)
  have ne1 : Small (olF l0) := (olF_good l0).small
  have S4 := Lib.hid (Kd.S_below (Kd.S_below S23.out (below_alloc (Below.refl _ w3) (.cells #[.slice A2 (olF l0).length c2] 26))) (below_alloc (Below.refl _ _) (.cells #[.slice A3 (olF l1).length c3] 26)))
  have S5 := Lib.hid (Kd.S_below (Kd.S_below S3.out (below_alloc (Below.refl _ w3) (.cells #[.slice A2 (olF l0).length c2] 26))) (below_alloc (Below.refl _ _) (.cells #[.slice A3 (olF l1).length c3] 26)))
  have B5 := Lib.hid (below_alloc (below_alloc B3.out (.cells #[.slice A2 (olF l0).length c2] 26)) (.cells #[.slice A3 (olF l1).length c3] 26))
  have k2 := Kept.alloc (fun _ => False) (w3.alloc (.cells #[.slice A2 (olF l0).length c2] 26)) (.cells #[.slice A3 (olF l1).length c3] 26)
  have G7 := Lib.hid (k2.get (heap_alloc_new w3 (.cells #[.slice A2 (olF l0).length c2] 26)) (by simp))
  have g8 := heap_alloc_new (w3.alloc (.cells #[.slice A2 (olF l0).length c2] 26)) (.cells #[.slice A3 (olF l1).length c3] 26)
  rw [World.size_alloc] at g8
  have G8 := Lib.hid g8
  clear k2 g8
  generalize hw5 : (w3.alloc (.cells #[.slice A2 (olF l0).length c2] 26)).alloc (.cells #[.slice A3 (olF l1).length c3] 26) = w5 at *
  clear hw5
  have T0 := Lib.hid (Kd.S_reads' S4.out); have T1 := Lib.hid (Kd.S_reads' S5.out)
  have cA : w5.cell? ⟨w3.heap.size, 0, none⟩ = some (.slice A2 (olF l0).length c2) := (blk_cell G7.out 0).trans rfl
  have cB : w5.cell? ⟨w3.heap.size + 1, 0, none⟩ = some (.slice A3 (olF l1).length c3) := (blk_cell G8.out 0).trans rfl
  have hu26 := Try.underlying26
  have hne : (eqO (olF l0) (olF l1) != eqO (olF l0) (olF l1)) = false := by simp
  go_cut [30] (fun v30 wc => v30 = .bool false ∧ Hid (Below w5.heap.size w5 wc))
  case first =>
    go_region_held3 (fun w' => w'.cell? ⟨w3.heap.size, 0, none⟩ = some (.slice A2 (olF l0).length c2) ∧ w'.cell? ⟨w3.heap.size + 1, 0, none⟩ = some (.slice A3 (olF l1).length c3) ∧ Below w5.heap.size w5 w')
      (refine ⟨?_, ?_, ?_⟩ <;> first | assumption | exact below_drew (Below.refl _ _) | exact pw_cell_below hb (by assumption) | exact pw_cell_below hb (show _ ∧ _ ∧ _ from by assumption).1 | exact pw_cell_below hb (show _ ∧ _ ∧ _ from by assumption).2.1 | (refine below_step ?_ hb; first | assumption | exact (show _ ∧ _ ∧ _ from by assumption).2.2 | exact below_drew (Below.refl _ _))) (first
      | (go_at_call 30; ((with_reducible refine (same_any (olF l0) (olF l1) ne1 A2 A3 c2 c3 _ _ _ rfl rfl ?_ T0.out.2.1 ?_ T1.out.2.1).mono ?_); (exact Kd.C_below T0.out.2.2 (by first | assumption | exact (show _ ∧ _ ∧ _ from by assumption).2.2 | exact below_drew (Below.refl _ _))); (exact Kd.C_below T1.out.2.2 (by first | assumption | exact (show _ ∧ _ ∧ _ from by assumption).2.2 | exact below_drew (Below.refl _ _))); rintro e w' ⟨rfl, hb⟩))
      | (go_at_call 30; ((with_reducible refine (same_self (olF l0) ne1 A2 _ c2 _ _ _ _ rfl rfl ?_ T0.out.2.1 ?_ T9.out.2.1).mono ?_); (exact Kd.C_below T0.out.2.2 (by first | assumption | exact (show _ ∧ _ ∧ _ from by assumption).2.2 | exact below_drew (Below.refl _ _))); (first | exact T9.out.2.2 | exact Kd.C_below T9.out.2.2 (by assumption)); rintro e w' ⟨rfl, hb⟩))
      | (go_at_call 29; ((with_reducible refine (rsame_any (olF l0) (olF l1) ne1 A2 A3 c2 c3 _ _ _ rfl rfl ?_ T0.out.2.1 ?_ T1.out.2.1).mono ?_); (exact Kd.C_below T0.out.2.2 (by first | assumption | exact (show _ ∧ _ ∧ _ from by assumption).2.2 | exact below_drew (Below.refl _ _))); (exact Kd.C_below T1.out.2.2 (by first | assumption | exact (show _ ∧ _ ∧ _ from by assumption).2.2 | exact below_drew (Below.refl _ _))); rintro e w' ⟨rfl, hb⟩))
      | (go_at_call 16; ((with_reducible refine (outline_any l0 a0 c0 _ ?_ le0).mono ?_); (exact Kd.C_below R0.out (below_step B5.out (by first | assumption | exact (show _ ∧ _ ∧ _ from by assumption).2.2 | exact below_drew (Below.refl _ _)))); rintro e w' ⟨A9, c9, rfl, hs9, hb⟩; have T9 := Lib.hid (Kd.S_reads' hs9); clear hs9)))
    all_goals
      go_wp2_with fail
      go_meet
      case rel => exact ⟨rfl, Lib.hid (by first | assumption | exact (show _ ∧ _ ∧ _ from by assumption).2.2)⟩
  case rest =>
    obtain ⟨rfl, HB6⟩ := hcut
    have T2 := Lib.hid (And.intro T0.out.2.1 (Kd.C_below T0.out.2.2 HB6.out))
    have B6 := Lib.hid (below_step B5.out HB6.out)
    have G9 := Lib.hid (blk_below G7.out HB6.out)
    clear cA cB T0 T1 G7 G8
    obtain ⟨N, hN⟩ : ∃ N, (olF l0).length = N := ⟨_, rfl⟩
    have HN := Lib.hid hN
    rw [hN] at G9
    have cA : wc.cell? ⟨w3.heap.size, 0, none⟩ = some (.slice A2 N c2) := (blk_cell G9.out 0).trans rfl
    clear hN hne
    by_cases hN0 : N = 0
    · subst hN0
      have hnil : olF l0 = [] := List.eq_nil_of_length_eq_zero HN.out
      go_wp2_with fail
      have hsame := same_any (olF l0) [] ne1 A2 none c2 0 0 0 wc (by rw [HN.out]) rfl T2.out.2 T2.out.1 ⟨rfl, by simp, fun h => absurd h (by simp)⟩ (Nat.le_refl _)
      rw [hnil] at hsame
      refine (hsame).mono ?_
      rintro e w7 ⟨rfl, hb7⟩
      go_wp2_with fail
      go_ret
      exact ⟨rfl, below_step B6.out hb7⟩
    · have hN1 : ((N : Int) == 0) = false := by simp; omega
      go_wp2_with fail
      have hol := outline_any l0 a0 c0 wc (Kd.C_below R0.out B6.out) le0
      rw [HN.out] at hol
      refine hol.mono ?_
      clear hol
      rintro e w7 ⟨A7, c7, rfl, hs7, hb7⟩
      have S7 := Lib.hid hs7
      have HB7 := Lib.hid hb7
      have T3 := Lib.hid (And.intro T2.out.1 (Kd.C_below T2.out.2 hb7))
      have B7 := Lib.hid (below_step B6.out hb7)
      clear hs7 hb7 cA
      go_wp2_with fail
      have S8 := Lib.hid (Kd.S_alloc S7.out (.cells #[.slice A7 N c7] 26))
      have T8 := Lib.hid (And.intro T3.out.1 (Kd.C_below T3.out.2 (below_alloc (Below.refl _ w7) (.cells #[.slice A7 N c7] 26))))
      have B8 := Lib.hid (below_alloc B7.out (.cells #[.slice A7 N c7] 26))
      have G10 := Lib.hid (blk_alloc (blk_below G9.out HB7.out) (.cells #[.slice A7 N c7] 26))
      have G11 := Lib.hid (heap_alloc_new w7 (.cells #[.slice A7 N c7] 26))
      have BC8 := Lib.hid (below_alloc HB7.out (.cells #[.slice A7 N c7] 26))
      clear T3 B7 S7 G9
      have hz7 : w7.heap.size < (w7.alloc (.cells #[.slice A7 N c7] 26)).heap.size := by simp
      generalize hw8 : w7.alloc (.cells #[.slice A7 N c7] 26) = w8 at *
      clear hw8
      obtain ⟨n, rfl⟩ := Int.eq_ofNat_of_zero_le hn.1
      obtain ⟨I, hI⟩ : ∃ I, n % N = I := ⟨_, rfl⟩
      have hIN : I < N := hI ▸ Nat.mod_lt _ (by omega)
      have hmI : Int.tmod (n : Int) (N : Int) = (I : Int) := by rw [← hI]; rfl
      have hIl : I < (olF l0).length := by rw [HN.out]; exact hIN
      obtain ⟨gO, cO, eO, _, _, _⟩ := Kd.S_form S8.out (by rw [HN.out]; omega)
      have eO' : A7 = some ⟨gO, 0, none⟩ := by injection eO
      subst eO'
      obtain ⟨A12, c12, hcO, hlc, hin⟩ := S_inner S8.out I hIl
      rw [add_plain] at hcO
      obtain ⟨L, hL⟩ : ∃ L, (olF l0)[I].length = L := ⟨_, rfl⟩
      have hL0 : 0 < L := by
        have := (olF_good l0).ne _ (List.getElem_mem hIl)
        rw [← hL]; exact List.length_pos_iff.2 this
      obtain ⟨g, eA, hgb, hgl, hgc, hgf, hrow⟩ := hin (by omega)
      have HGB := Lib.hid hgb; clear hgb
      subst eA
      rw [hL] at hcO
      obtain ⟨J, hJ⟩ : ∃ J, n % L = J := ⟨_, rfl⟩
      have hJL : J < L := hJ ▸ Nat.mod_lt _ hL0
      have hmJ : Int.tmod (n : Int) (L : Int) = (J : Int) := by rw [← hJ]; rfl
      have hJl : J < (olF l0)[I].length := by omega
      obtain ⟨e0, e1, e2, hput⟩ := hrow J hJl
      have HL := Lib.hid hL; have HJ := Lib.hid hJ; have HI := Lib.hid hI
      clear hL hJ hI hrow hin
      have HPUT := Lib.hid hput; clear hput
      have HGC := Lib.hid hgc; clear hgc
      have hf2 : w8.frozen? ⟨g, J * 3 + 2, none⟩ = false := hgf _
      have HGF := Lib.hid hgf; clear hgf
      have HE0 := Lib.hid e0; have HE1 := Lib.hid e1; have HE2 := Lib.hid e2; clear e0 e1 e2 hlc eO
      have c9c : w8.cell? ⟨w7.heap.size, 0, none⟩ = some (.slice (some ⟨gO, 0, none⟩) N c7) := (blk_cell G11.out 0).trans rfl
      have i1 : decide ((0 : Int) ≤ (I : Int)) = true := decide_eq_true (by omega)
      have i2 : decide ((I : Int) < (N : Int)) = true := decide_eq_true (by omega)
      have i3 : ((N : Int) == 0) = false := hN1
      go_quiet (fail)
      go_wp2_with fail
      have S9 := Lib.hid (Kd.S_drewN S8.out nq); clear S8
      have hE2 : (w8.drewN nq).cell? ⟨g, J * 3 + 2, none⟩ = some (.bool (olF l0)[I][J].f2) := HE2.out
      have hF2 : (w8.drewN nq).frozen? ⟨g, J * 3 + 2, none⟩ = false := hf2
      clear c9c hcO hf2
      have j1 : decide ((0 : Int) ≤ (J : Int)) = true := decide_eq_true (by omega)
      have j2 : decide ((J : Int) < (L : Int)) = true := decide_eq_true (by omega)
      have j3 : ((L : Int) == 0) = false := by simp; omega
      clear i1 i2 i3
      have HW : Hid (∃ w9, w9 = w8.drewN nq) := Lib.hid ⟨_, rfl⟩
      obtain ⟨w9, hw9⟩ := HW.out
      rw [← hw9] at hE2 hF2 ⊢
      have hE3 : w9.drew.cell? ⟨g, J * 3 + 2, none⟩ = some (.bool (olF l0)[I][J].f2) := hE2
      have hE4 : ∀ d, (World.mk w9.heap w9.tape d w9.os w9.output).cell? ⟨g, J * 3 + 2, none⟩ = some (.bool (olF l0)[I][J].f2) := fun _ => hE2
      have HW9 := Lib.hid hw9; clear hw9 HW
      have hLz : (L = 0) = False := by simp; omega
      have hwn : IntKind.i64.wrap (n : Int) = (n : Int) := by rw [Go.IntWalk.i64_left, wrap64_small _ (by omega) (by omega)]
      refine wp_region_still_tail 18 (by kernel_rfl) (by kernel_rfl) ?_
      simp only [List.take_succ_cons, List.take_zero, List.drop_succ_cons, List.drop_zero]
      iterate 18 still_step
      refine wpStill_nil ?_
      change wpList _ _ _ _ _ w9.drew
      clear j1 j2 j3 hmJ hLz hwn hE4 hE2
      have hF3 : w9.drew.frozen? ⟨g, J * 3 + 2, none⟩ = false := hF2
      obtain ⟨b, hb⟩ : ∃ b, (olF l0)[I][J].f2 = b := ⟨_, rfl⟩
      rw [hb] at hE3 ⊢
      have hput2 := HPUT.out 2 [.bool (!b)] ⟨(olF l0)[I][J].f0, (olF l0)[I][J].f1, !b⟩ (by simp) rfl
      have HB2 := Lib.hid hb; clear hb
      have hgne : g ≠ w3.heap.size ∧ g ≠ w7.heap.size := by
        obtain ⟨cells, hcs⟩ := HGC.out
        refine ⟨fun e => ?_, fun e => ?_⟩
        · rw [e, G10.out] at hcs; cases hcs
        · rw [e, G11.out] at hcs; cases hcs
      have hgb := HGB.out
      go_upto_region 11 with (fail)
      have hX : (w9.setCell ⟨g, J * 3 + 2, none⟩ (.bool (!b))).drew = ((w8.setCell ⟨g, J * 3 + 2, none⟩ (.bool (!b))).drewN nq).drew := by rw [HW9.out]; rfl
      have HX := Lib.hid hX; clear hX
      generalize hw10 : (w9.setCell ⟨g, J * 3 + 2, none⟩ (.bool (!b))).drew = w10
      have hw11 := hw10.symm.trans HX.out
      have hS : Kd.S (Kd.slice 34 k34) 28 w10 wc.heap.size (fun _ => True) (.slice (some ⟨gO, 0, none⟩) N c7) ((olF l0).set I ((olF l0)[I].set J ⟨(olF l0)[I][J].f0, (olF l0)[I][J].f1, !b⟩)) := by
        rw [hw11]; exact Kd.S_drew (Kd.S_drewN hput2.1 nq)
      have HS := Lib.hid (Kd.S_reads' hS)
      have hgr : w8.grownBy w10 (some g) := by
        rw [hw11]
        exact ⟨hput2.2.os, hput2.2.tape, hput2.2.output, hput2.2.size, fun k hk h => hput2.2.block k hk h⟩
      have HB10 : Hid (Below w.heap.size w w10) := Lib.hid (B8.out.trans ⟨hgr.os, hgr.tape, hgr.output, hgr.size, fun k hk => hgr.block k (Nat.lt_of_lt_of_le hk B8.out.size) (fun e => by injection e with e; have := B6.out.size; omega)⟩)
      have HA10 : Hid (Kd.C (Kd.slice 34 k34) w10 A2 (olF l0).length (olF l0)) :=
        Lib.hid (Kd.C_below T2.out.2 (BC8.out.trans ⟨hgr.os, hgr.tape, hgr.output, hgr.size, fun k hk => hgr.block k (Nat.lt_of_lt_of_le hk BC8.out.size) (fun e => by injection e with e; omega)⟩))
      have hc3 : w10.cell? ⟨w3.heap.size, 0, none⟩ = some (.slice A2 N c2) := (blk_cell (blk_grown G10.out hgr (fun e => hgne.1 (by injection e with e; exact e.symm))) 0).trans rfl
      have hc7 : w10.cell? ⟨w7.heap.size, 0, none⟩ = some (.slice (some ⟨gO, 0, none⟩) N c7) := (blk_cell (blk_grown G11.out hgr (fun e => hgne.2 (by injection e with e; exact e.symm))) 0).trans rfl
      clear hS hgr hw10 hw11 HX hput2 hgne
      go_wp2_with fail
      refine (same_any (olF l0) _ ne1 A2 _ c2 c7 N N w10 (by rw [HN.out]) HS.out.1 HA10.out T2.out.1 HS.out.2.2 (by rw [← HS.out.1]; exact HS.out.2.1)).mono ?_
      rintro e w11 ⟨rfl, hb11⟩
      have hne : eqO (olF l0) ((olF l0).set I ((olF l0)[I].set J ⟨(olF l0)[I][J].f0, (olF l0)[I][J].f1, !b⟩)) = false := by
        cases he : eqO (olF l0) ((olF l0).set I ((olF l0)[I].set J ⟨(olF l0)[I][J].f0, (olF l0)[I][J].f1, !b⟩)) with
        | false => rfl
        | true =>
          exfalso
          rw [eqO_iff] at he
          have h1 : (olF l0)[I] = (olF l0)[I].set J ⟨(olF l0)[I][J].f0, (olF l0)[I][J].f1, !b⟩ := by
            have := congrArg (fun q => q[I]?) he
            simp only [List.getElem?_eq_getElem hIl, List.getElem?_set_self hIl] at this
            exact Option.some.inj this
          have h2 := congrArg (fun q => q[J]?) h1
          simp only [List.getElem?_eq_getElem hJl, List.getElem?_set_self hJl] at h2
          have h3 := congrArg S34.f2 (Option.some.inj h2)
          simp only at h3
          rw [HB2.out] at h3
          cases b <;> cases h3
      rw [hne]
      have HB11 := Lib.hid (below_step HB10.out hb11); clear hb11
      go_wp2_with fail
      go_ret
      exact ⟨rfl, HB11.out⟩

end Go.Proofs.Ytjealbaomhjoaaa
