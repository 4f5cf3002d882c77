/- PathSegs: the walk. -/
import Derived.Test.YtjealbaomhjoaaaPRefS
import Derived.Test.YtjealbaomhjoaaaPLines
set_option linter.unusedVariables false
set_option linter.unusedSimpArgs false
namespace Go.Proofs.Ytjealbaomhjoaaa
open Go.RowKit Go.Proofs.Ytjealbaomhjoaaa.G Go.Proofs.YtjealbaomhjoaaaW.PrintWords Go.Proofs.YtjealbaomhjoaaaW.PrintMore
theorem ssame_l (l : List S38) (hl : l.length ≤ 1000000) : ∀ (d : Nat) (i : Int), 0 ≤ i → i + d = l.length → punchcutlaw05_Same.l0 (d + 1) l l l.length i = some true
  | 0, i, h0, h => by
    rw [punchcutlaw05_Same.l0, if_neg (by omega)]
  | d + 1, i, h0, h => by
    have hw : wrap64 (i + 1) = i + 1 := IntWalk.wrap64_in _ ⟨by omega, by omega⟩
    have ih := ssame_l l hl d (i + 1) (by omega) (by omega)
    rw [punchcutlaw05_Same.l0, if_pos (by omega), if_pos (by omega), if_pos (by omega), if_pos (by omega)]
    simp only [beq_self_eq_true, Bool.not_true, Bool.or_self, Bool.false_eq_true, if_false, hw]
    exact ih
theorem ssame_self (l : List S38) (hl : l.length ≤ 1000000) : punchcutlaw05_Same.f (l.length + 1) l l = some true := by
  unfold punchcutlaw05_Same.f
  rw [if_pos rfl]
  exact ssame_l l hl l.length 0 (by omega) (by omega)
theorem same_c (l : List S38) (hl : l.length ≤ 1000000) (A0 A1 : Option Addr) (c0 c1 : Nat) (w : World) (hr0 : Kd.C k38 w A0 l.length l) (hc0 : l.length ≤ c0) (hr1 : Kd.C k38 w A1 l.length l) (hc1 : l.length ≤ c1) :
    Calls Try.prog 17 #[.slice A0 l.length c0, .slice A1 l.length c1] w fun e w' => e = .returned (.bool true) ∧ Below w.heap.size w w' :=
  (punchcutlaw05_Same.calls _ A0 c0 l A1 c1 l true w hr0 hc0 hr1 hc1 (ssame_self l hl)).mono fun _ _ ⟨h1, h2⟩ => ⟨h1, h2.below⟩
theorem cyc_len (c : List S34) : ∀ (d i : Nat), (cyc c i d).length = d
  | 0, _ => rfl
  | d + 1, i => by rw [cyc, List.length_cons, cyc_len c d]
theorem segF_len (c : List S34) : (segF c).length ≤ c.length + 1 := by
  unfold segF
  split
  · simp
  · split
    · unfold finS
      rw [List.length_append]
      have := stS_len (cyc c (fiOn c + 1) (c.length - 1)) (at2 (c.getD (fiOn c) z34)) [] none
      rw [cyc_len] at this
      simp at this ⊢; omega
    · unfold finS
      rw [List.length_append]
      have := stS_len (cyc c c.length c.length) (half2 (c.getD (c.length - 1) z34) (c.getD 0 z34)) [] none
      rw [cyc_len] at this
      simp at this ⊢; omega
theorem c34_nil (W : World) : Kd.C k34 W none ([] : List S34).length [] := by
  obtain ⟨A, c, e, _, h⟩ := Kd.R_reads (Kd.R_nil k34 34 W 0 (fun _ => True))
  injection e with e _ _
  subst e; exact h
attribute [local go_sem] cell_alloc in
set_option maxHeartbeats 2000000 in
set_option maxRecDepth 100000 in
theorem pathSegs_core (a0 : Option Addr) (c0 : Nat) (l0 : List (List S66)) (w : World) (rd0 : Kd.C (Kd.slice 66 k66) w a0 l0.length l0) (le0 : l0.length ≤ c0) :
    Calls Try.prog 3 #[.slice a0 l0.length c0] w fun e w' => e = .returned (.bool true) ∧ Below w.heap.size w w' := by
  have R0 := Lib.hid rd0; clear rd0
  go_enter Try.func3, Try.ntmps3
  go_wp2_with fail
  refine (pawake_c w).mono ?_
  rintro e w1 ⟨rfl, hb1⟩
  have B1 := Lib.hid hb1; clear hb1
  go_wp2_with fail
  refine (outline_any l0 a0 c0 w1 (Kd.C_below R0.out B1.out) le0).mono ?_
  rintro e w2 ⟨A2, c2, rfl, hs2, hb2⟩
  have hg := olF_good l0
  have GO : Hid ((∀ c ∈ olF l0, c ≠ []) ∧ (olF l0).flatten.length ≤ 64 ∧ (olF l0).length ≤ 8) := Lib.hid ⟨hg.ne, hg.sum, hg.eight⟩
  clear hg
  have S2 := Lib.hid (Kd.S_lower hs2 B1.out.size)
  have B2 := Lib.hid (B1.out.trans (hb2.mono B1.out.size)); clear hs2 hb2
  obtain ⟨N, hN⟩ : ∃ N, (olF l0).length = N := ⟨_, rfl⟩
  rw [hN] at S2
  have HN := Lib.hid hN
  rw [hN]
  clear hN
  have hN8 : N ≤ 8 := by have := GO.out.2.2; have := HN.out; omega
  have hfd : ∀ W : World, (Instr.field 26 (.agg #[.slice A2 N c2]) 0).run Try.prog W = .ok (.slice A2 N c2) W := fun _ => by kernel_rfl
  go_wp2_with fail
  go_loopw [11] (fun v11 W => ∃ i : Nat, v11 = .int .i64 i ∧ i ≤ N ∧ Hid (Below w2.heap.size w2 W)) (fun v11 _ => N - (intOf v11).toNat)
  case atStart => exact ⟨0, rfl, Nat.zero_le _, Lib.hid (Below.refl _ _)⟩
  case round =>
    obtain ⟨i, rfl, hi, HB⟩ := hrel
    by_cases hin : i < N
    · have hii : (i : Int) < (N : Int) := by omega
      obtain ⟨gO, cO, eO, -, -, -⟩ := Kd.S_form S2.out (by rw [HN.out]; omega)
      have hA : A2 = some ⟨gO, 0, none⟩ := by injection eO
      clear eO
      subst hA
      obtain ⟨A, ci, t0, t1, t2⟩ := inner_reads (Kd.S_below S2.out HB.out) i (by rw [HN.out]; exact hin)
      obtain ⟨cc, hcc⟩ : ∃ cc, (olF l0).getD i [] = cc := ⟨_, rfl⟩
      rw [hcc] at t0 t1 t2
      have hmem : cc ∈ olF l0 := by
        rw [← hcc, List.getD_eq_getElem?_getD, List.getElem?_eq_getElem (by rw [HN.out]; exact hin)]
        exact List.getElem_mem _
      have hne := GO.out.1 cc hmem
      have hlen : cc.length ≤ 64 := by
        have := (List.sublist_flatten_of_mem hmem).length_le
        have := GO.out.2.1; omega
      have hpos : 0 < cc.length := List.length_pos_iff.2 hne
      obtain ⟨ad, hA⟩ : ∃ ad, A = some ad := by obtain ⟨ad, e, _⟩ := at_T34 t2 0 (by omega) (by omega); exact ⟨ad, e⟩
      subst hA
      rw [add_plain] at t0
      have hsl := segF_len cc
      have HSEG := Lib.hid (segs_c (some ad) ci cc wr t2 t1 (by omega))
      have HREF : Hid (∀ W, Below wr.heap.size wr W → Calls Try.prog 19 #[.slice (some ad) cc.length ci] W fun e w' => ∃ A c', e = .returned (.slice A (segF cc).length c') ∧ (segF cc).length ≤ c' ∧ Kd.C k38 w' A (segF cc).length (segF cc) ∧ Below W.heap.size W w') := Lib.hid (fun W hb => ref_c ad ci cc W (Kd.C_below t2 hb) t1 (by omega) hpos)
      have HSAME := Lib.hid (same_c (segF cc) (by omega))
      clear hcc hmem hne t1 t2 hsl
      generalize segF cc = sg at *
      generalize cc.length = nc at *
      go_wp2_with fail
      refine HSEG.out.mono ?_
      rintro e w5 ⟨u, rfl, ho5, hb5⟩
      obtain ⟨A5, c5, e5, hl5, hr5⟩ := Kd.R_reads ho5
      subst e5
      have B5 := Lib.hid hb5
      have C5 := Lib.hid hr5
      clear ho5 hb5 hr5
      go_wp2_with fail
      refine (HREF.out w5 B5.out).mono ?_
      rintro e w6 ⟨A6, c6, rfl, hl6, hr6, hb6⟩
      have B6 := Lib.hid (below_step B5.out hb6)
      have C6 := Lib.hid (Kd.C_below C5.out hb6)
      have C7 := Lib.hid hr6
      clear hb6 hr6
      go_wp2_with fail
      refine (HSAME.out A5 A6 c5 c6 w6 C6.out hl5 C7.out hl6).mono ?_
      rintro e w7 ⟨rfl, hb7⟩
      have B7 := Lib.hid (below_step HB.out (below_step B6.out hb7))
      clear hb7
      go_wp2_with fail
      go_roundw
      case rel => exact ⟨i + 1, by go_num, by omega, B7⟩
      case measure => simp [intOf]; omega
    · have hii : ¬ (i : Int) < (N : Int) := by omega
      have HNIL := Lib.hid (segs_c none 0 [] wr (c34_nil wr) (Nat.le_refl _) (by simp))
      go_wp2_with fail
      refine HNIL.out.mono ?_
      rintro e w5 ⟨u, rfl, ho5, hb5⟩
      obtain ⟨A5, c5, e5⟩ := Kd.R_slice ho5
      have e6 : u = .slice A5 0 c5 := e5
      subst e6
      have B5 := Lib.hid (below_step B2.out (below_step HB.out hb5))
      clear e5 ho5 hb5
      go_wp2_with fail
      go_ret
      exact ⟨rfl, B5.out⟩
end Go.Proofs.Ytjealbaomhjoaaa
