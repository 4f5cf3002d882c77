/- path.All, and PathAll: the walks. -/
import Derived.Test.YtjealbaomhjoaaaPSegs
set_option linter.unusedVariables false
set_option linter.unusedSimpArgs false
namespace Go.Proofs.Ytjealbaomhjoaaa
open Go.RowKit Go.Proofs.Ytjealbaomhjoaaa.G Go.Proofs.YtjealbaomhjoaaaW.PrintWords Go.Proofs.YtjealbaomhjoaaaW.PrintMore
theorem rows_at {W : World} {A : Option Addr} {o : List (List S34)} (h : Kd.C (Kd.slice 34 k34) W A o.length o) (i : Nat) (hi : i < o.length) :
    ∃ ad A' ci, A = some ad ∧ W.cell? (ad.add i) = some (.slice A' (o.getD i []).length ci) ∧ (o.getD i []).length ≤ ci ∧ Kd.C k34 W A' (o.getD i []).length (o.getD i []) :=
  at_L6 h (i : Int) (by omega) (by omega)
theorem segrows_at {W : World} {A : Option Addr} {o : List (List S38)} (h : Kd.C (Kd.slice 38 k38) W A o.length o) (i : Nat) (hi : i < o.length) :
    ∃ ad A' ci, A = some ad ∧ W.cell? (ad.add i) = some (.slice A' (o.getD i []).length ci) ∧ (o.getD i []).length ≤ ci ∧ Kd.C k38 W A' (o.getD i []).length (o.getD i []) :=
  at_L38 h (i : Int) (by omega) (by omega)
attribute [local go_sem] cell_alloc in
set_option maxHeartbeats 2000000 in
set_option maxRecDepth 100000 in
theorem all_c (A : Option Addr) (c : Nat) (o : List (List S34)) (w : World) (rd : Kd.C (Kd.slice 34 k34) w A o.length o) (hn : o.length ≤ 1000) (hc : ∀ x ∈ o, x.length ≤ 1000) :
    Calls Try.prog 21 #[.agg #[.slice A o.length c]] w fun e w' => ∃ u, e = .returned u ∧ Kd.R (Kd.slice 38 k38) 30 w' w.heap.size (fun _ => True) u (o.map segF) ∧ Below w.heap.size w w' := by
  have RD := Lib.hid rd; clear rd
  have HC := Lib.hid hc; clear hc
  obtain ⟨N, hN⟩ : ∃ N, o.length = N := ⟨_, rfl⟩
  rw [hN] at hn ⊢
  have HN := Lib.hid hN; clear hN
  go_enter Try.func21, Try.ntmps21
  go_wp2_with fail
  have B1 := Lib.hid (below_alloc (Below.refl _ w) (.cells #[.slice A N c] 26))
  generalize w.alloc (.cells #[.slice A N c] 26) = W1 at *
  go_loopw [3, 9] (fun v3 v9 W => ∃ (k : Nat) (u : Value), v9 = .int .i64 k ∧ v3 = u ∧ k ≤ N ∧ Hid (Kd.R (Kd.slice 38 k38) 30 W w.heap.size (fun _ => True) u ((o.take k).map segF)) ∧ Hid (Below w.heap.size w W)) (fun _ v9 _ => N - (intOf v9).toNat)
  case atStart => exact ⟨0, _, rfl, rfl, Nat.zero_le _, Lib.hid (Kd.R_nil _ _ _ _ _), B1⟩
  case round =>
    obtain ⟨k, u, rfl, rfl, hk, HO, HB⟩ := hrel
    obtain ⟨A0, c0, e0⟩ := Kd.R_slice HO.out
    rw [List.length_map, List.length_take, HN.out, Nat.min_eq_left hk] at e0
    subst e0
    by_cases hkn : k < N
    · have hkk : (k : Int) < (N : Int) := by omega
      obtain ⟨ad, A', ci, eA, t0, t1, t2⟩ := rows_at (Kd.C_below RD.out HB.out) k (by rw [HN.out]; exact hkn)
      subst eA
      obtain ⟨cc, hcc⟩ : ∃ cc, o.getD k [] = cc := ⟨_, rfl⟩
      rw [hcc] at t0 t1 t2
      have hmem : cc ∈ o := by
        rw [← hcc, List.getD_eq_getElem?_getD, List.getElem?_eq_getElem (by rw [HN.out]; exact hkn)]
        exact List.getElem_mem _
      have hsn : (o.take (k + 1)).map segF = (o.take k).map segF ++ [segF cc] := by
        rw [List.take_succ_eq_append_getElem (by rw [HN.out]; exact hkn), List.map_append, List.map_singleton]
        rw [List.getD_eq_getElem?_getD, List.getElem?_eq_getElem (by rw [HN.out]; exact hkn)] at hcc
        rw [show o[k]'(by rw [HN.out]; exact hkn) = cc from hcc]
      have HSN := Lib.hid hsn
      have HSEG := Lib.hid (segs_c A' ci cc wr t2 t1 (HC.out cc hmem))
      have HLEN : Hid (((o.take k).map segF).length = k) := Lib.hid (by rw [List.length_map, List.length_take, HN.out, Nat.min_eq_left hk])
      clear hcc hmem t1 t2 hsn
      generalize cc.length = nc at *
      go_wp2_with fail
      refine HSEG.out.mono ?_
      rintro e w5 ⟨u5, rfl, ho5, hb5⟩
      obtain ⟨A5, c5, e5⟩ := Kd.R_slice ho5
      obtain ⟨n5, hn5⟩ : ∃ n5, (segF cc).length = n5 := ⟨_, rfl⟩
      rw [hn5] at e5
      clear hn5
      subst e5
      have O5 := Lib.hid (Kd.R_below HO.out hb5)
      have B5 := Lib.hid (below_step HB.out hb5)
      have hbase := HB.out.size
      have M5 : Hid ((Kd.slice 38 k38).M w5 w.heap.size (fun q => wr.heap.size ≤ q) (segF cc) [.slice A5 n5 c5]) := Lib.hid ⟨_, rfl, Kd.R_mono (Kd.R_lower (Kd.R_bound ho5) hbase) (fun q hq => hq.2.1)⟩
      have hne : Hid (∀ q, wr.heap.size ≤ q → some q ≠ (Value.slice A0 k c0).ownBlock) := Lib.hid (fun q hq e => by obtain ⟨inner, ho⟩ := Kd.R_own HO.out; have := own_lt ho q e.symm; omega)
      clear ho5 hb5
      go_wp2_with (at_builtin; refine Kd.R_append (Kd.slice 38 k38) (w0 := w) w.heap.size rfl (.tmp 13) (.tmp 16) 43 30 _ 24 rfl Try.underlying43 info30 rfl (by decide) (by omega) (.slice A0 k c0) ((o.take k).map segF) (segF cc) [.slice A5 n5 c5] (fun _ => True) (fun q => wr.heap.size ≤ q) rfl rfl M5.out (fun q hq => ⟨trivial, hne.out q hq⟩) (fun _ _ => trivial) O5.out B5.out B5.out.size ?aL ?_; (case aL => rw [HLEN.out]; omega); intro v1 w6 ho hb hg hat; have m1 := Lib.hid ho; have m2 := Lib.hid hb; clear ho hb hg hat)
      go_roundw
      case rel => exact ⟨k + 1, v1, by go_num, rfl, by omega, Lib.hid (by rw [HSN.out]; exact m1.out), m2⟩
      case measure => simp [intOf]; omega
    · have hkk : ¬ (k : Int) < (N : Int) := by omega
      have hkN : k = N := by omega
      have HR := HO.out
      rw [hkN, ← HN.out, List.take_length] at HR
      have HR2 := Lib.hid HR
      clear HR
      go_wp2_with fail
      go_ret
      exact ⟨_, rfl, by rw [HN.out] at *; exact HR2.out, HB.out⟩
attribute [local go_sem] cell_alloc in
set_option maxHeartbeats 2000000 in
set_option maxRecDepth 100000 in
theorem pathAll_core (a0 : Option Addr) (c0 : Nat) (l0 : List (List S66)) (w : World) (rd0 : Kd.C (Kd.slice 66 k66) w a0 l0.length l0) (le0 : l0.length ≤ c0) :
    Calls Try.prog 7 #[.slice a0 l0.length c0] w fun e w' => e = .returned (.bool true) ∧ Below w.heap.size w w' := by
  have R0 := Lib.hid rd0; clear rd0
  go_enter Try.func7, Try.ntmps7
  go_wp2_with fail
  refine (pawake_c w).mono ?_
  rintro e w1 ⟨rfl, hb1⟩
  have B1 := Lib.hid hb1; clear hb1
  go_wp2_with fail
  refine (outline_any l0 a0 c0 w1 (Kd.C_below R0.out B1.out) le0).mono ?_
  rintro e w2 ⟨A2, c2, rfl, hs2, hb2⟩
  have hg := olF_good l0
  have GO : Hid ((∀ c ∈ olF l0, c ≠ []) ∧ (olF l0).flatten.length ≤ 64 ∧ (olF l0).length ≤ 8) := Lib.hid ⟨hg.ne, hg.sum, hg.eight⟩
  clear hg
  have B2 := Lib.hid (B1.out.trans (hb2.mono B1.out.size))
  have R2 := Lib.hid (Kd.S_reads' hs2).2.2
  clear hs2 hb2
  have hall := fun W (hb : Below w2.heap.size w2 W) => all_c A2 c2 (olF l0) W (Kd.C_below R2.out hb) (by have := GO.out.2.2; omega) (fun x hx => by
    have := (List.sublist_flatten_of_mem hx).length_le
    have := GO.out.2.1; omega)
  obtain ⟨N, hN⟩ : ∃ N, (olF l0).length = N := ⟨_, rfl⟩
  rw [hN] at hall ⊢
  have HALL := Lib.hid hall
  have HN := Lib.hid hN
  clear hN hall
  have hN8 : N ≤ 8 := by have := GO.out.2.2; have := HN.out; omega
  have HB3 := Lib.hid (below_alloc (Below.refl _ w2) (.cells #[.slice A2 N c2] 26))
  have g3 := heap_alloc_new w2 (.cells #[.slice A2 N c2] 26)
  have c30 : (w2.alloc (.cells #[.slice A2 N c2] 26)).cell? ⟨w2.heap.size, 0, none⟩ = some (.slice A2 N c2) := (blk_cell g3 0).trans rfl
  have G3 := Lib.hid g3
  clear g3
  go_upto_region 4 with (fail)
  generalize w2.alloc (.cells #[.slice A2 N c2] 26) = W3 at *
  generalize hb3 : w2.heap.size = b3 at c30 G3 ⊢
  clear hb3
  go_wp2_with fail
  refine (HALL.out W3 HB3.out).mono ?_
  rintro e w4 ⟨u, rfl, ho4, hb4⟩
  obtain ⟨A4, c4, e4, l4, r4⟩ := Kd.R_reads ho4
  have hlm : (List.map segF (olF l0)).length = N := by rw [List.length_map]; exact HN.out
  rw [hlm] at e4 l4
  subst e4
  have HO4 := Lib.hid ho4
  have HB4 := Lib.hid hb4
  have HLM := Lib.hid hlm
  have B4 := Lib.hid (below_step (below_step B2.out HB3.out) hb4)
  have R4 := Lib.hid (Kd.C_below R2.out (below_step HB3.out hb4))
  have c40 : w4.cell? ⟨b3, 0, none⟩ = some (.slice A2 N c2) := pw_cell_below hb4 c30
  clear ho4 hb4 r4 hlm HALL
  have hnn : ((N : Int) == (N : Int)) = true := by simp
  go_wp2_with fail
  go_loopw [22] (fun v22 W => ∃ i : Nat, v22 = .int .i64 i ∧ i ≤ N ∧ Hid (Below w4.heap.size w4 W)) (fun v22 _ => N - (intOf v22).toNat)
  case atStart => exact ⟨0, rfl, Nat.zero_le _, Lib.hid (Below.refl _ _)⟩
  case round =>
    obtain ⟨i, rfl, hi, HB⟩ := hrel
    by_cases hin : i < N
    · have hii : (i : Int) < (N : Int) := by omega
      obtain ⟨ad2, A, ci, eA, t0, t1, t2⟩ := rows_at (Kd.C_below R4.out HB.out) i (by rw [HN.out]; exact hin)
      subst eA
      obtain ⟨g4, cg, e4, -, -, -⟩ := Kd.R_form HO4.out (by rw [HLM.out]; omega)
      rw [HLM.out] at e4
      injection e4 with e4 _ e5
      subst e4
      clear e5
      have r4 := (Kd.R_reads' HO4.out).2.2
      obtain ⟨ad4, A', ci', eA, s0, s1, s2⟩ := segrows_at (Kd.C_below r4 HB.out) i (by rw [HLM.out]; exact hin)
      injection eA with eA
      subst eA
      obtain ⟨cc, hcc⟩ : ∃ cc, (olF l0).getD i [] = cc := ⟨_, rfl⟩
      have hsc : (List.map segF (olF l0)).getD i [] = segF cc := by
        rw [← hcc, List.getD_eq_getElem?_getD, List.getElem?_map, List.getD_eq_getElem?_getD, List.getElem?_eq_getElem (by rw [HN.out]; exact hin)]; rfl
      rw [hcc] at t0 t1 t2
      rw [hsc] at s0 s1 s2
      rw [add_plain] at s0
      have hmem : cc ∈ olF l0 := by
        rw [← hcc, List.getD_eq_getElem?_getD, List.getElem?_eq_getElem (by rw [HN.out]; exact hin)]
        exact List.getElem_mem _
      have hne := GO.out.1 cc hmem
      have hlen : cc.length ≤ 64 := by
        have := (List.sublist_flatten_of_mem hmem).length_le
        have := GO.out.2.1; omega
      have hpos : 0 < cc.length := List.length_pos_iff.2 hne
      obtain ⟨ad, hA⟩ : ∃ ad, A = some ad := by obtain ⟨ad, e, _⟩ := at_T34 t2 0 (by omega) (by omega); exact ⟨ad, e⟩
      subst hA
      have hsl := segF_len cc
      have HREF : Hid (∀ W, Below wr.heap.size wr W → Calls Try.prog 19 #[.slice (some ad) cc.length ci] W fun e w' => ∃ A c', e = .returned (.slice A (segF cc).length c') ∧ (segF cc).length ≤ c' ∧ Kd.C k38 w' A (segF cc).length (segF cc) ∧ Below W.heap.size W w') := Lib.hid (fun W hb => ref_c ad ci cc W (Kd.C_below t2 hb) t1 (by omega) hpos)
      have HSAME := Lib.hid (same_c (segF cc) (by omega))
      have HS2 := Lib.hid s2
      clear hcc hmem hne t1 t2 hsl hsc r4 s2
      generalize segF cc = sg at *
      generalize cc.length = nc at *
      go_wp2_with fail
      have HBD : Hid (Below wr.heap.size wr wr.drew) := Lib.hid (below_drew (Below.refl _ wr))
      go_region_held3 (fun w' => w'.cell? ⟨g4, i, none⟩ = some (.slice A' sg.length ci')) (first | assumption | exact pw_cell_below hb5 (by assumption)) (first
        | (go_at_call 19; ((with_reducible refine (HREF.out _ HBD.out).mono ?_); rintro e w5 ⟨A6, c6, rfl, hl6, hr6, hb5⟩; have B5 := Lib.hid (below_step HBD.out hb5); have C6 := Lib.hid (Kd.C_below HS2.out B5.out); have C7 := Lib.hid hr6; clear hr6))
        | (go_at_call 17; ((with_reducible refine (HSAME.out A' A6 ci' c6 _ C6.out s1 C7.out hl6).mono ?_); rintro e w7 ⟨rfl, hb7⟩; have B7 := Lib.hid (below_step B5.out hb7); have hb5 := hb7)))
      all_goals
        go_wp2_with fail
        go_roundw
        case rel => exact ⟨i + 1, by go_num, by omega, Lib.hid (below_step HB.out B7.out)⟩
        case measure => simp [intOf]; omega
    · have hii : ¬ (i : Int) < (N : Int) := by omega
      go_wp2_with fail
      go_ret
      exact ⟨rfl, (below_step B4.out HB.out)⟩
end Go.Proofs.Ytjealbaomhjoaaa
