/- GlyfAgain: the walk. -/
import Derived.Test.YtjealbaomhjoaaaGSame
import Derived.Test.YtjealbaomhjoaaaGlA
import Derived.Test.YtjealbaomhjoaaaFew
set_option linter.unusedVariables false
set_option linter.unusedSimpArgs false
namespace Go.Proofs.Ytjealbaomhjoaaa
open Go.RowKit Go.Proofs.Ytjealbaomhjoaaa.G Go.Proofs.YtjealbaomhjoaaaW.PrintWords Go.Proofs.YtjealbaomhjoaaaW.PrintMore

theorem encode_good (a : List (List S34)) (hg : Good a) (A : Option Addr) (ca na : Nat) (w : World) (ea : na = a.length) (ra : Kd.C (Kd.slice 34 k34) w A a.length a) (la : a.length ≤ ca) :
    Calls Try.prog 25 #[.agg #[.slice A na ca]] w fun e w' => ∃ B c, e = .returned (.tuple #[.slice B (encL a).length c, .int .i64 0]) ∧ Kd.R (Kd.int .u8) 5 w' w.heap.size (fun _ => True) (.slice B (encL a).length c) (encL a) ∧ Below w.heap.size w w' := by
  subst ea
  obtain ⟨K, hK⟩ := en_f hg
  refine (glyf_Encode.calls K A ca a _ _ w ra la (hK K (Nat.le_refl _))).mono ?_
  rintro e w' ⟨v, rfl, hr, hbl⟩
  obtain ⟨B, c, rfl⟩ := Kd.R_slice hr
  exact ⟨B, c, rfl, hr, hbl⟩
theorem parse_any (A : Option Addr) (n c : Nat) (l : List Int) (w : World) (en : n = l.length) (hr : Kd.C (Kd.int .u8) w A l.length l) (hc : l.length ≤ c) (hw : ∀ x ∈ l, 0 ≤ x ∧ x ≤ 255) :
    Calls Try.prog 27 #[.slice A n c] w fun e w' => ∃ B cb, e = .returned (.tuple #[.agg #[.slice B (prF l).1.length cb], .int .i64 (prF l).2]) ∧ Kd.S (Kd.slice 34 k34) 28 w' w.heap.size (fun _ => True) (.slice B (prF l).1.length cb) (prF l).1 ∧ Below w.heap.size w w' := by
  subst en
  refine (parse_calls A c l (prF l).1 (prF l).2 w hr hc (parseO_eq hw)).mono ?_
  rintro e w' ⟨v, rfl, hs, hb⟩
  obtain ⟨B, cb, rfl⟩ := Kd.S_slice hs
  exact ⟨B, cb, rfl, hs, hb⟩
theorem info_u8 : (Try.prog.info? 5).map (fun i => (i.zero, i.size, i.bytes)) = some (some (.int .u8 0), 1, 1) := by kernel_rfl

set_option maxHeartbeats 4000000 in
set_option maxRecDepth 100000 in
theorem glyfAgain_core (a0 a1 : Option Addr) (c0 c1 : Nat) (l0 : List Int) (l1 : List (List S66)) (n y : Int) (w : World) (rd0 : Kd.C (Kd.int .u8) w a0 l0.length l0) (le0 : l0.length ≤ c0) (wf0 : ∀ x ∈ l0, 0 ≤ x ∧ x ≤ 255) (y0 : l0.length * 1 ≤ 140737488351232)
    (rd1 : Kd.C (Kd.slice 66 k66) w a1 l1.length l1) (le1 : l1.length ≤ c1) (hn : 0 ≤ n ∧ n ≤ 255) :
    Calls Try.prog 13 #[.slice a0 l0.length c0, .slice a1 l1.length c1, .int .u8 n, .int .u8 y] w fun e w' => e = .returned (.bool true) ∧ Below w.heap.size w w' := by
  have R0 := Lib.hid rd0; have R1 := Lib.hid rd1; have W0 := Lib.hid wf0; clear rd0 rd1 wf0
  have hg := olF_good l1
  have HG := Lib.hid hg; clear hg
  obtain ⟨n, rfl⟩ := Int.eq_ofNat_of_zero_le hn.1
  go_enter Try.func13, Try.ntmps13
  go_wp2_with fail
  refine (awake_c _).mono ?_
  rintro e w1 ⟨rfl, hb1⟩
  have B1 := Lib.hid hb1; clear hb1
  go_wp2_with fail
  have hol := outline_any l1 a1 c1 w1 (Kd.C_below R1.out B1.out) le1
  obtain ⟨N, hN⟩ : ∃ N, (olF l1).length = N := ⟨_, rfl⟩
  rw [hN] at hol
  have HN := Lib.hid hN; clear hN
  refine hol.mono ?_
  clear hol
  rintro e w3 ⟨A3, c3, rfl, hs3, hb3⟩
  have T3 := Lib.hid (Kd.S_reads' hs3)
  have B3 := Lib.hid (below_step B1.out hb3)
  clear hs3 hb3
  go_wp2_with fail
  obtain ⟨E, hE⟩ : ∃ E, (encL (olF l1)).length = E := ⟨_, rfl⟩
  have hen := encode_good (olF l1) HG.out A3 c3 N w3 HN.out.symm T3.out.2.2 (by rw [HN.out]; exact T3.out.2.1)
  rw [hE] at hen
  have hE0 : 0 < E := by rw [← hE]; unfold encL; simp
  have hE1 : E ≤ 1000 := by
    rw [← hE]
    have h1 := rle_len (olF l1).flatten.length (fsL 0 0 (olF l1).flatten)
    rw [fsL_len] at h1
    have h2 := stL_len 0 0 (olF l1).flatten
    have h3 := HG.out.sum
    have h4 := HG.out.eight
    unfold encL
    rw [List.length_append, List.length_append, List.length_cons, List.length_map]; omega
  have HE := Lib.hid hE; clear hE
  refine hen.mono ?_
  clear hen
  rintro e w5 ⟨A5, c5, rfl, hr5, hb5⟩
  have B5 := Lib.hid (below_step B3.out hb5)
  obtain ⟨g, c5', e5, l5, hg5, hgl, ⟨cur, hcur⟩, hcell⟩ := (ints_form hr5).resolve_left (by intro h; have := congrArg List.length h.2; rw [HE.out] at this; simp at this; omega)
  have e5' : A5 = some ⟨g, 0, none⟩ := by injection e5
  subst e5'
  have hEc : E ≤ c5 := by have := (Kd.R_reads' hr5).2.1; exact this
  obtain ⟨I, hI⟩ : ∃ I, n % E = I := ⟨_, rfl⟩
  have hIE : I < E := hI ▸ Nat.mod_lt _ hE0
  have hmI : Int.tmod (n : Int) (E : Int) = (I : Int) := by rw [← hI]; rfl
  obtain ⟨x, hx⟩ : ∃ x, (encL (olF l1)).getD I 0 = x := ⟨_, rfl⟩
  have hcI := hcell I (by rw [HE.out]; exact hIE)
  rw [hx] at hcI
  have hfI : w5.frozen? ⟨g, I, none⟩ = false := blk_frozen hcur I
  obtain ⟨z, hz⟩ : ∃ z, bits .xor .u8 x y = z := ⟨_, rfl⟩
  have hzw := xor_u8 x y
  rw [hz] at hzw
  have R5 := Lib.hid hr5; have HI := Lib.hid hI; have HX := Lib.hid hx; have HZW := Lib.hid hzw
  have HB5 := Lib.hid hb5
  have hEn : ¬ E = 0 := by omega
  have hE3 : ((E : Int) == 0) = false := by simp; omega
  clear hr5 hb5 hI hx hzw e5 l5 hcell hcur cur
  go_upto_region 6 with (fail)
  clear hcI hfI hz hmI hE3
  have hR6 := Kd.R_putn (h1 := fun _ => rfl) R5.out (I : Int) z
  rw [Int.toNat_natCast] at hR6
  have B6 := Lib.hid ((B5.out.setCell (p := ⟨g, I, none⟩) (by have := B3.out.size; show w.heap.size ≤ g; omega) (.int .u8 z)))
  generalize hw6 : w5.setCell ⟨g, I, none⟩ (.int .u8 z) = w6 at *
  clear hw6
  have R6 := Lib.hid hR6; clear hR6
  have hb7 := below_alloc (Below.refl _ w6) (.cells #[.slice a0 l0.length c0, .slice (some ⟨g, 0, none⟩) E c5] 48)
  have hg7 := heap_alloc_new w6 (.cells #[.slice a0 l0.length c0, .slice (some ⟨g, 0, none⟩) E c5] 48)
  have HB7 := Lib.hid hb7
  have B7 := Lib.hid (B6.out.trans (hb7.mono B6.out.size))
  have HG7 := Lib.hid hg7
  clear hb7 hg7
  go_wp2_with fail
  generalize hw7 : w6.alloc (.cells #[.slice a0 l0.length c0, .slice (some ⟨g, 0, none⟩) E c5] 48) = w7 at *
  clear hw7
  have items : ∀ k, k < 2 → ∃ (A : Option Addr) (m c : Nat) (l : List Int), w7.cell? ⟨w6.heap.size, k, none⟩ = some (.slice A m c) ∧ m = l.length ∧ l.length ≤ c ∧ Kd.C (Kd.int .u8) w7 A l.length l ∧ (∀ x ∈ l, 0 ≤ x ∧ x ≤ 255) ∧ l.length ≤ 140737488351232 := by
    intro k hk
    match k, hk with
    | 0, _ => exact ⟨a0, _, c0, l0, (blk_cell HG7.out 0).trans rfl, rfl, le0, Kd.C_below R0.out B7.out, W0.out, by omega⟩
    | 1, _ =>
      obtain ⟨q1, q2, q3⟩ := Kd.R_reads' R6.out
      refine ⟨_, E, c5, (encL (olF l1)).set I z, (blk_cell HG7.out 1).trans rfl, q1, by omega, Kd.C_below q3 HB7.out, fun x hx => ?_, by omega⟩
      rcases List.mem_or_eq_of_mem_set hx with h | h
      · exact encL_in HG.out x h
      · rw [h]; exact HZW.out
  have IT := Lib.hid items; clear items
  go_loopw [45] (fun v45 W => ∃ k : Nat, v45 = .int .i64 k ∧ k ≤ 2 ∧ Hid (Below w7.heap.size w7 W)) (fun v45 _ => 2 - (intOf v45).toNat)
  case atStart => exact ⟨0, rfl, by omega, Lib.hid (Below.refl _ _)⟩
  case round =>
    obtain ⟨k, rfl, hk, HBW⟩ := hrel
    by_cases hk2 : k < 2
    · have hk3 : decide ((k : Int) < 2) = true := decide_eq_true (by omega)
      obtain ⟨A, m, c, l, q1, qm, q2, q3, q4, q5⟩ := IT.out k hk2
      have qc := pw_cell_below HBW.out q1
      have hm5 : m ≤ 140737488351232 := by omega
      have QM := Lib.hid qm; have Q3 := Lib.hid (Kd.C_below q3 HBW.out); have Q4 := Lib.hid q4; have Q2 := Lib.hid q2
      clear q1 qm q2 q3 q4 q5
      go_wp2_with fail
      obtain ⟨o, e, hoe⟩ : ∃ o e, prF l = (o, e) := ⟨_, _, rfl⟩
      have hpa := parse_any A m c l wr QM.out Q3.out Q2.out Q4.out
      rw [hoe] at hpa
      obtain ⟨O, hO⟩ : ∃ O, o.length = O := ⟨_, rfl⟩
      simp only at hpa
      rw [hO] at hpa
      refine hpa.mono ?_
      clear hpa
      rintro e' w8 ⟨A8, c8, rfl, hs8, hb8⟩
      have HO := Lib.hid hO; clear hO
      have HOE := Lib.hid hoe; clear hoe
      have S8 := Lib.hid (Kd.S_alloc hs8 (.cells #[.slice A8 O c8] 26))
      have B8 := Lib.hid (below_alloc (below_step HBW.out hb8) (.cells #[.slice A8 O c8] 26))
      have G8 := Lib.hid (heap_alloc_new w8 (.cells #[.slice A8 O c8] 26))
      clear hs8 hb8
      have hu26 := Try.underlying26
      go_upto_region 10 with (fail)
      generalize hw9 : w8.alloc (.cells #[.slice A8 O c8] 26) = w9 at *
      clear hw9 qc
      have cA : w9.cell? ⟨w8.heap.size, 0, none⟩ = some (.slice A8 O c8) := (blk_cell G8.out 0).trans rfl
      by_cases he : e = 0
      · subst he
        obtain ⟨hgo, hlen⟩ := prF_good Q4.out HOE.out
        have T8 := Lib.hid (Kd.S_reads' S8.out)
        have HGO := Lib.hid hgo; clear hgo
        obtain ⟨F, hF⟩ : ∃ F, (encL o).length = F := ⟨_, rfl⟩
        have hF2 : F ≤ m + m := by rw [← hF, QM.out]; exact hlen
        have hd : decide (((m : Int) + (m : Int)) < (F : Int)) = false := decide_eq_false (by omega)
        go_wp2_with fail
        have hen := encode_good o HGO.out A8 c8 O w9 HO.out.symm T8.out.2.2 (by rw [HO.out]; exact T8.out.2.1)
        rw [hF] at hen
        have HF := Lib.hid hF; clear hF hlen
        refine hen.mono ?_
        clear hen cA
        rintro e' w10 ⟨A10, c10, rfl, hr10, hb10⟩
        have R10 := Lib.hid (Kd.R_reads' hr10)
        have B10 := Lib.hid (below_step B8.out hb10)
        have G10 := Lib.hid (blk_below G8.out hb10)
        have T10 := Lib.hid (Kd.C_below T8.out.2.2 hb10)
        clear hr10 hb10
        go_wp2_with fail
        have hpa := parse_any A10 F c10 (encL o) w10 HF.out.symm R10.out.2.2 (by rw [HF.out]; exact R10.out.2.1) (encL_in HGO.out)
        rw [prF_encL HGO.out] at hpa
        simp only at hpa
        rw [HO.out] at hpa
        refine hpa.mono ?_
        clear hpa
        rintro e' w11 ⟨A11, c11, rfl, hs11, hb11⟩
        have S11 := Lib.hid (Kd.S_reads' (Kd.S_alloc hs11 (.cells #[.slice A11 O c11] 26)))
        have hb11' := below_alloc hb11 (.cells #[.slice A11 O c11] 26)
        have B11 := Lib.hid (below_step B10.out hb11')
        have G11 := Lib.hid (blk_below G10.out hb11')
        have T11 := Lib.hid (Kd.C_below T10.out hb11')
        have G12 := Lib.hid (heap_alloc_new w11 (.cells #[.slice A11 O c11] 26))
        clear hs11 hb11 hb11'
        go_upto_region 15 with (fail)
        generalize hw12 : w11.alloc (.cells #[.slice A11 O c11] 26) = w12 at *
        clear hw12
        have cA : w12.cell? ⟨w8.heap.size, 0, none⟩ = some (.slice A8 O c8) := (blk_cell G11.out 0).trans rfl
        have cB : w12.cell? ⟨w11.heap.size, 0, none⟩ = some (.slice A11 O c11) := (blk_cell G12.out 0).trans rfl
        go_wp2_with fail
        refine (same_self o HGO.out.small A8 A11 c8 c11 O O w12 HO.out.symm HO.out.symm T11.out (by rw [HO.out]; exact T8.out.2.1) S11.out.2.2 (by rw [HO.out]; exact S11.out.2.1)).mono ?_
        rintro e' w13 ⟨rfl, hb13⟩
        have B13 := Lib.hid (below_step B11.out hb13); clear hb13 cA cB
        go_wp2_with fail
        go_roundw
        case rel => exact ⟨k + 1, by go_num, by omega, B13⟩
        case measure => simp [intOf]; omega
      · have hbad := prF_bad HOE.out he
        have hO0 : O = 0 := by rw [← HO.out, hbad]; rfl
        subst hO0
        have e1 : (e != 0) = true := by simpa using he
        have e2 : (e == 0) = false := by simpa using he
        clear he hbad
        go_wp2_with fail
        go_roundw
        case rel => exact ⟨k + 1, by go_num, by omega, B8⟩
        case measure => simp [intOf]; omega
    · have hk3 : k = 2 := by omega
      subst hk3
      go_wp2_with fail
      go_ret
      exact ⟨rfl, B7.out.trans (HBW.out.mono B7.out.size)⟩

end Go.Proofs.Ytjealbaomhjoaaa
