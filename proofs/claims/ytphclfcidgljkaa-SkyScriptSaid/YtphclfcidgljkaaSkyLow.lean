/- SkyLow: the walk. -/
import Derived.Test.YtphclfcidgljkaaSkyLaw
import Derived.Test.YtphclfcidgljkaaSkyLowP
set_option linter.unusedVariables false
set_option linter.unusedSimpArgs false
namespace Go.Proofs.Ytphclfcidgljkaa
open Go.RowKit Go.Proofs.YtphclfcidgljkaaW.PrintWords Go.Proofs.YtphclfcidgljkaaW.PrintLast Go.Proofs.YtphclfcidgljkaaW.PrintMore
theorem set_next (hs zs : List Int) (j : Nat) (h1 : j < hs.length) (h2 : j < zs.length) : (hs.take j ++ zs.drop j).set j (hs.getD j 0) = hs.take (j + 1) ++ zs.drop (j + 1) := by
  apply List.ext_getElem?
  intro i
  rw [List.getElem?_set, List.getElem?_append, List.getElem?_append]
  simp only [List.length_append, List.length_take, List.length_drop]
  by_cases h : j = i
  · subst h
    rw [if_pos rfl, if_pos (by omega), if_pos (by omega), List.getElem?_take_of_lt (by omega), List.getD_eq_getElem?_getD, List.getElem?_eq_getElem (by omega)]; rfl
  · rw [if_neg h]
    by_cases h3 : i < j
    · rw [if_pos (by omega), if_pos (by omega), List.getElem?_take_of_lt h3, List.getElem?_take_of_lt (by omega)]
    · rw [if_neg (by omega), if_neg (by omega), List.getElem?_drop, List.getElem?_drop]
      congr 1
      omega
attribute [local go_sem high] eqRect eqTwo
attribute [local go_sem] cell_alloc max2_max min2_min max_two min_two
set_option maxHeartbeats 4000000 in
set_option maxRecDepth 100000 in
theorem skyLow_core (x y : Int) (hx : -128 ≤ x ∧ x ≤ 127) (hy : -128 ≤ y ∧ y ≤ 127) (A : Option Addr) (cap : Nat) (l : List Bx) (mm : Int) (hmm : 0 ≤ mm ∧ mm ≤ 255) (W : World) (rd : Kd.C kbx W A l.length l) (le : l.length ≤ cap)
    (wf : ∀ p ∈ l, (Lit.int .u8 p.1).wf = true ∧ (Lit.int .u8 p.2.1).wf = true ∧ (Lit.int .u8 p.2.2.1).wf = true ∧ (Lit.int .u8 p.2.2.2.1).wf = true) :
    Calls Try.prog 8 #[.int .i8 x, .int .i8 y, .slice A l.length cap, .int .u8 mm] W fun e w' => e = .returned (.bool true) ∧ Below W.heap.size W w' := by
  obtain ⟨hx0, hx1⟩ := hx
  obtain ⟨hy0, hy1⟩ := hy
  obtain ⟨hmm0, hmm1⟩ := hmm
  have hsx' := mm_side x
  have hsy' := mm_side y
  have HOF := Lib.hid (fun W' => of_c W' x y)
  have hsx : side x = 0 ∨ (side x : Int) ≤ x := by unfold side; omega
  have hsy : side y = 0 ∨ (side y : Int) ≤ y := by unfold side; omega
  have hax := side_le x
  have hbx := side_le y
  obtain ⟨a, ha⟩ : ∃ a, side x = a := ⟨_, rfl⟩
  obtain ⟨b, hb⟩ : ∃ b, side y = b := ⟨_, rfl⟩
  have HXA := Lib.hid ha
  have HYB := Lib.hid hb
  rw [ha] at HOF hsx hax hsx'
  rw [hb] at HOF hsy hbx hsy'
  clear ha hb
  have hmx := rd.2.1
  obtain ⟨n, hn⟩ : ∃ n, l.length = n := ⟨_, rfl⟩
  rw [hn] at rd le hmx ⊢
  have RD := Lib.hid rd; have HN := Lib.hid hn; have WF := Lib.hid wf
  clear rd hn wf
  obtain ⟨M, hM, hMn, hM60⟩ := min_cut n 40
  have hM' : min (n : Int) 40 = (M : Int) := hM
  clear hM
  have hMc : M ≤ cap := by omega
  have hMi : (M : Int) ≤ (cap : Int) := by omega
  have hM0 : (0 : Int) ≤ (M : Int) := by omega
  go_enter Try.func8, Try.ntmps8
  go_wp2_with fail
  refine (awake_c W).mono ?_
  rintro e w1 ⟨rfl, hb1⟩
  have B1 := Lib.hid hb1; clear hb1
  go_wp2_with fail
  refine (HOF.out w1).mono ?_
  rintro e w2 ⟨g, rfl, hg, hs, hb2⟩
  have B2 := Lib.hid (below_step B1.out hb2)
  have S2 := Lib.hid hs
  have hgW : W.heap.size ≤ g := by have := B1.out.size; omega
  clear hb2 hs HOF
  obtain ⟨w0, rfl⟩ : ∃ w0 : World, w0 = W := ⟨_, rfl⟩
  go_wp2_with fail
  go_loopw [36] (fun v36 W => ∃ (k : Nat) (hs : List Int), v36 = .int .i64 k ∧ k ≤ M ∧ Hid (SkyAt W g a b hs) ∧ Hid (Below w0.heap.size w0 W)) (fun v36 _ => M - (intOf v36).toNat)
  case atStart => exact ⟨0, _, rfl, Nat.zero_le _, S2, B2⟩
  case round =>
    obtain ⟨k, hs, rfl, hk, HS, HB⟩ := hrel
    by_cases hkM : k < M
    · have hkk : (k : Int) < (M : Int) := by omega
      obtain ⟨ad, eA⟩ := C_some RD.out (by omega)
      subst eA
      obtain ⟨bx, hbx⟩ : ∃ bx, l.getD k (0, 0, 0, 0, false) = bx := ⟨_, rfl⟩
      obtain ⟨p0, p1, p2, p3, p4⟩ := bx_at (Kd.C_below RD.out HB.out) k (by omega) bx hbx
      have hmem : bx ∈ l := by
        rw [← hbx, List.getD_eq_getElem?_getD, List.getElem?_eq_getElem (by rw [HN.out]; omega)]
        exact List.getElem_mem _
      obtain ⟨v0, v1, v2, v3⟩ := WF.out bx hmem
      obtain ⟨bW, bH, bX, bY, bF⟩ := bx
      obtain ⟨v00, v01⟩ := wf8 v0
      obtain ⟨v10, v11⟩ := wf8 v1
      have v00 : 0 ≤ bW := v00
      have v01 : bW ≤ 255 := v01
      have v10 : 0 ≤ bH := v10
      have v11 : bH ≤ 255 := v11
      have al := below_alloc (Below.refl _ wr) (.cells #[.int .u8 bW, .int .u8 bH, .int .u8 bX, .int .u8 bY, .bool bF] 29)
      have g1 := heap_alloc_new wr (.cells #[.int .u8 bW, .int .u8 bH, .int .u8 bX, .int .u8 bY, .bool bF] 29)
      have HS1 := Lib.hid (HS.out.below al)
      have HB1 := Lib.hid (below_step HB.out al)
      clear v0 v1 v2 v3 hmem hbx HS HB
      go_upto_region 9 with (fail)
      generalize wr.alloc (.cells #[.int .u8 bW, .int .u8 bH, .int .u8 bX, .int .u8 bY, .bool bF] 29) = W1 at *
      generalize wr.heap.size = bP at *
      have s0 : W1.cell? ⟨bP, 0, none⟩ = some (.int .u8 bW) := (blk_cell g1 0).trans rfl
      have s1 : W1.cell? ⟨bP, 1, none⟩ = some (.int .u8 bH) := (blk_cell g1 1).trans rfl
      clear p0 p1 p2 p3 p4 al g1
      have HF := Lib.hid (fit_c W1 g a b hs HS1.out (bW % 20) (bH % 20))
      go_wp2_with fail
      refine HF.out.mono ?_
      rintro e w5 ⟨rfl, hb5⟩
      have HS5 := Lib.hid (HS1.out.below hb5)
      have HB5 := Lib.hid (below_step HB1.out hb5)
      obtain ⟨m, hm⟩ : ∃ m, bW % 20 = m := ⟨_, rfl⟩
      obtain ⟨nn, hnn⟩ : ∃ nn, bH % 20 = nn := ⟨_, rfl⟩
      rw [hm, hnn]
      clear hb5 s0 s1 HF HS1 HB1
      cases hf : fitQ a b hs m nn with
      | none =>
        rw [fitV]
        go_wp2_with fail
        go_roundw
        case rel => exact ⟨k + 1, hs, by go_num, by omega, Lib.hid (HS5.out.below (below_alloc (Below.refl _ w5) _)), Lib.hid (below_alloc HB5.out _)⟩
        case measure => simp [intOf]; omega
      | some f =>
        obtain ⟨X, Y⟩ := f
        have hff := fit_facts hf
        have hok := fit_putOk hf
        have hov := fun i h1 h2 => fit_over hf HS5.out.len i h1 h2
        obtain ⟨f1, f2, f3, f4, f5, f6, f7, f8⟩ := hff
        have f5 : 0 ≤ X := f5
        have f6 : X + m ≤ a := f6
        have f8 : Y + nn ≤ b := f8
        have f9 : 0 ≤ Y := by
          have h7 : Y = mxF X m 0 0 hs := f7
          have := (mx_bound X m b hs 0 0 (fun y hy => (HS5.out.ys y hy).2) (by omega)).1
          omega
        have HOK := Lib.hid hok; have HOV := Lib.hid hov
        have hxa : (a : Int) ≤ x := by rcases hsx with h | h <;> omega
        have hyb : (b : Int) ≤ y := by rcases hsy with h | h <;> omega
        have c1 : ¬ X < 0 := by omega
        have c2 : ¬ Y < 0 := by omega
        have c3 : ¬ x < X + m := by omega
        have c4 : ¬ y < Y + nn := by omega
        clear hf hok hov f7 hm hnn
        rw [fitV]
        have al := below_alloc (Below.refl _ w5) (.cells #[.int .i64 X, .int .i64 Y, .int .i64 m, .int .i64 nn] 31)
        have g1 := heap_alloc_new w5 (.cells #[.int .i64 X, .int .i64 Y, .int .i64 m, .int .i64 nn] 31)
        have HS6 := Lib.hid (HS5.out.below al)
        have HB6 := Lib.hid (below_step HB5.out al)
        have HG6 := Lib.hid g1
        clear HS5 HB5 al g1
        go_upto_region 10 with (fail)
        generalize w5.alloc (.cells #[.int .i64 X, .int .i64 Y, .int .i64 m, .int .i64 nn] 31) = W6 at *
        generalize w5.heap.size = b11 at *
        have r0 : W6.cell? ⟨b11, 0, none⟩ = some (.int .i64 X) := (blk_cell HG6.out 0).trans rfl
        have r1 : W6.cell? ⟨b11, 1, none⟩ = some (.int .i64 Y) := (blk_cell HG6.out 1).trans rfl
        have r2 : W6.cell? ⟨b11, 2, none⟩ = some (.int .i64 m) := (blk_cell HG6.out 2).trans rfl
        have r3 : W6.cell? ⟨b11, 3, none⟩ = some (.int .i64 nn) := (blk_cell HG6.out 3).trans rfl
        go_wp2_with fail
        refine (put_c W6 g a b hs HS6.out X Y m nn).mono ?_
        rintro e w7 ⟨rfl, hp, -⟩
        obtain ⟨hs7, hk7⟩ := hp HOK.out
        rw [decide_eq_true HOK.out]
        obtain ⟨ug, hug, -⟩ := HS6.out.row
        have HS7 := Lib.hid hs7
        have HB7 : Hid (Below w0.heap.size w0 w7) := Lib.hid (HB6.out.trans (hk7.below HB6.out.size (fun k hk => by subst hk; exact hgW)))
        have HG7 := Lib.hid (hk7.get HG6.out (blk_ne HG6.out hug (by decide)))
        clear hs7 hk7 hp hug r0 r1 r2 r3 HS6 HB6 HG6
        go_wp2_with fail
        go_roundw
        case rel => exact ⟨k + 1, _, by go_num, by omega, HS7, HB7⟩
        case measure => simp [intOf]; omega
    · have hkk : ¬ (k : Int) < (M : Int) := by omega
      have hmk := print_make (P := Try.prog) 27 3 .i64 8 Try.underlying27 infoInt (by omega) a (by omega)
      have al := below_alloc (Below.refl _ wr) (.cells (madeCells #[.int .i64 0] a) 3)
      have B2' := Lib.hid (below_step HB.out al)
      have S2' := Lib.hid (HS.out.below al)
      have R2' : Hid (RowAt (wr.alloc (.cells (madeCells #[.int .i64 0] a) 3)) wr.heap.size (List.replicate a 0)) := Lib.hid (by
        have := heap_alloc_new wr (.cells (madeCells #[.int .i64 0] a) 3)
        unfold RowAt
        rw [this, made_nums])
      have hwW : w0.heap.size ≤ wr.heap.size := HB.out.size
      have hla := HS.out.len
      have HLA := Lib.hid hla
      clear al hla HS HB
      go_upto_region 14 with (fail)
      generalize wr.alloc (.cells (madeCells #[.int .i64 0] a) 3) = W2 at *
      generalize wr.heap.size = gw at *
      clear hmk
      go_wp2_with fail
      go_loopw [68] (fun v68 W => ∃ j : Nat, v68 = .int .i64 j ∧ j ≤ a ∧ Hid (SkyAt W g a b hs) ∧ Hid (RowAt W gw (hs.take j ++ (List.replicate a (0 : Int)).drop j)) ∧ Hid (Below w0.heap.size w0 W)) (fun v68 _ => a - (intOf v68).toNat)
      case atStart => exact ⟨0, rfl, Nat.zero_le _, S2', R2', B2'⟩
      case round =>
        obtain ⟨j, rfl, hj, HS, HR, HB⟩ := hrel
        have hl0 := HLA.out
        by_cases hja : j < a
        · have hjj : (j : Int) < (a : Int) := by omega
          have hset := set_next hs (List.replicate a (0 : Int)) j (by omega) (by simp; omega)
          have hlen : (hs.take j ++ (List.replicate a (0 : Int)).drop j).length = a := by simp; omega
          have c0 := HR.out.cell j (by rw [hlen]; exact hja)
          have c1 := blk_frozen HR.out j
          have hhi : hiR a hs j = hs.getD j 0 := by unfold hiR; rw [if_neg (by omega), Int.toNat_natCast]
          have HH := Lib.hid (high_c wr g a b hs HS.out j)
          rw [hhi] at HH
          have HSET := Lib.hid hset
          obtain ⟨P, hP⟩ : ∃ P, hs.getD j 0 = P := ⟨_, rfl⟩
          obtain ⟨Q, hQ⟩ : ∃ Q, (hs.take j ++ (List.replicate a (0 : Int)).drop j).getD j 0 = Q := ⟨_, rfl⟩
          rw [hP] at HH HSET
          rw [hQ] at c0
          clear hP hQ hhi hset hlen hl0
          go_wp2_with fail
          refine HH.out.mono ?_
          rintro e w9 ⟨rfl, hb9⟩
          have HB9 := Lib.hid hb9
          have e0 : w9.cell? ⟨gw, j, none⟩ = some (.int .i64 Q) := pw_cell_below HB9.out c0
          have HR9 : Hid (RowAt w9 gw (hs.take j ++ (List.replicate a (0 : Int)).drop j)) := Lib.hid (blk_below HR.out HB9.out)
          have HS9 := Lib.hid (HS.out.below HB9.out)
          have HBB := Lib.hid (below_step HB.out HB9.out)
          have e1 := blk_frozen HR9.out j
          clear hb9 c0 c1
          go_wp2_with fail
          go_roundw
          case rel =>
            obtain ⟨ug, hug, -⟩ := HS9.out.row
            refine ⟨j + 1, by go_num, by omega, Lib.hid (HS9.out.kept (Kept.setCell (· = gw) w9 ⟨gw, j, none⟩ (.int .i64 P) rfl) (blk_ne hug HR9.out (by decide)) (fun k hk cells hc => ?_)), Lib.hid (by rw [← HSET.out]; exact HR9.out.set j P), Lib.hid (HBB.out.setCell hwW _)⟩
            subst hk
            exact absurd rfl (blk_ne hc HR9.out (by decide))
          case measure => simp [intOf]; omega
        · have hjj : ¬ (j : Int) < (a : Int) := by omega
          have hr := HR.out
          rw [List.take_of_length_le (by omega), List.drop_eq_nil_of_le (by simp; omega), List.append_nil] at hr
          have HR2 : Hid (RowAt wr gw hs) := Lib.hid hr
          have hN0 : 0 ≤ mm % 12 := by omega
          have hN1 : mm % 12 ≤ 11 := by omega
          obtain ⟨N, hN⟩ : ∃ N, 1 + mm % 12 = N := ⟨_, rfl⟩
          have hNa : 1 ≤ N := by omega
          have hNb : N ≤ 12 := by omega
          have HF := Lib.hid (fit_c wr g a b hs HS.out N 1)
          have HLOW := Lib.hid (fun x h1 h2 h3 => fit_low (a := a) (b := b) (hs := hs) HLA.out HS.out.ys x N h1 hNa h2 h3)
          have HS3 := HS
          clear hl0 hr HR
          go_upto_region 20 with (fail)
          clear hN0 hN1 hN
          go_wp2_with fail
          refine HF.out.mono ?_
          rintro e w5 ⟨rfl, hb5⟩
          have HR5 : Hid (RowAt w5 gw hs) := Lib.hid (blk_below HR2.out hb5)
          have HB5 := Lib.hid (below_step HB.out hb5)
          clear hb5 HF
          have HZ0 : Hid (b ≤ 64) := Lib.hid hbx
          cases hf : fitQ a b hs N 1 with
          | none =>
            rw [fitV]
            have al := below_alloc (Below.refl _ w5) (.cells #[.int .i64 0, .int .i64 0, .int .i64 0, .int .i64 0] 31)
            have g1 := heap_alloc_new w5 (.cells #[.int .i64 0, .int .i64 0, .int .i64 0, .int .i64 0] 31)
            have HR6 : Hid (RowAt (w5.alloc (.cells #[.int .i64 0, .int .i64 0, .int .i64 0, .int .i64 0] 31)) gw hs) := Lib.hid (blk_below HR5.out al)
            have HB6 := Lib.hid (below_step HB5.out al)
            clear HR5 HB5 al
            go_upto_region 21 with (fail)
            generalize w5.alloc (.cells #[.int .i64 0, .int .i64 0, .int .i64 0, .int .i64 0] 31) = W6 at *
            generalize w5.heap.size = b17 at *
            have z1 : W6.cell? ⟨b17, 1, none⟩ = some (.int .i64 0) := (blk_cell g1 1).trans rfl
            clear g1
            go_wp2_with fail
            go_loopw [19] (fun v19 W => ∃ j : Nat, v19 = .int .i64 j ∧ j ≤ a + 1 ∧ W = W6) (fun v19 _ => a + 1 - (intOf v19).toNat)
            case atStart => exact ⟨0, rfl, Nat.zero_le _, by trivial⟩
            case round =>
              obtain ⟨j, rfl, hj, rfl⟩ := hrel
              by_cases hjN : (j : Int) + N ≤ (a : Int)
              · have hlov := lover_c wr gw hs HR6.out (by rw [HLA.out]; omega) j N (by omega) (by omega) (by omega) (by omega)
                rw [HLA.out] at hlov
                have hlw := HLOW.out j (by omega) hjN
                rw [hf] at hlw
                obtain ⟨Z, hZ⟩ : ∃ Z, mxF j N 0 0 hs = Z := ⟨_, rfl⟩
                rw [hZ] at hlov hlw
                have HLOV := Lib.hid hlov
                have HLW := Lib.hid hlw
                clear hlov hlw hZ
                go_wp2_with fail
                refine HLOV.out.mono ?_
                rintro e w7 ⟨rfl, rfl⟩
                by_cases hzb : Z < (b : Int)
                · obtain ⟨f', hf1, hf2⟩ := HLW.out hzb
                  cases hf1
                · go_wp2_with fail
                  go_roundw
                  case rel => exact ⟨j + 1, by go_num, by omega, by trivial⟩
                  case measure => simp [intOf]; omega
              · go_wp2_with fail
                go_ret
                exact ⟨rfl, HB6.out⟩
          | some f =>
            obtain ⟨X, Y⟩ := f
            rw [fitV]
            have al := below_alloc (Below.refl _ w5) (.cells #[.int .i64 X, .int .i64 Y, .int .i64 N, .int .i64 1] 31)
            have g1 := heap_alloc_new w5 (.cells #[.int .i64 X, .int .i64 Y, .int .i64 N, .int .i64 1] 31)
            have HR6 : Hid (RowAt (w5.alloc (.cells #[.int .i64 X, .int .i64 Y, .int .i64 N, .int .i64 1] 31)) gw hs) := Lib.hid (blk_below HR5.out al)
            have HB6 := Lib.hid (below_step HB5.out al)
            clear HR5 HB5 al
            go_upto_region 21 with (fail)
            generalize w5.alloc (.cells #[.int .i64 X, .int .i64 Y, .int .i64 N, .int .i64 1] 31) = W6 at *
            generalize w5.heap.size = b17 at *
            have z1 : W6.cell? ⟨b17, 1, none⟩ = some (.int .i64 Y) := (blk_cell g1 1).trans rfl
            clear g1
            go_wp2_with fail
            go_loopw [19] (fun v19 W => ∃ j : Nat, v19 = .int .i64 j ∧ j ≤ a + 1 ∧ W = W6) (fun v19 _ => a + 1 - (intOf v19).toNat)
            case atStart => exact ⟨0, rfl, Nat.zero_le _, by trivial⟩
            case round =>
              obtain ⟨j, rfl, hj, rfl⟩ := hrel
              by_cases hjN : (j : Int) + N ≤ (a : Int)
              · have hlov := lover_c wr gw hs HR6.out (by rw [HLA.out]; omega) j N (by omega) (by omega) (by omega) (by omega)
                rw [HLA.out] at hlov
                have hlw := HLOW.out j (by omega) hjN
                rw [hf] at hlw
                obtain ⟨Z, hZ⟩ : ∃ Z, mxF j N 0 0 hs = Z := ⟨_, rfl⟩
                rw [hZ] at hlov hlw
                have HLOV := Lib.hid hlov
                have HLW := Lib.hid hlw
                clear hlov hlw hZ
                go_wp2_with fail
                refine HLOV.out.mono ?_
                rintro e w7 ⟨rfl, rfl⟩
                by_cases hzb : Z < (b : Int)
                · obtain ⟨f', hf1, hf2⟩ := HLW.out hzb
                  injection hf1 with hf1
                  subst hf1
                  have hzy : ¬ Z < Y := by have hf2 : Y ≤ Z := hf2; omega
                  clear hf2
                  go_wp2_with fail
                  go_roundw
                  case rel => exact ⟨j + 1, by go_num, by omega, by trivial⟩
                  case measure => simp [intOf]; omega
                · go_wp2_with fail
                  go_roundw
                  case rel => exact ⟨j + 1, by go_num, by omega, by trivial⟩
                  case measure => simp [intOf]; omega
              · go_wp2_with fail
                go_ret
                exact ⟨rfl, HB6.out⟩
end Go.Proofs.Ytphclfcidgljkaa
