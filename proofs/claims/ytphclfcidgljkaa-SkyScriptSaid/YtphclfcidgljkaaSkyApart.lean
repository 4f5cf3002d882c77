/- SkyApart: the walk. -/
import Derived.Test.YtphclfcidgljkaaSkyAwake
import Derived.Test.YtphclfcidgljkaaSkyQ
import Derived.Test.YtphclfcidgljkaaSkyRows
set_option linter.unusedVariables false
set_option linter.unusedSimpArgs false
namespace Go.Proofs.Ytphclfcidgljkaa
open Go.RowKit Go.Proofs.YtphclfcidgljkaaW.PrintWords Go.Proofs.YtphclfcidgljkaaW.PrintLast Go.Proofs.YtphclfcidgljkaaW.PrintMore
theorem infoRect : (Try.prog.info? 31).map (fun i => (i.zero, i.size, i.bytes)) = some (some (.agg #[(.int .i64 0), (.int .i64 0), (.int .i64 0), (.int .i64 0)]), 4, 32) := by kernel_rfl
theorem wf8 {x : Int} (h : (Lit.int .u8 x).wf = true) : 0 ≤ x ∧ x ≤ 255 := by simpa [Lit.wf, IntKind.min, IntKind.max, IntKind.signed, IntKind.bits] using h
theorem min_cut (n B : Nat) : ∃ M : Nat, min (n : Int) (B : Int) = (M : Int) ∧ M ≤ n ∧ M ≤ B := ⟨min n B, by omega, by omega, by omega⟩
theorem R_sky {W W' : World} {α : Type} {d : Kd α} {e base g : Nat} {u v : Value} {xs : List α} {c0 c1 : Value} (h : Kd.R d e W base (fun _ => True) u xs) (hk : Kept (· = g) W W') (hg : W.heap[g]? = some (.cells #[c0, c1, v] 51 (0, 0))) (hd : d.E = []) (he : e ≠ 51) : Kd.R d e W' base (fun _ => True) u xs :=
  R_far2 h hk (fun k hk q hq cells hc => by
    subst hk
    rw [hg] at hc
    rw [hd] at hq
    obtain rfl := List.mem_singleton.1 hq
    injection hc with hc
    injection hc with _ hc
    exact he hc.symm)
attribute [local go_sem high] eqRect
attribute [local go_sem] cell_alloc max2_max min2_min max_two min_two
set_option maxHeartbeats 4000000 in
set_option maxRecDepth 100000 in
theorem skyApart_core (x y : Int) (hx : -128 ≤ x ∧ x ≤ 127) (hy : -128 ≤ y ∧ y ≤ 127) (A : Option Addr) (cap : Nat) (l : List Bx) (W : World) (rd : Kd.C kbx W A l.length l) (le : l.length ≤ cap)
    (wf : ∀ p ∈ l, (Lit.int .u8 p.1).wf = true ∧ (Lit.int .u8 p.2.1).wf = true ∧ (Lit.int .u8 p.2.2.1).wf = true ∧ (Lit.int .u8 p.2.2.2.1).wf = true) :
    Calls Try.prog 5 #[.int .i8 x, .int .i8 y, .slice A l.length cap] W fun e w' => e = .returned (.bool true) ∧ Below W.heap.size W w' := by
  obtain ⟨hx0, hx1⟩ := hx
  obtain ⟨hy0, hy1⟩ := hy
  have HOF := Lib.hid (fun W' => of_c W' x y)
  have hsx : side x = 0 ∨ (side x : Int) ≤ x := by unfold side; omega
  have hsy : side y = 0 ∨ (side y : Int) ≤ y := by unfold side; omega
  have hax := side_le x
  have hbx := side_le y
  obtain ⟨a, ha⟩ : ∃ a, side x = a := ⟨_, rfl⟩
  obtain ⟨b, hb⟩ : ∃ b, side y = b := ⟨_, rfl⟩
  rw [ha] at HOF hsx hax
  rw [hb] at HOF hsy hbx
  clear ha hb
  have hmx := rd.2.1
  obtain ⟨n, hn⟩ : ∃ n, l.length = n := ⟨_, rfl⟩
  rw [hn] at rd le hmx ⊢
  have RD := Lib.hid rd; have HN := Lib.hid hn; have WF := Lib.hid wf
  clear rd hn wf
  obtain ⟨M, hM, hMn, hM60⟩ := min_cut n 60
  have hM' : min (n : Int) 60 = (M : Int) := hM
  clear hM
  have hMc : M ≤ cap := by omega
  have hMi : (M : Int) ≤ (cap : Int) := by omega
  have hM0 : (0 : Int) ≤ (M : Int) := by omega
  go_enter Try.func5, Try.ntmps5
  go_wp2_with fail
  refine (awake_c W).mono ?_
  rintro e w1 ⟨rfl, hb1⟩
  have B1 := Lib.hid hb1; clear hb1
  go_wp2_with fail
  refine (HOF.out w1).mono ?_
  rintro e w2 ⟨g, rfl, hg, hs, hb2⟩
  have B2 := Lib.hid (below_step B1.out hb2)
  have S2 := Lib.hid hs
  have hgW : W.heap.size ≤ g := by have := B1.out.size; omega
  clear hb2 hs HOF
  obtain ⟨w0, rfl⟩ : ∃ w0 : World, w0 = W := ⟨_, rfl⟩
  go_wp2_with fail
  go_loopw [8, 30] (fun v8 v30 W => ∃ (k : Nat) (u : Value) (hs : List Int) (rs : List Rc), v8 = u ∧ v30 = .int .i64 k ∧ k ≤ M ∧ Hid (SkyAt W g a b hs) ∧ Hid (Kd.R krc 31 W w0.heap.size (fun _ => True) u rs) ∧ Hid (Under a b hs rs) ∧ rs.length ≤ k ∧ Hid (Below w0.heap.size w0 W)) (fun _ v30 _ => M - (intOf v30).toNat)
  case atStart => exact ⟨0, _, _, [], rfl, rfl, Nat.zero_le _, S2, Lib.hid (Kd.R_nil _ _ _ _ _), Lib.hid (fun q hq => by simp at hq), Nat.le_refl _, B2⟩
  case round =>
    obtain ⟨k, u, hs, rs, rfl, rfl, hk, HS, HO, HU, hrk, HB⟩ := hrel
    by_cases hkM : k < M
    · have hkk : (k : Int) < (M : Int) := by omega
      obtain ⟨ad, eA⟩ := C_some RD.out (by omega)
      subst eA
      obtain ⟨bx, hbx⟩ : ∃ bx, l.getD k (0, 0, 0, 0, false) = bx := ⟨_, rfl⟩
      obtain ⟨p0, p1, p2, p3, p4⟩ := bx_at (Kd.C_below RD.out HB.out) k (by omega) bx hbx
      have hmem : bx ∈ l := by
        rw [← hbx, List.getD_eq_getElem?_getD, List.getElem?_eq_getElem (by rw [HN.out]; omega)]
        exact List.getElem_mem _
      obtain ⟨v0, v1, v2, v3⟩ := WF.out bx hmem
      obtain ⟨bW, bH, bX, bY, bF⟩ := bx
      obtain ⟨v00, v01⟩ := wf8 v0
      obtain ⟨v10, v11⟩ := wf8 v1
      have v00 : 0 ≤ bW := v00
      have v01 : bW ≤ 255 := v01
      have v10 : 0 ≤ bH := v10
      have v11 : bH ≤ 255 := v11
      have al := below_alloc (Below.refl _ wr) (.cells #[.int .u8 bW, .int .u8 bH, .int .u8 bX, .int .u8 bY, .bool bF] 29)
      have g1 := heap_alloc_new wr (.cells #[.int .u8 bW, .int .u8 bH, .int .u8 bX, .int .u8 bY, .bool bF] 29)
      have HS1 := Lib.hid (HS.out.below al)
      have HO1 := Lib.hid (Kd.R_below HO.out al)
      have HB1 := Lib.hid (below_step HB.out al)
      clear v0 v1 v2 v3 hmem hbx HS HO HB
      go_upto_region 10 with (fail)
      generalize wr.alloc (.cells #[.int .u8 bW, .int .u8 bH, .int .u8 bX, .int .u8 bY, .bool bF] 29) = W1 at *
      generalize wr.heap.size = bP at *
      have s0 : W1.cell? ⟨bP, 0, none⟩ = some (.int .u8 bW) := (blk_cell g1 0).trans rfl
      have s1 : W1.cell? ⟨bP, 1, none⟩ = some (.int .u8 bH) := (blk_cell g1 1).trans rfl
      clear p0 p1 p2 p3 p4 al g1
      have HF := Lib.hid (fit_c W1 g a b hs HS1.out (bW % 20) (bH % 20))
      go_wp2_with fail
      refine HF.out.mono ?_
      rintro e w5 ⟨rfl, hb5⟩
      have HS5 := Lib.hid (HS1.out.below hb5)
      have HO5 := Lib.hid (Kd.R_below HO1.out hb5)
      have HB5 := Lib.hid (below_step HB1.out hb5)
      obtain ⟨m, hm⟩ : ∃ m, bW % 20 = m := ⟨_, rfl⟩
      obtain ⟨nn, hnn⟩ : ∃ nn, bH % 20 = nn := ⟨_, rfl⟩
      rw [hm, hnn]
      clear hb5 s0 s1 HF HS1 HO1 HB1
      cases hf : fitQ a b hs m nn with
      | none =>
        rw [fitV]
        go_wp2_with fail
        go_roundw
        case rel => exact ⟨k + 1, _, hs, rs, rfl, by go_num, by omega, Lib.hid (HS5.out.below (below_alloc (Below.refl _ w5) _)), Lib.hid (Kd.R_below HO5.out (below_alloc (Below.refl _ w5) _)), HU, by omega, Lib.hid (below_alloc HB5.out _)⟩
        case measure => simp [intOf]; omega
      | some f =>
        obtain ⟨X, Y⟩ := f
        have hff := fit_facts hf
        have hok := fit_putOk hf
        have hov := fun i h1 h2 => fit_over hf HS5.out.len i h1 h2
        obtain ⟨f1, f2, f3, f4, f5, f6, f7, f8⟩ := hff
        have f5 : 0 ≤ X := f5
        have f6 : X + m ≤ a := f6
        have f8 : Y + nn ≤ b := f8
        have f9 : 0 ≤ Y := by
          have h7 : Y = mxF X m 0 0 hs := f7
          have := (mx_bound X m b hs 0 0 (fun y hy => (HS5.out.ys y hy).2) (by omega)).1
          omega
        have HOK := Lib.hid hok; have HOV := Lib.hid hov
        have hxa : (a : Int) ≤ x := by rcases hsx with h | h <;> omega
        have hyb : (b : Int) ≤ y := by rcases hsy with h | h <;> omega
        have c1 : ¬ X < 0 := by omega
        have c2 : ¬ Y < 0 := by omega
        have c3 : ¬ x < X + m := by omega
        have c4 : ¬ y < Y + nn := by omega
        clear hf hok hov f7 hm hnn
        rw [fitV]
        have al := below_alloc (Below.refl _ w5) (.cells #[.int .i64 X, .int .i64 Y, .int .i64 m, .int .i64 nn] 31)
        have g1 := heap_alloc_new w5 (.cells #[.int .i64 X, .int .i64 Y, .int .i64 m, .int .i64 nn] 31)
        have HS6 := Lib.hid (HS5.out.below al)
        have HO6 := Lib.hid (Kd.R_below HO5.out al)
        have HB6 := Lib.hid (below_step HB5.out al)
        have HG6 := Lib.hid g1
        clear HS5 HO5 HB5 al g1
        go_upto_region 11 with (fail)
        generalize w5.alloc (.cells #[.int .i64 X, .int .i64 Y, .int .i64 m, .int .i64 nn] 31) = W6 at *
        generalize w5.heap.size = b11 at *
        have r0 : W6.cell? ⟨b11, 0, none⟩ = some (.int .i64 X) := (blk_cell HG6.out 0).trans rfl
        have r1 : W6.cell? ⟨b11, 1, none⟩ = some (.int .i64 Y) := (blk_cell HG6.out 1).trans rfl
        have r2 : W6.cell? ⟨b11, 2, none⟩ = some (.int .i64 m) := (blk_cell HG6.out 2).trans rfl
        have r3 : W6.cell? ⟨b11, 3, none⟩ = some (.int .i64 nn) := (blk_cell HG6.out 3).trans rfl
        go_wp2_with fail
        refine (put_c W6 g a b hs HS6.out X Y m nn).mono ?_
        rintro e w7 ⟨rfl, hp, -⟩
        obtain ⟨hs7, hk7⟩ := hp HOK.out
        rw [decide_eq_true HOK.out]
        obtain ⟨ug, hug, -⟩ := HS6.out.row
        have HS7 := Lib.hid hs7
        have HO7 := Lib.hid (R_sky HO6.out hk7 hug rfl (by decide))
        have HB7 : Hid (Below w0.heap.size w0 w7) := Lib.hid (HB6.out.trans (hk7.below HB6.out.size (fun k hk => by subst hk; exact hgW)))
        have HG7 := Lib.hid (hk7.get HG6.out (blk_ne HG6.out hug (by decide)))
        have HU7 := Lib.hid (HU.out.put HS6.out.len f5 f1 f6 f9 f2 f8 HOV.out)
        clear hs7 hk7 hp hug r0 r1 r2 r3 HS6 HO6 HB6 HG6
        obtain ⟨Au, cu, eu, lu, cu2⟩ := Kd.R_reads HO7.out
        obtain ⟨nr, hnr⟩ : ∃ nr, rs.length = nr := ⟨_, rfl⟩
        rw [hnr] at eu lu cu2 hrk
        subst eu
        have HC7 := Lib.hid cu2
        have HNR := Lib.hid hnr
        clear cu2 hnr
        have r0 : w7.cell? ⟨b11, 0, none⟩ = some (.int .i64 X) := (blk_cell HG7.out 0).trans rfl
        have r1 : w7.cell? ⟨b11, 1, none⟩ = some (.int .i64 Y) := (blk_cell HG7.out 1).trans rfl
        have r2 : w7.cell? ⟨b11, 2, none⟩ = some (.int .i64 m) := (blk_cell HG7.out 2).trans rfl
        have r3 : w7.cell? ⟨b11, 3, none⟩ = some (.int .i64 nn) := (blk_cell HG7.out 3).trans rfl
        go_wp2_with fail
        go_loopw [85] (fun v85 W => ∃ j : Nat, v85 = .int .i64 j ∧ j ≤ nr ∧ Hid (Below w7.heap.size w7 W)) (fun v85 _ => nr - (intOf v85).toNat)
        case atStart => exact ⟨0, rfl, Nat.zero_le _, Lib.hid (Below.refl _ _)⟩
        case round =>
          obtain ⟨j, rfl, hj, HI⟩ := hrel
          by_cases hjn : j < nr
          · have hjj : (j : Int) < (nr : Int) := by omega
            obtain ⟨ad7, eA⟩ := C_some HC7.out (by omega)
            subst eA
            obtain ⟨q, hq⟩ : ∃ q, rs.getD j (0, 0, 0, 0) = q := ⟨_, rfl⟩
            obtain ⟨p0, p1, p2, p3⟩ := rc_at (Kd.C_below HC7.out HI.out) j hjn q hq
            have hmem : q ∈ rs := by
              rw [← hq, List.getD_eq_getElem?_getD, List.getElem?_eq_getElem (by rw [HNR.out]; omega)]
              exact List.getElem_mem _
            have hqu := HU.out q hmem
            have hap := HU.out.apart HOV.out f5 f1 hmem
            obtain ⟨qX, qY, qW, qH⟩ := q
            obtain ⟨e1, e2, e3, e4, e5, e6, -⟩ := hqu
            have e1 : 0 ≤ qX := e1
            have e2 : 1 ≤ qW := e2
            have e3 : qX + qW ≤ a := e3
            have e4 : 0 ≤ qY := e4
            have e5 : 1 ≤ qH := e5
            have e6 : qY + qH ≤ b := e6
            have HAP : Hid (X < qX + qW → qX < X + m → ¬ Y < qY + qH) := Lib.hid hap
            have al := below_alloc (Below.refl _ wr) (.cells #[.int .i64 qX, .int .i64 qY, .int .i64 qW, .int .i64 qH] 31)
            have g1 := heap_alloc_new wr (.cells #[.int .i64 qX, .int .i64 qY, .int .i64 qW, .int .i64 qH] 31)
            have HI1 := Lib.hid (below_step HI.out al)
            have HG8 := Lib.hid (blk_below HG7.out HI1.out)
            clear hq hmem hap
            go_upto_region 17 with (fail)
            generalize wr.alloc (.cells #[.int .i64 qX, .int .i64 qY, .int .i64 qW, .int .i64 qH] 31) = W8 at *
            generalize wr.heap.size = b14 at *
            have t0 : W8.cell? ⟨b14, 0, none⟩ = some (.int .i64 qX) := (blk_cell g1 0).trans rfl
            have t1 : W8.cell? ⟨b14, 1, none⟩ = some (.int .i64 qY) := (blk_cell g1 1).trans rfl
            have t2 : W8.cell? ⟨b14, 2, none⟩ = some (.int .i64 qW) := (blk_cell g1 2).trans rfl
            have t3 : W8.cell? ⟨b14, 3, none⟩ = some (.int .i64 qH) := (blk_cell g1 3).trans rfl
            have z0 : W8.cell? ⟨b11, 0, none⟩ = some (.int .i64 X) := (blk_cell HG8.out 0).trans rfl
            have z1 : W8.cell? ⟨b11, 1, none⟩ = some (.int .i64 Y) := (blk_cell HG8.out 1).trans rfl
            have z2 : W8.cell? ⟨b11, 2, none⟩ = some (.int .i64 m) := (blk_cell HG8.out 2).trans rfl
            have z3 : W8.cell? ⟨b11, 3, none⟩ = some (.int .i64 nn) := (blk_cell HG8.out 3).trans rfl
            clear p0 p1 p2 p3 al g1
            by_cases d1 : X < qX + qW
            · by_cases d2 : qX < X + m
              · have d3 := HAP.out d1 d2
                go_wp2_with fail
                go_roundw
                case rel => exact ⟨j + 1, by go_num, by omega, HI1⟩
                case measure => simp [intOf]; omega
              · go_wp2_with fail
                go_roundw
                case rel => exact ⟨j + 1, by go_num, by omega, HI1⟩
                case measure => simp [intOf]; omega
            · go_wp2_with fail
              go_roundw
              case rel => exact ⟨j + 1, by go_num, by omega, HI1⟩
              case measure => simp [intOf]; omega
          · have hjj : ¬ (j : Int) < (nr : Int) := by omega
            have HG8 := Lib.hid (blk_below HG7.out HI.out)
            have z0 : wr.cell? ⟨b11, 0, none⟩ = some (.int .i64 X) := (blk_cell HG8.out 0).trans rfl
            have z1 : wr.cell? ⟨b11, 1, none⟩ = some (.int .i64 Y) := (blk_cell HG8.out 1).trans rfl
            have z2 : wr.cell? ⟨b11, 2, none⟩ = some (.int .i64 m) := (blk_cell HG8.out 2).trans rfl
            have z3 : wr.cell? ⟨b11, 3, none⟩ = some (.int .i64 nn) := (blk_cell HG8.out 3).trans rfl
            have HO8 := Lib.hid (Kd.R_below HO7.out HI.out)
            have HS8 := Lib.hid (HS7.out.below HI.out)
            have HB8 := Lib.hid (below_step HB7.out HI.out)
            have HSX : Hid (∀ w9, Kept (fun k => (Value.slice Au nr cu).ownBlock = some k) wr w9 → SkyAt w9 g a b (putN hs X.toNat m.toNat (Y + nn))) := Lib.hid (fun w9 hk => by
              obtain ⟨ug, hug, -⟩ := HS8.out.row
              refine HS8.out.kept hk (fun e => Kd.R_ne HO8.out hug (show 31 ≠ 51 by decide) e.symm) (fun k hk cells hc => ?_)
              exact Kd.R_ne HO8.out hc (show 31 ≠ 53 by decide) hk.symm)
            go_wp2_with (at_builtin; refine Kd.R_append krc (w0 := w0) w0.heap.size rfl (.tmp 128) (.tmp 130) 39 31 _ 32 rfl Try.underlying39 infoRect rfl (by decide) (by omega) (.slice Au nr cu) rs (X, Y, m, nn) [.int .i64 X, .int .i64 Y, .int .i64 m, .int .i64 nn] (fun _ => True) (fun _ => False) rfl rfl ?aP (fun _ hk => hk.elim) (fun _ _ => trivial) HO8.out HB8.out HB8.out.size ?aL ?_; (case aP => exact krc_mkM _ _ _ (X, Y, m, nn)); (case aL => rw [HNR.out]; omega); intro v1 w9 ho hb hg9 hat; have m1 := Lib.hid ho; have m2 := Lib.hid hb; have m3 := Lib.hid (HSX.out _ (Kept.of_grownBy hg9)); clear ho hb hg9 hat)
            go_roundw
            case rel => exact ⟨k + 1, v1, _, rs ++ [(X, Y, m, nn)], rfl, by go_num, by omega, m3, m1, HU7, by rw [List.length_append, HNR.out, List.length_singleton]; omega, m2⟩
            case measure => simp [intOf]; omega
    · have hkk : ¬ (k : Int) < (M : Int) := by omega
      go_wp2_with fail
      go_ret
      exact ⟨rfl, HB.out⟩
end Go.Proofs.Ytphclfcidgljkaa
