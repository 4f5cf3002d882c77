/- SkyScript: the walk. -/
import Derived.Test.YtphclfcidgljkaaSkyLFit
import Derived.BigQuiet
set_option linter.unusedVariables false
set_option linter.unusedSimpArgs false
namespace Go.Proofs.Ytphclfcidgljkaa
open Go.RowKit Go.Proofs.YtphclfcidgljkaaW.PrintWords Go.Proofs.YtphclfcidgljkaaW.PrintLast Go.Proofs.YtphclfcidgljkaaW.PrintMore
theorem fitV_open {w h : Nat} {l : List Int} {m n : Int} (hw : w ≤ 64) (hh : h ≤ 64) (hl : ∀ x, 0 ≤ mxF x m 0 0 l ∧ mxF x m 0 0 l ≤ h) :
    ∃ (fx fy fm fn : Int) (fo : Bool), fitV m n (fitQ w h l m n) = .tuple #[.agg #[.int .i64 fx, .int .i64 fy, .int .i64 fm, .int .i64 fn], .bool fo] ∧ -3 ≤ fx ∧ fx ≤ 200 ∧ -3 ≤ fy ∧ fy ≤ 200 ∧ 0 ≤ fm ∧ fm ≤ 200 ∧ 0 ≤ fn ∧ fn ≤ 200 := by
  cases hf : fitQ w h l m n with
  | none => exact ⟨0, 0, 0, 0, false, rfl, by omega, by omega, by omega, by omega, by omega, by omega, by omega, by omega⟩
  | some b =>
    obtain ⟨h1, h2, h3, h4, h5, h6, h7, h8⟩ := fit_facts hf
    have := hl b.1
    exact ⟨b.1, b.2, m, n, true, rfl, by omega, by omega, by omega, by omega, by omega, by omega, by omega, by omega⟩
theorem putN_ends (hs : List Int) (X C : Nat) (v : Int) (h : X + C ≤ hs.length) : (putN hs X C v).take X ++ hs.drop X = hs ∧ (putN hs X C v).take (X + C) ++ hs.drop (X + C) = putN hs X C v := by
  unfold putN
  constructor
  · rw [List.take_append_of_le_length (by simp; omega), List.take_take, Nat.min_self, List.take_append_drop]
  · rw [← List.append_assoc, List.take_left' (by simp; omega)]
theorem sky_set {W : World} {g a b gw : Nat} {hs xs : List Int} (hS : SkyAt W g a b hs) (hR : RowAt W gw xs) (J : Nat) (v : Value) : SkyAt (W.setCell ⟨gw, J, none⟩ v) g a b hs := by
  obtain ⟨ug, hug, -⟩ := hS.row
  refine hS.kept (Kept.setCell (· = gw) W ⟨gw, J, none⟩ v rfl) (blk_ne hug hR (by decide)) (fun q hq cells hc => ?_)
  obtain rfl : q = gw := hq
  have hr : W.heap[q]? = some (.cells _ 3 (0, 0)) := hR
  rw [hr] at hc
  injection hc with hc
  injection hc with _ ht
  exact absurd ht (by decide)
attribute [local go_sem high] eqRect
attribute [local go_sem] cell_alloc max2_max min2_min max_two min_two
set_option maxHeartbeats 4000000 in
set_option maxRecDepth 100000 in
theorem skyScript_core (x y : Int) (hx : -128 ≤ x ∧ x ≤ 127) (hy : -128 ≤ y ∧ y ≤ 127) (A : Option Addr) (cap : Nat) (l : List Bx) (W : World) (rd : Kd.C kbx W A l.length l) (le : l.length ≤ cap)
    (wf : ∀ p ∈ l, (Lit.int .u8 p.1).wf = true ∧ (Lit.int .u8 p.2.1).wf = true ∧ (Lit.int .u8 p.2.2.1).wf = true ∧ (Lit.int .u8 p.2.2.2.1).wf = true) :
    Calls Try.prog 3 #[.int .i8 x, .int .i8 y, .slice A l.length cap] W fun e w' => e = .returned (.bool true) ∧ Below W.heap.size W w' := by
  obtain ⟨hx0, hx1⟩ := hx
  obtain ⟨hy0, hy1⟩ := hy
  have HOF := Lib.hid (fun W' => of_c W' x y)
  have hsx' := mm_side x
  have hsy' := mm_side y
  have hax := side_le x
  have hbx := side_le y
  obtain ⟨a, ha⟩ : ∃ a, side x = a := ⟨_, rfl⟩
  obtain ⟨b, hb⟩ : ∃ b, side y = b := ⟨_, rfl⟩
  rw [ha] at HOF hsx' hax
  rw [hb] at HOF hbx hsy'
  clear ha hb
  have hmx := rd.2.1
  obtain ⟨n, hn⟩ : ∃ n, l.length = n := ⟨_, rfl⟩
  rw [hn] at rd le hmx ⊢
  have RD := Lib.hid rd; have HN := Lib.hid hn; have WF := Lib.hid wf
  clear rd hn wf
  obtain ⟨M, hM, hMn, hM60⟩ := min_cut n 60
  have hM' : min (n : Int) 60 = (M : Int) := hM
  clear hM
  have hMc : M ≤ cap := by omega
  have hMi : (M : Int) ≤ (cap : Int) := by omega
  have hM0 : (0 : Int) ≤ (M : Int) := by omega
  have hmk := print_make (P := Try.prog) 27 3 .i64 8 Try.underlying27 infoInt (by omega) a (by omega)
  go_enter Try.func3, Try.ntmps3
  go_wp2_with fail
  refine (awake_c W).mono ?_
  rintro e w1 ⟨rfl, hb1⟩
  have B1 := Lib.hid hb1; clear hb1
  go_wp2_with fail
  refine (HOF.out w1).mono ?_
  rintro e w2 ⟨g, rfl, hg, hs, hb2⟩
  have al := below_alloc (Below.refl _ w2) (.cells (madeCells #[.int .i64 0] a) 3)
  have B2 := Lib.hid (below_step (below_step B1.out hb2) al)
  have S2 := Lib.hid (hs.below al)
  have hgW : W.heap.size ≤ g := by have := B1.out.size; omega
  have hwW : W.heap.size ≤ w2.heap.size := by have := (below_step B1.out hb2).size; omega
  have R2 : Hid (RowAt (w2.alloc (.cells (madeCells #[.int .i64 0] a) 3)) w2.heap.size (List.replicate a 0)) := Lib.hid (by
    have := heap_alloc_new w2 (.cells (madeCells #[.int .i64 0] a) 3)
    unfold RowAt
    rw [this, made_nums])
  clear hb2 hs HOF al
  obtain ⟨w0, rfl⟩ : ∃ w0 : World, w0 = W := ⟨_, rfl⟩
  go_upto_region 7 with (fail)
  generalize w2.alloc (.cells (madeCells #[.int .i64 0] a) 3) = W2 at *
  generalize w2.heap.size = gw at *
  clear hmk
  go_wp2_with fail
  go_loopw [44] (fun v44 W => ∃ (k : Nat) (hs : List Int), v44 = .int .i64 k ∧ k ≤ M ∧ Hid (SkyAt W g a b hs) ∧ Hid (RowAt W gw hs) ∧ Hid (Below w0.heap.size w0 W)) (fun v44 _ => M - (intOf v44).toNat)
  case atStart => exact ⟨0, _, rfl, Nat.zero_le _, S2, R2, B2⟩
  case round =>
    obtain ⟨k, hs, rfl, hk, HS, HR, HB⟩ := hrel
    have hla := HS.out.len
    by_cases hkM : k < M
    · have hkk : (k : Int) < (M : Int) := by omega
      obtain ⟨ad, eA⟩ := C_some RD.out (by omega)
      subst eA
      obtain ⟨bx, hbx⟩ : ∃ bx, l.getD k (0, 0, 0, 0, false) = bx := ⟨_, rfl⟩
      obtain ⟨p0, p1, p2, p3, p4⟩ := bx_at (Kd.C_below RD.out HB.out) k (by omega) bx hbx
      have hmem : bx ∈ l := by
        rw [← hbx, List.getD_eq_getElem?_getD, List.getElem?_eq_getElem (by rw [HN.out]; omega)]
        exact List.getElem_mem _
      obtain ⟨v0, v1, v2, v3⟩ := WF.out bx hmem
      obtain ⟨bW, bH, bX, bY, bF⟩ := bx
      have v00 : 0 ≤ bW := (wf8 v0).1
      have v01 : bW ≤ 255 := (wf8 v0).2
      have v10 : 0 ≤ bH := (wf8 v1).1
      have v11 : bH ≤ 255 := (wf8 v1).2
      have v20 : 0 ≤ bX := (wf8 v2).1
      have v21 : bX ≤ 255 := (wf8 v2).2
      have v30 : 0 ≤ bY := (wf8 v3).1
      have v31 : bY ≤ 255 := (wf8 v3).2
      have al := below_alloc (Below.refl _ wr) (.cells #[.int .u8 bW, .int .u8 bH, .int .u8 bX, .int .u8 bY, .bool bF] 29)
      have g1 := heap_alloc_new wr (.cells #[.int .u8 bW, .int .u8 bH, .int .u8 bX, .int .u8 bY, .bool bF] 29)
      have HS1 := Lib.hid (HS.out.below al)
      have HR1 : Hid (RowAt _ gw hs) := Lib.hid (blk_below HR.out al)
      have HB1 := Lib.hid (below_step HB.out al)
      clear v0 v1 v2 v3 hmem hbx HS HR HB
      go_upto_region 10 with (fail)
      generalize wr.alloc (.cells #[.int .u8 bW, .int .u8 bH, .int .u8 bX, .int .u8 bY, .bool bF] 29) = W1 at *
      generalize wr.heap.size = bP at *
      have s0 : W1.cell? ⟨bP, 0, none⟩ = some (.int .u8 bW) := (blk_cell g1 0).trans rfl
      have s1 : W1.cell? ⟨bP, 1, none⟩ = some (.int .u8 bH) := (blk_cell g1 1).trans rfl
      have HG1 := Lib.hid g1
      clear p0 p1 p2 p3 p4 al g1
      go_quiet (fail)
      obtain ⟨Wq, hWq⟩ : ∃ Wq, W1.drewN nq = Wq := ⟨_, rfl⟩
      have bq : Below W1.heap.size W1 (W1.drewN nq) := pw_below_drewN (Below.refl _ W1) nq
      have HSq := Lib.hid (HS1.out.below bq)
      have HRq : Hid (RowAt (W1.drewN nq) gw hs) := Lib.hid (blk_below HR1.out bq)
      have HBq := Lib.hid (below_step HB1.out bq)
      have HGq := Lib.hid (blk_below HG1.out bq)
      rw [hWq] at HSq HRq HBq HGq
      rw [hWq]
      clear hWq bq HS1 HR1 HB1 HG1 s0 s1
      obtain ⟨m, hm⟩ : ∃ m, bW % 20 = m := ⟨_, rfl⟩
      obtain ⟨nn, hnn⟩ : ∃ nn, bH % 20 = nn := ⟨_, rfl⟩
      have m0 : 0 ≤ m := by omega
      have m1 : m ≤ 20 := by omega
      have n0 : 0 ≤ nn := by omega
      have n1 : nn ≤ 20 := by omega
      rw [hm, hnn]
      have hys := HSq.out.ys
      have HLF := Lib.hid (fun W' hR => lfit_c W' gw a b hs hR hla hax hbx hys m nn)
      obtain ⟨fx, fy, fm, fn, fo, hF, f0, f1, f2, f3, f4, f5, f6, f7⟩ := fitV_open (w := a) (h := b) (l := hs) (m := m) (n := nn) hax hbx (fun x => mx_bound x m b hs 0 0 (fun y hy => (hys y hy).2) (by omega))
      have HFT := Lib.hid (fit_c Wq g a b hs HSq.out m nn)
      rw [hF] at HLF HFT
      clear hm hnn hys hF
      go_wp2_with fail
      refine HFT.out.mono ?_
      rintro e w5 ⟨rfl, hb5⟩
      have al5 := below_alloc (Below.refl _ w5) (.cells #[.int .i64 fx, .int .i64 fy, .int .i64 fm, .int .i64 fn] 31)
      have g14 := heap_alloc_new w5 (.cells #[.int .i64 fx, .int .i64 fy, .int .i64 fm, .int .i64 fn] 31)
      have HS5 := Lib.hid ((HSq.out.below hb5).below al5)
      have HR5 : Hid (RowAt _ gw hs) := Lib.hid (blk_below (blk_below HRq.out hb5) al5)
      have HB5 := Lib.hid (below_step (below_step HBq.out hb5) al5)
      have HG5 := Lib.hid (blk_below (blk_below HGq.out hb5) al5)
      have G14 := Lib.hid g14
      have hb14 : w0.heap.size ≤ w5.heap.size := (below_step HBq.out hb5).size
      clear hb5 HSq HRq HBq HGq HFT al5 g14
      go_upto_region 12 with (fail)
      generalize w5.alloc (.cells #[.int .i64 fx, .int .i64 fy, .int .i64 fm, .int .i64 fn] 31) = W5 at *
      generalize w5.heap.size = b14 at *
      have HL := Lib.hid (HLF.out W5 HR5.out)
      clear HLF
      go_wp2_with fail
      refine HL.out.mono ?_
      rintro e w6 ⟨rfl, hb6⟩
      have al6 := below_alloc (Below.refl _ w6) (.cells #[.int .i64 fx, .int .i64 fy, .int .i64 fm, .int .i64 fn] 31)
      have g16 := heap_alloc_new w6 (.cells #[.int .i64 fx, .int .i64 fy, .int .i64 fm, .int .i64 fn] 31)
      have HS6 := Lib.hid ((HS5.out.below hb6).below al6)
      have HR6 : Hid (RowAt _ gw hs) := Lib.hid (blk_below (blk_below HR5.out hb6) al6)
      have HB6 := Lib.hid (below_step (below_step HB5.out hb6) al6)
      have HG6 := Lib.hid (blk_below (blk_below HG5.out hb6) al6)
      have K14 := Lib.hid (blk_below (blk_below G14.out hb6) al6)
      clear hb6 HS5 HR5 HB5 HG5 G14 HL al6
      go_upto_region 13 with (fail)
      generalize w6.alloc (.cells #[.int .i64 fx, .int .i64 fy, .int .i64 fm, .int .i64 fn] 31) = W6 at *
      generalize w6.heap.size = b16 at *
      have y0 : W6.cell? ⟨b14, 0, none⟩ = some (.int .i64 fx) := (blk_cell K14.out 0).trans rfl
      have y1 : W6.cell? ⟨b14, 1, none⟩ = some (.int .i64 fy) := (blk_cell K14.out 1).trans rfl
      have y2 : W6.cell? ⟨b14, 2, none⟩ = some (.int .i64 fm) := (blk_cell K14.out 2).trans rfl
      have y3 : W6.cell? ⟨b14, 3, none⟩ = some (.int .i64 fn) := (blk_cell K14.out 3).trans rfl
      have z0 : W6.cell? ⟨b16, 0, none⟩ = some (.int .i64 fx) := (blk_cell g16 0).trans rfl
      have z1 : W6.cell? ⟨b16, 1, none⟩ = some (.int .i64 fy) := (blk_cell g16 1).trans rfl
      have z2 : W6.cell? ⟨b16, 2, none⟩ = some (.int .i64 fm) := (blk_cell g16 2).trans rfl
      have z3 : W6.cell? ⟨b16, 3, none⟩ = some (.int .i64 fn) := (blk_cell g16 3).trans rfl
      have x0 : W6.cell? ⟨bP, 0, none⟩ = some (.int .u8 bW) := (blk_cell HG6.out 0).trans rfl
      have x1 : W6.cell? ⟨bP, 1, none⟩ = some (.int .u8 bH) := (blk_cell HG6.out 1).trans rfl
      have x2 : W6.cell? ⟨bP, 2, none⟩ = some (.int .u8 bX) := (blk_cell HG6.out 2).trans rfl
      have x3 : W6.cell? ⟨bP, 3, none⟩ = some (.int .u8 bY) := (blk_cell HG6.out 3).trans rfl
      have x4 : W6.cell? ⟨bP, 4, none⟩ = some (.bool bF) := (blk_cell HG6.out 4).trans rfl
      have e0 : (fx == fx) = true := by simp
      have e1 : (fy == fy) = true := by simp
      have e2 : (fm == fm) = true := by simp
      have e3 : (fn == fn) = true := by simp
      have e4 : (fo != fo) = false := by simp
      have t0 := blk_frozen K14.out 0; have t1 := blk_frozen K14.out 1; have t2 := blk_frozen K14.out 2; have t3 := blk_frozen K14.out 3
      go_upto_if 80 with (fail)
      clear g16 z0 z1 z2 z3 e0 e1 e2 e3 e4 x0 x1 x4
      go_cut [14] (fun v14 W => v14 = .pointer (some ⟨b14, 0, none⟩) ∧ ∃ rx ry rm rn : Int, -3 ≤ rx ∧ rx ≤ 200 ∧ -3 ≤ ry ∧ ry ≤ 200 ∧ 0 ≤ rm ∧ rm ≤ 200 ∧ 0 ≤ rn ∧ rn ≤ 200 ∧ Hid (W.heap[b14]? = some (.cells #[.int .i64 rx, .int .i64 ry, .int .i64 rm, .int .i64 rn] 31 (0, 0))) ∧ Hid (SkyAt W g a b hs) ∧ Hid (RowAt W gw hs) ∧ Hid (Below w0.heap.size w0 W))
      case first =>
        cases bF with
        | false =>
          go_wp2_with fail
          go_meet
          case rel => exact ⟨rfl, fx, fy, fm, fn, f0, f1, f2, f3, f4, f5, f6, f7, K14, HS6, HR6, HB6⟩
        | true =>
          go_wp2_with fail
          go_meet
          case rel =>
            obtain ⟨k1, k2⟩ := set4 W6 b14 _ _ _ _ (.int .i64 (bX % 70 - 3)) (.int .i64 (bY % 70 - 3)) (.int .i64 m) (.int .i64 nn) _ K14.out
            obtain ⟨ug, hug, -⟩ := HS6.out.row
            exact ⟨rfl, bX % 70 - 3, bY % 70 - 3, m, nn, by omega, by omega, by omega, by omega, by omega, by omega, by omega, by omega, Lib.hid k1, Lib.hid (HS6.out.kept k2 (blk_ne hug K14.out (by decide)) (fun q hq cells hc => by subst hq; rw [K14.out] at hc; injection hc with hc; injection hc with _ ht; exact absurd ht (by decide))), Lib.hid (k2.get HR6.out (blk_ne HR6.out K14.out (by decide))), Lib.hid (HB6.out.trans (k2.below HB6.out.size (fun q hq => by subst hq; exact hb14)))⟩
      case rest =>
        obtain ⟨rfl, rx, ry, rm, rn, r0, r1, r2, r3, r4, r5, r6, r7, K, HS, HR, HB⟩ := hcut
        clear K14 HS6 HR6 HB6 HG6 y0 y1 y2 y3 x2 x3 t0 t1 t2 t3 f0 f1 f2 f3 f4 f5 f6 f7
        obtain ⟨w7, rfl⟩ : ∃ w7 : World, w7 = wc := ⟨_, rfl⟩
        have y0 : w7.cell? ⟨b14, 0, none⟩ = some (.int .i64 rx) := (blk_cell K.out 0).trans rfl
        have y1 : w7.cell? ⟨b14, 1, none⟩ = some (.int .i64 ry) := (blk_cell K.out 1).trans rfl
        have y2 : w7.cell? ⟨b14, 2, none⟩ = some (.int .i64 rm) := (blk_cell K.out 2).trans rfl
        have y3 : w7.cell? ⟨b14, 3, none⟩ = some (.int .i64 rn) := (blk_cell K.out 3).trans rfl
        have hR0 := (mx_bound rx rm b hs 0 0 (fun y hy => (HS.out.ys y hy).2) (by omega)).1
        have hput : PutOk a b hs rx ry rm rn ↔ (0 < rm ∧ 0 < rn ∧ 0 ≤ rx ∧ rx + rm ≤ a ∧ ry + rn ≤ b ∧ mxF rx rm 0 0 hs ≤ ry) := by
          unfold PutOk; omega
        have HP := Lib.hid hput
        clear hput
        go_upto_region 17 with (fail)
        go_cut [18] (fun v18 W => v18 = .bool (decide (PutOk a b hs rx ry rm rn)) ∧ Hid (Below w7.heap.size w7 W))
        case first =>
          have HOV := Lib.hid (fun q => lover_c (w7.drewN q) gw hs (blk_below HR.out (pw_below_drewN (Below.refl _ w7) q)) (by omega) rx rm)
          rw [hla] at HOV
          obtain ⟨D, hD⟩ : ∃ D, decide (0 < rm ∧ 0 < rn ∧ 0 ≤ rx ∧ rx + rm ≤ (a : Int) ∧ ry + rn ≤ (b : Int) ∧ mxF rx rm 0 0 hs ≤ ry) = D := ⟨_, rfl⟩
          have HPD : Hid (decide (PutOk a b hs rx ry rm rn) = D) := Lib.hid (by rw [← hD]; exact decide_eq_decide.2 HP.out)
          obtain ⟨R, hR⟩ : ∃ R, mxF rx rm 0 0 hs = R := ⟨_, rfl⟩
          rw [hR] at hD HOV
          clear hR hR0
          by_cases q1 : 0 < rm
          · have d1 : decide (0 < rm) = true := by simp [q1]
            by_cases q2 : 0 < rn
            · have d2 : decide (0 < rn) = true := by simp [q2]
              by_cases q3 : 0 ≤ rx
              · have d3 : decide (0 ≤ rx) = true := by simp [q3]
                have hmx0 : max 0 rx = rx := by omega
                by_cases q4 : rx + rm ≤ (a : Int)
                · have d4 : decide (rx + rm ≤ (a : Int)) = true := by simp [q4]
                  by_cases q5 : ry + rn ≤ (b : Int)
                  · have d5 : decide (ry + rn ≤ (b : Int)) = true := by simp [q5]
                    have hD2 : D = decide (R ≤ ry) := by rw [← hD]; simp [q1, q2, q3, q4, q5]
                    have HO2 := Lib.hid (fun q => HOV.out q q3 (by omega) (by omega) (by omega))
                    have HD2 := Lib.hid hD2
                    clear hD hD2 HOV
                    go_quiet ((go_at_call 14; exact Calls.quiet_of_same (HO2.out _)))
                    go_wp2_with fail
                    go_meet
                    case rel => exact ⟨by rw [HPD.out, HD2.out], Lib.hid (pw_below_drewN (Below.refl _ w7) nq)⟩
                  · have d5 : decide (ry + rn ≤ (b : Int)) = false := by simp; omega
                    have hPN : decide (PutOk a b hs rx ry rm rn) = false := decide_eq_false (fun h => by have := HP.out.1 h; omega)
                    have HPN := Lib.hid hPN
                    clear hPN hD HOV
                    go_quiet (fail)
                    go_wp2_with fail
                    go_meet
                    case rel => exact ⟨by rw [HPN.out], Lib.hid (pw_below_drewN (Below.refl _ w7) nq)⟩
                · have d4 : decide (rx + rm ≤ (a : Int)) = false := by simp; omega
                  have hPN : decide (PutOk a b hs rx ry rm rn) = false := decide_eq_false (fun h => by have := HP.out.1 h; omega)
                  have HPN := Lib.hid hPN
                  clear hPN hD HOV
                  go_quiet (fail)
                  go_wp2_with fail
                  go_meet
                  case rel => exact ⟨by rw [HPN.out], Lib.hid (pw_below_drewN (Below.refl _ w7) nq)⟩
              · have d3 : decide (0 ≤ rx) = false := by simp; omega
                have hPN : decide (PutOk a b hs rx ry rm rn) = false := decide_eq_false (fun h => by have := HP.out.1 h; omega)
                have HPN := Lib.hid hPN
                clear hPN hD HOV
                go_quiet (fail)
                go_wp2_with fail
                go_meet
                case rel => exact ⟨by rw [HPN.out], Lib.hid (pw_below_drewN (Below.refl _ w7) nq)⟩
            · have d2 : decide (0 < rn) = false := by simp; omega
              have hPN : decide (PutOk a b hs rx ry rm rn) = false := decide_eq_false (fun h => by have := HP.out.1 h; omega)
              have HPN := Lib.hid hPN
              clear hPN hD HOV
              go_quiet (fail)
              go_wp2_with fail
              go_meet
              case rel => exact ⟨by rw [HPN.out], Lib.hid (pw_below_drewN (Below.refl _ w7) nq)⟩
          · have d1 : decide (0 < rm) = false := by simp; omega
            have hPN : decide (PutOk a b hs rx ry rm rn) = false := decide_eq_false (fun h => by have := HP.out.1 h; omega)
            have HPN := Lib.hid hPN
            clear hPN hD HOV
            go_quiet (fail)
            go_wp2_with fail
            go_meet
            case rel => exact ⟨by rw [HPN.out], Lib.hid (pw_below_drewN (Below.refl _ w7) nq)⟩
        case rest =>
          obtain ⟨rfl, hbc⟩ := hcut
          have HSc := Lib.hid (HS.out.below hbc.out)
          have HRc : Hid (RowAt wc gw hs) := Lib.hid (blk_below HR.out hbc.out)
          have HBc := Lib.hid (below_step HB.out hbc.out)
          have Kc := Lib.hid (blk_below K.out hbc.out)
          clear HS HR HB K hbc y0 y1 y2 y3 HP hR0
          have y0 : wc.cell? ⟨b14, 0, none⟩ = some (.int .i64 rx) := (blk_cell Kc.out 0).trans rfl
          have y1 : wc.cell? ⟨b14, 1, none⟩ = some (.int .i64 ry) := (blk_cell Kc.out 1).trans rfl
          have y2 : wc.cell? ⟨b14, 2, none⟩ = some (.int .i64 rm) := (blk_cell Kc.out 2).trans rfl
          have y3 : wc.cell? ⟨b14, 3, none⟩ = some (.int .i64 rn) := (blk_cell Kc.out 3).trans rfl
          have HPT := Lib.hid (put_c wc g a b hs HSc.out rx ry rm rn)
          by_cases hok : PutOk a b hs rx ry rm rn
          · rw [decide_eq_true hok]
            have HOK := Lib.hid hok
            have hbb : (true != true) = false := rfl
            clear hok
            go_wp2_with fail
            refine HPT.out.mono ?_
            rintro e w9 ⟨rfl, hp1, hp2⟩
            rw [decide_eq_true HOK.out]
            obtain ⟨q1, q2⟩ := hp1 HOK.out
            obtain ⟨ug, hug, -⟩ := HSc.out.row
            obtain ⟨o1, o2, o3, o4, o5, o6, o7, o8⟩ := HOK.out
            obtain ⟨X, rfl⟩ := Int.eq_ofNat_of_zero_le o3
            obtain ⟨C, rfl⟩ := Int.eq_ofNat_of_zero_le r4
            rw [Int.toNat_natCast, Int.toNat_natCast] at q1
            have hends := putN_ends hs X C (ry + rn) (by omega)
            have hat : ∀ j : Nat, X ≤ j → j < X + C → (putN hs X C (ry + rn)).getD j 0 = ry + rn := fun j h1 h2 => by
              rw [putN_get _ _ _ _ (by omega) _ (by omega), if_pos ⟨h1, h2⟩]
            have HR9 : Hid (RowAt w9 gw hs) := Lib.hid (q2.get HRc.out (blk_ne HRc.out hug (by decide)))
            have HB9 := Lib.hid (HBc.out.trans (q2.below HBc.out.size (fun k hk => by subst hk; exact hgW)))
            have K9 := Lib.hid (q2.get Kc.out (blk_ne Kc.out hug (by decide)))
            have HS9 := Lib.hid q1
            clear hp1 hp2 q1 q2 hug HSc HRc HBc Kc HPT HOK y0 y1 y2 y3
            generalize putN hs X C (ry + rn) = hs' at *
            have y0 : w9.cell? ⟨b14, 0, none⟩ = some (.int .i64 X) := (blk_cell K9.out 0).trans rfl
            have y1 : w9.cell? ⟨b14, 1, none⟩ = some (.int .i64 ry) := (blk_cell K9.out 1).trans rfl
            have y2 : w9.cell? ⟨b14, 2, none⟩ = some (.int .i64 C) := (blk_cell K9.out 2).trans rfl
            have y3 : w9.cell? ⟨b14, 3, none⟩ = some (.int .i64 rn) := (blk_cell K9.out 3).trans rfl
            have HE := Lib.hid hends; have HAT := Lib.hid hat; have HLA := Lib.hid hla
            clear hends hat hla
            go_wp2_with fail
            go_loopw [19] (fun v19 W => ∃ J : Nat, v19 = .int .i64 J ∧ X ≤ J ∧ J ≤ X + C ∧ Hid (SkyAt W g a b hs') ∧ Hid (RowAt W gw (hs'.take J ++ hs.drop J)) ∧ Hid (W.heap[b14]? = some (.cells #[.int .i64 X, .int .i64 ry, .int .i64 C, .int .i64 rn] 31 (0, 0))) ∧ Hid (Below w0.heap.size w0 W)) (fun v19 _ => X + C - (intOf v19).toNat)
            case atStart => exact ⟨X, rfl, Nat.le_refl _, by omega, HS9, Lib.hid (by rw [HE.out.1]; exact HR9.out), K9, HB9⟩
            case round =>
              obtain ⟨J, rfl, hJ0, hJ1, HS, HR, K, HB⟩ := hrel
              clear y0 y1 y2 y3
              have y0 : wr.cell? ⟨b14, 0, none⟩ = some (.int .i64 X) := (blk_cell K.out 0).trans rfl
              have y1 : wr.cell? ⟨b14, 1, none⟩ = some (.int .i64 ry) := (blk_cell K.out 1).trans rfl
              have y2 : wr.cell? ⟨b14, 2, none⟩ = some (.int .i64 C) := (blk_cell K.out 2).trans rfl
              have y3 : wr.cell? ⟨b14, 3, none⟩ = some (.int .i64 rn) := (blk_cell K.out 3).trans rfl
              by_cases hJ : J < X + C
              · have hJi : (J : Int) < (X : Int) + (C : Int) := by omega
                have hJa : (J : Int) < (a : Int) := by omega
                have hl1 := HS.out.len
                have hl2 := HLA.out
                have hset := set_next hs' hs J (by omega) (by omega)
                rw [HAT.out J hJ0 hJ] at hset
                have c1 := blk_frozen HR.out J
                have c0 := HR.out.cell J (by simp; omega)
                have t1 : Hid (RowAt (wr.setCell ⟨gw, J, none⟩ (.int .i64 (ry + rn))) gw (hs'.take (J + 1) ++ hs.drop (J + 1))) := Lib.hid (by rw [← hset]; exact HR.out.set J _)
                have t2 := Lib.hid (sky_set HS.out HR.out J (.int .i64 (ry + rn)))
                have t3 := Lib.hid (blk_far K.out (p := ⟨gw, J, none⟩) (blk_ne K.out HR.out (by decide)) (.int .i64 (ry + rn)))
                have t4 := Lib.hid (HB.out.setCell (p := ⟨gw, J, none⟩) hwW (.int .i64 (ry + rn)))
                clear hset hl1 hl2
                go_wp2_with fail
                go_roundw
                case rel => exact ⟨J + 1, by go_num, by omega, by omega, t2, t1, t3, t4⟩
                case measure => simp [intOf]; omega
              · have hJi : ¬ (J : Int) < (X : Int) + (C : Int) := by omega
                obtain rfl : J = X + C := by omega
                have HR2 : Hid (RowAt wr gw hs') := Lib.hid (by have := HR.out; rw [HE.out.2] at this; exact this)
                have HSH := Lib.hid (shows_c wr g a b hs' HS.out gw HR2.out)
                clear HR
                go_wp2_with fail
                refine HSH.out.mono ?_
                rintro e w8 ⟨rfl, hb8⟩
                have t1 : Hid (RowAt w8 gw hs') := Lib.hid (blk_below HR2.out hb8)
                have t2 := Lib.hid (HS.out.below hb8)
                have t4 := Lib.hid (below_step HB.out hb8)
                clear hb8
                go_wp2_with fail
                go_roundw
                case rel => exact ⟨k + 1, hs', by go_num, by omega, t2, t1, t4⟩
                case measure => simp [intOf]; omega
          · rw [decide_eq_false hok]
            have HOK := Lib.hid hok
            have hbb : (false != false) = false := rfl
            clear hok
            go_wp2_with fail
            refine HPT.out.mono ?_
            rintro e w9 ⟨rfl, hp1, hp2⟩
            rw [decide_eq_false HOK.out]
            have q2 := hp2 HOK.out
            have HR9 : Hid (RowAt w9 gw hs) := Lib.hid (blk_below HRc.out q2)
            have HB9 := Lib.hid (below_step HBc.out q2)
            have K9 := Lib.hid (blk_below Kc.out q2)
            have HS9 := Lib.hid (HSc.out.below q2)
            clear hp1 hp2 q2 HSc HRc HBc Kc HPT HOK y0 y1 y2 y3
            have y0 : w9.cell? ⟨b14, 0, none⟩ = some (.int .i64 rx) := (blk_cell K9.out 0).trans rfl
            go_wp2_with fail
            go_loopw [19] (fun v19 W => v19 = .int .i64 rx ∧ Hid (SkyAt W g a b hs) ∧ Hid (RowAt W gw hs) ∧ Hid (Below w0.heap.size w0 W)) (fun v19 _ => 0)
            case atStart => exact ⟨rfl, HS9, HR9, HB9⟩
            case round =>
              obtain ⟨rfl, HS, HR, HB⟩ := hrel
              have HSH := Lib.hid (shows_c wr g a b hs HS.out gw HR.out)
              go_wp2_with fail
              refine HSH.out.mono ?_
              rintro e w8 ⟨rfl, hb8⟩
              have t1 : Hid (RowAt w8 gw hs) := Lib.hid (blk_below HR.out hb8)
              have t2 := Lib.hid (HS.out.below hb8)
              have t4 := Lib.hid (below_step HB.out hb8)
              clear hb8
              go_wp2_with fail
              go_roundw
              case rel => exact ⟨k + 1, hs, by go_num, by omega, t2, t1, t4⟩
              case measure => simp [intOf]; omega
    · have hkk : ¬ (k : Int) < (M : Int) := by omega
      go_wp2_with fail
      refine (shows_c wr g a b hs HS.out gw HR.out).mono ?_
      rintro e w6 ⟨rfl, hb6⟩
      have HB6 := Lib.hid (below_step HB.out hb6)
      clear hb6
      go_wp2_with fail
      go_ret
      exact ⟨rfl, HB6.out⟩
end Go.Proofs.Ytphclfcidgljkaa
