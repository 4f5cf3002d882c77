/- SkyRebuild: the walk. -/
import Derived.Test.YtphclfcidgljkaaSkyShows
import Derived.StillTailTactics
set_option linter.unusedVariables false
set_option linter.unusedSimpArgs false
namespace Go.Proofs.Ytphclfcidgljkaa
open Go.RowKit Go.Proofs.YtphclfcidgljkaaW.PrintWords Go.Proofs.YtphclfcidgljkaaW.PrintLast Go.Proofs.YtphclfcidgljkaaW.PrintMore
theorem tmod_bound (x : Int) : -1048576 < Int.tmod x 1048576 ∧ Int.tmod x 1048576 < 1048576 := by
  have h1 := Int.tmod_lt_of_pos x (show (0 : Int) < 1048576 by omega)
  have h2 : -1048576 < Int.tmod x 1048576 := by
    have := Int.tmod_lt_of_pos (-x) (show (0 : Int) < 1048576 by omega)
    rw [Int.neg_tmod] at this
    omega
  exact ⟨h2, h1⟩
theorem rb_nil (a b : Nat) : rbL a b [] = List.replicate a 0 := by
  apply List.ext_getElem (by simp [rbL])
  intro i h1 h2
  simp [rbL, rbF]
def rmod (r : Rc) : Rc := (Int.tmod r.1 1048576, Int.tmod r.2.1 1048576, Int.tmod r.2.2.1 1048576, Int.tmod r.2.2.2 1048576)
def Small (rs : List Rc) : Prop := ∀ r ∈ rs, -10000000 ≤ r.1 ∧ r.1 ≤ 10000000 ∧ -10000000 ≤ r.2.1 ∧ r.2.1 ≤ 10000000 ∧ -10000000 ≤ r.2.2.1 ∧ r.2.2.1 ≤ 10000000 ∧ -10000000 ≤ r.2.2.2 ∧ r.2.2.2 ≤ 10000000
theorem rb_get (a b : Nat) (rs : List Rc) (j : Nat) (hj : j < a) : (rbL a b rs).getD j 0 = rbF b j 0 rs := by
  have hl : j < (rbL a b rs).length := by simp [rbL]; exact hj
  rw [List.getD_eq_getElem?_getD, List.getElem?_eq_getElem hl]
  simp [rbL]
theorem rb_len (a b : Nat) (rs : List Rc) : (rbL a b rs).length = a := by simp [rbL]
attribute [local go_sem] cell_alloc max2_max min2_min max_two min_two
set_option maxHeartbeats 4000000 in
set_option maxRecDepth 100000 in
theorem skyRebuild_core (x y : Int) (hx : -128 ≤ x ∧ x ≤ 127) (hy : -128 ≤ y ∧ y ≤ 127) (A : Option Addr) (cap : Nat) (l : List Rc) (W : World) (rd : Kd.C krc W A l.length l) (le : l.length ≤ cap)
    (wf : ∀ p ∈ l, (Lit.int .i64 p.1).wf = true ∧ (Lit.int .i64 p.2.1).wf = true ∧ (Lit.int .i64 p.2.2.1).wf = true ∧ (Lit.int .i64 p.2.2.2).wf = true) :
    Calls Try.prog 4 #[.int .i8 x, .int .i8 y, .slice A l.length cap] W fun e w' => e = .returned (.bool true) ∧ Below W.heap.size W w' := by
  obtain ⟨hx0, hx1⟩ := hx
  obtain ⟨hy0, hy1⟩ := hy
  have hsx' := mm_side x
  have hsy' := mm_side y
  have hax := side_le x
  have hbx := side_le y
  have HREB := Lib.hid (fun W' A c rs rd h1 h2 => rebuild_c W' x y A c rs rd h1 h2)
  obtain ⟨a, ha⟩ : ∃ a, side x = a := ⟨_, rfl⟩
  obtain ⟨b, hb⟩ : ∃ b, side y = b := ⟨_, rfl⟩
  rw [ha] at hax hsx' HREB
  rw [hb] at hbx hsy' HREB
  clear ha hb
  have hmx := rd.2.1
  obtain ⟨n, hn⟩ : ∃ n, l.length = n := ⟨_, rfl⟩
  rw [hn] at rd le hmx ⊢
  have RD := Lib.hid rd; have HN := Lib.hid hn
  clear rd hn wf
  obtain ⟨M, hM, hMn, hM60⟩ := min_cut n 30
  have hM' : min (n : Int) 30 = (M : Int) := hM
  clear hM
  have hMc : M ≤ cap := by omega
  have hMi : (M : Int) ≤ (cap : Int) := by omega
  have hM0 : (0 : Int) ≤ (M : Int) := by omega
  have hmk := print_make (P := Try.prog) 27 3 .i64 8 Try.underlying27 infoInt (by omega) a (by omega)
  go_enter Try.func4, Try.ntmps4
  go_wp2_with fail
  refine (awake_c W).mono ?_
  rintro e w1 ⟨rfl, hb1⟩
  have al := below_alloc (Below.refl _ w1) (.cells (madeCells #[.int .i64 0] a) 3)
  have B2 := Lib.hid (below_step hb1 al)
  have hwW : W.heap.size ≤ w1.heap.size := hb1.size
  have R2 : Hid (RowAt (w1.alloc (.cells (madeCells #[.int .i64 0] a) 3)) w1.heap.size (rbL a b [])) := Lib.hid (by
    have := heap_alloc_new w1 (.cells (madeCells #[.int .i64 0] a) 3)
    unfold RowAt
    rw [this, made_nums, rb_nil])
  clear hb1 al
  obtain ⟨w0, rfl⟩ : ∃ w0 : World, w0 = W := ⟨_, rfl⟩
  go_upto_region 4 with (fail)
  generalize w1.alloc (.cells (madeCells #[.int .i64 0] a) 3) = W2 at *
  generalize w1.heap.size = gw at *
  clear hmk
  go_wp2_with fail
  go_loopw [9, 31] (fun v9 v31 W => ∃ (k : Nat) (u : Value) (fs : List Rc), v9 = u ∧ v31 = .int .i64 k ∧ k ≤ M ∧ Hid (RowAt W gw (rbL a b fs)) ∧ Hid (Kd.R krc 31 W w0.heap.size (fun _ => True) u fs) ∧ Hid (Small fs) ∧ fs.length = k ∧ Hid (Below w0.heap.size w0 W)) (fun _ v31 _ => M - (intOf v31).toNat)
  case atStart => exact ⟨0, _, [], rfl, rfl, Nat.zero_le _, R2, Lib.hid (Kd.R_nil _ _ _ _ _), Lib.hid (fun r hr => by simp at hr), rfl, B2⟩
  case round =>
    obtain ⟨k, u, fs, rfl, rfl, hk, HR, HO, HSM, hfk, HB⟩ := hrel
    obtain ⟨Au, cu, eu⟩ := Kd.R_slice HO.out
    rw [hfk] at eu
    subst eu
    have HFK := Lib.hid hfk
    clear hfk
    by_cases hkM : k < M
    · have hkk : (k : Int) < (M : Int) := by omega
      obtain ⟨ad, eA⟩ := C_some RD.out (by omega)
      subst eA
      obtain ⟨r, hr⟩ : ∃ r, l.getD k (0, 0, 0, 0) = r := ⟨_, rfl⟩
      obtain ⟨p0, p1, p2, p3⟩ := rc_at (Kd.C_below RD.out HB.out) k (by omega) r hr
      obtain ⟨rX, rY, rW, rH⟩ := r
      clear hr
      have al := below_alloc (Below.refl _ wr) (.cells #[.int .i64 rX, .int .i64 rY, .int .i64 rW, .int .i64 rH] 31)
      have g1 := heap_alloc_new wr (.cells #[.int .i64 rX, .int .i64 rY, .int .i64 rW, .int .i64 rH] 31)
      have HR1 : Hid (RowAt _ gw (rbL a b fs)) := Lib.hid (blk_below HR.out al)
      have HO1 := Lib.hid (Kd.R_below HO.out al)
      have HB1 := Lib.hid (below_step HB.out al)
      have hne : Hid (∀ q, (Value.slice Au k cu).ownBlock = some q → q ≠ wr.heap.size) := Lib.hid (fun q hq e => by obtain ⟨inner, ho⟩ := Kd.R_own HO.out; have := own_lt ho q hq; omega)
      have hbW : w0.heap.size ≤ wr.heap.size := HB.out.size
      clear HR HO HB
      go_upto_region 8 with (fail)
      generalize wr.alloc (.cells #[.int .i64 rX, .int .i64 rY, .int .i64 rW, .int .i64 rH] 31) = W1 at *
      generalize wr.heap.size = bP at *
      have s0 : W1.cell? ⟨bP, 0, none⟩ = some (.int .i64 rX) := (blk_cell g1 0).trans rfl
      have s1 : W1.cell? ⟨bP, 1, none⟩ = some (.int .i64 rY) := (blk_cell g1 1).trans rfl
      have s2 : W1.cell? ⟨bP, 2, none⟩ = some (.int .i64 rW) := (blk_cell g1 2).trans rfl
      have s3 : W1.cell? ⟨bP, 3, none⟩ = some (.int .i64 rH) := (blk_cell g1 3).trans rfl
      have t0 := blk_frozen g1 0
      have t1 := blk_frozen g1 1
      have t2 := blk_frozen g1 2
      have t3 := blk_frozen g1 3
      clear p0 p1 p2 p3 al
      obtain ⟨qX, hqX⟩ : ∃ q, rX.tmod 1048576 = q := ⟨_, rfl⟩
      obtain ⟨qY, hqY⟩ : ∃ q, rY.tmod 1048576 = q := ⟨_, rfl⟩
      obtain ⟨qW, hqW⟩ : ∃ q, rW.tmod 1048576 = q := ⟨_, rfl⟩
      obtain ⟨qH, hqH⟩ : ∃ q, rH.tmod 1048576 = q := ⟨_, rfl⟩
      have bX := tmod_bound rX; have bY := tmod_bound rY; have bW := tmod_bound rW; have bH := tmod_bound rH
      rw [hqX] at bX; rw [hqY] at bY; rw [hqW] at bW; rw [hqH] at bH
      obtain ⟨bX0, bX1⟩ := bX
      obtain ⟨bY0, bY1⟩ := bY
      obtain ⟨bW0, bW1⟩ := bW
      obtain ⟨bH0, bH1⟩ := bH
      obtain ⟨m1, m2⟩ := set4 W1 bP _ _ _ _ (.int .i64 qX) (.int .i64 qY) (.int .i64 qW) (.int .i64 qH) _ g1
      have HR3 : Hid (RowAt _ gw (rbL a b fs)) := Lib.hid (m2.get HR1.out (blk_ne HR1.out g1 (by decide)))
      have HO3 : Hid (Kd.R krc 31 _ w0.heap.size (fun _ => True) (.slice Au k cu) fs) := Lib.hid (Kd.R_mono (Kd.R_step (Kd.R_tight rfl HO1.out) (fun q hq hlt => m2.block q hlt (fun e => hne.out q hq.symm e))) (fun _ _ => trivial))
      have HB3 := Lib.hid (HB1.out.trans (m2.below HB1.out.size (fun k hk => by subst hk; exact hbW)))
      have HG3 := Lib.hid m1
      go_upto_region 9 with (fail)
      clear hqX hqY hqW hqH s0 s1 s2 s3 t0 t1 t2 t3 m1 m2 g1 HR1 HO1 HB1
      generalize (((W1.setCell ⟨bP, 0, none⟩ (.int .i64 qX)).setCell ⟨bP, 1, none⟩ (.int .i64 qY)).setCell ⟨bP, 2, none⟩ (.int .i64 qW)).setCell ⟨bP, 3, none⟩ (.int .i64 qH) = W3 at *
      have s0 : W3.cell? ⟨bP, 0, none⟩ = some (.int .i64 qX) := (blk_cell HG3.out 0).trans rfl
      have s1 : W3.cell? ⟨bP, 1, none⟩ = some (.int .i64 qY) := (blk_cell HG3.out 1).trans rfl
      have s2 : W3.cell? ⟨bP, 2, none⟩ = some (.int .i64 qW) := (blk_cell HG3.out 2).trans rfl
      have s3 : W3.cell? ⟨bP, 3, none⟩ = some (.int .i64 qH) := (blk_cell HG3.out 3).trans rfl
      go_wp2_with (at_builtin; refine Kd.R_append krc (w0 := w0) w0.heap.size rfl (.tmp 48) (.tmp 50) 39 31 _ 32 rfl Try.underlying39 infoRect rfl (by decide) (by omega) (.slice Au k cu) fs (qX, qY, qW, qH) [.int .i64 qX, .int .i64 qY, .int .i64 qW, .int .i64 qH] (fun _ => True) (fun _ => False) rfl rfl ?aP (fun _ hk => hk.elim) (fun _ _ => trivial) HO3.out HB3.out HB3.out.size ?aL ?_; (case aP => exact krc_mkM _ _ _ (qX, qY, qW, qH)); (case aL => rw [HFK.out]; omega); intro v1 w9 ho hb hg9 hat; have m1 := Lib.hid ho; have m2 := Lib.hid hb; have m3 : Hid (RowAt w9 gw (rbL a b fs)) := Lib.hid (blk_grown HR3.out hg9 (Kd.R_ne HO3.out HR3.out (show 31 ≠ 3 by decide))); have m4 := Lib.hid (blk_grown HG3.out hg9 (fun e => hne.out bP e.symm rfl)); clear ho hb hg9 hat)
      clear s0 s1 s2 s3 HR3 HO3 HB3 HG3
      go_loopw [54] (fun v54 W => ∃ j : Nat, v54 = .int .i64 j ∧ j ≤ a ∧ Hid (RowAt W gw ((rbL a b (fs ++ [(qX, qY, qW, qH)])).take j ++ (rbL a b fs).drop j)) ∧ Hid (Kd.R krc 31 W w0.heap.size (fun _ => True) v1 (fs ++ [(qX, qY, qW, qH)])) ∧ Hid (W.heap[bP]? = some (.cells #[.int .i64 qX, .int .i64 qY, .int .i64 qW, .int .i64 qH] 31 (0, 0))) ∧ Hid (Below w0.heap.size w0 W)) (fun v54 _ => a - (intOf v54).toNat)
      case atStart => exact ⟨0, rfl, Nat.zero_le _, m3, m1, m4, m2⟩
      case round =>
        obtain ⟨j, rfl, hj, HR, HO, HG, HB⟩ := hrel
        by_cases hja : j < a
        · have hjj : (j : Int) < (a : Int) := by omega
          have hset := set_next (rbL a b (fs ++ [(qX, qY, qW, qH)])) (rbL a b fs) j (by rw [rb_len]; exact hja) (by rw [rb_len]; exact hja)
          have hnew : (rbL a b (fs ++ [(qX, qY, qW, qH)])).getD j 0 = if qX ≤ (j : Int) ∧ (j : Int) - qX < qW then max ((rbL a b fs).getD j 0) (min (b : Int) (qY + qH)) else (rbL a b fs).getD j 0 := by
            rw [rb_get _ _ _ _ hja, rb_app, rb_get _ _ _ _ hja]; rfl
          have hold : ((rbL a b (fs ++ [(qX, qY, qW, qH)])).take j ++ (rbL a b fs).drop j).getD j 0 = (rbL a b fs).getD j 0 := by
            rw [List.getD_eq_getElem?_getD, List.getElem?_append_right (by simp [rb_len]; omega), List.getD_eq_getElem?_getD, List.getElem?_drop]
            congr 2
            simp [rb_len]; omega
          have hlen : ((rbL a b (fs ++ [(qX, qY, qW, qH)])).take j ++ (rbL a b fs).drop j).length = a := by simp [rb_len]; omega
          have c0 := HR.out.cell j (by rw [hlen]; exact hja)
          have c1 := blk_frozen HR.out j
          rw [hold] at c0
          obtain ⟨Q, hQ⟩ : ∃ Q, (rbL a b fs).getD j 0 = Q := ⟨_, rfl⟩
          rw [hQ] at c0 hnew hold
          have r0 : wr.cell? ⟨bP, 0, none⟩ = some (.int .i64 qX) := (blk_cell HG.out 0).trans rfl
          have r1 : wr.cell? ⟨bP, 1, none⟩ = some (.int .i64 qY) := (blk_cell HG.out 1).trans rfl
          have r2 : wr.cell? ⟨bP, 2, none⟩ = some (.int .i64 qW) := (blk_cell HG.out 2).trans rfl
          have r3 : wr.cell? ⟨bP, 3, none⟩ = some (.int .i64 qH) := (blk_cell HG.out 3).trans rfl
          have hskip : ¬ (qX ≤ (j : Int) ∧ (j : Int) - qX < qW) → Hid (RowAt wr gw ((rbL a b (fs ++ [(qX, qY, qW, qH)])).take (j + 1) ++ (rbL a b fs).drop (j + 1))) := fun hc => Lib.hid (by
            rw [if_neg hc] at hnew
            rw [← hset, hnew, ← hold, List.getD_eq_getElem?_getD, List.getElem?_eq_getElem (by rw [hlen]; exact hja), Option.getD_some, List.set_getElem_self]
            exact HR.out)
          by_cases c1' : qX ≤ (j : Int)
          · by_cases c2' : (j : Int) < qX + qW
            · rw [if_pos ⟨c1', by omega⟩] at hnew
              rw [hnew] at hset
              have HSET := Lib.hid hset
              have HSL := Lib.hid hlen
              clear hset hnew hold hlen hskip hQ
              go_wp2_with fail
              refine wp_region_still_tail 15 (by kernel_rfl) (by kernel_rfl) ?_
              simp only [List.take_succ_cons, List.take_zero, List.drop_succ_cons, List.drop_zero]
              iterate 15 still_step
              refine wpStill_nil ?_
              change wpList _ _ _ _ _ wr.drew
              have HRd : Hid (RowAt wr.drew gw ((rbL a b (fs ++ [(qX, qY, qW, qH)])).take j ++ (rbL a b fs).drop j)) := Lib.hid HR.out
              have HOd : Hid (Kd.R krc 31 wr.drew w0.heap.size (fun _ => True) v1 (fs ++ [(qX, qY, qW, qH)])) := Lib.hid HO.out
              have HGd : Hid (wr.drew.heap[bP]? = some (.cells #[.int .i64 qX, .int .i64 qY, .int .i64 qW, .int .i64 qH] 31 (0, 0))) := Lib.hid HG.out
              have HBd : Hid (Below w0.heap.size w0 wr.drew) := Lib.hid (below_drew HB.out)
              clear HR HO HG HB c0 c1 r0 r1 r2 r3
              generalize wr.drew = w2 at *
              have c0 := HRd.out.cell j (by rw [HSL.out]; exact hja)
              have c1 := blk_frozen HRd.out j
              have t1 : Hid (RowAt (w2.setCell ⟨gw, j, none⟩ (.int .i64 (max Q (min (b : Int) (qY + qH))))) gw ((rbL a b (fs ++ [(qX, qY, qW, qH)])).take (j + 1) ++ (rbL a b fs).drop (j + 1))) := Lib.hid (by rw [← HSET.out]; exact HRd.out.set j _)
              have t2 : Hid (Kd.R krc 31 (w2.setCell ⟨gw, j, none⟩ (.int .i64 (max Q (min (b : Int) (qY + qH))))) w0.heap.size (fun _ => True) v1 (fs ++ [(qX, qY, qW, qH)])) := Lib.hid (Kd.R_set HOd.out HRd.out (by decide) j _)
              have t3 : Hid ((w2.setCell ⟨gw, j, none⟩ (.int .i64 (max Q (min (b : Int) (qY + qH))))).heap[bP]? = some (.cells #[.int .i64 qX, .int .i64 qY, .int .i64 qW, .int .i64 qH] 31 (0, 0))) := Lib.hid (blk_far HGd.out (p := ⟨gw, j, none⟩) (blk_ne HGd.out HRd.out (by decide)) _)
              have t4 : Hid (Below w0.heap.size w0 (w2.setCell ⟨gw, j, none⟩ (.int .i64 (max Q (min (b : Int) (qY + qH)))))) := Lib.hid (HBd.out.setCell (p := ⟨gw, j, none⟩) hwW _)
              go_wp2_with fail
              go_roundw
              case rel => exact ⟨j + 1, by go_num, by omega, t1, t2, t3, t4⟩
              case measure => simp [intOf]; omega
            · have HSK := hskip (fun h => by omega)
              clear hset hnew hold hlen hskip hQ
              go_wp2_with fail
              go_roundw
              case rel => exact ⟨j + 1, by go_num, by omega, HSK, HO, HG, HB⟩
              case measure => simp [intOf]; omega
          · have HSK := hskip (fun h => c1' h.1)
            clear hset hnew hold hlen hskip hQ
            go_wp2_with fail
            go_roundw
            case rel => exact ⟨j + 1, by go_num, by omega, HSK, HO, HG, HB⟩
            case measure => simp [intOf]; omega
        · have hjj : ¬ (j : Int) < (a : Int) := by omega
          have hr := HR.out
          rw [List.take_of_length_le (by rw [rb_len]; omega), List.drop_eq_nil_of_le (by rw [rb_len]; omega), List.append_nil] at hr
          have HR2 := Lib.hid hr
          have HSM2 : Hid (Small (fs ++ [(qX, qY, qW, qH)])) := Lib.hid (fun r hr => by
            rcases List.mem_append.1 hr with hr | hr
            · exact HSM.out r hr
            · obtain rfl := List.mem_singleton.1 hr
              exact ⟨by show -10000000 ≤ qX; omega, by show qX ≤ 10000000; omega, by show -10000000 ≤ qY; omega, by show qY ≤ 10000000; omega, by show -10000000 ≤ qW; omega, by show qW ≤ 10000000; omega, by show -10000000 ≤ qH; omega, by show qH ≤ 10000000; omega⟩)
          clear hr HR
          go_wp2_with fail
          go_roundw
          case rel => exact ⟨k + 1, v1, fs ++ [(qX, qY, qW, qH)], rfl, by go_num, by omega, HR2, HO, HSM2, by rw [List.length_append, HFK.out]; rfl, HB⟩
          case measure => simp [intOf]; omega
    · have hkk : ¬ (k : Int) < (M : Int) := by omega
      have HC := (Kd.R_reads' HO.out).2.2
      have HRB := Lib.hid (HREB.out wr Au cu fs HC (by rw [HFK.out]; omega) HSM.out)
      rw [HFK.out] at HRB
      clear HC HO HREB
      go_wp2_with fail
      refine HRB.out.mono ?_
      rintro e w5 ⟨g5, rfl, hg5, hs5, hb5⟩
      have HSH := Lib.hid (shows_c w5 g5 a b _ hs5 gw (blk_below HR.out hb5))
      have HB5 := Lib.hid (below_step HB.out hb5)
      clear hs5 hb5 HRB hg5
      go_wp2_with fail
      refine HSH.out.mono ?_
      rintro e w6 ⟨rfl, hb6⟩
      have HB6 := Lib.hid (below_step HB5.out hb6)
      clear hb6
      go_wp2_with fail
      go_ret
      exact ⟨rfl, HB6.out⟩
end Go.Proofs.Ytphclfcidgljkaa
