/- GlyfCheck: the walk. -/
import Derived.Test.YtjealbaomhjoaaaGSame
import Derived.Test.YtjealbaomhjoaaaFew
set_option linter.unusedVariables false
set_option linter.unusedSimpArgs false
namespace Go.Proofs.Ytjealbaomhjoaaa
open Go.RowKit Go.Proofs.Ytjealbaomhjoaaa.G Go.Proofs.YtjealbaomhjoaaaW.PrintWords Go.Proofs.YtjealbaomhjoaaaW.PrintMore

theorem rawIn' {w : World} {a : Option Addr} {l : List (List S34)} (rd : Kd.C (Kd.slice 34 k34) w a l.length l) : ∃ ad A C, (0 < l.length → a = some ad) ∧ RawIn w ad l A C := by
  by_cases h0 : 0 < l.length
  · obtain ⟨ad, A, C, e, h⟩ := rawIn rd h0
    exact ⟨ad, A, C, fun _ => e, h⟩
  · exact ⟨⟨0, 0, none⟩, fun _ => none, fun _ => 0, fun h => absurd h h0, ⟨fun j hj => absurd hj (by omega)⟩⟩
theorem min_int (a b : Nat) : (if (b : Int) < (a : Int) then (b : Int) else (a : Int)) = ((min a b : Nat) : Int) := by split <;> omega

/-- A store of a whole struct. -/
theorem wpList_store_cells {P : Program} {ops : Array Oper} {rest : List Oper} {o : Oper} {a : Act} {Q : Exit → Act → World → Prop} {W : World} (hN : o.dst = none) (hgd : o.guard = none) (t : TypeId) (p x : Operand) (ho : o.op = .store t p x) {g off : Nat} {e : TypeId} {cur : Array Value} (u : Value) (seg : List Value)
    (haddr : a.eval p = .pointer (some ⟨g, off, none⟩)) (hx : a.eval x = u) (hu : u.cells.toList = seg) (ht : (P.info? t).map (·.size) = some seg.length) (hh : W.heap[g]? = some (.cells cur e (0, 0))) (hfit : off + seg.length ≤ cur.size) (h1 : ∀ q ∈ seg, q.oneCell' = true)
    (h : wpList P ops Q rest a (W.setCells g off seg)) : wpList P ops Q (o :: rest) a W := by
  refine wpList_plain hgd fun K hK => ?_
  have hrun := run_store_run (P := P) t u seg hh hu ht hfit h1
  unfold Oper.wp execOp
  simp only [ho, haddr, hx, Sem.run_bind, Sem.run_pure, Result.andThen_ok, hrun]
  show K (a.put o.dst undef) _
  rw [hN]
  exact hK a _ h
theorem cells_size {w : World} {g j : Nat} {cur : Array Value} {e : TypeId} {u : Value} (h : w.heap[g]? = some (.cells cur e (0, 0))) (hc : w.cell? ⟨g, j, none⟩ = some u) : j < cur.size := by
  rw [cell_of_row w g j cur e (0, 0) h] at hc
  exact (Array.getElem?_eq_some_iff.1 hc).1
set_option maxHeartbeats 4000000 in
set_option maxRecDepth 100000 in
theorem glyfCheck_core (a0 a1 : Option Addr) (c0 c1 : Nat) (l0 : List (List S34)) (l1 : List (List S66)) (n x y : Int) (b : Bool) (w : World) (rd0 : Kd.C (Kd.slice 34 k34) w a0 l0.length l0) (le0 : l0.length ≤ c0) (rd1 : Kd.C (Kd.slice 66 k66) w a1 l1.length l1) (le1 : l1.length ≤ c1) (hn : 0 ≤ n ∧ n ≤ 255) :
    Calls Try.prog 8 #[.slice a0 l0.length c0, .slice a1 l1.length c1, .int .u8 n, .agg #[.int .i64 x, .int .i64 y, .bool b]] w fun e w' => e = .returned (.bool true) ∧ Below w.heap.size w w' := by
  obtain ⟨ad, A, C, ha, hraw⟩ := rawIn' rd0
  have R1 := Lib.hid rd1; have HA := Lib.hid ha; have HRW := Lib.hid hraw; clear rd0 rd1 ha hraw
  have hb0 := below_alloc (Below.refl _ w) (.cells #[.int .i64 x, .int .i64 y, .bool b] 34)
  have hg0 := heap_alloc_new w (.cells #[.int .i64 x, .int .i64 y, .bool b] 34)
  have HB0 := Lib.hid hb0; have HG0 := Lib.hid hg0; clear hb0 hg0
  go_enter Try.func8, Try.ntmps8
  go_wp2_with fail
  refine (awake_c _).mono ?_
  rintro e w1 ⟨rfl, hb1⟩
  have B1 := Lib.hid (below_step HB0.out hb1)
  have G1 := Lib.hid (blk_below HG0.out hb1); clear hb1 HB0 HG0
  obtain ⟨M, hM⟩ : ∃ M, min l0.length 12 = M := ⟨_, rfl⟩
  have hmin := min_int l0.length 12
  rw [hM] at hmin
  have hmin2 : (if (12 : Int) < (l0.length : Int) then (12 : Int) else (l0.length : Int)) = (M : Int) := hmin
  have hMl : M ≤ l0.length := by omega
  have hM12 : M ≤ 12 := by omega
  have HM := Lib.hid hM; clear hM hmin
  have m1 : decide ((0 : Int) ≤ (M : Int)) = true := decide_eq_true (by omega)
  have m2 : (M : Int) ≤ (c0 : Int) := by omega
  go_wp2_with fail
  clear hmin2 m1 m2
  go_loopw [9, 22] (fun v9 v22 W => ∃ (k : Nat) (u : Value), v22 = .int .i64 k ∧ v9 = u ∧ k ≤ M ∧ Hid ((Kd.raw 1).R 28 W w.heap.size (fun _ => True) u (fewV l0 A C k)) ∧
    Hid (W.heap[w.heap.size]? = some (.cells #[.int .i64 x, .int .i64 y, .bool b] 34 (0, 0))) ∧ Hid (Below w.heap.size w W)) (fun _ v22 _ => M - (intOf v22).toNat)
  case atStart => exact ⟨0, .slice none 0 0, rfl, rfl, Nat.zero_le _, Lib.hid (Kd.R_nil _ _ _ _ _), G1, B1⟩
  case round =>
    obtain ⟨k, u, rfl, rfl, hk, HO, HG, HB⟩ := hrel
    by_cases hkM : k < M
    · have hk1 : decide ((k : Int) < (M : Int)) = true := decide_eq_true (by omega)
      have hkl : k < l0.length := by omega
      obtain ⟨q1, q2, q3⟩ := HRW.out.cell k hkl
      have ea := HA.out (by omega)
      subst ea
      have qc := pw_cell_below HB.out q1
      obtain ⟨L, hL⟩ : ∃ L, l0[k].length = L := ⟨_, rfl⟩
      rw [hL] at qc q2
      obtain ⟨P, hP⟩ : ∃ P, min L 70 = P := ⟨_, rfl⟩
      have hmin2 : (if (70 : Int) < (L : Int) then (70 : Int) else (L : Int)) = (P : Int) := by rw [← hP]; exact min_int L 70
      have hPL : P ≤ L := by omega
      have m1 : decide ((0 : Int) ≤ (P : Int)) = true := decide_eq_true (by omega)
      have m2 : (P : Int) ≤ (C k : Int) := by omega
      have HP : Hid (min (l0.getD k []).length 70 = P) := Lib.hid (by rw [List.getD_eq_getElem?_getD, List.getElem?_eq_getElem hkl]; simpa [hL] using hP)
      clear hL hP q1 q3
      obtain ⟨A9, c9, e9⟩ := Kd.R_slice HO.out
      rw [fewV_len] at e9
      subst e9
      go_wp2_with (at_builtin; refine Kd.R_append (Kd.raw 1) (w0 := w) w.heap.size rfl (.tmp 26) (.tmp 32) 24 28 (.slice none 0 0) 24 rfl Try.underlying24 info_vs rfl (by decide) (by omega) (.slice A9 k c9) (fewV l0 A C k) [.slice (A k) P (C k)] [.slice (A k) P (C k)] (fun _ => True) (fun _ => False) rfl rfl ?aP (fun _ hk => hk.elim) (fun _ _ => trivial) HO.out HB.out HB.out.size ?aL ?_; (case aP => exact ⟨rfl, rfl, by simp [Value.oneCell']⟩); (case aL => (rw [fewV_len]; omega)); intro v1 w9 ho hb hg hat; have n1 := Lib.hid (blk_grown HG.out hg (Kd.R_ne HO.out HG.out (by decide))); have n2 := Lib.hid hb; have n3 := Lib.hid ho; clear ho hb hg hat; obtain ⟨A10, c10, e10⟩ := Kd.R_slice n3.out; rw [List.length_append, fewV_len, List.length_singleton] at e10; subst e10)
      go_roundw
      case rel =>
        refine ⟨k + 1, _, by go_num, rfl, by omega, ?_, n1, n2⟩
        rw [fewV_snoc, HP.out]
        exact n3
      case measure => simp [intOf]; omega
    · have hkM2 : k = M := by omega
      subst hkM2
      have hk1 : decide ((k : Int) < (k : Int)) = false := decide_eq_false (by omega)
      have hO := HO.out
      rw [← HM.out] at hO
      obtain ⟨A9, c9, e9, hle, hC9⟩ := few_reads HRW.out HB.out hO
      rw [fewL_len, HM.out] at e9
      subst e9
      have HF := Lib.hid (And.intro hle hC9); clear hO hle hC9
      go_wp2_with fail
      have hbx := HB.out
      have hol := outline_any l1 a1 c1 wr (Kd.C_below R1.out HB.out) le1
      obtain ⟨N, hN⟩ : ∃ N, (olF l1).length = N := ⟨_, rfl⟩
      rw [hN] at hol
      have HN := Lib.hid hN; clear hN hbx
      refine hol.mono ?_
      clear hol
      rintro e w3 ⟨A3, c3, rfl, hs3, hb3⟩
      have S3 := Lib.hid (Kd.S_alloc hs3 (.cells #[.slice A3 N c3] 26))
      have B3 := Lib.hid (below_alloc (below_step HB.out hb3) (.cells #[.slice A3 N c3] 26))
      have F3 := Lib.hid (And.intro HF.out.1 (Kd.C_below HF.out.2 (below_alloc hb3 (.cells #[.slice A3 N c3] 26))))
      have G3 := Lib.hid (blk_alloc (blk_below HG.out hb3) (.cells #[.slice A3 N c3] 26))
      have G4 := Lib.hid (heap_alloc_new w3 (.cells #[.slice A3 N c3] 26))
      have hgw : w3.heap.size ≠ w.heap.size := by
        have h1 := blk_lt HG.out; have h2 := hb3.size; omega
      have HGW := Lib.hid hgw
      have F0 := HF
      have BR4 := Lib.hid (below_alloc hb3 (.cells #[.slice A3 N c3] 26))
      clear hs3 hb3 HG hgw
      have hu26 := Try.underlying26
      go_upto_region 10 with (fail)
      generalize hw4 : w3.alloc (.cells #[.slice A3 N c3] 26) = w4 at *
      clear hw4
      have T4 := Lib.hid (Kd.S_reads' S3.out)
      have cA : w4.cell? ⟨w3.heap.size, 0, none⟩ = some (.slice A3 N c3) := (blk_cell G4.out 0).trans rfl
      have ckb : ∀ c ∈ olF l1, c.length ≤ 140737488355328 := fun c hc => by have := (olF_good l1).small.2 c hc; omega
      have CKB := Lib.hid ckb; clear ckb
      go_wp2_with fail
      have hck := check_any (olF l1) CKB.out A3 c3 N w4 HN.out.symm T4.out.2.2 (by rw [HN.out]; exact T4.out.2.1)
      rw [(olF_good l1).ck] at hck
      refine hck.mono ?_
      clear hck cA
      rintro e w5 ⟨rfl, hb5⟩
      have S5 := Lib.hid (Kd.S_below S3.out hb5)
      have B5 := Lib.hid (below_step B3.out hb5)
      have F5 := Lib.hid (And.intro F3.out.1 (Kd.C_below F3.out.2 hb5))
      have G5 := Lib.hid (blk_below G3.out hb5)
      have G6 := Lib.hid (blk_below G4.out hb5)
      have BR5 := Lib.hid (below_step BR4.out hb5)
      clear hb5 S3 B3 F3 G3 G4 T4
      have cA : w5.cell? ⟨w3.heap.size, 0, none⟩ = some (.slice A3 N c3) := (blk_cell G6.out 0).trans rfl
      go_upto_if 43 with (fail)
      go_cut [13] (fun v13 wc => ∃ (o : List (List S34)), Hid (o.length = N ∧ (∀ c ∈ o, c.length ≤ 140737488355328) ∧ Kd.C (Kd.slice 34 k34) wc A3 o.length o) ∧ Hid (Below w.heap.size w wc) ∧
        Hid ((fewL l0).length ≤ c9 ∧ Kd.C (Kd.slice 34 k34) wc A9 (fewL l0).length (fewL l0)) ∧ Hid (N ≤ c3) ∧ Hid (wc.heap[w3.heap.size]? = some (.cells #[.slice A3 N c3] 26 (0, 0))))
      case first =>
        have T5 := Lib.hid (Kd.S_reads' S5.out)
        by_cases hN0 : N = 0
        · subst hN0
          go_wp2_with fail
          go_meet
          case rel => exact ⟨olF l1, Lib.hid ⟨HN.out, CKB.out, T5.out.2.2⟩, B5, F5, Lib.hid (by have := T5.out.2.1; omega), G6⟩
        · have hn0 : 0 < N := by omega
          obtain ⟨n, rfl⟩ := Int.eq_ofNat_of_zero_le hn.1
          obtain ⟨I, hI⟩ : ∃ I, n % N = I := ⟨_, rfl⟩
          have hIN : I < N := hI ▸ Nat.mod_lt _ (by omega)
          have hmI : Int.tmod (n : Int) (N : Int) = (I : Int) := by rw [← hI]; rfl
          have hIl : I < (olF l1).length := by rw [HN.out]; exact hIN
          obtain ⟨gO, cO, eO, _, _, _⟩ := Kd.S_form S5.out (by rw [HN.out]; omega)
          have eO' : A3 = some ⟨gO, 0, none⟩ := by injection eO
          subst eO'
          obtain ⟨A12, c12, hcO, hlc, hin⟩ := S_inner S5.out I hIl
          rw [add_plain] at hcO
          obtain ⟨L, hL⟩ : ∃ L, (olF l1)[I].length = L := ⟨_, rfl⟩
          have hL0 : 0 < L := by
            have := (olF_good l1).ne _ (List.getElem_mem hIl)
            rw [← hL]; exact List.length_pos_iff.2 this
          obtain ⟨g, eA, hgb, hgl, hgc, hgf, hrow⟩ := hin (by omega)
          have HGB := Lib.hid hgb; clear hgb
          subst eA
          rw [hL] at hcO
          obtain ⟨J, hJ⟩ : ∃ J, n % L = J := ⟨_, rfl⟩
          have hJL : J < L := hJ ▸ Nat.mod_lt _ hL0
          have hmJ : Int.tmod (n : Int) (L : Int) = (J : Int) := by rw [← hJ]; rfl
          have hJl : J < (olF l1)[I].length := by omega
          obtain ⟨e0, e1, e2, hput⟩ := hrow J hJl
          have HL := Lib.hid hL; have HJ := Lib.hid hJ; have HI := Lib.hid hI
          clear hL hJ hI hrow hin
          have hput2 := hput 0 [.int .i64 x, .int .i64 y, .bool b] ⟨x, y, b⟩ (by simp) rfl
          have HPUT := Lib.hid hput2; clear hput hput2
          have HGC := Lib.hid hgc; clear hgc
          have HGF := Lib.hid hgf; clear hgf
          have HE0 := Lib.hid e0; have HE1 := Lib.hid e1; have HE2 := Lib.hid e2; clear e0 e1 e2 hlc eO
          have i1 : decide ((0 : Int) ≤ (I : Int)) = true := decide_eq_true (by omega)
          have i2 : decide ((I : Int) < (N : Int)) = true := decide_eq_true (by omega)
          have i3 : ((N : Int) == 0) = false := by simp; omega
          go_upto_region 13 with (fail)
          go_quiet (fail)
          clear cA hcO i1 i2 i3 hmI
          have HW : Hid (∃ w6, w6 = w5.drewN nq) := Lib.hid ⟨_, rfl⟩
          obtain ⟨w6, hw6⟩ := HW.out
          rw [← hw6]
          have HW6 := Lib.hid hw6; clear hw6 HW
          go_upto_region 14 with (fail)
          have g6 : w6.heap[w.heap.size]? = some (.cells #[.int .i64 x, .int .i64 y, .bool b] 34 (0, 0)) := by rw [HW6.out]; exact G5.out
          have b0 : w6.drew.cell? ⟨w.heap.size, 0, none⟩ = some (.int .i64 x) := (blk_cell (blk_drew g6) 0).trans rfl
          have b1 : w6.drew.cell? ⟨w.heap.size, 1, none⟩ = some (.int .i64 y) := (blk_cell (blk_drew g6) 1).trans rfl
          have b2 : w6.drew.cell? ⟨w.heap.size, 2, none⟩ = some (.bool b) := (blk_cell (blk_drew g6) 2).trans rfl
          have hu34 := Try.underlying34
          have hLz : (L = 0) = False := by simp; omega
          have hwn : IntKind.i64.wrap (n : Int) = (n : Int) := by rw [Go.IntWalk.i64_left, wrap64_small _ (by omega) (by omega)]
          clear g6
          refine wp_region_still_tail 8 (by kernel_rfl) (by kernel_rfl) ?_
          simp only [List.take_succ_cons, List.take_zero, List.drop_succ_cons, List.drop_zero]
          iterate 8 still_step
          refine wpStill_nil ?_
          change wpList _ _ _ _ _ w6.drew
          clear hmJ hLz hwn b0 b1 b2
          obtain ⟨cur, hcur⟩ := HGC.out
          have hcur6 : w6.drew.heap[g]? = some (.cells cur 34 (0, 0)) := by rw [HW6.out]; exact hcur
          have hfit := cells_size hcur HE2.out
          refine wpList_store_cells rfl rfl 34 (.tmp 61) (.tmp 60) rfl (.agg #[.int .i64 x, .int .i64 y, .bool b]) [.int .i64 x, .int .i64 y, .bool b] rfl rfl rfl (by kernel_rfl) hcur6 (by simp; omega) (by simp [Value.oneCell']) ?_
          have hX : w6.drew.setCells g (J * 3) [.int .i64 x, .int .i64 y, .bool b] = ((w5.setCells g (J * 3 + 0) [.int .i64 x, .int .i64 y, .bool b]).drewN nq).drew := by rw [HW6.out]; rfl
          have HX := Lib.hid hX; clear hX hcur6 hfit
          generalize hw7 : w6.drew.setCells g (J * 3) [.int .i64 x, .int .i64 y, .bool b] = w7
          have hw8 := hw7.symm.trans HX.out
          have hgr : w5.grownBy w7 (some g) := by
            rw [hw8]
            exact ⟨HPUT.out.2.os, HPUT.out.2.tape, HPUT.out.2.output, HPUT.out.2.size, fun k hk h => HPUT.out.2.block k hk h⟩
          have hS : Kd.S (Kd.slice 34 k34) 28 w7 wr.heap.size (fun _ => True) (.slice (some ⟨gO, 0, none⟩) N c3) ((olF l1).set I ((olF l1)[I].set J ⟨x, y, b⟩)) := by
            rw [hw8]; exact Kd.S_drew (Kd.S_drewN HPUT.out.1 nq)
          have HS := Lib.hid (Kd.S_reads' hS)
          have hgb := HGB.out
          have HB7 : Hid (Below w.heap.size w w7) := Lib.hid (B5.out.trans ⟨hgr.os, hgr.tape, hgr.output, hgr.size, fun k hk => hgr.block k (Nat.lt_of_lt_of_le hk B5.out.size) (fun e => by injection e with e; have := HB.out.size; omega)⟩)
          have HF7 : Hid ((fewL l0).length ≤ c9 ∧ Kd.C (Kd.slice 34 k34) w7 A9 (fewL l0).length (fewL l0)) :=
            Lib.hid ⟨F0.out.1, Kd.C_below F0.out.2 (BR5.out.trans ⟨hgr.os, hgr.tape, hgr.output, hgr.size, fun k hk => hgr.block k (Nat.lt_of_lt_of_le hk BR5.out.size) (fun e => by injection e with e; omega)⟩)⟩
          have hgne : g ≠ w3.heap.size := by
            intro e
            rw [e, G6.out] at hcur; cases hcur
          have HG7 := Lib.hid (blk_grown G6.out hgr (fun e => hgne (by injection e with e; exact e.symm)))
          clear hS hgr hw7 hw8 HX hgne hcur
          go_wp2_with fail
          go_meet
          case rel =>
            refine ⟨(olF l1).set I ((olF l1)[I].set J ⟨x, y, b⟩), Lib.hid ⟨HS.out.1.symm, fun c hc => ?_, HS.out.2.2⟩, HB7, HF7, Lib.hid HS.out.2.1, HG7⟩
            rcases List.mem_or_eq_of_mem_set hc with h | h
            · exact CKB.out c h
            · rw [h, List.length_set]; exact CKB.out _ (List.getElem_mem hIl)
      case rest =>
        obtain ⟨o, HO', HB', HF', HN', HG'⟩ := hcut
        have HK : Hid ((fewL l0).length = k) := Lib.hid (by rw [fewL_len, HM.out])
        have FB : Hid (∀ c ∈ fewL l0, c.length ≤ 140737488355328) := Lib.hid (fun c hc => by have := fewL_small l0 c hc; omega)
        have cA : wc.cell? ⟨w3.heap.size, 0, none⟩ = some (.slice A3 N c3) := (blk_cell HG'.out 0).trans rfl
        have e1 : (ckO o == ckO o) = true := by simp
        have e2 : (ckO (fewL l0) == ckO (fewL l0)) = true := by simp
        go_upto_region 15 with (fail)
        go_region_held3 (fun w' => w'.cell? ⟨w3.heap.size, 0, none⟩ = some (.slice A3 N c3) ∧ Below wc.heap.size wc w')
          (refine ⟨?_, ?_⟩ <;> first | assumption | exact below_drew (Below.refl _ _) | exact pw_cell_below hb (by assumption) | exact pw_cell_below hb (show _ ∧ _ from by assumption).1 | (refine below_step ?_ hb; first | assumption | exact (show _ ∧ _ from by assumption).2 | exact below_drew (Below.refl _ _)))
          (first
          | (go_at_call 23; ((with_reducible refine (check_any o HO'.out.2.1 A3 c3 N _ HO'.out.1.symm ?_ (by rw [HO'.out.1]; exact HN'.out)).mono ?_); (exact Kd.C_below HO'.out.2.2 (by first | assumption | exact (show _ ∧ _ from by assumption).2 | exact below_drew (Below.refl _ _))); rintro e w' ⟨rfl, hb⟩))
          | (go_at_call 24; ((with_reducible refine (rcheck_any o HO'.out.2.1 A3 c3 N _ HO'.out.1.symm ?_ (by rw [HO'.out.1]; exact HN'.out)).mono ?_); (exact Kd.C_below HO'.out.2.2 (by first | assumption | exact (show _ ∧ _ from by assumption).2 | exact below_drew (Below.refl _ _))); rintro e w' ⟨rfl, hb⟩))
          | (go_at_call 23; ((with_reducible refine (check_any (fewL l0) FB.out A9 c9 k _ HK.out.symm ?_ HF'.out.1).mono ?_); (exact Kd.C_below HF'.out.2 (by first | assumption | exact (show _ ∧ _ from by assumption).2 | exact below_drew (Below.refl _ _))); rintro e w' ⟨rfl, hb⟩))
          | (go_at_call 24; ((with_reducible refine (rcheck_any (fewL l0) FB.out A9 c9 k _ HK.out.symm ?_ HF'.out.1).mono ?_); (exact Kd.C_below HF'.out.2 (by first | assumption | exact (show _ ∧ _ from by assumption).2 | exact below_drew (Below.refl _ _))); rintro e w' ⟨rfl, hb⟩)))
        all_goals
          go_wp2_with fail
          go_ret
          exact ⟨rfl, below_step HB'.out (by first | assumption | exact (show _ ∧ _ from by assumption).2)⟩

end Go.Proofs.Ytjealbaomhjoaaa
