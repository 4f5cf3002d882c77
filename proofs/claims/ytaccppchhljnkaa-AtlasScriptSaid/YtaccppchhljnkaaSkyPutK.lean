/- Skylines: Put's closure. -/
import Derived.Test.YtaccppchhljnkaaSkyFit
set_option linter.unusedVariables false
set_option linter.unusedSimpArgs false
namespace Go.Proofs.Ytaccppchhljnkaa
open Go.RowKit Go.Proofs.YtaccppchhljnkaaW.PrintWords Go.Proofs.YtaccppchhljnkaaW.PrintLast Go.Proofs.YtaccppchhljnkaaW.PrintMore
/-- What Put lays so far: in block bO. -/
def OutAt (W : World) (bO : Nat) (out : List (Int × Int)) : Prop := ∃ u, W.heap[bO]? = some (.cells #[u] 80 (0, 0)) ∧ Kd.R kst 84 W bO (fun _ => True) u out
theorem OutAt.below {W W' : World} {bO : Nat} {out : List (Int × Int)} (s : OutAt W bO out) (hb : Below W.heap.size W W') : OutAt W' bO out := by
  obtain ⟨u, h1, h2⟩ := s
  exact ⟨u, blk_below h1 hb, Kd.R_below h2 hb⟩
theorem cell_alloc {w : World} {a : Addr} {v : Value} {o : Obj} (h : w.cell? a = some v) : (w.alloc o).cell? a = some v := pw_cell_below (below_alloc (Below.refl _ w) o) h
attribute [local go_sem] cell_alloc in
set_option maxHeartbeats 2000000 in
set_option maxRecDepth 100000 in
theorem putk_c (W : World) (bO : Nat) (out : List (Int × Int)) (hO : OutAt W bO out) (px py : Int) (hl : out.length ≤ 100000) :
    Calls Try.prog 47 #[.agg #[.int .i64 px, .int .i64 py], .pointer (some ⟨bO, 0, none⟩)] W fun e w' => e = .returned (.tuple #[]) ∧ OutAt w' bO (pF out (px, py)) ∧ Below bO W w' := by
  obtain ⟨u, hu, hr⟩ := hO
  obtain ⟨A, c, e, hlc, hrc⟩ := Kd.R_reads hr
  subst e
  have hbO := blk_lt hu
  have al := below_alloc (Below.refl _ W) (.cells #[.int .i64 px, .int .i64 py] 84)
  have g1 := heap_alloc_new W (.cells #[.int .i64 px, .int .i64 py] 84)
  have hu1 := blk_below hu al
  have HR1 := Lib.hid (Kd.R_below hr al)
  have HC1 := Lib.hid (Kd.C_below hrc al)
  have HB1 : Hid (Below bO W (W.alloc (.cells #[.int .i64 px, .int .i64 py] 84))) := Lib.hid ((Below.refl bO W).alloc (by omega) _)
  have hnu : Hid (∀ q, (Value.slice A out.length c).ownBlock = some q → q ≠ W.heap.size) := Lib.hid (fun q hq e => by obtain ⟨inner, ho⟩ := Kd.R_own hr; have := own_lt ho q hq; omega)
  clear hu hr hrc al
  obtain ⟨n, hN⟩ : ∃ n, out.length = n := ⟨_, rfl⟩
  rw [hN] at hu1 hnu HC1 hl hlc HR1
  have HN := Lib.hid hN; clear hN
  go_enter Try.func47, Try.ntmps47
  go_upto_region 1 with (fail)
  generalize W.alloc (.cells #[.int .i64 px, .int .i64 py] 84) = W1 at *
  generalize hbP : W.heap.size = bP at *
  have hbP' : bO < bP := by omega
  clear hbP hbO
  have s0 : W1.cell? ⟨bP, 0, none⟩ = some (.int .i64 px) := (blk_cell g1 0).trans rfl
  have s1 : W1.cell? ⟨bP, 1, none⟩ = some (.int .i64 py) := (blk_cell g1 1).trans rfl
  have o0 : W1.cell? ⟨bO, 0, none⟩ = some (.slice A n c) := (blk_cell hu1 0).trans rfl
  have o1 := blk_frozen hu1 0
  have HG1 := Lib.hid g1; have HU1 := Lib.hid hu1
  clear g1 hu1
  by_cases h0 : n = 0
  · have hb0 : ((n : Int) == 0) = true := by simp; omega
    have hp : Hid (pF out (px, py) = out ++ [(px, py)]) := Lib.hid (by
      have : out = [] := List.eq_nil_of_length_eq_zero (by rw [HN.out]; exact h0)
      subst this; rfl)
    clear h0
    go_quiet (fail)
    have HR2 := Lib.hid (Kd.R_below HR1.out (pw_below_drewN (Below.refl _ W1) nq))
    have HU2 := Lib.hid (blk_below HU1.out (pw_below_drewN (Below.refl _ W1) nq))
    have HG2 := Lib.hid (blk_below HG1.out (pw_below_drewN (Below.refl _ W1) nq))
    have HB2 := Lib.hid (pw_below_drewN HB1.out nq)
    clear s0 s1 o0 o1 HR1 HU1 HG1 HB1 HC1 
    generalize W1.drewN nq = W2 at *
    have s0 : W2.cell? ⟨bP, 0, none⟩ = some (.int .i64 px) := (blk_cell HG2.out 0).trans rfl
    have s1 : W2.cell? ⟨bP, 1, none⟩ = some (.int .i64 py) := (blk_cell HG2.out 1).trans rfl
    have o0 : W2.cell? ⟨bO, 0, none⟩ = some (.slice A n c) := (blk_cell HU2.out 0).trans rfl
    have hz2 : bO ≤ W2.heap.size := by have := blk_lt HU2.out; omega
    go_wp2_with (at_builtin; refine Kd.R_append kst (w0 := W) bO rfl (.tmp 18) (.tmp 20) 80 84 _ 16 rfl Try.underlying80 infoStep rfl (by decide) (by omega) (.slice A n c) out (px, py) [.int .i64 px, .int .i64 py] (fun _ => True) (fun _ => False) rfl rfl ?aP (fun _ hk => hk.elim) (fun _ _ => trivial) HR2.out HB2.out hz2 ?aL ?_; (case aP => exact kst_mkM _ _ _ (px, py)); (case aL => rw [HN.out]; omega); intro v1 w6 ho hb hg hat; have m1 := Lib.hid ho; have m2 := Lib.hid hb; have m3 := Lib.hid (blk_grown HU2.out hg (Kd.R_ne HR2.out HU2.out (show 84 ≠ 80 by decide))); clear ho hb hg hat; obtain ⟨A5, c5, e5⟩ := Kd.R_slice m1.out; rw [List.length_append, HN.out, List.length_singleton] at e5; subst e5; have q2 := (blk_cell m3.out 0).trans rfl; have q3 := blk_frozen m3.out 0)
    refine bodyPost_end (results_none rfl _ _ _) rfl ?_
    refine ⟨rfl, ?_, m2.out.setCell (Nat.le_refl _) _⟩
    rw [hp.out]
    exact ⟨_, by simpa using blk_set m3.out 0 (.slice A5 (n + 1) c5), Kd.R_set m1.out m3.out (by decide) 0 _⟩
  · have hb0 : ((n : Int) == 0) = false := by simp; omega
    obtain ⟨m, hm⟩ : ∃ m, n = m + 1 := ⟨n - 1, by omega⟩
    have hnw : IntKind.i64.wrap ((n : Int) - 1) = (m : Int) := by rw [IntKind.wrap_i64]; omega
    have hm0 : (0 : Int) ≤ (m : Int) := by omega
    have hmn : (m : Int) < (n : Int) := by omega
    obtain ⟨g, cg, e, -, -, -⟩ := Kd.R_form HR1.out (by rw [HN.out]; omega)
    rw [HN.out] at e
    injection e with e1 _ e2
    subst e1
    clear e2
    obtain ⟨p0, p1⟩ := st_at HC1.out m (by omega)
    simp only [add_plain] at p0 p1
    obtain ⟨ly, hly⟩ : ∃ ly, (out.getD m (0, 0)).2 = ly := ⟨_, rfl⟩
    rw [hly] at p1
    have hlast : out.getLast?.map (·.2) = some ly := by
      rw [List.getLast?_eq_getElem?, HN.out, show n - 1 = m by omega, ← hly, List.getD_eq_getElem?_getD, List.getElem?_eq_getElem (by rw [HN.out]; omega)]; rfl
    have HL := Lib.hid hlast
    have HM := Lib.hid hm
    clear hlast hly hm p0 h0
    by_cases hy : ly = py
    · have hp : Hid (pF out (px, py) = out) := Lib.hid (by unfold pF; rw [HL.out, hy, if_pos rfl])
      have hb1 : (ly == py) = true := by simp [hy]
      have hb2 : (ly != py) = false := by simp [hy]
      clear hy
      go_quiet (fail)
      go_wp2_with fail
      refine bodyPost_end (results_none rfl _ _ _) rfl ?_
      exact ⟨rfl, by rw [hp.out]; exact ⟨_, HU1.out, Kd.R_below HR1.out (pw_below_drewN (Below.refl _ W1) nq)⟩, pw_below_drewN HB1.out nq⟩
    · have hp : Hid (pF out (px, py) = out ++ [(px, py)]) := Lib.hid (by unfold pF; rw [HL.out, if_neg (fun e => hy (by injection e))])
      have hb1 : (ly == py) = false := by simp [hy]
      have hb2 : (ly != py) = true := by simp [hy]
      clear hy
      go_quiet (fail)
      have HR2 := Lib.hid (Kd.R_below HR1.out (pw_below_drewN (Below.refl _ W1) nq))
      have HU2 := Lib.hid (blk_below HU1.out (pw_below_drewN (Below.refl _ W1) nq))
      have HG2 := Lib.hid (blk_below HG1.out (pw_below_drewN (Below.refl _ W1) nq))
      have HB2 := Lib.hid (pw_below_drewN HB1.out nq)
      clear s0 s1 o0 o1 HR1 HU1 HG1 HB1 HC1 p1
      generalize W1.drewN nq = W2 at *
      have s0 : W2.cell? ⟨bP, 0, none⟩ = some (.int .i64 px) := (blk_cell HG2.out 0).trans rfl
      have s1 : W2.cell? ⟨bP, 1, none⟩ = some (.int .i64 py) := (blk_cell HG2.out 1).trans rfl
      have o0 : W2.cell? ⟨bO, 0, none⟩ = some (.slice (some ⟨g, 0, none⟩) n c) := (blk_cell HU2.out 0).trans rfl
      have hz2 : bO ≤ W2.heap.size := by have := blk_lt HU2.out; omega
      go_wp2_with (at_builtin; refine Kd.R_append kst (w0 := W) bO rfl (.tmp 18) (.tmp 20) 80 84 _ 16 rfl Try.underlying80 infoStep rfl (by decide) (by omega) (.slice (some ⟨g, 0, none⟩) n c) out (px, py) [.int .i64 px, .int .i64 py] (fun _ => True) (fun _ => False) rfl rfl ?aP (fun _ hk => hk.elim) (fun _ _ => trivial) HR2.out HB2.out hz2 ?aL ?_; (case aP => exact kst_mkM _ _ _ (px, py)); (case aL => rw [HN.out]; omega); intro v1 w6 ho hb hg hat; have m1 := Lib.hid ho; have m2 := Lib.hid hb; have m3 := Lib.hid (blk_grown HU2.out hg (Kd.R_ne HR2.out HU2.out (show 84 ≠ 80 by decide))); clear ho hb hg hat; obtain ⟨A5, c5, e5⟩ := Kd.R_slice m1.out; rw [List.length_append, HN.out, List.length_singleton] at e5; subst e5; have q2 := (blk_cell m3.out 0).trans rfl; have q3 := blk_frozen m3.out 0)
      refine bodyPost_end (results_none rfl _ _ _) rfl ?_
      refine ⟨rfl, ?_, m2.out.setCell (Nat.le_refl _) _⟩
      rw [hp.out]
      exact ⟨_, by simpa using blk_set m3.out 0 (.slice A5 (n + 1) c5), Kd.R_set m1.out m3.out (by decide) 0 _⟩
end Go.Proofs.Ytaccppchhljnkaa
