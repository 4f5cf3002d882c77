/- Skylines: Steps. -/
import Derived.Test.YtphclfcidgljkaaSkyReb
import Derived.Test.YtphclfcidgljkaaWEqStruct
set_option linter.unusedVariables false
set_option linter.unusedSimpArgs false
namespace Go.Proofs.Ytphclfcidgljkaa
open Go.RowKit Go.Proofs.YtphclfcidgljkaaW.PrintWords Go.Proofs.YtphclfcidgljkaaW.PrintLast Go.Proofs.YtphclfcidgljkaaW.PrintMore
theorem infoTwo : (Try.prog.info? 44).map (fun i => (i.zero, i.size, i.bytes)) = some (some (.agg #[(.int .i64 0), (.int .i64 0)]), 2, 16) := by kernel_rfl
theorem eqRect (d : Nat) (w : World) (x0 y0 : Int) (x1 y1 : Int) (x2 y2 : Int) (x3 y3 : Int) :
    (Op.equalIn (d + 2) 31 (.agg #[.int .i64 x0, .int .i64 x1, .int .i64 x2, .int .i64 x3]) (.agg #[.int .i64 y0, .int .i64 y1, .int .i64 y2, .int .i64 y3])).run Try.prog w = .ok (x0 == y0 && (x1 == y1 && (x2 == y2 && (x3 == y3)))) w := by
  refine eqA_of Try.underlying31 (by kernel_rfl) ?_
  refine eqf_cons (by rfl) (by go_simp; rfl) (by go_simp; rfl) (by go_simp) ?_
  refine eqf_cons (by rfl) (by go_simp; rfl) (by go_simp; rfl) (by go_simp) ?_
  refine eqf_cons (by rfl) (by go_simp; rfl) (by go_simp; rfl) (by go_simp) ?_
  exact eqf_last (by rfl) (by go_simp; rfl) (by go_simp; rfl) (by go_simp)
attribute [local go_sem] cell_alloc
set_option maxHeartbeats 1000000 in
set_option maxRecDepth 100000 in
theorem steps_c (W : World) (g w h : Nat) (l : List Int) (hS : SkyAt W g w h l) :
    Calls Try.prog 18 #[.pointer (some ⟨g, 0, none⟩)] W fun e w' => ∃ u, e = .returned u ∧ Kd.R kst 44 w' W.heap.size (fun _ => True) u (stepsOf l) ∧ Below W.heap.size W w' := by
  obtain ⟨A, c, c0, c1, c2, hl, hr, hlen⟩ := hS.open
  obtain ⟨st, hst⟩ : ∃ st, stepsOf l = st := ⟨_, rfl⟩
  rw [hst] at c2 hl hr hlen ⊢
  clear hst hS
  obtain ⟨n, hn⟩ : ∃ n, st.length = n := ⟨_, rfl⟩
  rw [hn] at c2 hl hr hlen
  have HN := Lib.hid hn; have HR := Lib.hid hr
  clear hn hr
  go_enter Try.func18, Try.ntmps18
  go_wp2_with fail
  obtain ⟨w0, rfl⟩ : ∃ w0 : World, w0 = W := ⟨_, rfl⟩
  go_loopw [3, 11] (fun v3 v11 W => ∃ (k : Nat) (u : Value), v11 = .int .i64 k ∧ v3 = u ∧ k ≤ n ∧ Hid (Kd.R kst 44 W w0.heap.size (fun _ => True) u (st.take k)) ∧ Hid (Below w0.heap.size w0 W)) (fun _ v11 _ => n - (intOf v11).toNat)
  case atStart => exact ⟨0, _, rfl, rfl, Nat.zero_le _, Lib.hid (Kd.R_nil _ _ _ _ _), Lib.hid (Below.refl _ _)⟩
  case round =>
    obtain ⟨k, u, rfl, rfl, hk, HO, HB⟩ := hrel
    obtain ⟨Au, cu, eu⟩ := Kd.R_slice HO.out
    rw [List.length_take, HN.out, Nat.min_eq_left hk] at eu
    subst eu
    by_cases hkn : k < n
    · have hkk : (k : Int) < (n : Int) := by omega
      obtain ⟨ad, eA⟩ := C_some HR.out (by omega)
      subst eA
      obtain ⟨p0, p1⟩ := st_at (Kd.C_below HR.out HB.out) k hkn
      obtain ⟨⟨px, py⟩, hp⟩ : ∃ p, st.getD k (0, 0) = p := ⟨_, rfl⟩
      rw [hp] at p0 p1
      have hsn : st.take (k + 1) = st.take k ++ [(px, py)] := by
        rw [List.take_succ_eq_append_getElem (by rw [HN.out]; exact hkn)]
        rw [List.getD_eq_getElem?_getD, List.getElem?_eq_getElem (by rw [HN.out]; exact hkn), Option.getD_some] at hp
        rw [hp]
      have HSN := Lib.hid hsn
      have HLK : Hid ((st.take k).length = k) := Lib.hid (by rw [List.length_take, HN.out]; omega)
      have al := below_alloc (Below.refl _ wr) (.cells #[.int .i64 px, .int .i64 py] 53)
      have g1 := heap_alloc_new wr (.cells #[.int .i64 px, .int .i64 py] 53)
      have HB1 := Lib.hid (below_step HB.out al)
      have HO1 := Lib.hid (Kd.R_below HO.out al)
      clear hp hsn
      go_upto_region 5 with (fail)
      generalize wr.alloc (.cells #[.int .i64 px, .int .i64 py] 53) = W1 at *
      generalize wr.heap.size = bP at *
      have s0 : W1.cell? ⟨bP, 0, none⟩ = some (.int .i64 px) := (blk_cell g1 0).trans rfl
      have s1 : W1.cell? ⟨bP, 1, none⟩ = some (.int .i64 py) := (blk_cell g1 1).trans rfl
      clear p0 p1 al g1
      go_wp2_with (at_builtin; refine Kd.R_append kst (w0 := w0) w0.heap.size rfl (.tmp 15) (.tmp 21) 42 44 _ 16 rfl Try.underlying42 infoTwo rfl (by decide) (by omega) (.slice Au k cu) (st.take k) (px, py) [.int .i64 px, .int .i64 py] (fun _ => True) (fun _ => False) rfl rfl ?aP (fun _ hk => hk.elim) (fun _ _ => trivial) HO1.out HB1.out HB1.out.size ?aL ?_; (case aP => exact kst_mkM _ _ _ (px, py)); (case aL => rw [HLK.out]; omega); intro v1 w6 ho hb hg hat; have m1 := Lib.hid ho; have m2 := Lib.hid hb; clear ho hb hg hat)
      go_roundw
      case rel => exact ⟨k + 1, v1, by go_num, rfl, by omega, Lib.hid (by rw [HSN.out]; exact m1.out), m2⟩
      case measure => simp [intOf]; omega
    · have hkk : ¬ (k : Int) < (n : Int) := by omega
      have ho := HO.out
      rw [List.take_of_length_le (by rw [HN.out]; omega)] at ho
      have HO2 := Lib.hid ho
      clear ho HO
      go_wp2_with fail
      go_ret
      exact ⟨_, rfl, HO2.out, HB.out⟩
end Go.Proofs.Ytphclfcidgljkaa
