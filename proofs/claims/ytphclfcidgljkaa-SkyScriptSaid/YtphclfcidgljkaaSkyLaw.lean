/- The law's own over, steps and shows: the walks. -/
import Derived.Test.YtphclfcidgljkaaSkyGrows
import Derived.Test.YtphclfcidgljkaaTwo
set_option linter.unusedVariables false
set_option linter.unusedSimpArgs false
namespace Go.Proofs.Ytphclfcidgljkaa
open Go.RowKit Go.Proofs.YtphclfcidgljkaaW.PrintWords Go.Proofs.YtphclfcidgljkaaW.PrintLast Go.Proofs.YtphclfcidgljkaaW.PrintMore
theorem mx_start (m : Int) (l : List Int) (x : Nat) : mxF x m x 0 (l.drop x) = mxF x m 0 0 l := by
  by_cases h : x ≤ l.length
  · have := mx_skip x m l 0 x 0 (by omega) h
    rw [Nat.zero_add] at this
    exact this.symm
  · rw [List.drop_eq_nil_of_le (by omega), mxF, mx_before x m l 0 0 (by omega)]
attribute [local go_sem high] eqTwo
attribute [local go_sem] cell_alloc max2_max min2_min max_two min_two
set_option maxHeartbeats 1000000 in
set_option maxRecDepth 100000 in
theorem lover_c (W : World) (gw : Nat) (l : List Int) (hR : RowAt W gw l) (hl : l.length ≤ 1000) (x m : Int) (hx0 : 0 ≤ x) (hx1 : x ≤ 1000000) (hm0 : -1000000 ≤ m) (hm1 : m ≤ 1000000) :
    Calls Try.prog 14 #[.slice (some ⟨gw, 0, none⟩) l.length l.length, .int .i64 x, .int .i64 m] W fun e w' => e = .returned (.int .i64 (mxF x m 0 0 l)) ∧ w' = W := by
  obtain ⟨X, rfl⟩ := Int.eq_ofNat_of_zero_le hx0
  have hst := mx_start m l X
  obtain ⟨R, hRR⟩ : ∃ R, mxF X m 0 0 l = R := ⟨_, rfl⟩
  rw [hRR] at hst ⊢
  clear hRR
  obtain ⟨n, hn⟩ : ∃ n, l.length = n := ⟨_, rfl⟩
  rw [hn] at hl ⊢
  have HN := Lib.hid hn; have HR := Lib.hid hR; have HST := Lib.hid hst
  clear hn hR hst
  go_enter Try.func14, Try.ntmps14
  go_wp2_with fail
  obtain ⟨w0, rfl⟩ : ∃ w0 : World, w0 = W := ⟨_, rfl⟩
  go_loopw [7, 8] (fun v7 v8 W => ∃ (k : Nat) (out : Int), v7 = .int .i64 out ∧ v8 = .int .i64 k ∧ X ≤ k ∧ k ≤ max X n ∧ Hid (mxF X m k out (l.drop k) = R) ∧ W = w0) (fun _ v8 _ => max X n - (intOf v8).toNat)
  case atStart => exact ⟨X, 0, rfl, rfl, Nat.le_refl _, by omega, HST, by trivial⟩
  case round =>
    obtain ⟨k, out, rfl, rfl, hk0, hk1, HE, rfl⟩ := hrel
    by_cases h1 : (k : Int) < (X : Int) + m
    · by_cases h2 : k < n
      · have h2i : (k : Int) < (n : Int) := by omega
        have c0 := HR.out.cell k (by rw [HN.out]; exact h2)
        obtain ⟨y, hy⟩ : ∃ y, l.getD k 0 = y := ⟨_, rfl⟩
        rw [hy] at c0
        have hd : l.drop k = y :: l.drop (k + 1) := by
          rw [List.drop_eq_getElem_cons (by rw [HN.out]; exact h2)]
          rw [List.getD_eq_getElem?_getD, List.getElem?_eq_getElem (by rw [HN.out]; exact h2), Option.getD_some] at hy
          rw [hy]
        have he := HE.out
        rw [hd, mxF, if_pos ⟨by omega, h1⟩] at he
        have HE2 := Lib.hid he
        clear hy hd he HE
        go_wp2_with fail
        go_roundw
        case rel => exact ⟨k + 1, _, rfl, by go_num, by omega, by omega, HE2, by trivial⟩
        case measure => simp [intOf]; omega
      · have h2i : ¬ (k : Int) < (n : Int) := by omega
        have he := HE.out
        rw [List.drop_eq_nil_of_le (by rw [HN.out]; omega), mxF] at he
        have HE2 := Lib.hid he
        clear he HE
        go_wp2_with fail
        go_ret
        exact ⟨ret_num HE2.out, by trivial⟩
    · have he := HE.out
      rw [mx_done _ _ _ _ _ (by omega)] at he
      have HE2 := Lib.hid he
      clear he HE
      go_wp2_with fail
      go_ret
      exact ⟨ret_num HE2.out, by trivial⟩
set_option maxHeartbeats 1000000 in
set_option maxRecDepth 100000 in
theorem lsteps_c (W : World) (gw : Nat) (l : List Int) (hR : RowAt W gw l) (hl : l.length ≤ 1000) :
    Calls Try.prog 21 #[.slice (some ⟨gw, 0, none⟩) l.length l.length] W fun e w' => ∃ u, e = .returned u ∧ Kd.R kst 44 w' W.heap.size (fun _ => True) u (stepsOf l) ∧ Below W.heap.size W w' := by
  obtain ⟨n, hn⟩ : ∃ n, l.length = n := ⟨_, rfl⟩
  rw [hn] at hl ⊢
  have HN := Lib.hid hn; have HR := Lib.hid hR
  clear hn hR
  go_enter Try.func21, Try.ntmps21
  go_wp2_with fail
  obtain ⟨w0, rfl⟩ : ∃ w0 : World, w0 = W := ⟨_, rfl⟩
  go_loopw [3, 8] (fun v3 v8 W => ∃ (k : Nat) (u : Value), v8 = .int .i64 k ∧ v3 = u ∧ k ≤ n ∧ Hid (Kd.R kst 44 W w0.heap.size (fun _ => True) u (stL 0 none (l.take k))) ∧ Hid (Below w0.heap.size w0 W)) (fun _ v8 _ => n - (intOf v8).toNat)
  case atStart => exact ⟨0, _, rfl, rfl, Nat.zero_le _, Lib.hid (Kd.R_nil _ _ _ _ _), Lib.hid (Below.refl _ _)⟩
  case round =>
    obtain ⟨k, u, rfl, rfl, hk, HO, HB⟩ := hrel
    obtain ⟨Au, cu, eu⟩ := Kd.R_slice HO.out
    have hsl := stL_len (l.take k) 0 none
    rw [List.length_take, HN.out, Nat.min_eq_left hk] at hsl
    obtain ⟨q, hq⟩ : ∃ q, (stL 0 none (l.take k)).length = q := ⟨_, rfl⟩
    rw [hq] at eu hsl
    subst eu
    have HQ := Lib.hid hq
    clear hq
    by_cases hkn : k < n
    · have hkk : (k : Int) < (n : Int) := by omega
      have HRr : Hid (RowAt wr gw l) := Lib.hid (blk_below HR.out HB.out)
      have c0 := HRr.out.cell k (by rw [HN.out]; exact hkn)
      obtain ⟨y, hy⟩ : ∃ y, l.getD k 0 = y := ⟨_, rfl⟩
      rw [hy] at c0
      have hsn : l.take (k + 1) = l.take k ++ [y] := by
        rw [List.take_succ_eq_append_getElem (by rw [HN.out]; exact hkn)]
        rw [List.getD_eq_getElem?_getD, List.getElem?_eq_getElem (by rw [HN.out]; exact hkn), Option.getD_some] at hy
        rw [hy]
      have hst := stL_snoc (l.take k) 0 none y
      rw [← hsn, List.length_take, HN.out, Nat.min_eq_left hk, Nat.zero_add] at hst
      by_cases h0 : k = 0
      · have hb0 : ((k : Int) == 0) = true := by simp; omega
        have hst2 : stL 0 none (l.take (k + 1)) = stL 0 none (l.take k) ++ [((k : Int), y)] := by
          rw [hst]
          subst h0
          simp [lastO]
        have HST := Lib.hid hst2
        clear hst hst2 hsn hy h0
        go_wp2_with (at_builtin; refine Kd.R_append kst (w0 := w0) w0.heap.size rfl (.tmp 24) (.tmp 28) 42 44 _ 16 rfl Try.underlying42 infoTwo rfl (by decide) (by omega) (.slice Au q cu) (stL 0 none (l.take k)) ((k : Int), y) [.int .i64 (k : Int), .int .i64 y] (fun _ => True) (fun _ => False) rfl rfl ?aP (fun _ hk => hk.elim) (fun _ _ => trivial) HO.out HB.out HB.out.size ?aL ?_; (case aP => exact kst_mkM _ _ _ ((k : Int), y)); (case aL => rw [HQ.out]; omega); intro v1 w6 ho hb hg hat; have m1 := Lib.hid ho; have m2 := Lib.hid hb; clear ho hb hg hat)
        go_roundw
        case rel => exact ⟨k + 1, v1, by go_num, rfl, by omega, Lib.hid (by rw [HST.out]; exact m1.out), m2⟩
        case measure => simp [intOf]; omega
      · have hb0 : ((k : Int) == 0) = false := by simp; omega
        obtain ⟨p, hp⟩ : ∃ p, k = p + 1 := ⟨k - 1, by omega⟩
        have hkw : IntKind.i64.wrap ((k : Int) - 1) = (p : Int) := by rw [IntKind.wrap_i64]; omega
        have hks : (k : Int) - 1 = (p : Int) := by omega
        have hp0 : (0 : Int) ≤ (p : Int) := by omega
        have hpn : (p : Int) < (n : Int) := by omega
        have c1 := HRr.out.cell p (by rw [HN.out]; omega)
        obtain ⟨z, hz⟩ : ∃ z, l.getD p 0 = z := ⟨_, rfl⟩
        rw [hz] at c1
        have hlast : lastO none (l.take k) = some z := by
          unfold lastO
          rw [List.getLast?_eq_getElem?, List.length_take, HN.out, Nat.min_eq_left hk, List.getElem?_take_of_lt (by omega), show k - 1 = p by omega, List.getElem?_eq_getElem (by rw [HN.out]; omega)]
          rw [List.getD_eq_getElem?_getD, List.getElem?_eq_getElem (by rw [HN.out]; omega), Option.getD_some] at hz
          rw [hz]
        rw [hlast] at hst
        by_cases hzy : z = y
        · have hst2 : stL 0 none (l.take (k + 1)) = stL 0 none (l.take k) := by rw [hst, if_pos (by rw [hzy]), List.append_nil]
          have hb1 : (z == y) = true := by simp [hzy]
          have hb2 : (z != y) = false := by simp [hzy]
          have HST := Lib.hid hst2
          clear hst hst2 hsn hy hz hlast hzy hp h0
          go_wp2_with fail
          go_roundw
          case rel => exact ⟨k + 1, _, by go_num, rfl, by omega, Lib.hid (by rw [HST.out]; exact HO.out), HB⟩
          case measure => simp [intOf]; omega
        · have hst2 : stL 0 none (l.take (k + 1)) = stL 0 none (l.take k) ++ [((k : Int), y)] := by rw [hst, if_neg (fun e => hzy (by injection e))]
          have hb1 : (z == y) = false := by simp [hzy]
          have hb2 : (z != y) = true := by simp [hzy]
          have HST := Lib.hid hst2
          clear hst hst2 hsn hy hz hlast hzy hp h0
          go_wp2_with (at_builtin; refine Kd.R_append kst (w0 := w0) w0.heap.size rfl (.tmp 24) (.tmp 28) 42 44 _ 16 rfl Try.underlying42 infoTwo rfl (by decide) (by omega) (.slice Au q cu) (stL 0 none (l.take k)) ((k : Int), y) [.int .i64 (k : Int), .int .i64 y] (fun _ => True) (fun _ => False) rfl rfl ?aP (fun _ hk => hk.elim) (fun _ _ => trivial) HO.out HB.out HB.out.size ?aL ?_; (case aP => exact kst_mkM _ _ _ ((k : Int), y)); (case aL => rw [HQ.out]; omega); intro v1 w6 ho hb hg hat; have m1 := Lib.hid ho; have m2 := Lib.hid hb; clear ho hb hg hat)
          go_roundw
          case rel => exact ⟨k + 1, v1, by go_num, rfl, by omega, Lib.hid (by rw [HST.out]; exact m1.out), m2⟩
          case measure => simp [intOf]; omega
    · have hkk : ¬ (k : Int) < (n : Int) := by omega
      have ho := HO.out
      rw [List.take_of_length_le (by rw [HN.out]; omega)] at ho
      have HO2 := Lib.hid ho
      clear ho HO
      go_wp2_with fail
      go_ret
      exact ⟨_, rfl, HO2.out, HB.out⟩
end Go.Proofs.Ytphclfcidgljkaa
