/- The law's shows: the walk. -/
import Derived.Test.YtphclfcidgljkaaSkyLow
set_option linter.unusedVariables false
set_option linter.unusedSimpArgs false
namespace Go.Proofs.Ytphclfcidgljkaa
open Go.RowKit Go.Proofs.YtphclfcidgljkaaW.PrintWords Go.Proofs.YtphclfcidgljkaaW.PrintLast Go.Proofs.YtphclfcidgljkaaW.PrintMore
attribute [local go_sem high] eqTwo
attribute [local go_sem] cell_alloc max2_max min2_min max_two min_two
set_option maxHeartbeats 2000000 in
set_option maxRecDepth 100000 in
theorem shows_c (W : World) (g w h : Nat) (l : List Int) (hS : SkyAt W g w h l) (gw : Nat) (hR : RowAt W gw l) :
    Calls Try.prog 16 #[.pointer (some ⟨g, 0, none⟩), .slice (some ⟨gw, 0, none⟩) w w] W fun e w' => e = .returned (.bool true) ∧ Below W.heap.size W w' := by
  have hlw := hS.len
  have hw64 := hS.w64
  have HS := Lib.hid hS; have HR := Lib.hid hR; have HLW := Lib.hid hlw
  have HST := Lib.hid (fun W' hb => lsteps_c W' gw l (blk_below hR hb) (by omega))
  rw [hlw] at HST
  have HH := Lib.hid (fun W' hb x => high_c W' g w h l (hS.below hb) x)
  clear hS hR hlw
  go_enter Try.func16, Try.ntmps16
  go_wp2_with fail
  refine (steps_c W g w h l HS.out).mono ?_
  rintro e w5 ⟨u5, rfl, ho5, hb5⟩
  obtain ⟨A5, c5, e5, l5, r5⟩ := Kd.R_reads ho5
  subst e5
  have HB5 := Lib.hid hb5
  have HC5 := Lib.hid r5
  clear ho5 hb5 r5
  go_wp2_with fail
  refine (HST.out w5 HB5.out).mono ?_
  rintro e w6 ⟨u6, rfl, ho6, hb6⟩
  obtain ⟨A6, c6, e6, l6, r6⟩ := Kd.R_reads ho6
  subst e6
  have HB6 := Lib.hid (below_step HB5.out hb6)
  have HD6 := Lib.hid r6
  have HC6 := Lib.hid (Kd.C_below HC5.out hb6)
  have hsl := stL_len l 0 none
  rw [HLW.out] at hsl
  have hsl2 : (stepsOf l).length ≤ w := hsl
  clear ho6 hb6 r6 hsl HC5 HB5
  generalize stepsOf l = st at *
  obtain ⟨n, hn⟩ : ∃ n, st.length = n := ⟨_, rfl⟩
  rw [hn] at HC6 HD6 hsl2 l5 l6 ⊢
  have hnn : ((n : Int) == (n : Int)) = true := by simp
  clear hn
  go_wp2_with fail
  go_loopw [21] (fun v21 W' => ∃ k : Nat, v21 = .int .i64 k ∧ k ≤ n ∧ Hid (Below w6.heap.size w6 W')) (fun v21 _ => n - (intOf v21).toNat)
  case atStart => exact ⟨0, rfl, Nat.zero_le _, Lib.hid (Below.refl _ _)⟩
  case round =>
    obtain ⟨k, rfl, hk, HB⟩ := hrel
    by_cases hkn : k < n
    · have hkk : (k : Int) < (n : Int) := by omega
      obtain ⟨ad5, eA5⟩ := C_some HC6.out (by omega)
      subst eA5
      obtain ⟨ad6, eA6⟩ := C_some HD6.out (by omega)
      subst eA6
      obtain ⟨p0, p1⟩ := st_at (Kd.C_below HC6.out HB.out) k hkn
      obtain ⟨q0, q1⟩ := st_at (Kd.C_below HD6.out HB.out) k hkn
      obtain ⟨⟨px, py⟩, hp⟩ : ∃ p, st.getD k (0, 0) = p := ⟨_, rfl⟩
      rw [hp] at p0 p1 q0 q1
      clear hp
      go_wp2_with fail
      go_quiet (fail)
      go_wp2_with fail
      go_roundw
      case rel => exact ⟨k + 1, by go_num, by omega, Lib.hid (pw_below_drewN HB.out nq)⟩
      case measure => simp [intOf]; omega
    · have hkk : ¬ (k : Int) < (n : Int) := by omega
      have HBw := Lib.hid (below_step HB6.out HB.out)
      clear HB
      obtain ⟨w7, rfl⟩ : ∃ w7 : World, w7 = wr := ⟨_, rfl⟩
      go_wp2_with fail
      go_loopw [36] (fun v36 W' => ∃ k : Nat, v36 = .int .i64 k ∧ k ≤ w ∧ Hid (Below W.heap.size W W')) (fun v36 _ => w - (intOf v36).toNat)
      case atStart => exact ⟨0, rfl, Nat.zero_le _, HBw⟩
      case round =>
        obtain ⟨j, rfl, hj, HI⟩ := hrel
        by_cases hjw : j < w
        · have hjj : (j : Int) < (w : Int) := by omega
          have HRj : Hid (RowAt wr gw l) := Lib.hid (blk_below HR.out HI.out)
          have c0 := HRj.out.cell j (by rw [HLW.out]; exact hjw)
          have hhi : hiR w l j = l.getD j 0 := by unfold hiR; rw [if_neg (by omega), Int.toNat_natCast]
          have HHj := Lib.hid (HH.out wr HI.out j)
          rw [hhi] at HHj
          obtain ⟨P, hP⟩ : ∃ P, l.getD j 0 = P := ⟨_, rfl⟩
          rw [hP] at HHj c0
          clear hP hhi
          have hpp : (P == P) = true := by simp
          go_wp2_with fail
          refine HHj.out.mono ?_
          rintro e w9 ⟨rfl, hb9⟩
          have HI9 := Lib.hid (below_step HI.out hb9)
          clear hb9
          go_wp2_with fail
          go_roundw
          case rel => exact ⟨j + 1, by go_num, by omega, HI9⟩
          case measure => simp [intOf]; omega
        · have hjj : ¬ (j : Int) < (w : Int) := by omega
          have hh1 : hiR w l (-1) = -1 := by unfold hiR; rw [if_pos (by omega)]
          have hh2 : hiR w l w = -1 := by unfold hiR; rw [if_pos (by omega)]
          have H1 := Lib.hid (HH.out wr HI.out (-1))
          have H2 := Lib.hid (fun W' hb => HH.out W' hb w)
          rw [hh1] at H1
          rw [hh2] at H2
          clear hh1 hh2
          go_wp2_with fail
          refine H1.out.mono ?_
          rintro e w9 ⟨rfl, hb9⟩
          have HI9 := Lib.hid (below_step HI.out hb9)
          clear hb9
          go_wp2_with fail
          refine (H2.out w9 HI9.out).mono ?_
          rintro e w10 ⟨rfl, hb10⟩
          have HI10 := Lib.hid (below_step HI9.out hb10)
          clear hb10
          go_wp2_with fail
          go_ret
          exact ⟨rfl, HI10.out⟩
end Go.Proofs.Ytphclfcidgljkaa
