/- Skylines: High. -/
import Derived.Test.YtaccppchhljnkaaSky
set_option linter.unusedVariables false
set_option linter.unusedSimpArgs false
namespace Go.Proofs.Ytaccppchhljnkaa
open Go.RowKit Go.Proofs.YtaccppchhljnkaaW.PrintWords Go.Proofs.YtaccppchhljnkaaW.PrintLast Go.Proofs.YtaccppchhljnkaaW.PrintMore
def hiR (w : Int) (l : List Int) (x : Int) : Int := if x < 0 ∨ w ≤ x then -1 else l.getD x.toNat 0
set_option maxHeartbeats 1000000 in
set_option maxRecDepth 100000 in
theorem high_c (W : World) (g w h : Nat) (l : List Int) (hS : SkyAt W g w h l) (x : Int) :
    Calls Try.prog 46 #[.pointer (some ⟨g, 0, none⟩), .int .i64 x] W fun e w' => e = .returned (.int .i64 (hiR w l x)) ∧ Below W.heap.size W w' := by
  obtain ⟨A, c, c0, c1, c2, hl, hr, hlen⟩ := hS.open
  by_cases hx : x < 0
  · have hR : hiR w l x = -1 := by unfold hiR; rw [if_pos (.inl hx)]
    rw [hR]
    clear hR hS hr
    go_enter Try.func46, Try.ntmps46
    go_wp2_with fail
    go_ret
    exact ⟨rfl, Below.refl _ _⟩
  · by_cases hxw : (w : Int) ≤ x
    · have hR : hiR w l x = -1 := by unfold hiR; rw [if_pos (.inr hxw)]
      rw [hR]
      clear hR hS hr
      go_enter Try.func46, Try.ntmps46
      go_wp2_with fail
      go_ret
      exact ⟨rfl, Below.refl _ _⟩
    · obtain ⟨i, rfl⟩ := Int.eq_ofNat_of_zero_le (show 0 ≤ x by omega)
      have hR : hiR w l i = l.getD i 0 := by unfold hiR; rw [if_neg (by omega), Int.toNat_natCast]
      have hiw : i < l.length := by rw [hS.len]; omega
      have hhi := hi_steps l i hiw
      rw [hR]
      obtain ⟨R, hR2⟩ : ∃ R, l.getD i 0 = R := ⟨_, rfl⟩
      rw [hR2] at hhi ⊢
      have hw64 := hS.w64
      have hi64 : (i : Int) ≤ 64 := by omega
      clear hR hR2 hS hx hiw
      generalize stepsOf l = st at *
      obtain ⟨n, hn⟩ : ∃ n, st.length = n := ⟨_, rfl⟩
      rw [hn] at c2 hl hr hlen
      have HN := Lib.hid hn; have HR := Lib.hid hr; have HH := Lib.hid hhi
      clear hn hr hhi
      have hx0 : ¬ (i : Int) < 0 := by omega
      have hxw2 : ¬ w ≤ i := by omega
      go_enter Try.func46, Try.ntmps46
      go_wp2_with fail
      obtain ⟨w0, rfl⟩ : ∃ w0 : World, w0 = W := ⟨_, rfl⟩
      go_loopw [5, 23] (fun v5 v23 W => ∃ (k : Nat) (out : Int), v5 = .int .i64 out ∧ v23 = .int .i64 k ∧ k ≤ n ∧ Hid (hiF i out (st.drop k) = R) ∧ Hid (Below w0.heap.size w0 W)) (fun _ v23 _ => n - (intOf v23).toNat)
      case atStart => exact ⟨0, 0, rfl, rfl, Nat.zero_le _, HH, Lib.hid (Below.refl _ _)⟩
      case round =>
        obtain ⟨k, out, rfl, rfl, hk, HE, HB⟩ := hrel
        by_cases hkn : k < n
        · have hkk : (k : Int) < (n : Int) := by omega
          obtain ⟨ad, eA⟩ := C_some HR.out (by omega)
          subst eA
          obtain ⟨p0, p1⟩ := st_at (Kd.C_below HR.out HB.out) k hkn
          obtain ⟨px, hpx⟩ : ∃ px, (st.getD k (0, 0)).1 = px := ⟨_, rfl⟩
          obtain ⟨py, hpy⟩ : ∃ py, (st.getD k (0, 0)).2 = py := ⟨_, rfl⟩
          rw [hpx] at p0; rw [hpy] at p1
          have hst : st.drop k = (px, py) :: st.drop (k + 1) := by
            rw [List.drop_eq_getElem_cons (by rw [HN.out]; exact hkn)]
            rw [List.getD_eq_getElem?_getD, List.getElem?_eq_getElem (by rw [HN.out]; exact hkn)] at hpx hpy
            simp only [Option.getD_some] at hpx hpy
            rw [← hpx, ← hpy]
          have he := HE.out
          rw [hst, hiF] at he
          have B1 := Lib.hid (below_step HB.out (below_alloc (Below.refl _ wr) (.cells #[.int .i64 px, .int .i64 py] 84)))
          have HE1 := Lib.hid he
          clear he hst hpx hpy HE
          by_cases h1 : px ≤ (i : Int)
          · rw [if_pos h1] at HE1
            go_wp2_with fail
            go_roundw
            case rel => exact ⟨k + 1, _, rfl, by go_num, by omega, HE1, B1⟩
            case measure => simp [intOf]; omega
          · rw [if_neg h1] at HE1
            go_wp2_with fail
            go_roundw
            case rel => exact ⟨k + 1, _, rfl, by go_num, by omega, HE1, B1⟩
            case measure => simp [intOf]; omega
        · have hkk : ¬ (k : Int) < (n : Int) := by omega
          have he := HE.out
          rw [List.drop_eq_nil_of_le (by rw [HN.out]; omega), hiF] at he
          have HE1 := Lib.hid he
          clear he HE
          go_wp2_with fail
          go_ret
          exact ⟨ret_num HE1.out, HB.out⟩
end Go.Proofs.Ytaccppchhljnkaa
