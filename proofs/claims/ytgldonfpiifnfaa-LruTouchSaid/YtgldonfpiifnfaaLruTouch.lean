/- LruTouch: for every input the law returns true: who is used is the oldest one no more, unless alone. No condition. -/
import Derived.Test.YtgldonfpiifnfaaRows
import Derived.Test.YtgldonfpiifnfaaLruAwake
import Derived.Test.YtgldonfpiifnfaaLruUA
import Derived.Test.YtgldonfpiifnfaaRowBase
import Derived.Deep.DeepCutAuto
import Derived.Deep.CutBlock
set_option linter.unusedVariables false
namespace Go.Proofs.Ytgldonfpiifnfaa
open Go.RowKit

theorem touch_law {L : List Int} (h : L.Nodup) {k m : Int} {ms : List Int} (hM : L.erase k ++ [k] = m :: ms) :
    ((((ms.length + 1 : Nat) : Int) == (L.length : Int))) = decide (k ∈ L) ∧ decide (k ∈ m :: ms) = true ∧ (((ms.length + 1 : Nat) : Int) == 1) = (m == k) := by
  have hlen : ms.length + 1 = (L.erase k).length + 1 := by have := congrArg List.length hM; simpa using this.symm
  have hmem : k ∈ m :: ms := by rw [← hM]; simp
  refine ⟨?_, by simpa using hmem, ?_⟩
  · by_cases hk : k ∈ L
    · have := List.length_erase_of_mem hk
      have hp := List.length_pos_of_mem hk
      have : ms.length + 1 = L.length := by omega
      rw [this]
      simp [hk]
    · rw [List.erase_of_not_mem hk] at hlen
      have : ¬ ((ms.length + 1 : Nat) : Int) = (L.length : Int) := by omega
      rw [beq_eq_false_iff_ne.2 this]
      simp [hk]
  · cases he : L.erase k with
    | nil =>
      rw [he] at hM
      simp at hM
      obtain ⟨rfl, rfl⟩ := hM
      simp
    | cons a l =>
      rw [he] at hM
      simp at hM
      obtain ⟨rfl, rfl⟩ := hM
      have hne : a ≠ k := by
        rintro rfl
        have : a ∈ L.erase a := by rw [he]; simp
        exact h.not_mem_erase this
      have h2 : ¬ (((l ++ [k]).length + 1 : Nat) : Int) = 1 := by simp; omega
      rw [beq_eq_false_iff_ne.2 hne, beq_eq_false_iff_ne.2 h2]

set_option maxHeartbeats 400000 in
theorem touch_core (a0 : Option Addr) (len0 cap0 : Nat) (X : Nat → Int) (k : Int) (w : World) (hr : Reads .u8 w a0 len0 cap0 X) :
    Calls Try.prog 4 #[.slice a0 len0 cap0, .int .u8 k] w fun e w' => e = .returned (.bool true) ∧ Below w.heap.size w w' := by
  obtain ⟨hlc, hm, _, hc⟩ := hr
  have HC := Lib.hid hc; clear hc
  go_enter Try.func4, Try.ntmps4
  go_wp2_with fail
  refine (awake15 _).mono ?_
  rintro e w1 ⟨rfl, hk1⟩
  have hL0 := Lib.hid (LAt.made w1 26 5)
  have hP0 := Lib.hid (show Past w.heap.size w1.heap.size (.slice none 0 0) from ⟨hk1.size, by simp [Value.ownBlock]⟩)
  have hK0 := Lib.hid (hk1.trans (Kept.alloc (fun _ => False) w1 (.cells #[.slice none 0 0] 26)))
  have hbb : w1.heap.size < 1 + w1.heap.size := by omega
  go_upto_region 4 with fail
  generalize w1.alloc (.cells #[.slice none 0 0] 26) = w2 at *
  generalize w1.heap.size = b at *
  clear hk1
  go_cut [20, 21, 22] (fun s20 s21 s22 wx => ∃ n : Nat, n ≤ 100 ∧ n ≤ len0 ∧ s20 = .slice a0 n cap0 ∧ s21 = .int .i64 n ∧ s22 = .int .i64 0 ∧ wx = w2)
  case first =>
    by_cases hn : len0 ≤ 100
    all_goals
      go_wp2
      go_meet
      case rel => first | exact ⟨len0, hn, Nat.le_refl _, rfl, by simp, rfl, rfl⟩ | exact ⟨100, Nat.le_refl _, by omega, rfl, by simp, rfl, rfl⟩
  case rest =>
    obtain ⟨n, hn1, hn2, rfl, rfl, rfl, rfl⟩ := hcut
    go_wp2
    go_loopw [22, 7] (fun i _ wr => ∃ (j : Nat) (v : Value), j ≤ n ∧ i = .int .i64 j ∧ Hid (LAt wr 26 5 b v ((UA X j).map (Value.int .u8))) ∧ Hid (Past w.heap.size b v) ∧ Hid (Kept (fun _ => False) w wr)) (fun i _ _ => n - (intOf i).toNat)
    case atStart => exact ⟨0, _, Nat.zero_le _, rfl, hL0, hP0, hK0⟩
    case round =>
      obtain ⟨j, v, hj, rfl, hL, hP, hK⟩ := hrel
      by_cases hlt : j < n
      · rcases HC.out with h0 | ⟨kb, off, rfl, hkb, hc⟩
        · exact absurd h0 (by omega)
        have hcell : wr.cell? ⟨kb, off + j, none⟩ = some (.int .u8 (X j)) := hK.out.cell (hc j (by omega)) (by simp)
        clear hc HC
        have hl := UA_len X j
        go_wp2_with fail
        refine (use_u8 b v (UA X j) (X j) _ (by omega) hL.out).mono ?_
        rintro e w3 ⟨rfl, v3, hL3, hk3, hl3⟩
        obtain ⟨hP3, hK3⟩ := hP.out.step rfl hK.out hk3 (fun _ h => h) hl3
        have HL := Lib.hid hL3; have HP := Lib.hid hP3; have HK := Lib.hid hK3
        clear hL3 hk3 hl3 hP3 hK3 hcell
        go_wp2_with fail
        go_roundw
        case rel => exact ⟨j + 1, v3, by omega, by go_num, HL, HP, HK⟩
        case measure => simp [intOf]; omega
      · have hjn : j = n := by omega
        subst hjn
        have hl := UA_len X j
        have hnd := UA_nodup X j
        clear hlt
        generalize UA X j = L at *
        go_wp2_with fail
        refine (len_u8 b v L _ hL.out).mono ?_
        rintro e w3 ⟨rfl, rfl⟩
        go_wp2_with fail
        refine (use_u8 b v L k _ (by omega) hL.out).mono ?_
        rintro e w4 ⟨rfl, v4, hL4, hk4, hl4⟩
        obtain ⟨hP4, hK4⟩ := hP.out.step rfl hK.out hk4 (fun _ h => h) hl4
        have HL := Lib.hid hL4; have HP := Lib.hid hP4; have HK := Lib.hid hK4
        clear hL4 hk4 hl4 hP4 hK4
        obtain ⟨m, ms, hM⟩ : ∃ m ms, L.erase k ++ [k] = m :: ms := by cases L.erase k with | nil => exact ⟨_, _, rfl⟩ | cons a l => exact ⟨a, l ++ [k], rfl⟩
        rw [hM] at HL
        have hfin := touch_law hnd hM
        obtain ⟨hf1, hf2, hf3⟩ := hfin
        clear hnd hl
        generalize hmm : ms.length + 1 = q at *
        generalize L.length = p at *
        generalize decide (k ∈ L) = had at *
        have HM := Lib.hid hM; clear hM
        have HQ := Lib.hid hmm; clear hmm
        go_wp2_with fail
        refine (oldest_cons_u8 b v4 m ms _ HL.out).mono ?_
        rintro e w3 ⟨rfl, rfl⟩
        go_wp2_with fail
        refine (len_u8 b v4 (m :: ms) _ HL.out).mono ?_
        rintro e w3 ⟨rfl, rfl⟩
        rw [show (m :: ms).length = q from HQ.out]
        go_wp2_with fail
        refine (has_u8 b v4 (m :: ms) k _ HL.out).mono ?_
        rintro e w3 ⟨rfl, rfl⟩
        rw [hf2]
        go_wp2_with fail
        refine (len_u8 b v4 (m :: ms) _ HL.out).mono ?_
        rintro e w3 ⟨rfl, rfl⟩
        rw [show (m :: ms).length = q from HQ.out]
        go_wp2_with fail
        go_ret
        exact ⟨rfl, HK.out.below (Nat.le_refl _) (fun _ h => h.elim)⟩

namespace lruTouch
open Go.ChangeShapes Go.WideShapes Go.ChangeAt Go.RowKit
open Go.ChangeMaps (open_string shut_string)
theorem own : ownKnob Try.prog.godebug = none := by kernel_rfl
theorem laidOut : laidOutB Try.prog = true := by kernel_rfl

set_option maxRecDepth 100000 in
theorem lifted (os : Os) (started : os.Started) (H : Type) (enc : TypeId × Value → H) :
    ReturnsInHanded {} Try.checked os 4 .any (Rows.lruTouchSpec.pre6 enc Try.prog Try.f4 Rows.lruTouchRow.domain false) (Rows.lruTouchSpec.post enc Try.prog Try.f4 false true false false) := by
  refine returnsInHanded_of_change (C := Try.checked) own started (by kernel_rfl) Try.func4
    (ChangeSpec.witness6 (enc := enc) (C := Try.checked) false ⟨#[], #[.slice none 0 0, .int .u8 0], []⟩ 8 (by kernel_rfl) (by kernel_rfl) (by kernel_rfl) (by kernel_rfl)) ?_
  intro W base args ds gs before hval0 hW hcnd _
  have hval : ∀ (j : Nat) t v, Try.f4.params[j]? = some t → args[j]? = some v → Value.okWide Try.prog W .any base t v := hval0
  have hW' := hW
  obtain ⟨p, q, hA0, hV, rfl, hfz, hnd⟩ := hW
  have hA : DataW.TrodAll enc Try.prog W 0 (fun _ => true) true Try.f4.params.toList args.toList ds p := hA0
  rw [Try.params4] at hA hval
  obtain ⟨v0, vs0, d0, ds0, p0, q0, hargs, rfl, rfl, h0, r0⟩ := trodAll_cons hA
  obtain ⟨v1, vs1, d1, ds1, p1, q1, rfl, rfl, rfl, h1, r1⟩ := trodAll_cons r0
  obtain ⟨rfl, rfl, rfl⟩ := trodAll_nil r1
  obtain rfl : args = #[v0, v1] := by cases args; simp_all
  obtain ⟨rfl, rfl⟩ := trodVars_none hV
  obtain ⟨a0, len0, cap0, rfl⟩ := okWide_slice Try.underlying22 (hval 0 22 v0 rfl rfl)
  have k0 := h0
  have lt0 : ∀ x ∈ p0, x.block < W.heap.size := by obtain ⟨m, hm⟩ := k0; exact DataW.trod_lt m _ _ _ hm
  obtain ⟨z0, w0⟩ : ∃ zs, IsRow .u8 W a0 len0 cap0 zs := by
    obtain ⟨fuel, hf⟩ := h0
    rcases open_ints Try.underlying22 Try.underlying5 (by kernel_rfl) hf with ⟨hcs, _⟩ | ⟨x, l, c, zs, hcs, _, hl, hm, hz, _, hcell, hwz⟩
    · simp [Value.cells] at hcs
      obtain ⟨rfl, rfl, rfl⟩ := hcs
      exact ⟨[], .inl ⟨rfl, rfl, rfl, rfl⟩⟩
    · simp [Value.cells] at hcs
      obtain ⟨rfl, rfl, rfl⟩ := hcs
      exact ⟨zs, .inr ⟨_, rfl, hl, hm, by simpa using hz, hcell, hwz⟩⟩
  have reads0 := w0.reads
  obtain ⟨a1, rfl, rfl, rfl, w1⟩ := open_int Try.underlying5 (hval 1 5 v1 rfl rfl) h1
  clear hA0 hval0
  refine (touch_core a0 len0 cap0 _ a1 W reads0).mono fun e W' ⟨he, bel⟩ => ?_
  subst he
  exact ⟨_, rfl, _, _, _, [], _, [], hW', trodAll_mk1 (shut_bool Try.underlying4 _), (trodAll_cons_mk (Below.trod laidOut (by kernel_rfl) (of_decide_eq_true (by kernel_rfl)) k0 bel lt0) (trodAll_cons_mk (shut_int Try.underlying5 w1) trodAll_mk0)), rfl, bel.frame _, fun h => by cases h⟩

theorem over : Rows.lruTouchRow.holds Try.pinned (OpenSpec.ofChange Rows.lruTouchSpec) :=
  OpenClaim.holds_of_wide 4 Try.f4 rfl rfl rfl rfl rfl rfl rfl ⟨rfl, rfl, rfl, rfl, rfl⟩ rfl rfl rfl rfl rfl (by kernel_rfl) Try.func4 (by kernel_rfl)
    (of_decide_eq_true (by kernel_rfl)) (by unfold Func.isWrapper; first | (rw [if_pos (by decide +kernel)]; kernel_rfl) | (rw [if_neg (by decide +kernel)]; exact ⟨rfl, rfl⟩))
    (fun os started H enc _ => lifted os started H enc)

theorem proved : Rows.LruTouchSaid := over
end lruTouch

end Go.Proofs.Ytgldonfpiifnfaa
