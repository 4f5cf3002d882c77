/- GridAt: for every input the law returns true. No condition. -/
import Derived.Test.YtgldonfpiifnfaaRows
import Derived.Test.YtgldonfpiifnfaaGridAwake
import Derived.Test.YtgldonfpiifnfaaGridRow
import Derived.Test.YtgldonfpiifnfaaRowBase
import Derived.Deep.DeepCutAuto
import Derived.Deep.CutBlock
import Derived.Deep.RegionWith
import Derived.Test.YtgldonfpiifnfaaNe
set_option linter.unusedVariables false
set_option linter.unusedSimpArgs false
namespace Go.Proofs.Ytgldonfpiifnfaa
open Go.RowKit Go.Shelf
open Go.IntWalk (wrap64_in)

theorem wfu8 {x : Int} (h : (Lit.int .u8 x).wf = true) : 0 ≤ x ∧ x ≤ 255 := by simpa [Lit.wf, IntKind.min, IntKind.max, IntKind.signed, IntKind.bits] using h
theorem wfi8 {x : Int} (h : (Lit.int .i8 x).wf = true) : -128 ≤ x ∧ x ≤ 127 := by simpa [Lit.wf, IntKind.min, IntKind.max, IntKind.signed, IntKind.bits] using h
theorem wfu16 {x : Int} (h : (Lit.int .u16 x).wf = true) : 0 ≤ x ∧ x ≤ 65535 := by simpa [Lit.wf, IntKind.min, IntKind.max, IntKind.signed, IntKind.bits] using h
theorem wfi16 {x : Int} (h : (Lit.int .i16 x).wf = true) : -32768 ≤ x ∧ x ≤ 32767 := by simpa [Lit.wf, IntKind.min, IntKind.max, IntKind.signed, IntKind.bits] using h
/-- A spec, as a value. -/
abbrev sv (X Y P W H S : Int) : Value := .agg #[.int .u8 X, .int .u8 Y, .int .u8 P, .int .u8 W, .int .u8 H, .int .u8 S]
/-- The six bytes of a spec. -/
def Six (X Y P W H S : Int) : Prop := (0 ≤ X ∧ X ≤ 255) ∧ (0 ≤ Y ∧ Y ≤ 255) ∧ (0 ≤ P ∧ P ≤ 255) ∧ (0 ≤ W ∧ W ≤ 255) ∧ (0 ≤ H ∧ H ≤ 255) ∧ (0 ≤ S ∧ S ≤ 255)
theorem spec_six {X Y P W H S : Int} (h : Six X Y P W H S) (w : World) :
    ∃ gX gY gP gW gH gS : Int, (-128 ≤ gX ∧ gX ≤ 127 ∧ -128 ≤ gY ∧ gY ≤ 127 ∧ 1 ≤ gP ∧ gP ≤ 16 ∧ 1 ≤ gW ∧ gW ≤ 10 ∧ 1 ≤ gH ∧ gH ≤ 10 ∧ 1 ≤ gS ∧ gS ≤ 64) ∧
    ∀ w, Calls Try.prog 22 #[sv X Y P W H S] w fun e w' => e = .returned (gv gX gY gP gW gH gS) ∧ Kept (fun _ => False) w w' := by
  obtain ⟨⟨a0, a1⟩, ⟨b0, b1⟩, ⟨c0, c1⟩, ⟨d0, d1⟩, ⟨e0, e1⟩, ⟨f0, f1⟩⟩ := h
  exact ⟨X - 128, Y - 128, 1 + P % 16, 1 + W % 10, 1 + H % 10, 1 + S % 64, ⟨by omega, by omega, by omega, by omega, by omega, by omega, by omega, by omega, by omega, by omega, by omega, by omega⟩, fun w => spec_c X Y P W H S w a0 a1 b0 b1 c0 c1 d0 d1 e0 e1 f0 f1⟩
theorem cells6 {w : World} {b : Nat} {x0 x1 x2 x3 x4 x5 : Value} {t : TypeId} {f : Nat × Nat} (h : w.heap[b]? = some (.cells #[x0, x1, x2, x3, x4, x5] t f)) :
    w.cell? ⟨b, 0, none⟩ = some x0 ∧ w.cell? ⟨b, 1, none⟩ = some x1 ∧ w.cell? ⟨b, 2, none⟩ = some x2 ∧ w.cell? ⟨b, 3, none⟩ = some x3 ∧ w.cell? ⟨b, 4, none⟩ = some x4 ∧ w.cell? ⟨b, 5, none⟩ = some x5 := by
  refine ⟨?_, ?_, ?_, ?_, ?_, ?_⟩ <;> simp [World.cell?, h]
theorem cells2 {w : World} {b : Nat} {x0 x1 : Value} {t : TypeId} {f : Nat × Nat} (h : w.heap[b]? = some (.cells #[x0, x1] t f)) : w.cell? ⟨b, 0, none⟩ = some x0 ∧ w.cell? ⟨b, 1, none⟩ = some x1 := by
  refine ⟨?_, ?_⟩ <;> simp [World.cell?, h]

set_option maxHeartbeats 2000000 in
/-- A texel of a field. -/
theorem at_c (fw fh : Int) (A : Option Addr) (len cap : Nat) (T : Nat → Int) (i k : Int) (w : World) (hw : -128 ≤ fw ∧ fw ≤ 127) (hh : -128 ≤ fh ∧ fh ≤ 127) (hi : -128 ≤ i ∧ i ≤ 127) (hk : -128 ≤ k ∧ k ≤ 127) (hlc : len ≤ cap) (hcm : cap ≤ 9223372036854775807)
    (hc : len = 0 ∨ ∃ b off, A = some ⟨b, off, none⟩ ∧ ∀ j, j < len → w.cell? ⟨b, off + j, none⟩ = some (.int .u8 (T j))) :
    Calls Try.prog 30 #[.agg #[vi fw, vi fh, .slice A len cap], vi i, vi k] w fun e w' =>
      e = .returned (if i < 0 ∨ k < 0 ∨ fw ≤ i ∨ fh ≤ k ∨ (len : Int) ≤ k * fw + i then .tuple #[.int .u8 0, .bool false] else .tuple #[.int .u8 (T (k * fw + i).toNat), .bool true]) ∧ Kept (fun _ => False) w w' := by
  obtain ⟨w0, w1⟩ := hw; obtain ⟨h0, h1⟩ := hh; obtain ⟨i0, i1⟩ := hi; obtain ⟨k0, k1⟩ := hk
  have HK := Lib.hid (Kept.alloc (fun _ => False) w (.cells #[vi fw, vi fh, .slice A len cap] 61))
  have HC := Lib.hid hc; clear hc
  by_cases c1 : i < 0
  · rw [if_pos (.inl c1)]
    go_enter Try.func30, Try.ntmps30
    go_wp2
    go_ret2
    exact ⟨rfl, HK.out⟩
  by_cases c2 : k < 0
  · rw [if_pos (.inr (.inl c2))]
    go_enter Try.func30, Try.ntmps30
    go_wp2
    go_ret2
    exact ⟨rfl, HK.out⟩
  by_cases c3 : fw ≤ i
  · rw [if_pos (.inr (.inr (.inl c3)))]
    go_enter Try.func30, Try.ntmps30
    go_wp2
    go_ret2
    exact ⟨rfl, HK.out⟩
  by_cases c4 : fh ≤ k
  · rw [if_pos (.inr (.inr (.inr (.inl c4))))]
    go_enter Try.func30, Try.ntmps30
    go_wp2
    go_ret2
    exact ⟨rfl, HK.out⟩
  have hm0 : 0 ≤ k * fw := Int.mul_nonneg (by omega) (by omega)
  have hm1 : k * fw ≤ 127 * 127 := by
    have l1 : k * fw ≤ 127 * fw := Int.mul_le_mul_of_nonneg_right k1 (by omega)
    have l2 : 127 * fw ≤ 127 * 127 := Int.mul_le_mul_of_nonneg_left w1 (by omega)
    omega
  by_cases c5 : (len : Int) ≤ k * fw + i
  · rw [if_pos (.inr (.inr (.inr (.inr c5))))]
    go_enter Try.func30, Try.ntmps30
    go_wp2
    go_ret2
    exact ⟨rfl, HK.out⟩
  · rw [if_neg (by rintro (h | h | h | h | h); exact c1 h; exact c2 h; exact c3 h; exact c4 h; exact c5 h)]
    rcases HC.out with h | ⟨b, off, rfl, hcell⟩
    · omega
    have hj : (k * fw + i).toNat < len := by omega
    have cT : w.cell? ⟨b, off + (k * fw + i).toNat, none⟩ = some (.int .u8 (T (k * fw + i).toNat)) := hcell _ hj
    have cT2 : (w.alloc (.cells #[vi fw, vi fh, .slice (some ⟨b, off, none⟩) len cap] 61)).cell? ⟨b, off + (k * fw + i).toNat, none⟩ = some (.int .u8 (T (k * fw + i).toNat)) := Kept.cell HK.out cT (by simp)
    clear hcell HC cT
    go_enter Try.func30, Try.ntmps30
    go_wp2
    go_ret2
    exact ⟨rfl, HK.out⟩

set_option maxHeartbeats 4000000 in
theorem gridAt_core (fw fh : Int) (A : Option Addr) (len cap : Nat) (T : Nat → Int) (i k : Int) (w : World) (hw : -128 ≤ fw ∧ fw ≤ 127) (hh : -128 ≤ fh ∧ fh ≤ 127) (hi : -128 ≤ i ∧ i ≤ 127) (hk : -128 ≤ k ∧ k ≤ 127) (hr : Reads .u8 w A len cap T) :
    Calls Try.prog 10 #[.int .i8 fw, .int .i8 fh, .slice A len cap, .int .i8 i, .int .i8 k] w fun e w' => e = .returned (.bool true) ∧ Below w.heap.size w w' := by
  obtain ⟨hlc, hm, _, hc⟩ := hr
  have hca : ∀ W, Kept (fun _ => False) w W → (len = 0 ∨ ∃ b off, A = some ⟨b, off, none⟩ ∧ ∀ j, j < len → W.cell? ⟨b, off + j, none⟩ = some (.int .u8 (T j))) := fun W hW => by
    rcases hc with h | ⟨b, off, h1, _, h2⟩
    · exact .inl h
    · exact .inr ⟨b, off, h1, fun j hj => hW.cell (h2 j hj) (by simp)⟩
  have HA := Lib.hid (fun (W : World) (hW : Kept (fun _ => False) w W) => at_c fw fh A len cap T i k W hw hh hi hk hlc hm (hca W hW))
  have HC := Lib.hid hc; clear hc hca
  obtain ⟨w0, w1⟩ := hw; obtain ⟨h0, h1⟩ := hh; obtain ⟨i0, i1⟩ := hi; obtain ⟨k0, k1⟩ := hk
  have hmb : -16384 ≤ k * fw ∧ k * fw ≤ 16384 := by
    rcases Int.lt_or_le fw 0 with h | h
    · have h3 := mul_bound (a := k) (b := -fw) (A := 128) (B := 128) (by omega) (by omega) (by omega) (by omega) (by omega)
      rw [Int.mul_neg] at h3
      omega
    · have h3 := mul_bound (a := k) (b := fw) (A := 128) (B := 128) (by omega) (by omega) (by omega) (by omega) (by omega)
      omega
  obtain ⟨hm0, hm1⟩ := hmb
  by_cases c1 : i < 0
  · skip
    rw [if_pos (.inl c1)] at HA
    go_enter Try.func10, Try.ntmps10
    go_wp2_with fail
    refine (awake9 _).mono ?_
    rintro e w1 ⟨rfl, hk1⟩
    have HK1 := Lib.hid (hk1.trans (Kept.alloc (fun _ => False) w1 (.cells #[vi fw, vi fh, .slice A len cap] 61))); clear hk1
    go_wp2_with fail
    refine (HA.out _ HK1.out).mono ?_
    rintro e w2 ⟨rfl, hk2⟩
    have HK2 := Lib.hid (HK1.out.trans hk2); clear hk2 HK1
    go_wp2_with fail
    go_ret
    exact ⟨rfl, HK2.out.below (Nat.le_refl _) (fun _ h => h.elim)⟩
  by_cases c2 : k < 0
  · skip
    rw [if_pos (.inr (.inl c2))] at HA
    go_enter Try.func10, Try.ntmps10
    go_wp2_with fail
    refine (awake9 _).mono ?_
    rintro e w1 ⟨rfl, hk1⟩
    have HK1 := Lib.hid (hk1.trans (Kept.alloc (fun _ => False) w1 (.cells #[vi fw, vi fh, .slice A len cap] 61))); clear hk1
    go_wp2_with fail
    refine (HA.out _ HK1.out).mono ?_
    rintro e w2 ⟨rfl, hk2⟩
    have HK2 := Lib.hid (HK1.out.trans hk2); clear hk2 HK1
    go_wp2_with fail
    go_ret
    exact ⟨rfl, HK2.out.below (Nat.le_refl _) (fun _ h => h.elim)⟩
  by_cases c3 : fw ≤ i
  · skip
    rw [if_pos (.inr (.inr (.inl c3)))] at HA
    go_enter Try.func10, Try.ntmps10
    go_wp2_with fail
    refine (awake9 _).mono ?_
    rintro e w1 ⟨rfl, hk1⟩
    have HK1 := Lib.hid (hk1.trans (Kept.alloc (fun _ => False) w1 (.cells #[vi fw, vi fh, .slice A len cap] 61))); clear hk1
    go_wp2_with fail
    refine (HA.out _ HK1.out).mono ?_
    rintro e w2 ⟨rfl, hk2⟩
    have HK2 := Lib.hid (HK1.out.trans hk2); clear hk2 HK1
    go_wp2_with fail
    go_ret
    exact ⟨rfl, HK2.out.below (Nat.le_refl _) (fun _ h => h.elim)⟩
  by_cases c4 : fh ≤ k
  · skip
    rw [if_pos (.inr (.inr (.inr (.inl c4))))] at HA
    go_enter Try.func10, Try.ntmps10
    go_wp2_with fail
    refine (awake9 _).mono ?_
    rintro e w1 ⟨rfl, hk1⟩
    have HK1 := Lib.hid (hk1.trans (Kept.alloc (fun _ => False) w1 (.cells #[vi fw, vi fh, .slice A len cap] 61))); clear hk1
    go_wp2_with fail
    refine (HA.out _ HK1.out).mono ?_
    rintro e w2 ⟨rfl, hk2⟩
    have HK2 := Lib.hid (HK1.out.trans hk2); clear hk2 HK1
    go_wp2_with fail
    go_ret
    exact ⟨rfl, HK2.out.below (Nat.le_refl _) (fun _ h => h.elim)⟩
  by_cases c5 : (len : Int) ≤ k * fw + i
  · skip
    rw [if_pos (.inr (.inr (.inr (.inr c5))))] at HA
    go_enter Try.func10, Try.ntmps10
    go_wp2_with fail
    refine (awake9 _).mono ?_
    rintro e w1 ⟨rfl, hk1⟩
    have HK1 := Lib.hid (hk1.trans (Kept.alloc (fun _ => False) w1 (.cells #[vi fw, vi fh, .slice A len cap] 61))); clear hk1
    go_wp2_with fail
    refine (HA.out _ HK1.out).mono ?_
    rintro e w2 ⟨rfl, hk2⟩
    have HK2 := Lib.hid (HK1.out.trans hk2); clear hk2 HK1
    go_wp2_with fail
    go_ret
    exact ⟨rfl, HK2.out.below (Nat.le_refl _) (fun _ h => h.elim)⟩
  · rw [if_neg (by rintro (h | h | h | h | h); exact c1 h; exact c2 h; exact c3 h; exact c4 h; exact c5 h)] at HA
    rcases HC.out with h | ⟨b, off, rfl, hbw, hcell⟩
    · have : 0 ≤ k * fw := Int.mul_nonneg (by omega) (by omega)
      omega
    have hk0 : 0 ≤ k * fw := Int.mul_nonneg (by omega) (by omega)
    have hj : (k * fw + i).toNat < len := by omega
    have HT := Lib.hid (hcell _ hj)
    clear hcell HC
    have hbe : (T (k * fw + i).toNat == T (k * fw + i).toNat) = true := by simp
    go_enter Try.func10, Try.ntmps10
    go_wp2_with fail
    refine (awake9 _).mono ?_
    rintro e w1 ⟨rfl, hk1⟩
    have HK1 := Lib.hid (hk1.trans (Kept.alloc (fun _ => False) w1 (.cells #[vi fw, vi fh, .slice (some ⟨b, off, none⟩) len cap] 61))); clear hk1
    go_wp2_with fail
    refine (HA.out _ HK1.out).mono ?_
    rintro e w2 ⟨rfl, hk2⟩
    have HK2 := Lib.hid (HK1.out.trans hk2); clear hk2 HK1
    have cT : w2.cell? ⟨b, off + (k * fw + i).toNat, none⟩ = some (.int .u8 (T (k * fw + i).toNat)) := HK2.out.cell HT.out (by simp)
    go_wp2_with fail
    go_ret
    exact ⟨rfl, HK2.out.below (Nat.le_refl _) (fun _ h => h.elim)⟩

namespace gridAt
open Go.ChangeShapes Go.WideShapes Go.ChangeAt Go.RowKit
open Go.ChangeMaps (open_string shut_string)
theorem own : ownKnob Try.prog.godebug = none := by kernel_rfl
theorem laidOut : laidOutB Try.prog = true := by kernel_rfl

set_option maxRecDepth 100000 in
theorem lifted (os : Os) (started : os.Started) (H : Type) (enc : TypeId × Value → H) :
    ReturnsInHanded {} Try.checked os 10 .any (Rows.gridAtSpec.pre6 enc Try.prog Try.f10 Rows.gridAtRow.domain false) (Rows.gridAtSpec.post enc Try.prog Try.f10 false true false false) := by
  refine returnsInHanded_of_change (C := Try.checked) own started (by kernel_rfl) Try.func10
    (ChangeSpec.witness6 (enc := enc) (C := Try.checked) false ⟨#[], #[.int .i8 0, .int .i8 0, .slice none 0 0, .int .i8 0, .int .i8 0], []⟩ 8 (by kernel_rfl) (by kernel_rfl) (by kernel_rfl) (by kernel_rfl)) ?_
  intro W base args ds gs before hval0 hW hcnd _
  have hval : ∀ (j : Nat) t v, Try.f10.params[j]? = some t → args[j]? = some v → Value.okWide Try.prog W .any base t v := hval0
  have hW' := hW
  obtain ⟨p, q, hA0, hV, rfl, hfz, hnd⟩ := hW
  have hA : DataW.TrodAll enc Try.prog W 0 (fun _ => true) true Try.f10.params.toList args.toList ds p := hA0
  rw [Try.params10] at hA hval
  obtain ⟨v0, vs0, d0, ds0, p0, q0, hargs, rfl, rfl, h0, r0⟩ := trodAll_cons hA
  obtain ⟨v1, vs1, d1, ds1, p1, q1, rfl, rfl, rfl, h1, r1⟩ := trodAll_cons r0
  obtain ⟨v2, vs2, d2, ds2, p2, q2, rfl, rfl, rfl, h2, r2⟩ := trodAll_cons r1
  obtain ⟨v3, vs3, d3, ds3, p3, q3, rfl, rfl, rfl, h3, r3⟩ := trodAll_cons r2
  obtain ⟨v4, vs4, d4, ds4, p4, q4, rfl, rfl, rfl, h4, r4⟩ := trodAll_cons r3
  obtain ⟨rfl, rfl, rfl⟩ := trodAll_nil r4
  obtain rfl : args = #[v0, v1, v2, v3, v4] := by cases args; simp_all
  obtain ⟨rfl, rfl⟩ := trodVars_none hV
  obtain ⟨a0, rfl, rfl, rfl, w0⟩ := open_int Try.underlying44 (hval 0 44 v0 rfl rfl) h0
  obtain ⟨a1, rfl, rfl, rfl, w1⟩ := open_int Try.underlying44 (hval 1 44 v1 rfl rfl) h1
  obtain ⟨a2, len2, cap2, rfl⟩ := okWide_slice Try.underlying22 (hval 2 22 v2 rfl rfl)
  have k2 := h2
  have lt2 : ∀ x ∈ p2, x.block < W.heap.size := by obtain ⟨m, hm⟩ := k2; exact DataW.trod_lt m _ _ _ hm
  obtain ⟨z2, w2⟩ : ∃ zs, IsRow .u8 W a2 len2 cap2 zs := by
    obtain ⟨fuel, hf⟩ := h2
    rcases open_ints Try.underlying22 Try.underlying5 (by kernel_rfl) hf with ⟨hcs, _⟩ | ⟨x, l, c, zs, hcs, _, hl, hm, hz, _, hcell, hwz⟩
    · simp [Value.cells] at hcs
      obtain ⟨rfl, rfl, rfl⟩ := hcs
      exact ⟨[], .inl ⟨rfl, rfl, rfl, rfl⟩⟩
    · simp [Value.cells] at hcs
      obtain ⟨rfl, rfl, rfl⟩ := hcs
      exact ⟨zs, .inr ⟨_, rfl, hl, hm, by simpa using hz, hcell, hwz⟩⟩
  have reads2 := w2.reads
  obtain ⟨a3, rfl, rfl, rfl, w3⟩ := open_int Try.underlying44 (hval 3 44 v3 rfl rfl) h3
  obtain ⟨a4, rfl, rfl, rfl, w4⟩ := open_int Try.underlying44 (hval 4 44 v4 rfl rfl) h4
  clear hA0 hval0
  refine (gridAt_core a0 a1 a2 len2 cap2 _ a3 a4 W (wfi8 w0) (wfi8 w1) (wfi8 w3) (wfi8 w4) reads2).mono fun e W' ⟨he, bel⟩ => ?_
  subst he
  exact ⟨_, rfl, _, _, _, [], _, [], hW', trodAll_mk1 (shut_bool Try.underlying4 _), (trodAll_cons_mk (shut_int Try.underlying44 w0) (trodAll_cons_mk (shut_int Try.underlying44 w1) (trodAll_cons_mk (Below.trod laidOut (by kernel_rfl) (of_decide_eq_true (by kernel_rfl)) k2 bel lt2) (trodAll_cons_mk (shut_int Try.underlying44 w3) (trodAll_cons_mk (shut_int Try.underlying44 w4) trodAll_mk0))))), rfl, bel.frame _, fun h => by cases h⟩

theorem over : Rows.gridAtRow.holds Try.pinned (OpenSpec.ofChange Rows.gridAtSpec) :=
  OpenClaim.holds_of_wide 10 Try.f10 rfl rfl rfl rfl rfl rfl rfl ⟨rfl, rfl, rfl, rfl, rfl⟩ rfl rfl rfl rfl rfl (by kernel_rfl) Try.func10 (by kernel_rfl)
    (of_decide_eq_true (by kernel_rfl)) (by unfold Func.isWrapper; first | (rw [if_pos (by decide +kernel)]; kernel_rfl) | (rw [if_neg (by decide +kernel)]; exact ⟨rfl, rfl⟩))
    (fun os started H enc _ => lifted os started H enc)

theorem proved : Rows.GridAtSaid := over
end gridAt

end Go.Proofs.Ytgldonfpiifnfaa
