/- GridCode: for every input the law returns true. No condition. -/
import Derived.Test.YtgldonfpiifnfaaRows
import Derived.Test.YtgldonfpiifnfaaGridAwake
import Derived.Test.YtgldonfpiifnfaaGridRow
import Derived.Test.YtgldonfpiifnfaaRowBase
import Derived.Deep.DeepCutAuto
import Derived.Deep.CutBlock
set_option linter.unusedVariables false
set_option linter.unusedSimpArgs false
namespace Go.Proofs.Ytgldonfpiifnfaa
open Go.RowKit Go.Shelf
open Go.IntWalk (wrap64_in)

theorem wfu8 {x : Int} (h : (Lit.int .u8 x).wf = true) : 0 ≤ x ∧ x ≤ 255 := by simpa [Lit.wf, IntKind.min, IntKind.max, IntKind.signed, IntKind.bits] using h
theorem wfi8 {x : Int} (h : (Lit.int .i8 x).wf = true) : -128 ≤ x ∧ x ≤ 127 := by simpa [Lit.wf, IntKind.min, IntKind.max, IntKind.signed, IntKind.bits] using h
theorem wfu16 {x : Int} (h : (Lit.int .u16 x).wf = true) : 0 ≤ x ∧ x ≤ 65535 := by simpa [Lit.wf, IntKind.min, IntKind.max, IntKind.signed, IntKind.bits] using h
theorem wfi16 {x : Int} (h : (Lit.int .i16 x).wf = true) : -32768 ≤ x ∧ x ≤ 32767 := by simpa [Lit.wf, IntKind.min, IntKind.max, IntKind.signed, IntKind.bits] using h
/-- A spec, as a value. -/
abbrev sv (X Y P W H S : Int) : Value := .agg #[.int .u8 X, .int .u8 Y, .int .u8 P, .int .u8 W, .int .u8 H, .int .u8 S]
/-- The six bytes of a spec. -/
def Six (X Y P W H S : Int) : Prop := (0 ≤ X ∧ X ≤ 255) ∧ (0 ≤ Y ∧ Y ≤ 255) ∧ (0 ≤ P ∧ P ≤ 255) ∧ (0 ≤ W ∧ W ≤ 255) ∧ (0 ≤ H ∧ H ≤ 255) ∧ (0 ≤ S ∧ S ≤ 255)
theorem spec_six {X Y P W H S : Int} (h : Six X Y P W H S) (w : World) :
    ∃ gX gY gP gW gH gS : Int, (-128 ≤ gX ∧ gX ≤ 127 ∧ -128 ≤ gY ∧ gY ≤ 127 ∧ 1 ≤ gP ∧ gP ≤ 16 ∧ 1 ≤ gW ∧ gW ≤ 10 ∧ 1 ≤ gH ∧ gH ≤ 10 ∧ 1 ≤ gS ∧ gS ≤ 64) ∧
    ∀ w, Calls Try.prog 22 #[sv X Y P W H S] w fun e w' => e = .returned (gv gX gY gP gW gH gS) ∧ Kept (fun _ => False) w w' := by
  obtain ⟨⟨a0, a1⟩, ⟨b0, b1⟩, ⟨c0, c1⟩, ⟨d0, d1⟩, ⟨e0, e1⟩, ⟨f0, f1⟩⟩ := h
  exact ⟨X - 128, Y - 128, 1 + P % 16, 1 + W % 10, 1 + H % 10, 1 + S % 64, ⟨by omega, by omega, by omega, by omega, by omega, by omega, by omega, by omega, by omega, by omega, by omega, by omega⟩, fun w => spec_c X Y P W H S w a0 a1 b0 b1 c0 c1 d0 d1 e0 e1 f0 f1⟩
theorem cells6 {w : World} {b : Nat} {x0 x1 x2 x3 x4 x5 : Value} {t : TypeId} {f : Nat × Nat} (h : w.heap[b]? = some (.cells #[x0, x1, x2, x3, x4, x5] t f)) :
    w.cell? ⟨b, 0, none⟩ = some x0 ∧ w.cell? ⟨b, 1, none⟩ = some x1 ∧ w.cell? ⟨b, 2, none⟩ = some x2 ∧ w.cell? ⟨b, 3, none⟩ = some x3 ∧ w.cell? ⟨b, 4, none⟩ = some x4 ∧ w.cell? ⟨b, 5, none⟩ = some x5 := by
  refine ⟨?_, ?_, ?_, ?_, ?_, ?_⟩ <;> simp [World.cell?, h]
theorem cells2 {w : World} {b : Nat} {x0 x1 : Value} {t : TypeId} {f : Nat × Nat} (h : w.heap[b]? = some (.cells #[x0, x1] t f)) : w.cell? ⟨b, 0, none⟩ = some x0 ∧ w.cell? ⟨b, 1, none⟩ = some x1 := by
  refine ⟨?_, ?_⟩ <;> simp [World.cell?, h]

theorem codeN_mono (S e : Int) (hS : 1 ≤ S) (h0 : 0 ≤ e) : codeN S e ≤ codeN S (e + 1) := by
  have hb := codeN_bound S e hS h0
  unfold codeN at *
  by_cases h1 : e < 256 * S
  · by_cases h2 : e + 1 < 256 * S
    · rw [if_pos h1, if_pos h2]
      exact Int.ediv_le_ediv (by omega) (by omega)
    · rw [if_pos h1] at hb
      rw [if_pos h1, if_neg h2]
      exact hb.2
  · rw [if_neg h1, if_neg (by omega)]
    omega

set_option maxHeartbeats 2000000 in
theorem gridCode_core (X Y P W H S eight sign : Int) (w : World) (hs : Six X Y P W H S) (he : 0 ≤ eight ∧ eight ≤ 65535) (hi : -128 ≤ sign ∧ sign ≤ 127) :
    Calls Try.prog 7 #[sv X Y P W H S, .int .u16 eight, .int .i8 sign] w fun e w' => e = .returned (.bool true) ∧ Below w.heap.size w w' := by
  obtain ⟨gX, gY, gP, gW, gH, gS, ⟨x0, x1, y0, y1, p0, p1, _, _, _, _, s0, s1⟩, hsp⟩ := spec_six hs w
  have HSP := Lib.hid hsp; clear hsp hs
  obtain ⟨e0, e1⟩ := he
  obtain ⟨i0, i1⟩ := hi
  obtain ⟨x, hx⟩ : ∃ x, sign.tmod 2 = x := ⟨_, rfl⟩
  have hx3 : x = -1 ∨ x = 0 ∨ x = 1 := by
    have h1 := Int.lt_tmod_of_pos sign (show (0 : Int) < 2 by omega)
    have h2 := Int.tmod_lt_of_pos sign (show (0 : Int) < 2 by omega)
    omega
  have HC := Lib.hid (fun w => code_c gX gY gP gW gH gS x eight w s0 s1 (by omega) (by omega) e0 (by omega))
  have HC' := Lib.hid (fun w => code_c gX gY gP gW gH gS x (eight + 1) w s0 s1 (by omega) (by omega) (by omega) (by omega))
  obtain ⟨n0, n1⟩ := codeN_bound gS eight s0 e0
  obtain ⟨m0, m1⟩ := codeN_bound gS (eight + 1) s0 (by omega)
  have hm := codeN_mono gS eight s0 e0
  have hn : (eight < 256 * gS ∧ 127 * eight / (256 * gS) = codeN gS eight) ∨ (¬ eight < 256 * gS ∧ codeN gS eight = 127) := by
    unfold codeN
    by_cases h : eight < 256 * gS
    · left; rw [if_pos h, Int.mul_comm 127 eight]; exact ⟨h, rfl⟩
    · right; rw [if_neg h]; exact ⟨h, rfl⟩
  have hfact : ∃ c d : Int, codeF gS x eight = c ∧ codeF gS x (eight + 1) = d ∧ c = 128 + x * codeN gS eight ∧ 0 ≤ (d - c) * x ∧ (d - c) * x ≤ 1000 ∧ -127 ≤ x * codeN gS eight ∧ x * codeN gS eight ≤ 127 ∧ 1 ≤ c ∧ c ≤ 255 ∧ 0 ≤ d ∧ d ≤ 255 := by
    unfold codeF
    refine ⟨_, _, rfl, rfl, rfl, ?_⟩
    rcases hx3 with h | h | h <;> rw [h] <;> refine ⟨?_, ?_, ?_, ?_, ?_, ?_, ?_, ?_⟩ <;> omega
  obtain ⟨c, d, hc, hd, hcN, b0, b1, b2, b3, b4, b5, b6, b7⟩ := hfact
  rw [hc] at HC
  rw [hd] at HC'
  have hbe : (c == 128 + x * codeN gS eight) = true := by rw [← hcN]; simp
  have hxa : -1 ≤ x := by omega
  have hxb : x ≤ 1 := by omega
  clear hc hd hcN hm m0 m1 hx3
  generalize codeN gS eight = N at *
  have HN := Lib.hid hn; clear hn
  have HS0 := Lib.hid (heap_alloc_new w (.cells #[.int .u8 X, .int .u8 Y, .int .u8 P, .int .u8 W, .int .u8 H, .int .u8 S] 37))
  have HK0 := Lib.hid (Kept.alloc (fun _ => False) w (.cells #[.int .u8 X, .int .u8 Y, .int .u8 P, .int .u8 W, .int .u8 H, .int .u8 S] 37))
  go_enter Try.func7, Try.ntmps7
  go_wp2_with fail
  refine (awake9 _).mono ?_
  rintro e w1 ⟨rfl, hk1⟩
  obtain ⟨s0, s1, s2, s3, s4, s5⟩ := cells6 (hk1.get HS0.out (by simp))
  have HK1 := Lib.hid (HK0.out.trans hk1); clear hk1 HK0 HS0
  go_wp2_with fail
  refine (HSP.out _).mono ?_
  rintro e w2 ⟨rfl, hk2⟩
  clear s0 s1 s2 s3 s4 s5
  have HG := Lib.hid (heap_alloc_new w2 (.cells #[vi gX, vi gY, vi gP, vi gW, vi gH, vi gS] 35))
  have HK2 := Lib.hid ((HK1.out.trans hk2).trans (Kept.alloc (fun _ => False) w2 (.cells #[vi gX, vi gY, vi gP, vi gW, vi gH, vi gS] 35)))
  clear hk2 HK1
  obtain ⟨g0, g1, g2, g3, g4, g5⟩ := cells6 HG.out
  rcases HN.out with ⟨hlt, hq⟩ | ⟨hlt, hq⟩
  · subst hq
    go_wp2_with fail
    refine (HC.out _).mono ?_
    rintro e w4 ⟨rfl, hk4⟩
    have HG4 := Lib.hid (hk4.get HG.out (by simp))
    have HK4 := Lib.hid (HK2.out.trans hk4)
    clear hk4 g0 g1 g2 g3 g4 g5
    obtain ⟨g0, g1, g2, g3, g4, g5⟩ := cells6 HG4.out
    go_wp2_with fail
    refine (HC'.out _).mono ?_
    rintro e w5 ⟨rfl, hk5⟩
    have HK5 := Lib.hid (HK4.out.trans hk5)
    clear hk5 g0 g1 g2 g3 g4 g5
    go_wp2_with fail
    go_ret
    exact ⟨rfl, HK5.out.below (Nat.le_refl _) (fun _ h => h.elim)⟩
  · subst hq
    go_wp2_with fail
    refine (HC.out _).mono ?_
    rintro e w4 ⟨rfl, hk4⟩
    have HG4 := Lib.hid (hk4.get HG.out (by simp))
    have HK4 := Lib.hid (HK2.out.trans hk4)
    clear hk4 g0 g1 g2 g3 g4 g5
    obtain ⟨g0, g1, g2, g3, g4, g5⟩ := cells6 HG4.out
    go_wp2_with fail
    refine (HC'.out _).mono ?_
    rintro e w5 ⟨rfl, hk5⟩
    have HK5 := Lib.hid (HK4.out.trans hk5)
    clear hk5 g0 g1 g2 g3 g4 g5
    go_wp2_with fail
    go_ret
    exact ⟨rfl, HK5.out.below (Nat.le_refl _) (fun _ h => h.elim)⟩

namespace gridCode
open Go.ChangeShapes Go.WideShapes Go.ChangeAt Go.RowKit
open Go.ChangeMaps (open_string shut_string)
theorem own : ownKnob Try.prog.godebug = none := by kernel_rfl
theorem laidOut : laidOutB Try.prog = true := by kernel_rfl

set_option maxRecDepth 100000 in
theorem lifted (os : Os) (started : os.Started) (H : Type) (enc : TypeId × Value → H) :
    ReturnsInHanded {} Try.checked os 7 .any (Rows.gridCodeSpec.pre6 enc Try.prog Try.f7 Rows.gridCodeRow.domain false) (Rows.gridCodeSpec.post enc Try.prog Try.f7 false true false false) := by
  refine returnsInHanded_of_change (C := Try.checked) own started (by kernel_rfl) Try.func7
    (ChangeSpec.witness6 (enc := enc) (C := Try.checked) false ⟨#[], #[.agg #[.int .u8 0, .int .u8 0, .int .u8 0, .int .u8 0, .int .u8 0, .int .u8 0], .int .u16 0, .int .i8 0], []⟩ 8 (by kernel_rfl) (by kernel_rfl) (by kernel_rfl) (by kernel_rfl)) ?_
  intro W base args ds gs before hval0 hW hcnd _
  have hval : ∀ (j : Nat) t v, Try.f7.params[j]? = some t → args[j]? = some v → Value.okWide Try.prog W .any base t v := hval0
  have hW' := hW
  obtain ⟨p, q, hA0, hV, rfl, hfz, hnd⟩ := hW
  have hA : DataW.TrodAll enc Try.prog W 0 (fun _ => true) true Try.f7.params.toList args.toList ds p := hA0
  rw [Try.params7] at hA hval
  obtain ⟨v0, vs0, d0, ds0, p0, q0, hargs, rfl, rfl, h0, r0⟩ := trodAll_cons hA
  obtain ⟨v1, vs1, d1, ds1, p1, q1, rfl, rfl, rfl, h1, r1⟩ := trodAll_cons r0
  obtain ⟨v2, vs2, d2, ds2, p2, q2, rfl, rfl, rfl, h2, r2⟩ := trodAll_cons r1
  obtain ⟨rfl, rfl, rfl⟩ := trodAll_nil r2
  obtain rfl : args = #[v0, v1, v2] := by cases args; simp_all
  obtain ⟨rfl, rfl⟩ := trodVars_none hV
  have k0 := h0
  have lt0 : ∀ x ∈ p0, x.block < W.heap.size := by obtain ⟨m, hm⟩ := k0; exact DataW.trod_lt m _ _ _ hm
  obtain ⟨a00, a01, a02, a03, a04, a05, rfl, w00, w01, w02, w03, w04, w05⟩ := open_six .u8 Try.underlying37 (by kernel_rfl) (by kernel_rfl) ⟨Try.underlying5, Try.underlying5, Try.underlying5, Try.underlying5, Try.underlying5, Try.underlying5⟩ (hval 0 37 v0 rfl rfl) h0
  obtain ⟨a1, rfl, rfl, rfl, w1⟩ := open_int Try.underlying49 (hval 1 49 v1 rfl rfl) h1
  obtain ⟨a2, rfl, rfl, rfl, w2⟩ := open_int Try.underlying44 (hval 2 44 v2 rfl rfl) h2
  clear hA0 hval0
  refine (gridCode_core a00 a01 a02 a03 a04 a05 a1 a2 W ⟨wfu8 w00, wfu8 w01, wfu8 w02, wfu8 w03, wfu8 w04, wfu8 w05⟩ (wfu16 w1) (wfi8 w2)).mono fun e W' ⟨he, bel⟩ => ?_
  subst he
  exact ⟨_, rfl, _, _, _, [], _, [], hW', trodAll_mk1 (shut_bool Try.underlying4 _), (trodAll_cons_mk (Below.trod laidOut (by kernel_rfl) (of_decide_eq_true (by kernel_rfl)) k0 bel lt0) (trodAll_cons_mk (shut_int Try.underlying49 w1) (trodAll_cons_mk (shut_int Try.underlying44 w2) trodAll_mk0))), rfl, bel.frame _, fun h => by cases h⟩

theorem over : Rows.gridCodeRow.holds Try.pinned (OpenSpec.ofChange Rows.gridCodeSpec) :=
  OpenClaim.holds_of_wide 7 Try.f7 rfl rfl rfl rfl rfl rfl rfl ⟨rfl, rfl, rfl, rfl, rfl⟩ rfl rfl rfl rfl rfl (by kernel_rfl) Try.func7 (by kernel_rfl)
    (of_decide_eq_true (by kernel_rfl)) (by unfold Func.isWrapper; first | (rw [if_pos (by decide +kernel)]; kernel_rfl) | (rw [if_neg (by decide +kernel)]; exact ⟨rfl, rfl⟩))
    (fun os started H enc _ => lifted os started H enc)

theorem proved : Rows.GridCodeSaid := over
end gridCode

end Go.Proofs.Ytgldonfpiifnfaa
