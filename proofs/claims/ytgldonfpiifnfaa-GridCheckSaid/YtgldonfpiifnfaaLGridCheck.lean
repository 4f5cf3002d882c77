/- GridCheck: for every input the law returns true. No condition. -/
import Derived.Test.YtgldonfpiifnfaaRows
import Derived.Test.YtgldonfpiifnfaaGridAwake
import Derived.Test.YtgldonfpiifnfaaGridRow
import Derived.Test.YtgldonfpiifnfaaRowBase
import Derived.Deep.DeepCutAuto
import Derived.Deep.CutBlock
import Derived.Deep.RegionWith
import Derived.Test.YtgldonfpiifnfaaNe
set_option linter.unusedVariables false
set_option linter.unusedSimpArgs false
namespace Go.Proofs.Ytgldonfpiifnfaa
open Go.RowKit Go.Shelf
open Go.IntWalk (wrap64_in)

theorem wfu8 {x : Int} (h : (Lit.int .u8 x).wf = true) : 0 ≤ x ∧ x ≤ 255 := by simpa [Lit.wf, IntKind.min, IntKind.max, IntKind.signed, IntKind.bits] using h
theorem wfi8 {x : Int} (h : (Lit.int .i8 x).wf = true) : -128 ≤ x ∧ x ≤ 127 := by simpa [Lit.wf, IntKind.min, IntKind.max, IntKind.signed, IntKind.bits] using h
theorem wfu16 {x : Int} (h : (Lit.int .u16 x).wf = true) : 0 ≤ x ∧ x ≤ 65535 := by simpa [Lit.wf, IntKind.min, IntKind.max, IntKind.signed, IntKind.bits] using h
theorem wfi16 {x : Int} (h : (Lit.int .i16 x).wf = true) : -32768 ≤ x ∧ x ≤ 32767 := by simpa [Lit.wf, IntKind.min, IntKind.max, IntKind.signed, IntKind.bits] using h
/-- A spec, as a value. -/
abbrev sv (X Y P W H S : Int) : Value := .agg #[.int .u8 X, .int .u8 Y, .int .u8 P, .int .u8 W, .int .u8 H, .int .u8 S]
/-- The six bytes of a spec. -/
def Six (X Y P W H S : Int) : Prop := (0 ≤ X ∧ X ≤ 255) ∧ (0 ≤ Y ∧ Y ≤ 255) ∧ (0 ≤ P ∧ P ≤ 255) ∧ (0 ≤ W ∧ W ≤ 255) ∧ (0 ≤ H ∧ H ≤ 255) ∧ (0 ≤ S ∧ S ≤ 255)
theorem spec_six {X Y P W H S : Int} (h : Six X Y P W H S) (w : World) :
    ∃ gX gY gP gW gH gS : Int, (-128 ≤ gX ∧ gX ≤ 127 ∧ -128 ≤ gY ∧ gY ≤ 127 ∧ 1 ≤ gP ∧ gP ≤ 16 ∧ 1 ≤ gW ∧ gW ≤ 10 ∧ 1 ≤ gH ∧ gH ≤ 10 ∧ 1 ≤ gS ∧ gS ≤ 64) ∧
    ∀ w, Calls Try.prog 22 #[sv X Y P W H S] w fun e w' => e = .returned (gv gX gY gP gW gH gS) ∧ Kept (fun _ => False) w w' := by
  obtain ⟨⟨a0, a1⟩, ⟨b0, b1⟩, ⟨c0, c1⟩, ⟨d0, d1⟩, ⟨e0, e1⟩, ⟨f0, f1⟩⟩ := h
  exact ⟨X - 128, Y - 128, 1 + P % 16, 1 + W % 10, 1 + H % 10, 1 + S % 64, ⟨by omega, by omega, by omega, by omega, by omega, by omega, by omega, by omega, by omega, by omega, by omega, by omega⟩, fun w => spec_c X Y P W H S w a0 a1 b0 b1 c0 c1 d0 d1 e0 e1 f0 f1⟩
theorem cells6 {w : World} {b : Nat} {x0 x1 x2 x3 x4 x5 : Value} {t : TypeId} {f : Nat × Nat} (h : w.heap[b]? = some (.cells #[x0, x1, x2, x3, x4, x5] t f)) :
    w.cell? ⟨b, 0, none⟩ = some x0 ∧ w.cell? ⟨b, 1, none⟩ = some x1 ∧ w.cell? ⟨b, 2, none⟩ = some x2 ∧ w.cell? ⟨b, 3, none⟩ = some x3 ∧ w.cell? ⟨b, 4, none⟩ = some x4 ∧ w.cell? ⟨b, 5, none⟩ = some x5 := by
  refine ⟨?_, ?_, ?_, ?_, ?_, ?_⟩ <;> simp [World.cell?, h]
theorem cells2 {w : World} {b : Nat} {x0 x1 : Value} {t : TypeId} {f : Nat × Nat} (h : w.heap[b]? = some (.cells #[x0, x1] t f)) : w.cell? ⟨b, 0, none⟩ = some x0 ∧ w.cell? ⟨b, 1, none⟩ = some x1 := by
  refine ⟨?_, ?_⟩ <;> simp [World.cell?, h]

/-- Both grids, while they are looked at. -/
structure GP (w : World) (ga g : Nat) (a0 a1 a2 a3 a4 a5 b0 b1 b2 b3 b4 b5 : Int) (W : World) : Prop where
  a : W.heap[ga]? = some (.cells #[vi a0, vi a1, vi a2, vi a3, vi a4, vi a5] 35 (0, 0))
  b : W.heap[g]? = some (.cells #[vi b0, vi b1, vi b2, vi b3, vi b4, vi b5] 35 (0, 0))
  kept : Kept (fun _ => False) w W
/-- The cells of a grid. -/
def GC (W : World) (g : Nat) (b0 b1 b2 b3 b4 b5 : Int) : Prop :=
  W.cell? ⟨g, 0, none⟩ = some (vi b0) ∧ W.cell? ⟨g, 1, none⟩ = some (vi b1) ∧ W.cell? ⟨g, 2, none⟩ = some (vi b2) ∧ W.cell? ⟨g, 3, none⟩ = some (vi b3) ∧ W.cell? ⟨g, 4, none⟩ = some (vi b4) ∧ W.cell? ⟨g, 5, none⟩ = some (vi b5)
theorem GP.call {w W : World} {ga g : Nat} {a0 a1 a2 a3 a4 a5 b0 b1 b2 b3 b4 b5 : Int} {P : Program} {f : FuncId} {args : Array Value} {v : Value} (h : Hid (GP w ga g a0 a1 a2 a3 a4 a5 b0 b1 b2 b3 b4 b5 W))
    (hc : Calls P f args W fun e w' => e = .returned v ∧ Kept (fun _ => False) W w') :
    Calls P f args W fun e w' => e = .returned v ∧ Hid (GP w ga g a0 a1 a2 a3 a4 a5 b0 b1 b2 b3 b4 b5 w') ∧ GC w' ga a0 a1 a2 a3 a4 a5 ∧ GC w' g b0 b1 b2 b3 b4 b5 :=
  hc.mono fun e w' ⟨he, hk⟩ => by
    have ha := hk.get h.out.a (by simp)
    have hb := hk.get h.out.b (by simp)
    exact ⟨he, Lib.hid ⟨ha, hb, h.out.kept.trans hk⟩, cells6 ha, cells6 hb⟩

set_option maxHeartbeats 4000000 in
theorem gridCheck_core (aX aY aP aW aH aS X Y P W H S part n : Int) (w : World) (hs : Six X Y P W H S) (hp : 0 ≤ part ∧ part ≤ 255) :
    Calls Try.prog 5 #[gv aX aY aP aW aH aS, sv X Y P W H S, .int .u8 part, vi n] w fun e w' => e = .returned (.bool true) ∧ Below w.heap.size w w' := by
  obtain ⟨gX, gY, gP, gW, gH, gS, ⟨x0, x1, y0, y1, p0, p1, u0, u1, v0, v1, s0, s1⟩, hsp⟩ := spec_six hs w
  have HSP := Lib.hid hsp; clear hsp hs
  have hc0 : checkF gX gY gP gW gH gS = 0 := by
    have t1 : inB gW 1 24 = true := by simp [inB]; omega
    have t2 : inB gH 1 24 = true := by simp [inB]; omega
    have t3 : inB gX (-255) 255 = true := by simp [inB]; omega
    have t4 : inB gY (-255) 255 = true := by simp [inB]; omega
    have t5 : inB gP 1 16 = true := by simp [inB]; omega
    have t6 : inB gS 1 64 = true := by simp [inB]; omega
    simp [checkF, t1, t2, t3, t4, t5, t6]
  have HCX := Lib.hid (fun w => check_c gX gY gP gW gH gS w)
  rw [hc0] at HCX
  clear hc0
  have HCA := Lib.hid (fun w => check_c aX aY aP aW aH aS w)
  have HCB := Lib.hid (fun w => check9_c aX aY aP aW aH aS w)
  generalize checkF aX aY aP aW aH aS = ca at *
  have HCN := Lib.hid (fun (b0 b1 b2 b3 b4 b5 : Int) w => check_c b0 b1 b2 b3 b4 b5 w)
  have HCM := Lib.hid (fun (b0 b1 b2 b3 b4 b5 : Int) w => check9_c b0 b1 b2 b3 b4 b5 w)
  have HA0 := Lib.hid (heap_alloc_new w (.cells #[vi aX, vi aY, vi aP, vi aW, vi aH, vi aS] 35))
  have HB0 := Lib.hid (heap_alloc_new (w.alloc (.cells #[vi aX, vi aY, vi aP, vi aW, vi aH, vi aS] 35)) (.cells #[.int .u8 X, .int .u8 Y, .int .u8 P, .int .u8 W, .int .u8 H, .int .u8 S] 37))
  have HK0 := Lib.hid (Kept.alloc (fun _ => False) w (.cells #[vi aX, vi aY, vi aP, vi aW, vi aH, vi aS] 35))
  have HK1 := Lib.hid (Kept.alloc (fun _ => False) (w.alloc (.cells #[vi aX, vi aY, vi aP, vi aW, vi aH, vi aS] 35)) (.cells #[.int .u8 X, .int .u8 Y, .int .u8 P, .int .u8 W, .int .u8 H, .int .u8 S] 37))
  go_enter Try.func5, Try.ntmps5
  go_wp2_with fail
  refine (awake9 _).mono ?_
  rintro e w1 ⟨rfl, hk1⟩
  have hb := HB0.out
  rw [World.size_alloc] at hb
  obtain ⟨t0, t1, t2, t3, t4, t5⟩ := cells6 (hk1.get hb (by simp))
  have HA1 := Lib.hid ((HK1.out.trans hk1).get HA0.out (by simp))
  have HK2 := Lib.hid ((HK0.out.trans HK1.out).trans hk1)
  clear hk1 hb HA0 HB0 HK0 HK1
  go_wp2_with fail
  refine (HSP.out _).mono ?_
  rintro e w2 ⟨rfl, hk2⟩
  have k3 := hk2.trans (Kept.alloc (fun _ => False) w2 (.cells #[vi gX, vi gY, vi gP, vi gW, vi gH, vi gS] 35))
  have HG := Lib.hid (heap_alloc_new w2 (.cells #[vi gX, vi gY, vi gP, vi gW, vi gH, vi gS] 35))
  have HA2 := Lib.hid (k3.get HA1.out (by simp))
  have HK3 := Lib.hid (HK2.out.trans k3)
  have hgl : w.heap.size ≤ w2.heap.size := by have h1 := HK2.out.size; have h2 := hk2.size; omega
  have hne := lt_of_block HA1.out
  have hne2 : w.heap.size < w2.heap.size := by have := hk2.size; omega
  clear hk2 k3 HA1 HK2 t0 t1 t2 t3 t4 t5
  obtain ⟨g0, g1, g2, g3, g4, g5⟩ := cells6 HG.out
  go_wp2_with fail
  refine (HCX.out _).mono ?_
  rintro e w4 ⟨rfl, hk4⟩
  have HG4 := Lib.hid (hk4.get HG.out (by simp))
  have HA4 := Lib.hid (hk4.get HA2.out (by simp))
  have HK4 := Lib.hid (HK3.out.trans hk4)
  clear hk4 g0 g1 g2 g3 g4 g5 HG HA2 HK3 HCX HSP
  generalize w2.heap.size = g at *
  obtain ⟨g0, g1, g2, g3, g4, g5⟩ := cells6 HG4.out
  have f0 := gv_free HG4.out 0; have f1 := gv_free HG4.out 1; have f2 := gv_free HG4.out 2; have f3 := gv_free HG4.out 3; have f4 := gv_free HG4.out 4; have f5 := gv_free HG4.out 5
  have hg4 : g < w4.heap.size := lt_of_block HG4.out
  have hm0 : 0 ≤ part % 6 := by omega
  have hm1 : part % 6 < 6 := by omega
  obtain ⟨hp0, hp1⟩ := hp
  go_upto_region 6 with fail
  go_cut [8] from 17 (fun s8 wx => s8 = .bool false ∧ ∃ b0 b1 b2 b3 b4 b5 : Int, Hid (GP w w.heap.size g aX aY aP aW aH aS b0 b1 b2 b3 b4 b5 wx))
  case first =>
    have hst : ∀ (j : Nat) (o : Obj), Kept (· = g) w4 ((w4.setCell ⟨g, j, none⟩ (vi n)).alloc o) := fun j o => (Kept.setCell (· = g) w4 ⟨g, j, none⟩ (vi n) rfl).trans ((Kept.alloc (fun _ => False) (w4.setCell ⟨g, j, none⟩ (vi n)) o).mono (fun _ _ h => h.elim))
    have hcs : ∀ (j : Nat) (o : Obj), ((w4.setCell ⟨g, j, none⟩ (vi n)).alloc o).heap[g]? = some (.cells (#[vi gX, vi gY, vi gP, vi gW, vi gH, vi gS].setIfInBounds j (vi n)) 35 (0, 0)) := fun j o =>
      (Kept.alloc (fun _ => False) (w4.setCell ⟨g, j, none⟩ (vi n)) o).get (heap_setCell_same w4 g j _ _ (vi n) HG4.out) (by simp)
    have HST := Lib.hid hst; have HCS := Lib.hid hcs
    clear hst hcs
    obtain hm | hm | hm | hm | hm | hm : part % 6 = 0 ∨ part % 6 = 1 ∨ part % 6 = 2 ∨ part % 6 = 3 ∨ part % 6 = 4 ∨ part % 6 = 5 := by omega
    all_goals
      go_wp2_with fail
      go_meet
      case rel => exact ⟨rfl, _, _, _, _, _, _, (HST.out _ _).get HA4.out (by show w.heap.size ≠ g; omega), HCS.out _ _, HK4.out.andThen (HST.out _ _) (fun _ _ h => h) (fun k hk h => by omega)⟩
  case rest =>
    obtain ⟨rfl, b0, b1, b2, b3, b4, b5, HP⟩ := hcut
    have hdr : GP w w.heap.size g aX aY aP aW aH aS b0 b1 b2 b3 b4 b5 wc.drew := ⟨(Kept.drew (fun _ => False) wc).get HP.out.a (by simp), (Kept.drew (fun _ => False) wc).get HP.out.b (by simp), HP.out.kept.trans (Kept.drew _ _)⟩
    obtain ⟨c0, c1, c2, c3, c4, c5⟩ := cells6 hdr.a
    obtain ⟨d0, d1, d2, d3, d4, d5⟩ := cells6 hdr.b
    have HPD := Lib.hid hdr
    clear hdr f0 f1 f2 f3 f4 f5 g0 g1 g2 g3 g4 g5
    have HX := Lib.hid (fun w => check_c b0 b1 b2 b3 b4 b5 w)
    have HY := Lib.hid (fun w => check9_c b0 b1 b2 b3 b4 b5 w)
    generalize hcb : checkF b0 b1 b2 b3 b4 b5 = cb at *
    have e1 : (ca == ca) = true := by simp
    have e2 : (cb == cb) = true := by simp
    clear hcb
    go_upto_region 7 with fail
    refine wp_normally ?_
    go_region_with ((first | (go_at_call_of 23 aX; refine (GP.call (by assumption) (HCA.out _)).mono ?_) | (go_at_call_of 24 aX; refine (GP.call (by assumption) (HCB.out _)).mono ?_) | (go_at_call_of 23 b0; refine (GP.call (by assumption) (HX.out _)).mono ?_) | (go_at_call_of 24 b0; refine (GP.call (by assumption) (HY.out _)).mono ?_)); rintro e w' ⟨rfl, HPn, ⟨c0, c1, c2, c3, c4, c5⟩, ⟨d0, d1, d2, d3, d4, d5⟩⟩)
    all_goals
      go_wp2_with fail
      go_ret
      refine ⟨rfl, ?_⟩
      exact Kept.below (GP.kept (Hid.out (by assumption))) (Nat.le_refl _) (fun _ h => h.elim)

namespace gridCheck
open Go.ChangeShapes Go.WideShapes Go.ChangeAt Go.RowKit
open Go.ChangeMaps (open_string shut_string)
theorem own : ownKnob Try.prog.godebug = none := by kernel_rfl
theorem laidOut : laidOutB Try.prog = true := by kernel_rfl

set_option maxRecDepth 100000 in
theorem lifted (os : Os) (started : os.Started) (H : Type) (enc : TypeId × Value → H) :
    ReturnsInHanded {} Try.checked os 5 .any (Rows.gridCheckSpec.pre6 enc Try.prog Try.f5 Rows.gridCheckRow.domain false) (Rows.gridCheckSpec.post enc Try.prog Try.f5 false true false false) := by
  refine returnsInHanded_of_change (C := Try.checked) own started (by kernel_rfl) Try.func5
    (ChangeSpec.witness6 (enc := enc) (C := Try.checked) false ⟨#[], #[.agg #[.int .i64 0, .int .i64 0, .int .i64 0, .int .i64 0, .int .i64 0, .int .i64 0], .agg #[.int .u8 0, .int .u8 0, .int .u8 0, .int .u8 0, .int .u8 0, .int .u8 0], .int .u8 0, .int .i64 0], []⟩ 8 (by kernel_rfl) (by kernel_rfl) (by kernel_rfl) (by kernel_rfl)) ?_
  intro W base args ds gs before hval0 hW hcnd _
  have hval : ∀ (j : Nat) t v, Try.f5.params[j]? = some t → args[j]? = some v → Value.okWide Try.prog W .any base t v := hval0
  have hW' := hW
  obtain ⟨p, q, hA0, hV, rfl, hfz, hnd⟩ := hW
  have hA : DataW.TrodAll enc Try.prog W 0 (fun _ => true) true Try.f5.params.toList args.toList ds p := hA0
  rw [Try.params5] at hA hval
  obtain ⟨v0, vs0, d0, ds0, p0, q0, hargs, rfl, rfl, h0, r0⟩ := trodAll_cons hA
  obtain ⟨v1, vs1, d1, ds1, p1, q1, rfl, rfl, rfl, h1, r1⟩ := trodAll_cons r0
  obtain ⟨v2, vs2, d2, ds2, p2, q2, rfl, rfl, rfl, h2, r2⟩ := trodAll_cons r1
  obtain ⟨v3, vs3, d3, ds3, p3, q3, rfl, rfl, rfl, h3, r3⟩ := trodAll_cons r2
  obtain ⟨rfl, rfl, rfl⟩ := trodAll_nil r3
  obtain rfl : args = #[v0, v1, v2, v3] := by cases args; simp_all
  obtain ⟨rfl, rfl⟩ := trodVars_none hV
  have k0 := h0
  have lt0 : ∀ x ∈ p0, x.block < W.heap.size := by obtain ⟨m, hm⟩ := k0; exact DataW.trod_lt m _ _ _ hm
  obtain ⟨a00, a01, a02, a03, a04, a05, rfl, w00, w01, w02, w03, w04, w05⟩ := open_six .i64 Try.underlying35 (by kernel_rfl) (by kernel_rfl) ⟨Try.underlying3, Try.underlying3, Try.underlying3, Try.underlying3, Try.underlying3, Try.underlying3⟩ (hval 0 35 v0 rfl rfl) h0
  have k1 := h1
  have lt1 : ∀ x ∈ p1, x.block < W.heap.size := by obtain ⟨m, hm⟩ := k1; exact DataW.trod_lt m _ _ _ hm
  obtain ⟨a10, a11, a12, a13, a14, a15, rfl, w10, w11, w12, w13, w14, w15⟩ := open_six .u8 Try.underlying37 (by kernel_rfl) (by kernel_rfl) ⟨Try.underlying5, Try.underlying5, Try.underlying5, Try.underlying5, Try.underlying5, Try.underlying5⟩ (hval 1 37 v1 rfl rfl) h1
  obtain ⟨a2, rfl, rfl, rfl, w2⟩ := open_int Try.underlying5 (hval 2 5 v2 rfl rfl) h2
  obtain ⟨a3, rfl, rfl, rfl, w3⟩ := open_int Try.underlying3 (hval 3 3 v3 rfl rfl) h3
  clear hA0 hval0
  refine (gridCheck_core a00 a01 a02 a03 a04 a05 a10 a11 a12 a13 a14 a15 a2 a3 W ⟨wfu8 w10, wfu8 w11, wfu8 w12, wfu8 w13, wfu8 w14, wfu8 w15⟩ (wfu8 w2)).mono fun e W' ⟨he, bel⟩ => ?_
  subst he
  exact ⟨_, rfl, _, _, _, [], _, [], hW', trodAll_mk1 (shut_bool Try.underlying4 _), (trodAll_cons_mk (Below.trod laidOut (by kernel_rfl) (of_decide_eq_true (by kernel_rfl)) k0 bel lt0) (trodAll_cons_mk (Below.trod laidOut (by kernel_rfl) (of_decide_eq_true (by kernel_rfl)) k1 bel lt1) (trodAll_cons_mk (shut_int Try.underlying5 w2) (trodAll_cons_mk (shut_int Try.underlying3 w3) trodAll_mk0)))), rfl, bel.frame _, fun h => by cases h⟩

theorem over : Rows.gridCheckRow.holds Try.pinned (OpenSpec.ofChange Rows.gridCheckSpec) :=
  OpenClaim.holds_of_wide 5 Try.f5 rfl rfl rfl rfl rfl rfl rfl ⟨rfl, rfl, rfl, rfl, rfl⟩ rfl rfl rfl rfl rfl (by kernel_rfl) Try.func5 (by kernel_rfl)
    (of_decide_eq_true (by kernel_rfl)) (by unfold Func.isWrapper; first | (rw [if_pos (by decide +kernel)]; kernel_rfl) | (rw [if_neg (by decide +kernel)]; exact ⟨rfl, rfl⟩))
    (fun os started H enc _ => lifted os started H enc)

theorem proved : Rows.GridCheckSaid := over
end gridCheck

end Go.Proofs.Ytgldonfpiifnfaa
