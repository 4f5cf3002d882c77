/- GridAround: for every input the law returns true. No condition. -/
import Derived.Test.YtgldonfpiifnfaaRows
import Derived.Test.YtgldonfpiifnfaaGridAwake
import Derived.Test.YtgldonfpiifnfaaGridRow
import Derived.Test.YtgldonfpiifnfaaRowBase
import Derived.Deep.DeepCutAuto
import Derived.Deep.CutBlock
import Derived.Deep.RegionWith
import Derived.Deep.RegionHeld3
import Derived.Test.YtgldonfpiifnfaaNe
set_option linter.unusedVariables false
set_option linter.unusedSimpArgs false
namespace Go.Proofs.Ytgldonfpiifnfaa
open Go.RowKit Go.Shelf
open Go.IntWalk (wrap64_in)

theorem wfu8 {x : Int} (h : (Lit.int .u8 x).wf = true) : 0 ≤ x ∧ x ≤ 255 := by simpa [Lit.wf, IntKind.min, IntKind.max, IntKind.signed, IntKind.bits] using h
theorem wfi8 {x : Int} (h : (Lit.int .i8 x).wf = true) : -128 ≤ x ∧ x ≤ 127 := by simpa [Lit.wf, IntKind.min, IntKind.max, IntKind.signed, IntKind.bits] using h
theorem wfu16 {x : Int} (h : (Lit.int .u16 x).wf = true) : 0 ≤ x ∧ x ≤ 65535 := by simpa [Lit.wf, IntKind.min, IntKind.max, IntKind.signed, IntKind.bits] using h
theorem wfi16 {x : Int} (h : (Lit.int .i16 x).wf = true) : -32768 ≤ x ∧ x ≤ 32767 := by simpa [Lit.wf, IntKind.min, IntKind.max, IntKind.signed, IntKind.bits] using h
/-- A spec, as a value. -/
abbrev sv (X Y P W H S : Int) : Value := .agg #[.int .u8 X, .int .u8 Y, .int .u8 P, .int .u8 W, .int .u8 H, .int .u8 S]
/-- The six bytes of a spec. -/
def Six (X Y P W H S : Int) : Prop := (0 ≤ X ∧ X ≤ 255) ∧ (0 ≤ Y ∧ Y ≤ 255) ∧ (0 ≤ P ∧ P ≤ 255) ∧ (0 ≤ W ∧ W ≤ 255) ∧ (0 ≤ H ∧ H ≤ 255) ∧ (0 ≤ S ∧ S ≤ 255)
theorem spec_six {X Y P W H S : Int} (h : Six X Y P W H S) (w : World) :
    ∃ gX gY gP gW gH gS : Int, (-128 ≤ gX ∧ gX ≤ 127 ∧ -128 ≤ gY ∧ gY ≤ 127 ∧ 1 ≤ gP ∧ gP ≤ 16 ∧ 1 ≤ gW ∧ gW ≤ 10 ∧ 1 ≤ gH ∧ gH ≤ 10 ∧ 1 ≤ gS ∧ gS ≤ 64) ∧
    ∀ w, Calls Try.prog 22 #[sv X Y P W H S] w fun e w' => e = .returned (gv gX gY gP gW gH gS) ∧ Kept (fun _ => False) w w' := by
  obtain ⟨⟨a0, a1⟩, ⟨b0, b1⟩, ⟨c0, c1⟩, ⟨d0, d1⟩, ⟨e0, e1⟩, ⟨f0, f1⟩⟩ := h
  exact ⟨X - 128, Y - 128, 1 + P % 16, 1 + W % 10, 1 + H % 10, 1 + S % 64, ⟨by omega, by omega, by omega, by omega, by omega, by omega, by omega, by omega, by omega, by omega, by omega, by omega⟩, fun w => spec_c X Y P W H S w a0 a1 b0 b1 c0 c1 d0 d1 e0 e1 f0 f1⟩
theorem cells6 {w : World} {b : Nat} {x0 x1 x2 x3 x4 x5 : Value} {t : TypeId} {f : Nat × Nat} (h : w.heap[b]? = some (.cells #[x0, x1, x2, x3, x4, x5] t f)) :
    w.cell? ⟨b, 0, none⟩ = some x0 ∧ w.cell? ⟨b, 1, none⟩ = some x1 ∧ w.cell? ⟨b, 2, none⟩ = some x2 ∧ w.cell? ⟨b, 3, none⟩ = some x3 ∧ w.cell? ⟨b, 4, none⟩ = some x4 ∧ w.cell? ⟨b, 5, none⟩ = some x5 := by
  refine ⟨?_, ?_, ?_, ?_, ?_, ?_⟩ <;> simp [World.cell?, h]
theorem cells2 {w : World} {b : Nat} {x0 x1 : Value} {t : TypeId} {f : Nat × Nat} (h : w.heap[b]? = some (.cells #[x0, x1] t f)) : w.cell? ⟨b, 0, none⟩ = some x0 ∧ w.cell? ⟨b, 1, none⟩ = some x1 := by
  refine ⟨?_, ?_⟩ <;> simp [World.cell?, h]

/-- The variables of the law. -/
structure Ar (w : World) (bl bh bg : Nat) (lx ly hx hy g0 g1 g2 g3 g4 g5 : Int) (W : World) : Prop where
  lo : W.heap[bl]? = some (.cells #[vi lx, vi ly] 46 (0, 0))
  hi : W.heap[bh]? = some (.cells #[vi hx, vi hy] 46 (0, 0))
  g : W.heap[bg]? = some (.cells #[vi g0, vi g1, vi g2, vi g3, vi g4, vi g5] 35 (0, 0))
  kept : Kept (fun _ => False) w W
theorem Ar.keep {w A B : World} {bl bh bg : Nat} {lx ly hx hy g0 g1 g2 g3 g4 g5 : Int} (h : Ar w bl bh bg lx ly hx hy g0 g1 g2 g3 g4 g5 A) (hk : Kept (fun _ => False) A B) : Ar w bl bh bg lx ly hx hy g0 g1 g2 g3 g4 g5 B :=
  ⟨hk.get h.lo (by simp), hk.get h.hi (by simp), hk.get h.g (by simp), h.kept.trans hk⟩
theorem Ar.made {w w1 w2 : World} {lx ly hx hy g0 g1 g2 g3 g4 g5 : Int} (h1 : Kept (fun _ => False) w w1) (h2 : Kept (fun _ => False) ((w1.alloc (.cells #[vi lx, vi ly] 46)).alloc (.cells #[vi hx, vi hy] 46)) w2) :
    Ar w w1.heap.size (w1.heap.size + 1) w2.heap.size lx ly hx hy g0 g1 g2 g3 g4 g5 (w2.alloc (.cells #[vi g0, vi g1, vi g2, vi g3, vi g4, vi g5] 35)) := by
  have k1 := Kept.alloc (fun _ => False) w1 (.cells #[vi lx, vi ly] 46)
  have k2 := Kept.alloc (fun _ => False) (w1.alloc (.cells #[vi lx, vi ly] 46)) (.cells #[vi hx, vi hy] 46)
  have k3 := Kept.alloc (fun _ => False) w2 (.cells #[vi g0, vi g1, vi g2, vi g3, vi g4, vi g5] 35)
  have n2 := heap_alloc_new (w1.alloc (.cells #[vi lx, vi ly] 46)) (.cells #[vi hx, vi hy] 46)
  rw [World.size_alloc] at n2
  exact ⟨(k2.trans (h2.trans k3)).get (heap_alloc_new w1 _) (by simp), (h2.trans k3).get n2 (by simp), heap_alloc_new w2 _, (h1.trans (k1.trans k2)).trans (h2.trans k3)⟩

set_option maxHeartbeats 4000000 in
set_option maxRecDepth 100000 in
theorem gridAround_bad (x y ww hh p s lx ly hx hy m : Int) (w : World) (hp : p < 1 ∨ 16 < p) (p0 : -128 ≤ p) (p1 : p ≤ 127) (s0 : 0 ≤ s) (s1 : s ≤ 255)
    (ww0 : 0 ≤ ww) (ww1 : ww ≤ 65535) (hh0 : 0 ≤ hh) (hh1 : hh ≤ 65535) (x0 : -32768 ≤ x) (x1 : x ≤ 32767) (y0 : -32768 ≤ y) (y1 : y ≤ 32767)
    (hlx : x.tdiv 2 = lx) (hly : y.tdiv 2 = ly) (hhx : lx + ww % 2048 = hx) (hhy : ly + hh % 2048 = hy) (hm : s % 5 = m)
    (l0 : -16384 ≤ lx) (l1 : lx ≤ 16384) (l2 : -16384 ≤ ly) (l3 : ly ≤ 16384) :
    Calls Try.prog 9 #[.int .i16 x, .int .i16 y, .int .u16 ww, .int .u16 hh, .int .i8 p, .int .u8 s] w fun e w' => e = .returned (.bool true) ∧ Below w.heap.size w w' := by
  have HA := Lib.hid (fun W => around_bad lx ly hx hy p s m W hp)
  have HP := Lib.hid hp; clear hp
  have h2 : -20000 ≤ lx + ww % 2048 := by omega
  have h3 : lx + ww % 2048 ≤ 20000 := by omega
  have h4 : -20000 ≤ ly + hh % 2048 := by omega
  have h5 : ly + hh % 2048 ≤ 20000 := by omega
  rcases HP.out with hp | hp
  all_goals
    go_enter Try.func9, Try.ntmps9
    go_wp2_with fail
    refine (awake9 _).mono ?_
    rintro e w1 ⟨rfl, hk1⟩
    have HK1 := Lib.hid hk1; clear hk1
    go_wp2_with fail
    refine (HA.out _).mono ?_
    rintro e w2 ⟨rfl, hk2⟩
    have HAr := Lib.hid (Ar.made (g0 := 0) (g1 := 0) (g2 := 0) (g3 := 0) (g4 := 0) (g5 := 0) HK1.out hk2); clear hk2
    obtain ⟨g0, g1, g2, g3, g4, g5⟩ := cells6 HAr.out.g
    go_wp2_with fail
    go_ret
    exact ⟨rfl, HAr.out.kept.below (Nat.le_refl _) (fun _ h => h.elim)⟩

/-- The rounded corners, and the grid over them. -/
theorem around_facts {p m lx hx ax bx : Int} (hp : 1 ≤ p) (hm : 0 ≤ m) (d1 : 32 * p * ax ≤ lx) (d4 : hx < 32 * p * bx + 32 * p) :
    32 * ((ax - m) * p) ≤ lx ∧ hx < 32 * ((ax - m) * p + p * (bx + m + 1 - (ax - m))) := by
  have hM : 0 ≤ m * p := Int.mul_nonneg hm (by omega)
  have e1 : (ax - m) * p = ax * p - m * p := Int.sub_mul _ _ _
  have e2 : 32 * p * ax = 32 * (ax * p) := by rw [Int.mul_assoc, Int.mul_comm p ax]
  have e3 : 32 * p * bx = 32 * (bx * p) := by rw [Int.mul_assoc, Int.mul_comm p bx]
  have e4 : p * (bx + m + 1 - (ax - m)) = bx * p + m * p + p - (ax * p - m * p) := by
    rw [Int.mul_comm, Int.sub_mul, Int.add_mul, Int.add_mul, Int.one_mul, e1]
  rw [e1, e4]
  rw [e2] at d1
  rw [e3] at d4
  constructor <;> omega

attribute [local go_sem] alloc_drewN setCell_drewN
set_option maxHeartbeats 8000000 in
set_option maxRecDepth 100000 in
theorem gridAround_good (x y ww hh p s lx ly hx hy m : Int) (w : World) (p0 : 1 ≤ p) (p1 : p ≤ 16) (s0 : 0 ≤ s) (s1 : s ≤ 255)
    (ww0 : 0 ≤ ww) (ww1 : ww ≤ 65535) (hh0 : 0 ≤ hh) (hh1 : hh ≤ 65535) (x0 : -32768 ≤ x) (x1 : x ≤ 32767) (y0 : -32768 ≤ y) (y1 : y ≤ 32767)
    (hlx : x.tdiv 2 = lx) (hly : y.tdiv 2 = ly) (hhx : lx + ww % 2048 = hx) (hhy : ly + hh % 2048 = hy) (hm : s % 5 = m)
    (l0 : -16384 ≤ lx) (l1 : lx ≤ 16384) (l2 : -16384 ≤ ly) (l3 : ly ≤ 16384) :
    Calls Try.prog 9 #[.int .i16 x, .int .i16 y, .int .u16 ww, .int .u16 hh, .int .i8 p, .int .u8 s] w fun e w' => e = .returned (.bool true) ∧ Below w.heap.size w w' := by
  have m0 : 0 ≤ m := by omega
  have m1 : m ≤ 4 := by omega
  have h0 : -20000 ≤ hx := by omega
  have h1 : hx ≤ 20000 := by omega
  have h2 : -20000 ≤ hy := by omega
  have h3 : hy ≤ 20000 := by omega
  have ha := fun W => around_c lx ly hx hy p s m W p0 p1 m0 (by omega) (by omega) (by omega) (by omega) (by omega) (by omega) (by omega) (by omega) (by omega)
  have e32 : p * 32 = 32 * p := Int.mul_comm _ _
  simp only [e32] at ha
  have dn : ∀ n : Int, -1000000 ≤ n → n ≤ 1000000 → ∀ W, Calls Try.prog 29 #[vi n, vi (32 * p)] W fun e w' => e = .returned (vi (n / (32 * p))) ∧ w' = W :=
    fun n n0 n1 W => (down_c n (32 * p) W (by omega) (by omega) n0 n1).mono fun _ _ ⟨he, hw⟩ => ⟨he, hw.symm⟩
  have dv : ∀ n : Int, 32 * p * (n / (32 * p)) ≤ n ∧ n < 32 * p * (n / (32 * p)) + 32 * p := fun n => by
    have q1 := Int.mul_ediv_add_emod n (32 * p)
    have q2 := Int.emod_nonneg n (show 32 * p ≠ 0 by omega)
    have q3 := Int.emod_lt_of_pos n (show 0 < 32 * p by omega)
    omega
  have D1 := Lib.hid (dn lx (by omega) (by omega)); have D2 := Lib.hid (dn ly (by omega) (by omega)); have D3 := Lib.hid (dn hx (by omega) (by omega)); have D4 := Lib.hid (dn hy (by omega) (by omega))
  obtain ⟨fx0, fx1⟩ := around_facts (m := m) p0 m0 (dv lx).1 (dv hx).2
  obtain ⟨fy0, fy1⟩ := around_facts (m := m) p0 m0 (dv ly).1 (dv hy).2
  obtain ⟨a0, a1⟩ := ediv_bounds lx (32 * p) (by omega) (by omega) (by omega)
  obtain ⟨a2, a3⟩ := ediv_bounds ly (32 * p) (by omega) (by omega) (by omega)
  obtain ⟨a4, a5⟩ := ediv_bounds hx (32 * p) (by omega) (by omega) (by omega)
  obtain ⟨a6, a7⟩ := ediv_bounds hy (32 * p) (by omega) (by omega) (by omega)
  clear dn dv e32
  generalize lx / (32 * p) = ax at *
  generalize ly / (32 * p) = ay at *
  generalize hx / (32 * p) = bx at *
  generalize hy / (32 * p) = by' at *
  obtain ⟨b0, b1⟩ := mul_bound (a := ax - m) (b := p) (A := 1000100) (B := 16) (by omega) (by omega) (by omega) p1 (by omega)
  obtain ⟨b2, b3⟩ := mul_bound (a := ay - m) (b := p) (A := 1000100) (B := 16) (by omega) (by omega) (by omega) p1 (by omega)
  have b4 : -(3000100 * 16) ≤ p * (bx + m + 1 - (ax - m)) ∧ p * (bx + m + 1 - (ax - m)) ≤ 3000100 * 16 := by
    rw [Int.mul_comm p]; exact mul_bound (by omega) (by omega) (by omega) p1 (by omega)
  have b6 : -(3000100 * 16) ≤ p * (by' + m + 1 - (ay - m)) ∧ p * (by' + m + 1 - (ay - m)) ≤ 3000100 * 16 := by
    rw [Int.mul_comm p]; exact mul_bound (by omega) (by omega) (by omega) p1 (by omega)
  obtain ⟨b4, b5⟩ := b4
  obtain ⟨b6, b7⟩ := b6
  have HCk := Lib.hid (fun W => check9_c ((ax - m) * p) ((ay - m) * p) p (bx + m + 1 - (ax - m)) (by' + m + 1 - (ay - m)) s W)
  unfold arC at ha
  generalize checkF ((ax - m) * p) ((ay - m) * p) p (bx + m + 1 - (ax - m)) (by' + m + 1 - (ay - m)) s = c at *
  have HA := ha; clear ha
  have hp2 : ¬ p < 1 := by omega
  have hp3 : ¬ 16 < p := by omega
  by_cases hc : c = 0
  · subst hc
    simp only [if_true] at HA
    have HA := Lib.hid HA
    go_enter Try.func9, Try.ntmps9
    go_wp2_with fail
    refine (awake9 _).mono ?_
    rintro e w1 ⟨rfl, hk1⟩
    have HK1 := Lib.hid hk1; clear hk1
    go_wp2_with fail
    refine (HA.out _).mono ?_
    rintro e w2 ⟨rfl, hk2⟩
    have HAr := Lib.hid (Ar.made (g0 := (ax - m) * p) (g1 := (ay - m) * p) (g2 := p) (g3 := bx + m + 1 - (ax - m)) (g4 := by' + m + 1 - (ay - m)) (g5 := s) HK1.out hk2); clear hk2
    obtain ⟨cl0, cl1⟩ := cells2 HAr.out.lo
    go_upto_region 10 with fail
    generalize hw3 : w2.alloc (.cells #[vi ((ax - m) * p), vi ((ay - m) * p), vi (p), vi (bx + m + 1 - (ax - m)), vi (by' + m + 1 - (ay - m)), vi (s)] 35) = w3 at *
    clear hw3
    generalize w2.heap.size = bg at *
    generalize hbl : w1.heap.size = bl at *
    clear hbl
    go_quiet ((first | (go_at_call_of 29 lx; refine Calls.quiet_of_same (D1.out _)) | (go_at_call_of 29 ly; refine Calls.quiet_of_same (D2.out _))))
    clear cl0 cl1
    have HA4 := Lib.hid (HAr.out.keep (Kept.drewN _ _ nq)); clear HAr
    generalize w3.drewN nq = w4 at *
    go_upto_region 11 with fail
    go_cut [21] from 87 (fun sg wx => ∃ gg : Nat, sg = .pointer (some ⟨gg, 0, none⟩) ∧ Hid (wx.heap[gg]? = some (.cells #[vi ((ax - m) * p), vi ((ay - m) * p), vi (p), vi (bx + m + 1 - (ax - m)), vi (by' + m + 1 - (ay - m)), vi (s)] 35 (0, 0))) ∧ Hid (Ar w bl (bl + 1) bg lx ly hx hy ((ax - m) * p) ((ay - m) * p) (p) (bx + m + 1 - (ax - m)) (by' + m + 1 - (ay - m)) (s) wx))
    case first =>
      have ch0 : w4.drew.cell? ⟨bl + 1, 0, none⟩ = some (vi hx) := by show w4.cell? _ = _; simp [World.cell?, HA4.out.hi]
      have ch1 : w4.drew.cell? ⟨bl + 1, 1, none⟩ = some (vi hy) := by show w4.cell? _ = _; simp [World.cell?, HA4.out.hi]
      have cg0 : w4.cell? ⟨bl + 1, 0, none⟩ = some (vi hx) := ch0
      have cg1 : w4.cell? ⟨bl + 1, 1, none⟩ = some (vi hy) := ch1
      have e1 := wrap_in ((ax - m) * p) ⟨by omega, by omega⟩
      have e2 := wrap_in ((ay - m) * p) ⟨by omega, by omega⟩
      have e3 := wrap_in (bx + m) ⟨by omega, by omega⟩
      have e4 := wrap_in (by' + m) ⟨by omega, by omega⟩
      have e5 := wrap_in (bx + m + 1) ⟨by omega, by omega⟩
      have e6 := wrap_in (by' + m + 1) ⟨by omega, by omega⟩
      have e7 := wrap_in (bx + m + 1 - (ax - m)) ⟨by omega, by omega⟩
      have e8 := wrap_in (by' + m + 1 - (ay - m)) ⟨by omega, by omega⟩
      have e9 := wrap_in p ⟨by omega, by omega⟩
      have e10 := wrap_in s ⟨by omega, by omega⟩
      refine wp_normally ?_
      go_region_held3 (fun w' => w'.cell? ⟨bl + 1, 0, none⟩ = some (vi hx) ∧ w'.cell? ⟨bl + 1, 1, none⟩ = some (vi hy)) (go_keep) (first | (go_at_call_of 29 hx; refine (D3.out _).mono ?_; rintro e w' ⟨rfl, rfl⟩) | (go_at_call_of 29 hy; refine (D4.out _).mono ?_; rintro e w' ⟨rfl, rfl⟩))
      all_goals
        go_wp2_with fail
        go_meet
        case rel => exact ⟨w4.heap.size, rfl, heap_alloc_new w4 _, (HA4.out.keep (Kept.alloc _ w4 _)).keep (Kept.drew _ _)⟩
    case rest =>
      obtain ⟨gg, rfl, HW, HA5⟩ := hcut
      clear D1 D2 D3 D4 HA HA4 a0 a1 a2 a3 a4 a5 a6 a7
      obtain ⟨c0, c1, c2, c3, c4, c5⟩ := cells6 HW.out
      go_wp2_with fail
      refine (HCk.out _).mono ?_
      rintro e w7 ⟨rfl, hk7⟩
      clear c0 c1 c2 c3 c4 c5
      have HA7 := Lib.hid (HA5.out.keep hk7)
      obtain ⟨c0, c1, c2, c3, c4, c5⟩ := cells6 (hk7.get HW.out (by simp))
      obtain ⟨g0, g1, g2, g3, g4, g5⟩ := cells6 HA7.out.g
      obtain ⟨cl0, cl1⟩ := cells2 HA7.out.lo
      obtain ⟨ch0, ch1⟩ := cells2 HA7.out.hi
      clear hk7 HW HA5
      have q0 : -16001600 ≤ (ax - m) * p := by omega
      go_wp2_with fail
      go_ret
      exact ⟨rfl, HA7.out.kept.below (Nat.le_refl _) (fun _ h => h.elim)⟩
  · simp only [if_neg hc] at HA
    have HA := Lib.hid HA
    go_enter Try.func9, Try.ntmps9
    go_wp2_with fail
    refine (awake9 _).mono ?_
    rintro e w1 ⟨rfl, hk1⟩
    have HK1 := Lib.hid hk1; clear hk1
    go_wp2_with fail
    refine (HA.out _).mono ?_
    rintro e w2 ⟨rfl, hk2⟩
    have HAr := Lib.hid (Ar.made (g0 := 0) (g1 := 0) (g2 := 0) (g3 := 0) (g4 := 0) (g5 := 0) HK1.out hk2); clear hk2
    obtain ⟨cl0, cl1⟩ := cells2 HAr.out.lo
    go_upto_region 10 with fail
    generalize hw3 : w2.alloc (.cells #[vi 0, vi 0, vi 0, vi 0, vi 0, vi 0] 35) = w3 at *
    clear hw3
    generalize w2.heap.size = bg at *
    generalize hbl : w1.heap.size = bl at *
    clear hbl
    go_quiet ((first | (go_at_call_of 29 lx; refine Calls.quiet_of_same (D1.out _)) | (go_at_call_of 29 ly; refine Calls.quiet_of_same (D2.out _))))
    clear cl0 cl1
    have HA4 := Lib.hid (HAr.out.keep (Kept.drewN _ _ nq)); clear HAr
    generalize w3.drewN nq = w4 at *
    go_upto_region 11 with fail
    go_cut [21] from 87 (fun sg wx => ∃ gg : Nat, sg = .pointer (some ⟨gg, 0, none⟩) ∧ Hid (wx.heap[gg]? = some (.cells #[vi ((ax - m) * p), vi ((ay - m) * p), vi (p), vi (bx + m + 1 - (ax - m)), vi (by' + m + 1 - (ay - m)), vi (s)] 35 (0, 0))) ∧ Hid (Ar w bl (bl + 1) bg lx ly hx hy (0) (0) (0) (0) (0) (0) wx))
    case first =>
      have ch0 : w4.drew.cell? ⟨bl + 1, 0, none⟩ = some (vi hx) := by show w4.cell? _ = _; simp [World.cell?, HA4.out.hi]
      have ch1 : w4.drew.cell? ⟨bl + 1, 1, none⟩ = some (vi hy) := by show w4.cell? _ = _; simp [World.cell?, HA4.out.hi]
      have cg0 : w4.cell? ⟨bl + 1, 0, none⟩ = some (vi hx) := ch0
      have cg1 : w4.cell? ⟨bl + 1, 1, none⟩ = some (vi hy) := ch1
      have e1 := wrap_in ((ax - m) * p) ⟨by omega, by omega⟩
      have e2 := wrap_in ((ay - m) * p) ⟨by omega, by omega⟩
      have e3 := wrap_in (bx + m) ⟨by omega, by omega⟩
      have e4 := wrap_in (by' + m) ⟨by omega, by omega⟩
      have e5 := wrap_in (bx + m + 1) ⟨by omega, by omega⟩
      have e6 := wrap_in (by' + m + 1) ⟨by omega, by omega⟩
      have e7 := wrap_in (bx + m + 1 - (ax - m)) ⟨by omega, by omega⟩
      have e8 := wrap_in (by' + m + 1 - (ay - m)) ⟨by omega, by omega⟩
      have e9 := wrap_in p ⟨by omega, by omega⟩
      have e10 := wrap_in s ⟨by omega, by omega⟩
      refine wp_normally ?_
      go_region_held3 (fun w' => w'.cell? ⟨bl + 1, 0, none⟩ = some (vi hx) ∧ w'.cell? ⟨bl + 1, 1, none⟩ = some (vi hy)) (go_keep) (first | (go_at_call_of 29 hx; refine (D3.out _).mono ?_; rintro e w' ⟨rfl, rfl⟩) | (go_at_call_of 29 hy; refine (D4.out _).mono ?_; rintro e w' ⟨rfl, rfl⟩))
      all_goals
        go_wp2_with fail
        go_meet
        case rel => exact ⟨w4.heap.size, rfl, heap_alloc_new w4 _, (HA4.out.keep (Kept.alloc _ w4 _)).keep (Kept.drew _ _)⟩
    case rest =>
      obtain ⟨gg, rfl, HW, HA5⟩ := hcut
      clear D1 D2 D3 D4 HA HA4 a0 a1 a2 a3 a4 a5 a6 a7
      obtain ⟨c0, c1, c2, c3, c4, c5⟩ := cells6 HW.out
      go_wp2_with fail
      refine (HCk.out _).mono ?_
      rintro e w7 ⟨rfl, hk7⟩
      clear c0 c1 c2 c3 c4 c5
      have HA7 := Lib.hid (HA5.out.keep hk7)
      obtain ⟨c0, c1, c2, c3, c4, c5⟩ := cells6 (hk7.get HW.out (by simp))
      obtain ⟨g0, g1, g2, g3, g4, g5⟩ := cells6 HA7.out.g
      obtain ⟨cl0, cl1⟩ := cells2 HA7.out.lo
      obtain ⟨ch0, ch1⟩ := cells2 HA7.out.hi
      clear hk7 HW HA5
      have hcb : (c != 0) = true := by simpa [bne_iff_ne] using hc
      have hcc : (c == c) = true := by simp
      go_wp2_with fail
      go_ret
      exact ⟨rfl, HA7.out.kept.below (Nat.le_refl _) (fun _ h => h.elim)⟩

theorem gridAround_core (x y ww hh p s : Int) (w : World) (hx : -32768 ≤ x ∧ x ≤ 32767) (hy : -32768 ≤ y ∧ y ≤ 32767) (hw : 0 ≤ ww ∧ ww ≤ 65535) (hh' : 0 ≤ hh ∧ hh ≤ 65535) (hp : -128 ≤ p ∧ p ≤ 127) (hs : 0 ≤ s ∧ s ≤ 255) :
    Calls Try.prog 9 #[.int .i16 x, .int .i16 y, .int .u16 ww, .int .u16 hh, .int .i8 p, .int .u8 s] w fun e w' => e = .returned (.bool true) ∧ Below w.heap.size w w' := by
  obtain ⟨x0, x1⟩ := hx; obtain ⟨y0, y1⟩ := hy; obtain ⟨ww0, ww1⟩ := hw; obtain ⟨hh0, hh1⟩ := hh'; obtain ⟨p0, p1⟩ := hp; obtain ⟨s0, s1⟩ := hs
  have tb : ∀ n : Int, -32768 ≤ n → n ≤ 32767 → -16384 ≤ n.tdiv 2 ∧ n.tdiv 2 ≤ 16384 := fun n h0 h1 => by
    have q1 := Int.mul_tdiv_add_tmod n 2
    have q2 := Int.lt_tmod_of_pos n (show (0 : Int) < 2 by omega)
    have q3 := Int.tmod_lt_of_pos n (show (0 : Int) < 2 by omega)
    omega
  by_cases hb : p < 1 ∨ 16 < p
  · exact gridAround_bad x y ww hh p s _ _ _ _ _ w hb p0 p1 s0 s1 ww0 ww1 hh0 hh1 x0 x1 y0 y1 rfl rfl rfl rfl rfl (tb x x0 x1).1 (tb x x0 x1).2 (tb y y0 y1).1 (tb y y0 y1).2
  · exact gridAround_good x y ww hh p s _ _ _ _ _ w (by omega) (by omega) s0 s1 ww0 ww1 hh0 hh1 x0 x1 y0 y1 rfl rfl rfl rfl rfl (tb x x0 x1).1 (tb x x0 x1).2 (tb y y0 y1).1 (tb y y0 y1).2

namespace gridAround
open Go.ChangeShapes Go.WideShapes Go.ChangeAt Go.RowKit
open Go.ChangeMaps (open_string shut_string)
theorem own : ownKnob Try.prog.godebug = none := by kernel_rfl
theorem laidOut : laidOutB Try.prog = true := by kernel_rfl

set_option maxRecDepth 100000 in
theorem lifted (os : Os) (started : os.Started) (H : Type) (enc : TypeId × Value → H) :
    ReturnsInHanded {} Try.checked os 9 .any (Rows.gridAroundSpec.pre6 enc Try.prog Try.f9 Rows.gridAroundRow.domain false) (Rows.gridAroundSpec.post enc Try.prog Try.f9 false true false false) := by
  refine returnsInHanded_of_change (C := Try.checked) own started (by kernel_rfl) Try.func9
    (ChangeSpec.witness6 (enc := enc) (C := Try.checked) false ⟨#[], #[.int .i16 0, .int .i16 0, .int .u16 0, .int .u16 0, .int .i8 0, .int .u8 0], []⟩ 8 (by kernel_rfl) (by kernel_rfl) (by kernel_rfl) (by kernel_rfl)) ?_
  intro W base args ds gs before hval0 hW hcnd _
  have hval : ∀ (j : Nat) t v, Try.f9.params[j]? = some t → args[j]? = some v → Value.okWide Try.prog W .any base t v := hval0
  have hW' := hW
  obtain ⟨p, q, hA0, hV, rfl, hfz, hnd⟩ := hW
  have hA : DataW.TrodAll enc Try.prog W 0 (fun _ => true) true Try.f9.params.toList args.toList ds p := hA0
  rw [Try.params9] at hA hval
  obtain ⟨v0, vs0, d0, ds0, p0, q0, hargs, rfl, rfl, h0, r0⟩ := trodAll_cons hA
  obtain ⟨v1, vs1, d1, ds1, p1, q1, rfl, rfl, rfl, h1, r1⟩ := trodAll_cons r0
  obtain ⟨v2, vs2, d2, ds2, p2, q2, rfl, rfl, rfl, h2, r2⟩ := trodAll_cons r1
  obtain ⟨v3, vs3, d3, ds3, p3, q3, rfl, rfl, rfl, h3, r3⟩ := trodAll_cons r2
  obtain ⟨v4, vs4, d4, ds4, p4, q4, rfl, rfl, rfl, h4, r4⟩ := trodAll_cons r3
  obtain ⟨v5, vs5, d5, ds5, p5, q5, rfl, rfl, rfl, h5, r5⟩ := trodAll_cons r4
  obtain ⟨rfl, rfl, rfl⟩ := trodAll_nil r5
  obtain rfl : args = #[v0, v1, v2, v3, v4, v5] := by cases args; simp_all
  obtain ⟨rfl, rfl⟩ := trodVars_none hV
  obtain ⟨a0, rfl, rfl, rfl, w0⟩ := open_int Try.underlying55 (hval 0 55 v0 rfl rfl) h0
  obtain ⟨a1, rfl, rfl, rfl, w1⟩ := open_int Try.underlying55 (hval 1 55 v1 rfl rfl) h1
  obtain ⟨a2, rfl, rfl, rfl, w2⟩ := open_int Try.underlying49 (hval 2 49 v2 rfl rfl) h2
  obtain ⟨a3, rfl, rfl, rfl, w3⟩ := open_int Try.underlying49 (hval 3 49 v3 rfl rfl) h3
  obtain ⟨a4, rfl, rfl, rfl, w4⟩ := open_int Try.underlying44 (hval 4 44 v4 rfl rfl) h4
  obtain ⟨a5, rfl, rfl, rfl, w5⟩ := open_int Try.underlying5 (hval 5 5 v5 rfl rfl) h5
  clear hA0 hval0
  refine (gridAround_core a0 a1 a2 a3 a4 a5 W (wfi16 w0) (wfi16 w1) (wfu16 w2) (wfu16 w3) (wfi8 w4) (wfu8 w5)).mono fun e W' ⟨he, bel⟩ => ?_
  subst he
  exact ⟨_, rfl, _, _, _, [], _, [], hW', trodAll_mk1 (shut_bool Try.underlying4 _), (trodAll_cons_mk (shut_int Try.underlying55 w0) (trodAll_cons_mk (shut_int Try.underlying55 w1) (trodAll_cons_mk (shut_int Try.underlying49 w2) (trodAll_cons_mk (shut_int Try.underlying49 w3) (trodAll_cons_mk (shut_int Try.underlying44 w4) (trodAll_cons_mk (shut_int Try.underlying5 w5) trodAll_mk0)))))), rfl, bel.frame _, fun h => by cases h⟩

theorem over : Rows.gridAroundRow.holds Try.pinned (OpenSpec.ofChange Rows.gridAroundSpec) :=
  OpenClaim.holds_of_wide 9 Try.f9 rfl rfl rfl rfl rfl rfl rfl ⟨rfl, rfl, rfl, rfl, rfl⟩ rfl rfl rfl rfl rfl (by kernel_rfl) Try.func9 (by kernel_rfl)
    (of_decide_eq_true (by kernel_rfl)) (by unfold Func.isWrapper; first | (rw [if_pos (by decide +kernel)]; kernel_rfl) | (rw [if_neg (by decide +kernel)]; exact ⟨rfl, rfl⟩))
    (fun os started H enc _ => lifted os started H enc)

theorem proved : Rows.GridAroundSaid := over
end gridAround

end Go.Proofs.Ytgldonfpiifnfaa
