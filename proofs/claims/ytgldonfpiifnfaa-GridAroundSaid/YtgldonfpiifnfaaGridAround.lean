/- Contracts of the package grid: Around. -/
import Derived.Test.YtgldonfpiifnfaaGrid
import Derived.Test.YtgldonfpiifnfaaGrid2
import Derived.Test.YtgldonfpiifnfaaNe
import Derived.Deep.RegionWith
import Derived.Deep.RegionHeld3
import Derived.Deep.CutRange
set_option linter.unusedVariables false
set_option linter.unusedSimpArgs false
namespace Go.Proofs.Ytgldonfpiifnfaa
open Go.RowKit
open Go.IntWalk (wrap64_in)

theorem alloc_drewN (w : World) (k : Nat) (o : Obj) : (w.drewN k).alloc o = (w.alloc o).drewN k := rfl
theorem setCell_drewN (w : World) (k : Nat) (a : Addr) (v : Value) : (w.drewN k).setCell a v = (w.setCell a v).drewN k := rfl
theorem wrap_in (n : Int) (h : -9223372036854775808 ≤ n ∧ n ≤ 9223372036854775807) : IntKind.i64.wrap n = n := by rw [Go.IntWalk.i64_left, wrap64_in n h]

theorem res_ct {P : Program} {fn : Func} {p u : Tmp} {ty : TypeId} (h : fn.results = #[.cell p ty, .tmp u]) (tmps : Array Value) (w : World) (g : Nat) (t : TypeId) (cs : Array Value) (d : TypeDesc)
    (hp : tmps.getD p undef = .pointer (some ⟨g, 0, none⟩)) (hg : w.heap[g]? = some (.cells cs t (0, 0)))
    (hu : P.underlying ty = some d) (hd : (match d with | .struct _ | .array _ _ => true | _ => false) = true) (hi : (P.info? ty).map (·.size) = some cs.size) :
    (results fn tmps).run P w = .ok (.tuple #[.agg cs, tmps.getD u undef]) w := by
  have hp' : tmps[p]?.getD undef = .pointer (some ⟨g, 0, none⟩) := by simpa using hp
  simp [results, h, hp', asAddr, run_loadVar_row w g t ty cs (0, 0) d hg hu hd hi]

/-- A grid's variable, written anew. -/
theorem set6 (W : World) (g : Nat) (a0 a1 a2 a3 a4 a5 b0 b1 b2 b3 b4 b5 : Value) (t : TypeId) (h : W.heap[g]? = some (.cells #[a0, a1, a2, a3, a4, a5] t (0, 0))) :
    ((((((W.setCell ⟨g, 0, none⟩ b0).setCell ⟨g, 1, none⟩ b1).setCell ⟨g, 2, none⟩ b2).setCell ⟨g, 3, none⟩ b3).setCell ⟨g, 4, none⟩ b4).setCell ⟨g, 5, none⟩ b5).heap[g]? = some (.cells #[b0, b1, b2, b3, b4, b5] t (0, 0)) ∧
    Kept (· = g) W ((((((W.setCell ⟨g, 0, none⟩ b0).setCell ⟨g, 1, none⟩ b1).setCell ⟨g, 2, none⟩ b2).setCell ⟨g, 3, none⟩ b3).setCell ⟨g, 4, none⟩ b4).setCell ⟨g, 5, none⟩ b5) := by
  refine ⟨?_, ?_⟩
  · exact heap_setCell_same _ g 5 _ t b5 (heap_setCell_same _ g 4 _ t b4 (heap_setCell_same _ g 3 _ t b3 (heap_setCell_same _ g 2 _ t b2 (heap_setCell_same _ g 1 _ t b1 (heap_setCell_same W g 0 _ t b0 h)))))
  · exact (((((Kept.setCell (· = g) W ⟨g, 0, none⟩ b0 rfl).trans (Kept.setCell _ _ ⟨g, 1, none⟩ b1 rfl)).trans (Kept.setCell _ _ ⟨g, 2, none⟩ b2 rfl)).trans (Kept.setCell _ _ ⟨g, 3, none⟩ b3 rfl)).trans (Kept.setCell _ _ ⟨g, 4, none⟩ b4 rfl)).trans (Kept.setCell _ _ ⟨g, 5, none⟩ b5 rfl)
theorem gv_free {w : World} {b : Nat} {cs : Array Value} {t : TypeId} (h : w.heap[b]? = some (.cells cs t (0, 0))) (j : Nat) : w.frozen? ⟨b, j, none⟩ = false := by simp [World.frozen?, h]

abbrev zs2 : Array Value := #[vi 0, vi 0]
abbrev zs6 : Array Value := #[vi 0, vi 0, vi 0, vi 0, vi 0, vi 0]

/-- The variables of grid.Around. -/
theorem around_blocks (w : World) (lx ly hx hy : Int) :
    let w3 := ((w.alloc (.cells #[vi lx, vi ly] 46)).alloc (.cells #[vi hx, vi hy] 46)).alloc (.cells zs6 35)
    w3.heap[w.heap.size]? = some (.cells #[vi lx, vi ly] 46 (0, 0)) ∧ w3.heap[w.heap.size + 1]? = some (.cells #[vi hx, vi hy] 46 (0, 0)) ∧ w3.heap[w.heap.size + 1 + 1]? = some (.cells zs6 35 (0, 0)) ∧ Kept (fun _ => False) w w3 ∧ w3.heap.size = w.heap.size + 1 + 1 + 1 := by
  intro w3
  have k1 := Kept.alloc (fun _ => False) w (.cells #[vi lx, vi ly] 46)
  have k2 := Kept.alloc (fun _ => False) (w.alloc (.cells #[vi lx, vi ly] 46)) (.cells #[vi hx, vi hy] 46)
  have k3 := Kept.alloc (fun _ => False) ((w.alloc (.cells #[vi lx, vi ly] 46)).alloc (.cells #[vi hx, vi hy] 46)) (.cells zs6 35)
  have h1 := heap_alloc_new w (.cells #[vi lx, vi ly] 46)
  have h2 := heap_alloc_new (w.alloc (.cells #[vi lx, vi ly] 46)) (.cells #[vi hx, vi hy] 46)
  have h3 := heap_alloc_new ((w.alloc (.cells #[vi lx, vi ly] 46)).alloc (.cells #[vi hx, vi hy] 46)) (.cells zs6 35)
  rw [World.size_alloc] at h2
  rw [World.size_alloc, World.size_alloc] at h3
  exact ⟨(k2.trans k3).get h1 (by simp), k3.get h2 (by simp), h3, (k1.trans k2).trans k3, by simp [w3]⟩

set_option maxHeartbeats 1000000 in
theorem around_bad (lx ly hx hy p s m : Int) (w : World) (hp : p < 1 ∨ 16 < p) :
    Calls Try.prog 28 #[pv lx ly, pv hx hy, vi p, vi s, vi m] w fun e w' => e = .returned (.tuple #[gv 0 0 0 0 0 0, vi 4]) ∧ Kept (fun _ => False) w w' := by
  have hw := Lib.hid (around_blocks w lx ly hx hy)
  rcases hp with hp | hp
  all_goals
    go_enter Try.func28, Try.ntmps28
    go_wp2
    obtain ⟨h1, h2, h3, h4, h5⟩ := hw.out
    refine bodyPost_ret (res_ct rfl _ _ (w.heap.size + 1 + 1) 35 zs6 _ rfl h3 Try.underlying35 rfl (by kernel_rfl)) rfl ?_
    exact ⟨rfl, h4⟩

/-- The grid around a place, by the rounded corners. -/
abbrev arG (ax ay bx by' p s m : Int) : Value := gv ((ax - m) * p) ((ay - m) * p) p (bx + m + 1 - (ax - m)) (by' + m + 1 - (ay - m)) s
abbrev arC (ax ay bx by' p s m : Int) : Int := checkF ((ax - m) * p) ((ay - m) * p) p (bx + m + 1 - (ax - m)) (by' + m + 1 - (ay - m)) s

theorem ediv_bounds (n wide : Int) (hw : 1 ≤ wide) (h0 : -1000000 ≤ n) (h1 : n ≤ 1000000) : -1000001 ≤ n / wide ∧ n / wide ≤ 1000000 := by
  rcases Int.lt_or_le n 0 with h | h
  · have l1 := Int.ediv_neg_of_neg_of_pos h (show 0 < wide by omega)
    have l2 : n ≤ n / wide := (Int.le_ediv_iff_mul_le (by omega)).2 (by
      have h5 : wide * n ≤ 1 * n := Int.mul_le_mul_of_nonpos_right hw (by omega)
      rw [Int.mul_comm]; omega)
    omega
  · have l1 := Int.ediv_nonneg h (show 0 ≤ wide by omega)
    have l2 := Int.ediv_le_self wide h
    omega

attribute [local go_sem] alloc_drewN setCell_drewN
set_option maxHeartbeats 2000000 in
theorem around_c (lx ly hx hy p s m : Int) (w : World) (hp0 : 1 ≤ p) (hp1 : p ≤ 16) (hm0 : 0 ≤ m) (hm1 : m ≤ 24)
    (h1 : -1000000 ≤ lx) (h2 : lx ≤ 1000000) (h3 : -1000000 ≤ ly) (h4 : ly ≤ 1000000) (h5 : -1000000 ≤ hx) (h6 : hx ≤ 1000000) (h7 : -1000000 ≤ hy) (h8 : hy ≤ 1000000) :
    Calls Try.prog 28 #[pv lx ly, pv hx hy, vi p, vi s, vi m] w fun e w' =>
      e = .returned (.tuple #[if arC (lx / (p * 32)) (ly / (p * 32)) (hx / (p * 32)) (hy / (p * 32)) p s m = 0 then arG (lx / (p * 32)) (ly / (p * 32)) (hx / (p * 32)) (hy / (p * 32)) p s m else gv 0 0 0 0 0 0, vi (arC (lx / (p * 32)) (ly / (p * 32)) (hx / (p * 32)) (hy / (p * 32)) p s m)]) ∧ Kept (fun _ => False) w w' := by
  have fl : ∀ n : Int, -1000000 ≤ n → n ≤ 1000000 → ∀ (b : Nat) (W : World), W.cell? ⟨b, 0, none⟩ = some (vi (p * 32)) → Calls Try.prog 48 #[vi n, .pointer (some ⟨b, 0, none⟩)] W fun e w' => e = .returned (vi (n / (p * 32))) ∧ ∃ m, w' = W.drewN m :=
    fun n hn0 hn1 b W hc => floor_c b n (p * 32) W (by omega) (by omega) hn0 hn1 hc
  have F1 := Lib.hid (fl lx h1 h2)
  have F2 := Lib.hid (fl ly h3 h4)
  have F3 := Lib.hid (fl hx h5 h6)
  have F4 := Lib.hid (fl hy h7 h8)
  obtain ⟨a0, a1⟩ := ediv_bounds lx (p * 32) (by omega) h1 h2
  obtain ⟨a2, a3⟩ := ediv_bounds ly (p * 32) (by omega) h3 h4
  obtain ⟨a4, a5⟩ := ediv_bounds hx (p * 32) (by omega) h5 h6
  obtain ⟨a6, a7⟩ := ediv_bounds hy (p * 32) (by omega) h7 h8
  clear fl
  generalize lx / (p * 32) = ax at *
  generalize ly / (p * 32) = ay at *
  generalize hx / (p * 32) = bx at *
  generalize hy / (p * 32) = by' at *
  obtain ⟨b0, b1⟩ := mul_bound (a := ax - m) (b := p) (A := 1000100) (B := 16) (by omega) (by omega) (by omega) hp1 (by omega)
  obtain ⟨b2, b3⟩ := mul_bound (a := ay - m) (b := p) (A := 1000100) (B := 16) (by omega) (by omega) (by omega) hp1 (by omega)
  have HK := Lib.hid (fun W => check_c ((ax - m) * p) ((ay - m) * p) p (bx + m + 1 - (ax - m)) (by' + m + 1 - (ay - m)) s W)
  unfold arC
  generalize checkF ((ax - m) * p) ((ay - m) * p) p (bx + m + 1 - (ax - m)) (by' + m + 1 - (ay - m)) s = c at *
  have hmf : ∀ (fn : Fn) (first cap : Array Value) (w : World), (Instr.makeFunc fn first cap).run Try.prog w = .ok (.func fn first cap) w := fun _ _ _ _ => rfl
  have HW := Lib.hid (around_blocks w lx ly hx hy)
  have hm2 : ¬ m < 0 := by omega
  have hm3 : ¬ 24 < m := by omega
  go_enter Try.func28, Try.ntmps28
  go_upto_region 5 with fail
  clear hmf
  have HB : Hid (∃ w4, w4 = ((((w.alloc (.cells #[vi lx, vi ly] 46)).alloc (.cells #[vi hx, vi hy] 46)).alloc (.cells zs6 35)).alloc (.cells #[vi (p * 32)] 3)) ∧
      w4.heap[w.heap.size]? = some (.cells #[vi lx, vi ly] 46 (0, 0)) ∧ w4.heap[w.heap.size + 1]? = some (.cells #[vi hx, vi hy] 46 (0, 0)) ∧ w4.heap[w.heap.size + 1 + 1]? = some (.cells zs6 35 (0, 0)) ∧
      w4.heap[w.heap.size + 1 + 1 + 1]? = some (.cells #[vi (p * 32)] 3 (0, 0)) ∧ Kept (fun _ => False) w w4) := by
    obtain ⟨g1, g2, g3, g4, g5⟩ := HW.out
    have k := Kept.alloc (fun _ => False) (((w.alloc (.cells #[vi lx, vi ly] 46)).alloc (.cells #[vi hx, vi hy] 46)).alloc (.cells zs6 35)) (.cells #[vi (p * 32)] 3)
    have hn := heap_alloc_new (((w.alloc (.cells #[vi lx, vi ly] 46)).alloc (.cells #[vi hx, vi hy] 46)).alloc (.cells zs6 35)) (.cells #[vi (p * 32)] 3)
    rw [g5] at hn
    exact ⟨_, rfl, k.get g1 (by simp), k.get g2 (by simp), k.get g3 (by simp), hn, g4.trans k⟩
  obtain ⟨w4, hw4, g1, g2, g3, g4, g5⟩ := HB.out
  rw [← hw4]
  clear hw4 HB HW
  have cl0 : w4.cell? ⟨w.heap.size, 0, none⟩ = some (vi lx) := by simp [World.cell?, g1]
  have cl1 : w4.cell? ⟨w.heap.size, 1, none⟩ = some (vi ly) := by simp [World.cell?, g1]
  have HCW := Lib.hid (fun k : Nat => show (w4.drewN k).cell? ⟨w.heap.size + 1 + 1 + 1, 0, none⟩ = some (vi (p * 32)) from cell_of_one g4)
  have G2 := Lib.hid g2; have G3 := Lib.hid g3; have G4 := Lib.hid g4; have G5 := Lib.hid g5
  clear g1 g2 g3 g4 g5
  go_quiet ((first | (go_at_call_of 48 lx; refine Calls.quiet_of (F1.out _ _ (HCW.out _))) | (go_at_call_of 48 ly; refine Calls.quiet_of (F2.out _ _ (HCW.out _)))))
  clear cl0 cl1
  have hd := Kept.drewN (fun _ => False) w4 nq
  have H2 := Lib.hid (hd.get G2.out (by simp)); have H3 := Lib.hid (hd.get G3.out (by simp)); have H4 := Lib.hid (hd.get G4.out (by simp)); have H5 := Lib.hid (G5.out.trans hd)
  clear G2 G3 G4 G5 HCW hd
  generalize w4.drewN nq = w5 at *
  go_upto_region 6 with fail
  go_cut [16] from 48 (fun sg wx => ∃ g : Nat, sg = .pointer (some ⟨g, 0, none⟩) ∧ Hid (wx.heap[g]? = some (.cells #[vi ((ax - m) * p), vi ((ay - m) * p), vi p, vi (bx + m + 1 - (ax - m)), vi (by' + m + 1 - (ay - m)), vi s] 35 (0, 0))) ∧
    Hid (wx.heap[w.heap.size + 1 + 1]? = some (.cells zs6 35 (0, 0))) ∧ Hid (Kept (fun _ => False) w wx))
  case first =>
    have ch0 : w5.drew.cell? ⟨w.heap.size + 1, 0, none⟩ = some (vi hx) := by show w5.cell? _ = _; simp [World.cell?, H2.out]
    have ch1 : w5.drew.cell? ⟨w.heap.size + 1, 1, none⟩ = some (vi hy) := by show w5.cell? _ = _; simp [World.cell?, H2.out]
    have cg0 : w5.cell? ⟨w.heap.size + 1, 0, none⟩ = some (vi hx) := ch0
    have cg1 : w5.cell? ⟨w.heap.size + 1, 1, none⟩ = some (vi hy) := ch1
    have cw5 := (show w5.cell? ⟨w.heap.size + 1 + 1 + 1, 0, none⟩ = some (vi (p * 32)) from cell_of_one H4.out)
    have e1 := wrap_in ((ax - m) * p) ⟨by omega, by omega⟩
    have e2 := wrap_in ((ay - m) * p) ⟨by omega, by omega⟩
    have e3 := wrap_in (bx + m) ⟨by omega, by omega⟩
    have e4 := wrap_in (by' + m) ⟨by omega, by omega⟩
    have e5 := wrap_in (bx + m + 1) ⟨by omega, by omega⟩
    have e6 := wrap_in (by' + m + 1) ⟨by omega, by omega⟩
    have e7 := wrap_in (bx + m + 1 - (ax - m)) ⟨by omega, by omega⟩
    have e8 := wrap_in (by' + m + 1 - (ay - m)) ⟨by omega, by omega⟩
    refine wp_normally ?_
    go_region_held3 (fun w' => w'.cell? ⟨w.heap.size + 1, 0, none⟩ = some (vi hx) ∧ w'.cell? ⟨w.heap.size + 1, 1, none⟩ = some (vi hy) ∧ w'.cell? ⟨w.heap.size + 1 + 1 + 1, 0, none⟩ = some (vi (p * 32))) (go_keep) (first | (go_at_call_of 48 hx; refine (F3.out _ _ ?_).mono ?_; (first | assumption | exact (show _ ∧ _ ∧ _ from by assumption).2.2); rintro e w' ⟨rfl, m', rfl⟩) | (go_at_call_of 48 hy; refine (F4.out _ _ ?_).mono ?_; (first | assumption | exact (show _ ∧ _ ∧ _ from by assumption).2.2); rintro e w' ⟨rfl, m', rfl⟩))
    all_goals
      go_wp2_with fail
      go_meet
      case rel => exact ⟨w5.heap.size, rfl, heap_alloc_new w5 _, (Kept.alloc (fun _ => False) w5 _).get H3.out (by simp), (H5.out.trans (Kept.alloc _ _ _)).trans (Kept.drewN _ _ _)⟩
  case rest =>
    obtain ⟨g, rfl, hG, hR, hKp⟩ := hcut
    obtain ⟨c0, c1, c2, c3, c4, c5⟩ := gv_cells hG.out
    clear F1 F2 F3 F4 a0 a1 a2 a3 a4 a5 a6 a7 b0 b1 b2 b3 hm2 hm3 H2 H3 H4 H5
    go_wp2_with fail
    refine (HK.out _).mono ?_
    rintro e w7 ⟨rfl, hk7⟩
    clear c0 c1 c2 c3 c4 c5
    obtain ⟨c0, c1, c2, c3, c4, c5⟩ := gv_cells (hk7.get hG.out (by simp))
    have HR := Lib.hid (hk7.get hR.out (by simp))
    obtain ⟨d0, d1, d2, d3, d4, d5⟩ := gv_cells HR.out
    have f0 := gv_free HR.out 0; have f1 := gv_free HR.out 1; have f2 := gv_free HR.out 2; have f3 := gv_free HR.out 3; have f4 := gv_free HR.out 4; have f5 := gv_free HR.out 5
    have HKK := Lib.hid (hKp.out.trans hk7)
    clear hk7 hG hR hKp
    by_cases hc : c = 0
    · subst hc
      go_wp2_with fail
      obtain ⟨s1, s2⟩ := set6 w7 _ _ _ _ _ _ _ (vi ((ax - m) * p)) (vi ((ay - m) * p)) (vi p) (vi (bx + m + 1 - (ax - m))) (vi (by' + m + 1 - (ay - m))) (vi s) _ HR.out
      refine bodyPost_ret (res_ct rfl _ _ (w.heap.size + 1 + 1) 35 _ _ rfl s1 Try.underlying35 rfl (by kernel_rfl)) rfl ?_
      exact ⟨rfl, HKK.out.andThen s2 (fun _ _ h => h) (fun _ _ h => by omega)⟩
    · have hcb : (c != 0) = true := by simpa [bne_iff_ne] using hc
      go_wp2_with fail
      obtain ⟨s1, s2⟩ := set6 w7 _ _ _ _ _ _ _ (vi 0) (vi 0) (vi 0) (vi 0) (vi 0) (vi 0) _ HR.out
      refine bodyPost_ret (res_ct rfl _ _ (w.heap.size + 1 + 1) 35 _ _ rfl s1 Try.underlying35 rfl (by kernel_rfl)) rfl ?_
      exact ⟨rfl, HKK.out.andThen s2 (fun _ _ h => h) (fun _ _ h => by omega)⟩

end Go.Proofs.Ytgldonfpiifnfaa
