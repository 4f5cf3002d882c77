/- GridEach: for every input the law returns true. No condition. -/
import Derived.Test.YtgldonfpiifnfaaRows
import Derived.Test.YtgldonfpiifnfaaGridAwake
import Derived.Test.YtgldonfpiifnfaaGridRow
import Derived.Test.YtgldonfpiifnfaaRowBase
import Derived.Deep.DeepCutAuto
import Derived.Deep.CutBlock
import Derived.Deep.RegionWith
import Derived.Test.YtgldonfpiifnfaaNe
set_option linter.unusedVariables false
set_option linter.unusedSimpArgs false
namespace Go.Proofs.Ytgldonfpiifnfaa
open Go.RowKit Go.Shelf
open Go.IntWalk (wrap64_in)

theorem wfu8 {x : Int} (h : (Lit.int .u8 x).wf = true) : 0 ≤ x ∧ x ≤ 255 := by simpa [Lit.wf, IntKind.min, IntKind.max, IntKind.signed, IntKind.bits] using h
theorem wfi8 {x : Int} (h : (Lit.int .i8 x).wf = true) : -128 ≤ x ∧ x ≤ 127 := by simpa [Lit.wf, IntKind.min, IntKind.max, IntKind.signed, IntKind.bits] using h
theorem wfu16 {x : Int} (h : (Lit.int .u16 x).wf = true) : 0 ≤ x ∧ x ≤ 65535 := by simpa [Lit.wf, IntKind.min, IntKind.max, IntKind.signed, IntKind.bits] using h
theorem wfi16 {x : Int} (h : (Lit.int .i16 x).wf = true) : -32768 ≤ x ∧ x ≤ 32767 := by simpa [Lit.wf, IntKind.min, IntKind.max, IntKind.signed, IntKind.bits] using h
/-- A spec, as a value. -/
abbrev sv (X Y P W H S : Int) : Value := .agg #[.int .u8 X, .int .u8 Y, .int .u8 P, .int .u8 W, .int .u8 H, .int .u8 S]
/-- The six bytes of a spec. -/
def Six (X Y P W H S : Int) : Prop := (0 ≤ X ∧ X ≤ 255) ∧ (0 ≤ Y ∧ Y ≤ 255) ∧ (0 ≤ P ∧ P ≤ 255) ∧ (0 ≤ W ∧ W ≤ 255) ∧ (0 ≤ H ∧ H ≤ 255) ∧ (0 ≤ S ∧ S ≤ 255)
theorem spec_six {X Y P W H S : Int} (h : Six X Y P W H S) (w : World) :
    ∃ gX gY gP gW gH gS : Int, (-128 ≤ gX ∧ gX ≤ 127 ∧ -128 ≤ gY ∧ gY ≤ 127 ∧ 1 ≤ gP ∧ gP ≤ 16 ∧ 1 ≤ gW ∧ gW ≤ 10 ∧ 1 ≤ gH ∧ gH ≤ 10 ∧ 1 ≤ gS ∧ gS ≤ 64) ∧
    ∀ w, Calls Try.prog 22 #[sv X Y P W H S] w fun e w' => e = .returned (gv gX gY gP gW gH gS) ∧ Kept (fun _ => False) w w' := by
  obtain ⟨⟨a0, a1⟩, ⟨b0, b1⟩, ⟨c0, c1⟩, ⟨d0, d1⟩, ⟨e0, e1⟩, ⟨f0, f1⟩⟩ := h
  exact ⟨X - 128, Y - 128, 1 + P % 16, 1 + W % 10, 1 + H % 10, 1 + S % 64, ⟨by omega, by omega, by omega, by omega, by omega, by omega, by omega, by omega, by omega, by omega, by omega, by omega⟩, fun w => spec_c X Y P W H S w a0 a1 b0 b1 c0 c1 d0 d1 e0 e1 f0 f1⟩
theorem cells6 {w : World} {b : Nat} {x0 x1 x2 x3 x4 x5 : Value} {t : TypeId} {f : Nat × Nat} (h : w.heap[b]? = some (.cells #[x0, x1, x2, x3, x4, x5] t f)) :
    w.cell? ⟨b, 0, none⟩ = some x0 ∧ w.cell? ⟨b, 1, none⟩ = some x1 ∧ w.cell? ⟨b, 2, none⟩ = some x2 ∧ w.cell? ⟨b, 3, none⟩ = some x3 ∧ w.cell? ⟨b, 4, none⟩ = some x4 ∧ w.cell? ⟨b, 5, none⟩ = some x5 := by
  refine ⟨?_, ?_, ?_, ?_, ?_, ?_⟩ <;> simp [World.cell?, h]
theorem cells2 {w : World} {b : Nat} {x0 x1 : Value} {t : TypeId} {f : Nat × Nat} (h : w.heap[b]? = some (.cells #[x0, x1] t f)) : w.cell? ⟨b, 0, none⟩ = some x0 ∧ w.cell? ⟨b, 1, none⟩ = some x1 := by
  refine ⟨?_, ?_⟩ <;> simp [World.cell?, h]

/-- What the loop keeps. -/
structure Ea (w : World) (bg bn : Nat) (stop gX gY gP gW gH gS : Int) (m : Int) (Wd : World) : Prop where
  stp : Wd.heap[w.heap.size + 1]? = some (.cells #[.int .u8 stop] 5 (0, 0))
  res : Wd.heap[w.heap.size + 1 + 1]? = some (.cells #[.bool false] 4 (0, 0))
  grid : Wd.heap[bg]? = some (.cells #[vi gX, vi gY, vi gP, vi gW, vi gH, vi gS] 35 (0, 0))
  cnt : Wd.heap[bn]? = some (.cells #[vi m] 3 (0, 0))
  kept : Kept (fun _ => False) w Wd
theorem Ea.keep {w : World} {bg bn : Nat} {stop gX gY gP gW gH gS m : Int} {A B : World} (h : Ea w bg bn stop gX gY gP gW gH gS m A) {T : Nat → Prop} (hk : Kept T A B) (hT : ∀ k, T k → w.heap.size ≤ k)
    (h1 : ¬ T (w.heap.size + 1)) (h2 : ¬ T (w.heap.size + 1 + 1)) (h3 : ¬ T bg) (h4 : ¬ T bn) : Ea w bg bn stop gX gY gP gW gH gS m B :=
  ⟨hk.get h.stp h1, hk.get h.res h2, hk.get h.grid h3, hk.get h.cnt h4, h.kept.andThen hk (fun _ _ h => h) (fun k hk h => by have := hT k h; omega)⟩
theorem Ea.own {w : World} {bg bn : Nat} {stop gX gY gP gW gH gS m : Int} {A B : World} {S : Nat → Prop} {N : Nat} (h : Ea w bg bn stop gX gY gP gW gH gS m A) (hB : w.heap.size ≤ N) (hS : Own N S A) (hk : Kept S A B) : Ea w bg bn stop gX gY gP gW gH gS m B :=
  ⟨hk.get h.stp (hS.cells h.stp), hk.get h.res (hS.cells h.res), hk.get h.grid (hS.cells h.grid), hk.get h.cnt (hS.cells h.cnt), hS.kept hk hB h.kept⟩
theorem Ea.bump {w : World} {bg bn : Nat} {stop gX gY gP gW gH gS m m' : Int} {A : World} (h : Ea w bg bn stop gX gY gP gW gH gS m A) (hb : w.heap.size ≤ bn) (h1 : w.heap.size + 1 ≠ bn) (h2 : w.heap.size + 1 + 1 ≠ bn) (h3 : bg ≠ bn) :
    Ea w bg bn stop gX gY gP gW gH gS m' (A.setCell ⟨bn, 0, none⟩ (vi m')) ∧ Kept (· = bn) A (A.setCell ⟨bn, 0, none⟩ (vi m')) := by
  have hk := Kept.setCell (· = bn) A ⟨bn, 0, none⟩ (vi m') rfl
  exact ⟨⟨hk.get h.stp h1, hk.get h.res h2, hk.get h.grid h3, one_setCell h.cnt, h.kept.andThen hk (fun _ _ h => h) (fun k hk h => by omega)⟩, hk⟩

attribute [local go_sem] Oper.semAt_some
set_option maxHeartbeats 4000000 in
set_option maxRecDepth 100000 in
theorem gridEach_core (X Y P W H S stop : Int) (w : World) (hs : Six X Y P W H S) (ht : 0 ≤ stop ∧ stop ≤ 255) :
    Calls Try.prog 8 #[sv X Y P W H S, .int .u8 stop] w fun e w' => e = .returned (.bool true) ∧ Below w.heap.size w w' := by
  obtain ⟨gX, gY, gP, gW, gH, gS, ⟨_, _, _, _, _, _, u0, u1, v0, v1, _, _⟩, hsp⟩ := spec_six hs w
  obtain ⟨Wn, rfl⟩ := Int.eq_ofNat_of_zero_le (show 0 ≤ gW by omega)
  obtain ⟨Hn, rfl⟩ := Int.eq_ofNat_of_zero_le (show 0 ≤ gH by omega)
  have HSP := Lib.hid hsp; clear hsp hs
  obtain ⟨t0, t1⟩ := ht
  have hW10 : Wn ≤ 10 := by omega
  have hH10 : Hn ≤ 10 := by omega
  have hWH : Wn * Hn ≤ 100 := Nat.mul_le_mul hW10 hH10
  have hWHi : ((Wn * Hn : Nat) : Int) = (Wn : Int) * (Hn : Int) := by simp
  have hWH2 : (Wn : Int) * (Hn : Int) ≤ 100 := by omega
  have hWH3 : 0 ≤ (Wn : Int) * (Hn : Int) := by omega
  have HWHI := Lib.hid hWHi; clear hWHi
  have HB : Hid (∃ wb, wb = (((w.alloc (.cells #[.int .u8 X, .int .u8 Y, .int .u8 P, .int .u8 W, .int .u8 H, .int .u8 S] 37)).alloc (.cells #[.int .u8 stop] 5)).alloc (.cells #[.bool false] 4)) ∧
      wb.heap[w.heap.size]? = some (.cells #[.int .u8 X, .int .u8 Y, .int .u8 P, .int .u8 W, .int .u8 H, .int .u8 S] 37 (0, 0)) ∧ wb.heap[w.heap.size + 1]? = some (.cells #[.int .u8 stop] 5 (0, 0)) ∧
      wb.heap[w.heap.size + 1 + 1]? = some (.cells #[.bool false] 4 (0, 0)) ∧ Kept (fun _ => False) w wb) := by
    have k1 := Kept.alloc (fun _ => False) w (.cells #[.int .u8 X, .int .u8 Y, .int .u8 P, .int .u8 W, .int .u8 H, .int .u8 S] 37)
    have k2 := Kept.alloc (fun _ => False) (w.alloc (.cells #[.int .u8 X, .int .u8 Y, .int .u8 P, .int .u8 W, .int .u8 H, .int .u8 S] 37)) (.cells #[.int .u8 stop] 5)
    have k3 := Kept.alloc (fun _ => False) ((w.alloc (.cells #[.int .u8 X, .int .u8 Y, .int .u8 P, .int .u8 W, .int .u8 H, .int .u8 S] 37)).alloc (.cells #[.int .u8 stop] 5)) (.cells #[.bool false] 4)
    have n1 := heap_alloc_new w (.cells #[.int .u8 X, .int .u8 Y, .int .u8 P, .int .u8 W, .int .u8 H, .int .u8 S] 37)
    have n2 := heap_alloc_new (w.alloc (.cells #[.int .u8 X, .int .u8 Y, .int .u8 P, .int .u8 W, .int .u8 H, .int .u8 S] 37)) (.cells #[.int .u8 stop] 5)
    have n3 := heap_alloc_new ((w.alloc (.cells #[.int .u8 X, .int .u8 Y, .int .u8 P, .int .u8 W, .int .u8 H, .int .u8 S] 37)).alloc (.cells #[.int .u8 stop] 5)) (.cells #[.bool false] 4)
    rw [World.size_alloc] at n2
    rw [World.size_alloc, World.size_alloc] at n3
    exact ⟨_, rfl, (k2.trans k3).get n1 (by simp), k3.get n2 (by simp), n3, (k1.trans k2).trans k3⟩
  refine (callsIn_wide (n := 5)).1 (callsIn_of_wp_marks Try.func8 rfl trivial ?_ rfl)
  refine wpIn_wide.2 ?_
  simp only [Try.ntmps8, List.size_toArray, List.length_cons, List.length_nil, Nat.reduceAdd, Nat.reduceSub, Array.replicate_succ, Array.replicate_zero, List.push_toArray, List.append_toArray, List.nil_append, List.cons_append]
  go_wp2_with fail
  obtain ⟨wb, hwb, hb0, hb1, hb2, hbk⟩ := HB.out
  rw [← hwb]
  clear hwb HB
  refine (awake9 _).mono ?_
  rintro e w1 ⟨rfl, hk1⟩
  obtain ⟨s0, s1, s2, s3, s4, s5⟩ := cells6 (hk1.get hb0 (by simp))
  have HB1 := Lib.hid (hk1.get hb1 (by simp)); have HB2 := Lib.hid (hk1.get hb2 (by simp)); have HBK := Lib.hid (hbk.trans hk1)
  clear hb0 hb1 hb2 hbk hk1
  go_wp2_with fail
  refine (HSP.out _).mono ?_
  rintro e w2 ⟨rfl, hk2⟩
  clear s0 s1 s2 s3 s4 s5
  have HE : Hid (∃ w3, w3 = ((w2.alloc (.cells #[vi gX, vi gY, vi gP, vi Wn, vi Hn, vi gS] 35)).alloc (.cells #[vi 0] 3)) ∧ Ea w w2.heap.size (w2.heap.size + 1) stop gX gY gP Wn Hn gS 0 w3) := by
    have k1 := Kept.alloc (fun _ => False) w2 (.cells #[vi gX, vi gY, vi gP, vi Wn, vi Hn, vi gS] 35)
    have k2 := Kept.alloc (fun _ => False) (w2.alloc (.cells #[vi gX, vi gY, vi gP, vi Wn, vi Hn, vi gS] 35)) (.cells #[vi 0] 3)
    have n2 := heap_alloc_new (w2.alloc (.cells #[vi gX, vi gY, vi gP, vi Wn, vi Hn, vi gS] 35)) (.cells #[vi 0] 3)
    rw [World.size_alloc] at n2
    have k := hk2.trans (k1.trans k2)
    exact ⟨_, rfl, k.get HB1.out (by simp), k.get HB2.out (by simp), k2.get (heap_alloc_new w2 _) (by simp), n2, HBK.out.trans k⟩
  have hb2l := lt_of_block (hk2.get HB2.out (by simp))
  clear hk2 HB1 HB2 HBK HSP
  go_upto_region 5 with fail
  obtain ⟨w3, hw3, hEa⟩ := HE.out
  rw [← hw3]
  clear hw3 HE
  have HEA := Lib.hid hEa; clear hEa
  generalize w2.heap.size = bg at *
  go_cut [14] from 9 (fun s wx => ∃ Bs, s = .func (.func 47) #[] #[.pointer (some ⟨Bs, 0, none⟩)] ∧ Hid (wx.heap[Bs]? = some (.cells #[vi gX, vi gY, vi gP, vi Wn, vi Hn, vi gS] 35 (0, 0))) ∧ Hid (Ea w bg (bg + 1) stop gX gY gP Wn Hn gS 0 wx) ∧ Hid (bg + 1 < Bs))
  case first =>
    obtain ⟨c0, c1, c2, c3, c4, c5⟩ := cells6 HEA.out.grid
    go_wp2_with fail
    refine (each_c gX gY gP Wn Hn gS _).mono ?_
    rintro e w4 ⟨rfl, rfl⟩
    go_wp2_with fail
    go_meet
    case rel =>
      have k := Kept.alloc (fun _ => False) w3 (.cells #[vi gX, vi gY, vi gP, vi Wn, vi Hn, vi gS] 35)
      exact ⟨w3.heap.size, rfl, heap_alloc_new w3 _, HEA.out.keep k (fun _ h => h.elim) (by simp) (by simp) (by simp) (by simp), lt_of_block HEA.out.cnt⟩
  case rest =>
    obtain ⟨Bs, rfl, HBs, HE5, HL⟩ := hcut
    clear HEA
    generalize hw5 : wc = w5 at *
    have hsz5 := HE5.out.kept.size
    obtain ⟨_, _, _, b3, b4, _⟩ := cells6 HBs.out
    have B3 := Lib.hid b3; have B4 := Lib.hid b4
    clear b3 b4
    go_wp2_with fail
    refine (wpIn_wide (n := 5)).1 (wpIn_rangeFunc_ownG (F := Fence.wide) rfl (by omega) (gf := 47) (lb := #[.pointer (some ⟨Bs, 0, none⟩)]) rfl trivial (enters_of Try.func47 (by kernel_rfl) rfl)
      (iter_each 4 (by omega) Bs Wn Hn (by omega) (by omega) w5 (fun k => k = Bs) rfl B3.out B4.out) (fun h k => Keeps.trans h k)
      (Keeps.putObj (by rintro k rfl; exact lt_of_block HBs.out)) (Below.refl _ _) (fun _ => rfl)
      (fun pre W => Ea w bg (bg + 1) stop gX gY gP Wn Hn gS pre.length W ∧ (pre.length : Int) ≤ stop)
      (fun c pre W => (c = .exit 0 ∧ Ea w bg (bg + 1) stop gX gY gP Wn Hn gS pre.length W ∧ (pre.length : Int) = stop + 1) ∨ (c = .ret ∧ ∃ (ini : List (Int × Int)) (x : Int × Int), pre = ini ++ [x] ∧ ini.length < Wn * Hn ∧ x ≠ texel Wn ini.length))
      (own_from (by
        rintro pre S W W' ⟨h1, h2⟩ hk hS
        exact ⟨h1.own hsz5 hS hk, h2⟩))
      (fun c => own_from (by
        rintro pre S W W' (⟨h0, h1, h2⟩ | h) hk hS
        · exact .inl ⟨h0, h1.own hsz5 hS hk, h2⟩
        · exact .inr h))
      ⟨HE5.out, by simp; omega⟩
      (fun x => { tmps := #[sv X Y P W H S, .int .u8 stop, .pointer (some ⟨w.heap.size, 0, none⟩), .pointer (some ⟨w.heap.size + 1, 0, none⟩), .pointer (some ⟨w.heap.size + 1 + 1, 0, none⟩), .pointer (some ⟨bg, 0, none⟩), .pointer (some ⟨bg + 1, 0, none⟩), vi x.1, vi x.2, u9, u10, u11, u12, u13, .func (.func 47) #[] #[.pointer (some ⟨Bs, 0, none⟩)], vi x.1, vi x.2, u17, u18, u19, u20, u21, u22, u23, u24, u25, u26, u27, u28, u29, u30, u31, u32, u33, u34, u35, u36, u37, u38, u39, u40, u41, u42, u43, u44, u45, u46, u47], defers := [] }) ?assign ?body ?done ?stop)
    case assign =>
      intro l x Wd K hK
      gi_wp2
      exact hK
    case body =>
      rintro l pre x Wd ⟨hE, hle⟩ hlt
      have HE := Lib.hid hE
      have cS := cell_of_one hE.stp
      have cR := cell_of_one hE.res
      have fR := free_of_one hE.res
      have cN := cell_of_one hE.cnt
      have fN := free_of_one hE.cnt
      obtain ⟨_, _, _, cW, _, _⟩ := cells6 hE.grid
      clear hE
      have n1 : w.heap.size + 1 ≠ bg + 1 := by omega
      have n2 : w.heap.size + 1 + 1 ≠ bg + 1 := by omega
      have hT : texel Wn pre.length = ((pre.length : Int) % (Wn : Int), (pre.length : Int) / (Wn : Int)) := by simp [texel]
      obtain ⟨m, hm⟩ : ∃ m, pre.length = m := ⟨_, rfl⟩
      have hm100 : (m : Int) ≤ 100 := by omega
      rw [hm] at HE cN hle hT
      have HM := Lib.hid hm; clear hm
      have q0 : 0 ≤ (m : Int) / (Wn : Int) := Int.ediv_nonneg (by omega) (by omega)
      have q1 : (m : Int) / (Wn : Int) ≤ 100 := by have := Int.ediv_le_self (Wn : Int) (show 0 ≤ (m : Int) by omega); omega
      by_cases hx : x = texel Wn m
      · rw [hT] at hx
        have e1 : (x.1 != (m : Int) % (Wn : Int)) = false := by rw [hx]; simp
        have e2 : (x.2 != (m : Int) / (Wn : Int)) = false := by rw [hx]; simp
        clear hx hT
        have hbp := HE.out.bump (m' := (m : Int) + 1) (by omega) n1 n2 (by omega)
        have HBP := Lib.hid hbp; clear hbp
        have hlen : ((pre ++ [x]).length : Int) = (m : Int) + 1 := by rw [List.length_append, HM.out]; simp
        have HLEN := Lib.hid hlen; clear hlen
        have hkf : KeepsFrom w5.heap.size Wd (Wd.setCell ⟨bg + 1, 0, none⟩ (vi ((m : Int) + 1))) ∧ Keeps (fun k => k = Bs) Wd (Wd.setCell ⟨bg + 1, 0, none⟩ (vi ((m : Int) + 1))) := by
          refine ⟨keepsFrom_of_kept HBP.out.2 ?_, HBP.out.2.mono ?_⟩
          · rintro k rfl o ho _
            rw [HE.out.cnt] at ho; injection ho with ho; subst ho; rfl
          · rintro k _ rfl h
            have := HL.out
            omega
        have HKF := Lib.hid hkf; clear hkf
        by_cases hst : (m : Int) + 1 ≤ stop
        · have hst' : ¬ stop < (m : Int) + 1 := by omega
          gi_wp2
          exact ⟨HKF.out.1, HKF.out.2, by show Ea _ _ _ _ _ _ _ _ _ _ ((pre ++ [x]).length : Int) _; rw [HLEN.out]; exact HBP.out.1, by rw [HLEN.out]; exact hst⟩
        · have hst' : stop < (m : Int) + 1 := by omega
          gi_wp2
          exact ⟨HKF.out.1, .inl ⟨rfl, by rw [HLEN.out]; exact HBP.out.1, by rw [HLEN.out]; omega⟩⟩
      · have hx0 := Lib.hid hx
        rw [hT] at hx
        have hx' : (x.1 != (m : Int) % (Wn : Int)) = true ∨ ((x.1 != (m : Int) % (Wn : Int)) = false ∧ (x.2 != (m : Int) / (Wn : Int)) = true) := by
          by_cases h1 : x.1 = (m : Int) % (Wn : Int)
          · right
            refine ⟨by simp [h1], ?_⟩
            have : x.2 ≠ (m : Int) / (Wn : Int) := fun h2 => hx (Prod.ext h1 h2)
            simpa [bne_iff_ne] using this
          · left; simpa [bne_iff_ne] using h1
        have hkf : KeepsFrom w5.heap.size Wd (Wd.setCell ⟨w.heap.size + 1 + 1, 0, none⟩ (.bool false)) := by
          refine keepsFrom_of_kept (Kept.setCell (· = w.heap.size + 1 + 1) Wd ⟨w.heap.size + 1 + 1, 0, none⟩ (.bool false) rfl) ?_
          rintro k rfl o ho _
          rw [HE.out.res] at ho; injection ho with ho; subst ho; rfl
        have HKF := Lib.hid hkf; clear hkf
        have HX := Lib.hid hx'
        clear hx hT hx'
        rcases HX.out with h | ⟨h1, h2⟩
        all_goals
          gi_wp2
          exact ⟨HKF.out, .inr ⟨rfl, pre, x, rfl, hlt, by rw [HM.out]; exact hx0.out⟩⟩
    case done =>
      rintro D ys Wd hD rfl ⟨hE, hle⟩ hK
      rw [upto_length] at hE hle
      rw [HWHI.out] at hE hle
      have e1 : ¬ stop + 1 ≤ (Wn : Int) * (Hn : Int) := by omega
      have e2 : (Wn : Int) * (Hn : Int) ≤ stop + 1 := by omega
      have e3 : ((Wn : Int) * (Hn : Int) == (Wn : Int) * (Hn : Int)) = true := by simp
      have HE := Lib.hid hE
      have cS := cell_of_one hE.stp
      have cR := cell_of_one hE.res
      have fR := free_of_one hE.res
      have cN := cell_of_one hE.cnt
      obtain ⟨_, _, _, cW, cH, _⟩ := cells6 hE.grid
      clear hE
      have HKD := Lib.hid hK; clear hK
      go_wp2_with fail
      have hRs := one_setCell (u := .bool true) HE.out.res
      have hDr : D ≠ w.heap.size + 1 + 1 := by
        intro h
        have h1 := HE.out.res
        rw [← h, HKD.out] at h1
        cases h1
      have hks := Kept.setCell (· = w.heap.size + 1 + 1) Wd ⟨w.heap.size + 1 + 1, 0, none⟩ (.bool true) rfl
      have hK' : (Wd.setCell ⟨w.heap.size + 1 + 1, 0, none⟩ (.bool true)).heap[D]? = some (.deferred (some [])) := hks.get HKD.out hDr
      have hc5 : ((Wd.setCell ⟨w.heap.size + 1 + 1, 0, none⟩ (.bool true)).putObj D (.deferred none)).cell? ⟨w.heap.size + 1 + 1, 0, none⟩ = some (.bool true) := cell_of_one ((World.putObj_heap_other (fun h => hDr h.symm)).trans hRs)
      refine leaveM (v := .bool true) hK' ?_ ⟨rfl, ?_⟩
      · simp [results, Try.f8, go_sem, hc5]
      · have h1 := (HE.out.kept.andThen hks (U := fun _ => False) (fun _ _ h => h) (fun k hk h => by omega)).andThen (kept_putObj (· = D) _ D (.deferred none) rfl) (U := fun _ => False) (fun _ _ h => h) (fun k hk h => by omega)
        exact h1.below (Nat.le_refl _) (fun _ h => h.elim)
    case stop =>
      rintro D c pre Wd hD hpre (⟨rfl, hE, hle⟩ | ⟨rfl, ini, x, rfl, hlt, hne⟩) hK
      · have hlen : (pre.length : Int) ≤ (Wn : Int) * (Hn : Int) := by
          have h1 := hpre.length_le
          rw [upto_length] at h1
          rw [← HWHI.out]
          omega
        rw [hle] at hE hlen
        have e2 : stop + 1 ≤ (Wn : Int) * (Hn : Int) := hlen
        have e3 : (stop + 1 == stop + 1) = true := by simp
        clear hle hpre hlen
        refine wpIn_wide.2 ?_
        by_cases hl2 : stop + 1 < (Wn : Int) * (Hn : Int)
        · skip
          have HE := Lib.hid hE
          have cS := cell_of_one hE.stp
          have cR := cell_of_one hE.res
          have fR := free_of_one hE.res
          have cN := cell_of_one hE.cnt
          obtain ⟨_, _, _, cW, cH, _⟩ := cells6 hE.grid
          clear hE
          have HKD := Lib.hid hK; clear hK
          go_wp2_with fail
          have hRs := one_setCell (u := .bool true) HE.out.res
          have hDr : D ≠ w.heap.size + 1 + 1 := by
            intro h
            have h1 := HE.out.res
            rw [← h, HKD.out] at h1
            cases h1
          have hks := Kept.setCell (· = w.heap.size + 1 + 1) Wd ⟨w.heap.size + 1 + 1, 0, none⟩ (.bool true) rfl
          have hK' : (Wd.setCell ⟨w.heap.size + 1 + 1, 0, none⟩ (.bool true)).heap[D]? = some (.deferred (some [])) := hks.get HKD.out hDr
          have hc5 : ((Wd.setCell ⟨w.heap.size + 1 + 1, 0, none⟩ (.bool true)).putObj D (.deferred none)).cell? ⟨w.heap.size + 1 + 1, 0, none⟩ = some (.bool true) := cell_of_one ((World.putObj_heap_other (fun h => hDr h.symm)).trans hRs)
          refine leaveM (v := .bool true) hK' ?_ ⟨rfl, ?_⟩
          · simp [results, Try.f8, go_sem, hc5]
          · have h1 := (HE.out.kept.andThen hks (U := fun _ => False) (fun _ _ h => h) (fun k hk h => by omega)).andThen (kept_putObj (· = D) _ D (.deferred none) rfl) (U := fun _ => False) (fun _ _ h => h) (fun k hk h => by omega)
            exact h1.below (Nat.le_refl _) (fun _ h => h.elim)
        · have e4 : (stop + 1 == (Wn : Int) * (Hn : Int)) = true := by simp; omega
          have HE := Lib.hid hE
          have cS := cell_of_one hE.stp
          have cR := cell_of_one hE.res
          have fR := free_of_one hE.res
          have cN := cell_of_one hE.cnt
          obtain ⟨_, _, _, cW, cH, _⟩ := cells6 hE.grid
          clear hE
          have HKD := Lib.hid hK; clear hK
          go_wp2_with fail
          have hRs := one_setCell (u := .bool true) HE.out.res
          have hDr : D ≠ w.heap.size + 1 + 1 := by
            intro h
            have h1 := HE.out.res
            rw [← h, HKD.out] at h1
            cases h1
          have hks := Kept.setCell (· = w.heap.size + 1 + 1) Wd ⟨w.heap.size + 1 + 1, 0, none⟩ (.bool true) rfl
          have hK' : (Wd.setCell ⟨w.heap.size + 1 + 1, 0, none⟩ (.bool true)).heap[D]? = some (.deferred (some [])) := hks.get HKD.out hDr
          have hc5 : ((Wd.setCell ⟨w.heap.size + 1 + 1, 0, none⟩ (.bool true)).putObj D (.deferred none)).cell? ⟨w.heap.size + 1 + 1, 0, none⟩ = some (.bool true) := cell_of_one ((World.putObj_heap_other (fun h => hDr h.symm)).trans hRs)
          refine leaveM (v := .bool true) hK' ?_ ⟨rfl, ?_⟩
          · simp [results, Try.f8, go_sem, hc5]
          · have h1 := (HE.out.kept.andThen hks (U := fun _ => False) (fun _ _ h => h) (fun k hk h => by omega)).andThen (kept_putObj (· = D) _ D (.deferred none) rfl) (U := fun _ => False) (fun _ _ h => h) (fun k hk h => by omega)
            exact h1.below (Nat.le_refl _) (fun _ h => h.elim)
      · exfalso
        obtain ⟨t, ht⟩ := hpre
        apply hne
        have h1 := congrArg (fun l => l[ini.length]?) ht
        simp only [List.append_assoc, List.singleton_append] at h1
        rw [List.getElem?_append_right (Nat.le_refl _), Nat.sub_self] at h1
        have h2 : (upto (texel Wn) (Wn * Hn))[ini.length]? = some (texel Wn ini.length) := by simp [upto, hlt]
        rw [h2] at h1
        simpa using h1

namespace gridEach
open Go.ChangeShapes Go.WideShapes Go.ChangeAt Go.RowKit
open Go.ChangeMaps (open_string shut_string)
theorem own : ownKnob Try.prog.godebug = none := by kernel_rfl
theorem laidOut : laidOutB Try.prog = true := by kernel_rfl

set_option maxRecDepth 100000 in
theorem lifted (os : Os) (started : os.Started) (H : Type) (enc : TypeId × Value → H) :
    ReturnsInHanded {} Try.checked os 8 .any (Rows.gridEachSpec.pre6 enc Try.prog Try.f8 Rows.gridEachRow.domain false) (Rows.gridEachSpec.post enc Try.prog Try.f8 false true false false) := by
  refine returnsInHanded_of_change (C := Try.checked) own started (by kernel_rfl) Try.func8
    (ChangeSpec.witness6 (enc := enc) (C := Try.checked) false ⟨#[], #[.agg #[.int .u8 0, .int .u8 0, .int .u8 0, .int .u8 0, .int .u8 0, .int .u8 0], .int .u8 0], []⟩ 8 (by kernel_rfl) (by kernel_rfl) (by kernel_rfl) (by kernel_rfl)) ?_
  intro W base args ds gs before hval0 hW hcnd _
  have hval : ∀ (j : Nat) t v, Try.f8.params[j]? = some t → args[j]? = some v → Value.okWide Try.prog W .any base t v := hval0
  have hW' := hW
  obtain ⟨p, q, hA0, hV, rfl, hfz, hnd⟩ := hW
  have hA : DataW.TrodAll enc Try.prog W 0 (fun _ => true) true Try.f8.params.toList args.toList ds p := hA0
  rw [Try.params8] at hA hval
  obtain ⟨v0, vs0, d0, ds0, p0, q0, hargs, rfl, rfl, h0, r0⟩ := trodAll_cons hA
  obtain ⟨v1, vs1, d1, ds1, p1, q1, rfl, rfl, rfl, h1, r1⟩ := trodAll_cons r0
  obtain ⟨rfl, rfl, rfl⟩ := trodAll_nil r1
  obtain rfl : args = #[v0, v1] := by cases args; simp_all
  obtain ⟨rfl, rfl⟩ := trodVars_none hV
  have k0 := h0
  have lt0 : ∀ x ∈ p0, x.block < W.heap.size := by obtain ⟨m, hm⟩ := k0; exact DataW.trod_lt m _ _ _ hm
  obtain ⟨a00, a01, a02, a03, a04, a05, rfl, w00, w01, w02, w03, w04, w05⟩ := open_six .u8 Try.underlying37 (by kernel_rfl) (by kernel_rfl) ⟨Try.underlying5, Try.underlying5, Try.underlying5, Try.underlying5, Try.underlying5, Try.underlying5⟩ (hval 0 37 v0 rfl rfl) h0
  obtain ⟨a1, rfl, rfl, rfl, w1⟩ := open_int Try.underlying5 (hval 1 5 v1 rfl rfl) h1
  clear hA0 hval0
  refine (gridEach_core a00 a01 a02 a03 a04 a05 a1 W ⟨wfu8 w00, wfu8 w01, wfu8 w02, wfu8 w03, wfu8 w04, wfu8 w05⟩ (wfu8 w1)).mono fun e W' ⟨he, bel⟩ => ?_
  subst he
  exact ⟨_, rfl, _, _, _, [], _, [], hW', trodAll_mk1 (shut_bool Try.underlying4 _), (trodAll_cons_mk (Below.trod laidOut (by kernel_rfl) (of_decide_eq_true (by kernel_rfl)) k0 bel lt0) (trodAll_cons_mk (shut_int Try.underlying5 w1) trodAll_mk0)), rfl, bel.frame _, fun h => by cases h⟩

theorem over : Rows.gridEachRow.holds Try.pinned (OpenSpec.ofChange Rows.gridEachSpec) :=
  OpenClaim.holds_of_wide 8 Try.f8 rfl rfl rfl rfl rfl rfl rfl ⟨rfl, rfl, rfl, rfl, rfl⟩ rfl rfl rfl rfl rfl (by kernel_rfl) Try.func8 (by kernel_rfl)
    (of_decide_eq_true (by kernel_rfl)) (by unfold Func.isWrapper; first | (rw [if_pos (by decide +kernel)]; kernel_rfl) | (rw [if_neg (by decide +kernel)]; exact ⟨rfl, rfl⟩))
    (fun os started H enc _ => lifted os started H enc)

theorem proved : Rows.GridEachSaid := over
end gridEach

end Go.Proofs.Ytgldonfpiifnfaa
