/- The document's examples of layer 9 hold. -/
import Derived.Test.YtgldonfpiifnfaaGrid
import Derived.Test.YtgldonfpiifnfaaGrid2
import Derived.Test.YtgldonfpiifnfaaGridAround
import Derived.Test.YtgldonfpiifnfaaGridEach
import Derived.Test.YtgldonfpiifnfaaNe
import Derived.Deep.CutRange
set_option linter.unusedVariables false
set_option linter.unusedSimpArgs false
namespace Go.Proofs.Ytgldonfpiifnfaa
open Go.RowKit Go.Shelf
attribute [local go_sem] Oper.semAt_some

/-- What the loop adds up. -/
def addUp (pre : List (Int × Int)) : Int := pre.foldl (fun n x => wrap64 (wrap64 (wrap64 (10 * n) + x.1) + x.2)) 0
theorem addUp_snoc (pre : List (Int × Int)) (x : Int × Int) : addUp (pre ++ [x]) = wrap64 (wrap64 (wrap64 (10 * addUp pre) + x.1) + x.2) := by simp [addUp]
theorem addUp_all : addUp (upto (texel 3) (3 * 2)) = 12123 := by kernel_rfl

theorem around_ex (w : World) : Calls Try.prog 28 #[pv (-1) 0, pv 64 31, vi 1, vi 4, vi 1] w fun e w' => e = .returned (.tuple #[gv (-2) (-1) 1 6 3 4, vi 0]) ∧ Kept (fun _ => False) w w' :=
  (around_c (-1) 0 64 31 1 4 1 w (by omega) (by omega) (by omega) (by omega) (by omega) (by omega) (by omega) (by omega) (by omega) (by omega) (by omega) (by omega)).mono fun _ _ ⟨he, hk⟩ => ⟨he.trans rfl, hk⟩
theorem check_ex (w : World) : Calls Try.prog 23 #[gv 1 2 2 3 2 4] w fun e w' => e = .returned (vi 0) ∧ Kept (fun _ => False) w w' :=
  (check_c 1 2 2 3 2 4 w).mono fun _ _ ⟨he, hk⟩ => ⟨he.trans rfl, hk⟩
theorem centre_ex (w : World) : Calls Try.prog 25 #[gv 1 2 2 3 2 4, vi 1, vi 0] w fun e w' => e = .returned (pv 128 96) ∧ Kept (fun _ => False) w w' :=
  (centre_c 1 2 2 3 2 4 1 0 w (by omega) (by omega) (by omega) (by omega) (by omega) (by omega) (by omega) (by omega) (by omega) (by omega)).mono fun _ _ ⟨he, hk⟩ => ⟨he.trans rfl, hk⟩
theorem code_ex1 (w : World) : Calls Try.prog 26 #[gv 1 2 2 3 2 4, vi (-1), vi 5000] w fun e w' => e = .returned (.int .u8 1) ∧ Kept (fun _ => False) w w' :=
  (code_c 1 2 2 3 2 4 (-1) 5000 w (by omega) (by omega) (by omega) (by omega) (by omega) (by omega)).mono fun _ _ ⟨he, hk⟩ => ⟨he.trans rfl, hk⟩
theorem code_ex2 (w : World) : Calls Try.prog 26 #[gv 1 2 2 3 2 4, vi 1, vi 512] w fun e w' => e = .returned (.int .u8 191) ∧ Kept (fun _ => False) w w' :=
  (code_c 1 2 2 3 2 4 1 512 w (by omega) (by omega) (by omega) (by omega) (by omega) (by omega)).mono fun _ _ ⟨he, hk⟩ => ⟨he.trans rfl, hk⟩

set_option maxHeartbeats 2000000 in
set_option maxRecDepth 100000 in
theorem awake9 (w : World) : Calls Try.prog 21 #[] w fun e w' => e = .returned (.bool true) ∧ Kept (fun _ => False) w w' := by
  refine (callsIn_wide (n := 5)).1 (callsIn_of_wp_marks Try.func21 rfl trivial ?_ rfl)
  refine wpIn_wide.2 ?_
  simp only [Try.ntmps21, List.size_toArray, List.length_cons, List.length_nil, Nat.reduceAdd, Nat.reduceSub, Array.replicate_succ, Array.replicate_zero, List.push_toArray, List.append_toArray, List.nil_append, List.cons_append]
  have HG := Lib.hid (heap_alloc_new w (.cells #[vi 1, vi 2, vi 2, vi 3, vi 2, vi 4] 35))
  have HK := Lib.hid (Kept.alloc (fun _ => False) w (.cells #[vi 1, vi 2, vi 2, vi 3, vi 2, vi 4] 35))
  have hnf : ∀ (c : Array Value) (W : World), (binOp BinOp.eql 52 (.func (.func 47) #[] c) .nilFunc).run Try.prog W = .ok (.bool false) W := fun c W => by kernel_rfl
  go_wp2_with fail
  refine (each_c 1 2 2 3 2 4 _).mono ?_
  rintro e w2 ⟨rfl, rfl⟩
  go_upto_region 5 with fail
  obtain ⟨w3, hw3, HG3, HN3, HK3⟩ : ∃ w3, w3 = (((w.alloc (.cells #[vi 1, vi 2, vi 2, vi 3, vi 2, vi 4] 35)).alloc (.cells #[vi 1, vi 2, vi 2, vi 3, vi 2, vi 4] 35)).alloc (.cells #[vi 0] 3)) ∧
      Hid (w3.heap[w.heap.size]? = some (.cells #[vi 1, vi 2, vi 2, vi 3, vi 2, vi 4] 35 (0, 0))) ∧ Hid (w3.heap[w.heap.size + 1 + 1]? = some (.cells #[vi 0] 3 (0, 0))) ∧ Hid (Kept (fun _ => False) w w3) := by
    have k1 := Kept.alloc (fun _ => False) (w.alloc (.cells #[vi 1, vi 2, vi 2, vi 3, vi 2, vi 4] 35)) (.cells #[vi 1, vi 2, vi 2, vi 3, vi 2, vi 4] 35)
    have k2 := Kept.alloc (fun _ => False) ((w.alloc (.cells #[vi 1, vi 2, vi 2, vi 3, vi 2, vi 4] 35)).alloc (.cells #[vi 1, vi 2, vi 2, vi 3, vi 2, vi 4] 35)) (.cells #[vi 0] 3)
    have hn := heap_alloc_new ((w.alloc (.cells #[vi 1, vi 2, vi 2, vi 3, vi 2, vi 4] 35)).alloc (.cells #[vi 1, vi 2, vi 2, vi 3, vi 2, vi 4] 35)) (.cells #[vi 0] 3)
    rw [World.size_alloc, World.size_alloc] at hn
    exact ⟨_, rfl, (k1.trans k2).get HG.out (by simp), hn, (HK.out.trans k1).trans k2⟩
  rw [← hw3]
  clear hw3 HG HK hnf
  obtain ⟨c0, c1, c2, c3, c4, c5⟩ := gv_cells HG3.out
  go_cut [12] from 3 (fun s wx => ∃ Bs, s = .func (.func 47) #[] #[.pointer (some ⟨Bs, 0, none⟩)] ∧ Hid (wx.heap[Bs]? = some (.cells #[vi 1, vi 2, vi 2, vi 3, vi 2, vi 4] 35 (0, 0))) ∧
    Hid (wx.heap[w.heap.size]? = some (.cells #[vi 1, vi 2, vi 2, vi 3, vi 2, vi 4] 35 (0, 0))) ∧ Hid (wx.heap[w.heap.size + 1 + 1]? = some (.cells #[vi 0] 3 (0, 0))) ∧ Hid (Kept (fun _ => False) w wx) ∧ Hid (w.heap.size + 1 + 1 < Bs))
  case first =>
    go_wp2_with fail
    refine (each_c 1 2 2 3 2 4 _).mono ?_
    rintro e w4 ⟨rfl, rfl⟩
    go_wp2_with fail
    go_meet
    case rel =>
      have k := Kept.alloc (fun _ => False) w3 (.cells #[vi 1, vi 2, vi 2, vi 3, vi 2, vi 4] 35)
      exact ⟨w3.heap.size, rfl, heap_alloc_new w3 _, k.get HG3.out (by simp), k.get HN3.out (by simp), HK3.out.trans k, lt_of_block HN3.out⟩
  case rest =>
    obtain ⟨Bs, rfl, HB, HG4, HN4, HK4, HL⟩ := hcut
    clear c0 c1 c2 c3 c4 c5 HG3 HN3 HK3
    generalize hw5 : wc = w5 at *
    have hsz5 := HK4.out.size
    obtain ⟨_, _, _, b3, b4, _⟩ := gv_cells HB.out
    have B3 := Lib.hid b3; have B4 := Lib.hid b4
    clear b3 b4
    go_wp2_with fail
    refine (wpIn_wide (n := 5)).1 (wpIn_rangeFunc_ownG (F := Fence.wide) rfl (by omega) (gf := 47) (lb := #[.pointer (some ⟨Bs, 0, none⟩)]) rfl trivial (enters_of Try.func47 (by kernel_rfl) rfl)
      (iter_each 4 (by omega) Bs 3 2 (by omega) (by omega) w5 (fun k => k = Bs) rfl B3.out B4.out) (fun h k => Keeps.trans h k)
      (Keeps.putObj (by rintro k rfl; exact lt_of_block HB.out)) (Below.refl _ _) (fun _ => rfl)
      (fun pre W => W.heap[w.heap.size]? = some (.cells #[vi 1, vi 2, vi 2, vi 3, vi 2, vi 4] 35 (0, 0)) ∧ W.heap[w.heap.size + 1 + 1]? = some (.cells #[vi (addUp pre)] 3 (0, 0)) ∧ Kept (fun _ => False) w W)
      (fun _ _ _ => False)
      (own_from (by
        rintro pre S W W' ⟨h1, h2, h3⟩ hk hS
        exact ⟨hk.get h1 (hS.cells h1), hk.get h2 (hS.cells h2), hS.kept hk hsz5 h3⟩))
      (fun _ _ _ _ _ hs _ _ => hs)
      ⟨HG4.out, HN4.out, HK4.out⟩
      (fun x => { tmps := #[.bool false, .pointer (some ⟨w.heap.size, 0, none⟩), .pointer (some ⟨w.heap.size + 1 + 1, 0, none⟩), vi x.1, vi x.2, u5, u6, u7, u8, u9, u10, u11, .func (.func 47) #[] #[.pointer (some ⟨Bs, 0, none⟩)], vi x.1, vi x.2, u15, u16, u17, u18, u19, u20, u21, u22, u23, u24, u25, u26, u27, u28, u29, u30, u31, u32, u33, u34, u35, u36, u37, u38, u39, u40, u41, u42, u43, u44, u45, u46, u47, u48, u49, u50, u51, u52, u53, u54, u55, u56, u57, u58], defers := [] }) ?assign ?body ?done ?stop)
    case assign =>
      intro l x W K hK
      gi_wp2
      exact hK
    case body =>
      rintro l pre x W ⟨h1, h2, h3⟩ hlt
      have cN := cell_of_one h2
      have fN := free_of_one h2
      have H1 := Lib.hid h1; have H2 := Lib.hid h2; have H3 := Lib.hid h3
      clear h1 h2 h3
      gi_wp2
      have hs := Kept.setCell (· = w.heap.size + 1 + 1) W ⟨w.heap.size + 1 + 1, 0, none⟩ (vi (wrap64 (wrap64 (wrap64 (10 * addUp pre) + x.fst) + x.snd))) rfl
      refine ⟨keepsFrom_of_kept hs ?_, hs.mono ?_, hs.get H1.out (by omega), ?_, H3.out.andThen hs (fun _ _ h => h) (fun k hk h => by omega)⟩
      · rintro k rfl o ho _
        rw [H2.out] at ho; injection ho with ho; subst ho; rfl
      · rintro k _ rfl h
        have := HL.out
        omega
      · have := one_setCell (u := vi (wrap64 (wrap64 (wrap64 (10 * addUp pre) + x.fst) + x.snd))) H2.out
        rw [addUp_snoc]
        exact this
    case done =>
      rintro D ys W hD rfl ⟨h1, h2, h3⟩ hK
      rw [addUp_all] at h2
      obtain ⟨c0, c1, c2, c3, c4, c5⟩ := gv_cells h1
      have H1 := Lib.hid h1; have H2 := Lib.hid h2; have H3 := Lib.hid h3; have HKD := Lib.hid hK
      clear h1 h2 h3 hK c0 c1 c2 c3 c4 c5
      go_wp2_with fail
      refine (around_ex _).mono ?_
      rintro e w6 ⟨rfl, hk6⟩
      have k6 := hk6.trans (Kept.alloc (fun _ => False) w6 (.cells #[vi (-2), vi (-1), vi 1, vi 6, vi 3, vi 4] 35))
      have G6 := Lib.hid (k6.get H1.out (by simp)); have N6 := Lib.hid (k6.get H2.out (by simp)); have K6 := Lib.hid (H3.out.trans k6); have D6 := Lib.hid (k6.get HKD.out (by simp))
      have E6 := Lib.hid (heap_alloc_new w6 (.cells #[vi (-2), vi (-1), vi 1, vi 6, vi 3, vi 4] 35))
      clear hk6 k6 H1 H2 H3 HKD
      go_upto_region 10 with fail
      obtain ⟨c0, c1, c2, c3, c4, c5⟩ := gv_cells G6.out
      go_wp2_with fail
      refine (check_ex _).mono ?_
      rintro e w7 ⟨rfl, hk⟩
      have G7 := Lib.hid (hk.get G6.out (by simp)); have N7 := Lib.hid (hk.get N6.out (by simp)); have K7 := Lib.hid (K6.out.trans hk); have D7 := Lib.hid (hk.get D6.out (by simp)); have E7 := Lib.hid (hk.get E6.out (by simp))
      clear hk G6 N6 K6 D6 E6 c0 c1 c2 c3 c4 c5
      obtain ⟨c0, c1, c2, c3, c4, c5⟩ := gv_cells G7.out
      go_wp2_with fail
      refine (centre_ex _).mono ?_
      rintro e w8 ⟨rfl, hk⟩
      have G8 := Lib.hid (hk.get G7.out (by simp)); have N8 := Lib.hid (hk.get N7.out (by simp)); have K8 := Lib.hid (K7.out.trans hk); have D8 := Lib.hid (hk.get D7.out (by simp)); have E8 := Lib.hid (hk.get E7.out (by simp))
      clear hk G7 N7 K7 D7 E7 c0 c1 c2 c3 c4 c5
      obtain ⟨c0, c1, c2, c3, c4, c5⟩ := gv_cells G8.out
      go_wp2_with fail
      refine (code_ex1 _).mono ?_
      rintro e w9 ⟨rfl, hk⟩
      have G9 := Lib.hid (hk.get G8.out (by simp)); have N9 := Lib.hid (hk.get N8.out (by simp)); have K9 := Lib.hid (K8.out.trans hk); have D9 := Lib.hid (hk.get D8.out (by simp)); have E9 := Lib.hid (hk.get E8.out (by simp))
      clear hk G8 N8 K8 D8 E8 c0 c1 c2 c3 c4 c5
      obtain ⟨c0, c1, c2, c3, c4, c5⟩ := gv_cells G9.out
      go_wp2_with fail
      refine (code_ex2 _).mono ?_
      rintro e w10 ⟨rfl, hk⟩
      have G10 := Lib.hid (hk.get G9.out (by simp)); have N10 := Lib.hid (hk.get N9.out (by simp)); have K10 := Lib.hid (K9.out.trans hk); have D10 := Lib.hid (hk.get D9.out (by simp)); have E10 := Lib.hid (hk.get E9.out (by simp))
      clear hk G9 N9 K9 D9 E9 c0 c1 c2 c3 c4 c5
      obtain ⟨e0, e1, e2, e3, e4, e5⟩ := gv_cells E10.out
      have cN := cell_of_one N10.out
      go_wp2_with fail
      refine leaveM D10.out (results_tmp rfl _ _ _) ⟨rfl, ?_⟩
      exact K10.out.andThen (kept_putObj (· = D) _ D _ rfl) (fun _ _ h => h) (fun k hk h => by omega)
    case stop =>
      rintro D c pre W _ _ h _
      exact h.elim

end Go.Proofs.Ytgldonfpiifnfaa
