/- LruStill: for every input the law returns true: what was asked for is as it was then. No condition. -/
import Derived.Test.YtgldonfpiifnfaaRows
import Derived.Test.YtgldonfpiifnfaaLruAwake
import Derived.Test.YtgldonfpiifnfaaLruUA
import Derived.Test.YtgldonfpiifnfaaIter
import Derived.Test.YtgldonfpiifnfaaRowBase
import Derived.Deep.DeepCutAuto
import Derived.Deep.CutBlock
set_option linter.unusedVariables false
namespace Go.Proofs.Ytgldonfpiifnfaa
open Go.RowKit Go.Shelf
attribute [local go_sem] Oper.semAt_some

/-- What the loop over the iterator keeps. -/
structure St (w W : World) (br bw bi : Nat) (A : Option Addr) (cap : Nat) (L : List Int) (m : Nat) : Prop where
  res : W.heap[br]? = some (.cells #[.bool false] 4 (0, 0))
  was : W.heap[bw]? = some (.cells #[.slice A L.length cap] 22 (0, 0))
  row : SlO W 5 1 (.slice A L.length cap) L.length (L.map (Value.int .u8))
  cnt : W.heap[bi]? = some (.cells #[.int .i64 m] 3 (0, 0))
  kept : Kept (fun _ => False) w W
theorem St.own {w W W' : World} {br bw bi cap : Nat} {A : Option Addr} {L : List Int} {m B : Nat} {S : Nat → Prop} (h : St w W br bw bi A cap L m) (hB : w.heap.size ≤ B) (hS : Own B S W) (hk : Kept S W W') : St w W' br bw bi A cap L m :=
  ⟨hk.get h.res (hS.cells h.res), hk.get h.was (hS.cells h.was), h.row.kept hk (hS.slo h.row), hk.get h.cnt (hS.cells h.cnt), hS.kept hk hB h.kept⟩
theorem St.cell {w W : World} {br bw bi cap : Nat} {A : Option Addr} {L : List Int} {m i : Nat} (h : St w W br bw bi A cap L m) (hi : i < L.length) : ∃ g, A = some ⟨g, 0, none⟩ ∧ W.cell? ⟨g, i, none⟩ = some (.int .u8 (L.getD i 0)) := by
  rcases h.row.form with ⟨_, h0, _⟩ | ⟨g', cap', he, _, _, _, _, h4⟩
  · omega
  · injection he with he
    exact ⟨g', he, h4 i _ (by simp [List.getElem?_map, List.getElem?_eq_getElem hi, List.getD_eq_getElem?_getD])⟩

/-- Blocks of different types are different. -/
theorem block_ne {W : World} {a b : Nat} {x y : Array Value} {t u : TypeId} {f h : Nat × Nat} (ha : W.heap[a]? = some (.cells x t f)) (hb : W.heap[b]? = some (.cells y u h)) (hne : t ≠ u) : a ≠ b := by
  rintro rfl
  rw [ha] at hb
  injection hb with hb
  injection hb with _ hb _
  exact hne hb
theorem slo_ne {W : World} {b : Nat} {y : Array Value} {e u : TypeId} {h : Nat × Nat} {v : Value} {size n : Nat} {xs : List Value} (hs : SlO W e size v n xs) (hb : W.heap[b]? = some (.cells y u h)) (hne : e ≠ u) : ∀ g, v.ownBlock = some g → g ≠ b := by
  intro g hg
  rcases hs.2 with ⟨rfl, _⟩ | ⟨g', cap, cur, rfl, hh, _⟩
  · simp [Value.ownBlock] at hg
  · have : g' = g := by simpa [Value.ownBlock] using hg
    subst this
    exact block_ne hh hb hne
theorem St.bump {w W : World} {br bw bi cap : Nat} {A : Option Addr} {L : List Int} {m : Nat} (h : St w W br bw bi A cap L m) (hbi : w.heap.size ≤ bi) (h1 : 4 ≠ 3) (h2 : 22 ≠ 3) (h3 : 5 ≠ 3) :
    St w (W.setCell ⟨bi, 0, none⟩ (.int .i64 ((m : Int) + 1))) br bw bi A cap L (m + 1) ∧ Kept (· = bi) W (W.setCell ⟨bi, 0, none⟩ (.int .i64 ((m : Int) + 1))) := by
  have hk := Kept.setCell (· = bi) W ⟨bi, 0, none⟩ (.int .i64 ((m : Int) + 1)) rfl
  refine ⟨⟨hk.get h.res (block_ne h.res h.cnt h1), hk.get h.was (block_ne h.was h.cnt h2), h.row.kept hk (slo_ne h.row h.cnt h3), ?_, h.kept.andThen hk (fun _ _ h => h) (fun k hk h => by omega)⟩, hk⟩
  have := one_setCell (u := .int .i64 ((m : Int) + 1)) h.cnt
  simpa using this

set_option maxHeartbeats 2000000 in
set_option maxRecDepth 100000 in
theorem still_core (a0 : Option Addr) (len0 cap0 : Nat) (X : Nat → Int) (more : Int) (w : World) (hr : Reads .u8 w a0 len0 cap0 X) :
    Calls Try.prog 13 #[.slice a0 len0 cap0, .int .u8 more] w fun e w' => e = .returned (.bool true) ∧ Below w.heap.size w w' := by
  obtain ⟨hlc, hm, _, hc⟩ := hr
  have HC := Lib.hid hc; clear hc
  have hR0 := Lib.hid (heap_alloc_new w (.cells #[.bool false] 4))
  have hKr := Lib.hid (Kept.alloc (fun _ => False) w (.cells #[.bool false] 4))
  refine (callsIn_wide (n := 5)).1 (callsIn_of_wp_marks Try.func13 rfl trivial ?_ rfl)
  refine wpIn_wide.2 ?_
  simp only [Try.ntmps13, List.size_toArray, List.length_cons, List.length_nil, Nat.reduceAdd, Nat.reduceSub, Array.replicate_succ, Array.replicate_zero, List.push_toArray, List.append_toArray, List.nil_append, List.cons_append]
  go_wp2_with fail
  refine (awake15 _).mono ?_
  rintro e w1 ⟨rfl, hk1⟩
  have hRb := Lib.hid ((Kept.alloc (fun _ => False) w1 (.cells #[.slice none 0 0] 26)).get (hk1.get hR0.out (by simp)) (by simp))
  have hsz1 : w.heap.size < w1.heap.size := by have := hk1.size; simp at this; omega
  replace hk1 := hKr.out.trans hk1
  have hL0 := Lib.hid (LAt.made w1 26 5)
  have hP0 := Lib.hid (show Past w.heap.size w1.heap.size (.slice none 0 0) from ⟨hk1.size, by simp [Value.ownBlock]⟩)
  have hK0 := Lib.hid (hk1.trans (Kept.alloc (fun _ => False) w1 (.cells #[.slice none 0 0] 26)))
  go_upto_region 4 with fail
  generalize w1.alloc (.cells #[.slice none 0 0] 26) = w2 at *
  generalize w1.heap.size = b at *
  clear hk1 hR0 hKr
  go_cut [21, 22, 23] from 13 (fun s20 s21 s22 wx => ∃ n : Nat, n ≤ 100 ∧ n ≤ len0 ∧ s20 = .slice a0 n cap0 ∧ s21 = .int .i64 n ∧ s22 = .int .i64 0 ∧ wx = w2)
  case first =>
    by_cases hn : len0 ≤ 100
    all_goals
      go_wp2
      go_meet
      case rel => first | exact ⟨len0, hn, Nat.le_refl _, rfl, by simp, rfl, rfl⟩ | exact ⟨100, Nat.le_refl _, by omega, rfl, by simp, rfl, rfl⟩
  case rest =>
    obtain ⟨n, hn1, hn2, rfl, rfl, rfl, rfl⟩ := hcut
    go_wp2
    go_loopw [23, 7] (fun i _ wr => ∃ (j : Nat) (v : Value), j ≤ n ∧ i = .int .i64 j ∧ Hid (LAt wr 26 5 b v ((UA X j).map (Value.int .u8))) ∧ Hid (Past (w.heap.size + 1) b v) ∧ Hid (Kept (fun _ => False) w wr) ∧ Hid (wr.heap[w.heap.size]? = some (.cells #[.bool false] 4 (0, 0)))) (fun i _ _ => n - (intOf i).toNat)
    case atStart => exact ⟨0, _, Nat.zero_le _, rfl, hL0, ⟨by omega, by simp [Value.ownBlock]⟩, hK0, hRb⟩
    case round =>
      obtain ⟨j, v, hj, rfl, hL, hP, hK, hR⟩ := hrel
      by_cases hlt : j < n
      · rcases HC.out with h0 | ⟨kb, off, rfl, hkb, hc⟩
        · exact absurd h0 (by omega)
        have hcell : wr.cell? ⟨kb, off + j, none⟩ = some (.int .u8 (X j)) := hK.out.cell (hc j (by omega)) (by simp)
        clear hc HC
        have hl := UA_len X j
        go_wp2_with fail
        refine (use_u8 b v (UA X j) (X j) _ (by omega) hL.out).mono ?_
        rintro e w3 ⟨rfl, v3, hL3, hk3, hl3⟩
        have hP3 : Past (w.heap.size + 1) b v3 := ⟨hP.out.1, fun g hg => by
          rcases hl3 with h | ⟨g', h, hle⟩
          · exact hP.out.2 g (h ▸ hg)
          · rw [h] at hg; injection hg with hg; have := lt_of_block hR.out; omega⟩
        have hK3 := hK.out.andThen hk3 (fun _ _ h => h) (by rintro k hk (h | h); have := hP.out.1; omega; have := hP.out.2 k h; omega)
        have hR3 := hk3.get hR.out (by rintro (h | h); have := hP.out.1; omega; have := hP.out.2 _ h; omega)
        have HL := Lib.hid hL3; have HP := Lib.hid hP3; have HK := Lib.hid hK3; have HR := Lib.hid hR3
        clear hL3 hk3 hl3 hP3 hK3 hcell hR3
        go_wp2_with fail
        go_roundw
        case rel => exact ⟨j + 1, v3, by omega, by go_num, HL, HP, HK, HR⟩
        case measure => simp [intOf]; omega
      · have hjn : j = n := by omega
        subst hjn
        have hl := UA_len X j
        clear hlt hL0 hP0 hK0 hRb
        generalize UA X j = L at *
        have hbA := lt_of_block hL.out.1
        have hvA : ∀ g, v.ownBlock = some g → g < wr.heap.size := fun g hg => hL.out.2.lt hg
        have HVA := Lib.hid hvA; clear hvA
        go_wp2_with fail
        refine (all_u8 b v L _ (by omega) hL.out).mono ?_
        rintro e w3 ⟨Bs, vc, rfl, hBs, hbox, hsc, hk3, hgc⟩
        have hL3 := Lib.hid (hL.out.kept hk3 (by simp) (by simp))
        have hR3 := Lib.hid (hk3.get hR.out (by simp))
        have hK3 := Lib.hid (hK.out.trans hk3)
        have hsz3 := hk3.size
        have HBOX := Lib.hid hbox; have HSC := Lib.hid hsc; have HGC := Lib.hid hgc
        clear hbox hsc hk3 hgc hR hK hL
        go_wp2_with fail
        refine (len_u8 b v L _ hL3.out).mono ?_
        rintro e w4 ⟨rfl, rfl⟩
        go_wp2_with fail
        refine (gather_u8 b v L _ (by omega) hL3.out).mono ?_
        rintro e w4 ⟨vg, rfl, hsg, hk4, hgg⟩
        obtain ⟨Ag, capg, rfl, _⟩ := hsg.isSlice
        have hka := hk4.trans (Kept.alloc (fun _ => False) w4 (.cells #[.slice Ag L.length capg] 22))
        have hL4 := Lib.hid (hL3.out.kept hka (by simp) (by simp))
        have hR4 := Lib.hid (hka.get hR3.out (by simp))
        have hK4 := Lib.hid (hK3.out.trans hka)
        have HBOX4 := Lib.hid (hka.get HBOX.out (by simp))
        have HSC4 := Lib.hid (HSC.out.kept hka (by simp))
        have HSG4 := Lib.hid (hsg.kept (Kept.alloc (fun _ => False) w4 (.cells #[.slice Ag L.length capg] 22)) (by simp))
        have HW4 := Lib.hid (heap_alloc_new w4 (.cells #[.slice Ag L.length capg] 22))
        have hsz4 := hk4.size
        have HGG := Lib.hid hgg
        clear hsg hk4 hgg hka hL3 hR3 hK3 HBOX HSC
        go_wp2_with fail
        refine (use_u8 b v L more _ (by omega) hL4.out).mono ?_
        rintro e w5 ⟨rfl, v5, hL5, hk5, hl5⟩
        go_wp2_with fail
        have hel : (L.erase more ++ [more]).length ≤ 1000000 := by have := List.length_erase_le (a := more) (l := L); simp; omega
        refine (drop_u8 b v5 (L.erase more ++ [more]) more _ hel hL5).mono ?_
        rintro e w6 ⟨rfl, v6, hL6, hk6, hl6⟩
        have hk46 := hk5.andThen hk6 (U := fun x => x = b ∨ v.ownBlock = some x) (fun _ _ h => h) (fun _ _ h => .inl h)
        have hki := hk46.trans (Kept.alloc _ w6 (.cells #[.int .i64 0] 3))
        have hnS : ∀ k, wr.heap.size ≤ k → ¬ (k = b ∨ v.ownBlock = some k) := by
          rintro k hk (h | h)
          · omega
          · have := HVA.out k h; omega
        have hR7 := Lib.hid (hki.get hR4.out (by rintro (h | h); have := hP.out.1; omega; have := hP.out.2 _ h; omega))
        have hK7 := Lib.hid (hK4.out.andThen hki (fun _ _ h => h) (by rintro k hk (h | h); have := hP.out.1; omega; have := hP.out.2 k h; omega))
        have hB7 := Lib.hid (hki.get HBOX4.out (hnS _ hBs))
        have hC7 := Lib.hid (HSC4.out.kept hki (fun g hg => hnS _ (HGC.out g hg)))
        have hG7 := Lib.hid (HSG4.out.kept hki (fun g hg => hnS _ (by have := HGG.out g hg; omega)))
        have hW7 := Lib.hid (hki.get HW4.out (hnS _ (by omega)))
        have hI7 := Lib.hid (heap_alloc_new w6 (.cells #[.int .i64 0] 3))
        have hbi : w.heap.size ≤ w6.heap.size := by have h1 := hK4.out.size; have h2 := hk46.size; omega
        have hlc := Lib.hid (lt_of_block HBOX4.out)
        clear hL5 hk5 hl5 hL6 hk6 hl6 hk46 hki hnS hR4 hK4 HBOX4 HSC4 HSG4 HW4 hL4 hel
        go_upto_region 14 with fail
        go_cut [11, 12] from 13 (fun s _ wx => s = .pointer (some ⟨w6.heap.size, 0, none⟩) ∧ wx = w6.alloc (.cells #[.int .i64 0] 3))
        case first =>
          go_wp2_with fail
          go_meet
          case rel => exact ⟨rfl, rfl⟩
        case rest =>
          obtain ⟨rfl, rfl⟩ := hcut
          generalize w6.alloc (.cells #[.int .i64 0] 3) = w7 at *
          generalize w6.heap.size = bi at *
          generalize w4.heap.size = bw at *
          go_wp2_with fail
          refine (wpIn_wide (n := 5)).1 (wpIn_rangeFunc_ownG (F := Fence.wide) rfl (by omega) (gf := 60) (lb := #[.pointer (some ⟨Bs, 0, none⟩)]) rfl trivial (enters_of Try.func60 (by kernel_rfl) rfl)
            (iter_u8 4 (by omega) Bs vc L w7 (fun k => k = Bs ∨ vc.ownBlock = some k) (.inl rfl) (fun g hg => .inr hg) (cell_of_one hB7.out) hC7.out) (fun h k => Keeps.trans h k)
            (Keeps.putObj (by rintro k (rfl | hk); exact lt_of_block hB7.out; exact hC7.out.lt hk)) (Below.refl _ _) (fun _ => rfl)
            (fun pre W => St w W w.heap.size bw bi Ag capg L pre.length)
            (fun c pre W => c = .ret ∧ ∃ (ini : List Int) (x : Int), pre = ini ++ [x] ∧ ini.length < L.length ∧ x ≠ L.getD ini.length 0)
            (own_from (by
              intro pre S W W' h hk hS
              exact h.own (Nat.le_trans hK7.out.size (Nat.le_refl _)) hS hk))
            (fun c s W W' row hs _ _ => hs)
            ⟨hR7.out, hW7.out, hG7.out, hI7.out, hK7.out⟩
            (fun x => { tmps := #[.slice a0 len0 cap0, .int .u8 more, undef, undef, .pointer (some ⟨w.heap.size, 0, none⟩), .pointer (some ⟨b, 0, none⟩), undef, u7, .func (.func 60) #[] #[.pointer (some ⟨Bs, 0, none⟩)], .int .i64 L.length, .pointer (some ⟨bw, 0, none⟩), .pointer (some ⟨bi, 0, none⟩), .int .u8 x, u13, u14, u15, u16, u17, u18, u19, u20, u21, u22, u23, u24, u25, u26, u27, u28, u29, u30, u31, u32, u33, u34, u35, u36, u37, u38, u39, u40, u41, u42, .func (.func 60) #[] #[.pointer (some ⟨Bs, 0, none⟩)], .int .u8 x, u45, u46, u47, u48, u49, u50, u51, u52, u53, u54, u55, u56, u57, u58, u59, u60, u61, u62, u63, u64, u65, u66, u67], defers := [] }) ?assign ?body ?done ?stop)
          case assign =>
            intro l x W K hK
            gi_wp2
            exact hK
          case body =>
            rintro l pre x W hst hlt
            obtain ⟨g, rfl, hc⟩ := hst.cell hlt
            have cR := cell_of_one hst.res
            have fR := free_of_one hst.res
            have cW := cell_of_one hst.was
            have cI := cell_of_one hst.cnt
            have fI := free_of_one hst.cnt
            have HST := Lib.hid hst; clear hst
            have hLb : (L.length : Int) ≤ 1000000 := by omega
            by_cases hx : L.getD pre.length 0 = x
            · rw [hx] at hc
              have hb : (x == x) = true := by simp
              clear hx
              gi_wp2
              have hb2 := HST.out.bump hbi (by decide) (by decide) (by decide)
              refine ⟨keepsFrom_of_kept hb2.2 ?_, hb2.2.mono ?_, show St _ _ _ _ _ _ _ _ (pre ++ [x]).length by rw [List.length_append]; exact hb2.1⟩
              · rintro k rfl o ho _
                rw [HST.out.cnt] at ho; injection ho with ho; subst ho; rfl
              · rintro k _ rfl (hT | hT)
                · exact block_ne hB7.out hI7.out (by decide) hT.symm
                · exact slo_ne hC7.out hI7.out (by decide) _ hT rfl
            · have hb : (L.getD pre.length 0 != x) = true := by simpa [bne_iff_ne] using hx
              have HX := Lib.hid hx; clear hx
              obtain ⟨y, hy⟩ : ∃ y, y = L.getD pre.length 0 := ⟨_, rfl⟩
              rw [← hy] at hc hb
              have HY := Lib.hid hy; clear hy
              gi_wp2
              refine ⟨keepsFrom_of_kept (Kept.setCell (· = w.heap.size) W _ _ rfl) ?_, rfl, pre, x, rfl, hlt, fun h => HX.out h.symm⟩
              rintro k rfl o ho _
              rw [HST.out.res] at ho; injection ho with ho; subst ho; rfl
          case done =>
            rintro D ys W hD rfl hst hK
            have cR := cell_of_one hst.res
            have fR := free_of_one hst.res
            have cW := cell_of_one hst.was
            have cI := cell_of_one hst.cnt
            have HST := Lib.hid hst; clear hst
            have HKD := Lib.hid hK; clear hK
            go_wp2_with fail
            have hRs := one_setCell (u := .bool true) HST.out.res
            have hDr : D ≠ w.heap.size := by
              intro h
              have h1 := HST.out.res
              rw [← h, HKD.out] at h1
              cases h1
            have hK' : (W.setCell ⟨w.heap.size, 0, none⟩ (.bool true)).heap[D]? = some (.deferred (some [])) := (Kept.setCell (· = w.heap.size) W ⟨w.heap.size, 0, none⟩ _ rfl).get HKD.out hDr
            have hc5 : ((W.setCell ⟨w.heap.size, 0, none⟩ (.bool true)).putObj D (.deferred none)).cell? ⟨w.heap.size, 0, none⟩ = some (.bool true) := cell_of_one ((World.putObj_heap_other (fun h => hDr h.symm)).trans hRs)
            refine leaveM (v := .bool true) hK' ?_ ⟨rfl, ?_⟩
            · simp [results, Try.f13, go_sem, hc5]
            · have h1 := (HST.out.kept.andThen (Kept.setCell (· = w.heap.size) W ⟨w.heap.size, 0, none⟩ (.bool true) rfl) (U := fun _ => False) (fun _ _ h => h) (fun k hk h => by omega)).andThen (kept_putObj (· = D) _ D (.deferred none) rfl) (U := fun _ => False) (fun _ _ h => h) (fun k hk h => by have := hK7.out.size; omega)
              exact h1.below (Nat.le_refl _) (fun _ h => h.elim)
          case stop =>
            rintro D c pre W _ hpre ⟨rfl, ini, x, rfl, hlt, hne⟩ hK
            exfalso
            obtain ⟨t, ht⟩ := hpre
            apply hne
            rw [← ht]
            simp [List.getD_eq_getElem?_getD]

namespace lruStill
open Go.ChangeShapes Go.WideShapes Go.ChangeAt Go.RowKit
open Go.ChangeMaps (open_string shut_string)
theorem own : ownKnob Try.prog.godebug = none := by kernel_rfl
theorem laidOut : laidOutB Try.prog = true := by kernel_rfl

set_option maxRecDepth 100000 in
theorem lifted (os : Os) (started : os.Started) (H : Type) (enc : TypeId × Value → H) :
    ReturnsInHanded {} Try.checked os 13 .any (Rows.lruStillSpec.pre6 enc Try.prog Try.f13 Rows.lruStillRow.domain false) (Rows.lruStillSpec.post enc Try.prog Try.f13 false true false false) := by
  refine returnsInHanded_of_change (C := Try.checked) own started (by kernel_rfl) Try.func13
    (ChangeSpec.witness6 (enc := enc) (C := Try.checked) false ⟨#[], #[.slice none 0 0, .int .u8 0], []⟩ 8 (by kernel_rfl) (by kernel_rfl) (by kernel_rfl) (by kernel_rfl)) ?_
  intro W base args ds gs before hval0 hW hcnd _
  have hval : ∀ (j : Nat) t v, Try.f13.params[j]? = some t → args[j]? = some v → Value.okWide Try.prog W .any base t v := hval0
  have hW' := hW
  obtain ⟨p, q, hA0, hV, rfl, hfz, hnd⟩ := hW
  have hA : DataW.TrodAll enc Try.prog W 0 (fun _ => true) true Try.f13.params.toList args.toList ds p := hA0
  rw [Try.params13] at hA hval
  obtain ⟨v0, vs0, d0, ds0, p0, q0, hargs, rfl, rfl, h0, r0⟩ := trodAll_cons hA
  obtain ⟨v1, vs1, d1, ds1, p1, q1, rfl, rfl, rfl, h1, r1⟩ := trodAll_cons r0
  obtain ⟨rfl, rfl, rfl⟩ := trodAll_nil r1
  obtain rfl : args = #[v0, v1] := by cases args; simp_all
  obtain ⟨rfl, rfl⟩ := trodVars_none hV
  obtain ⟨a0, len0, cap0, rfl⟩ := okWide_slice Try.underlying22 (hval 0 22 v0 rfl rfl)
  have k0 := h0
  have lt0 : ∀ x ∈ p0, x.block < W.heap.size := by obtain ⟨m, hm⟩ := k0; exact DataW.trod_lt m _ _ _ hm
  obtain ⟨z0, w0⟩ : ∃ zs, IsRow .u8 W a0 len0 cap0 zs := by
    obtain ⟨fuel, hf⟩ := h0
    rcases open_ints Try.underlying22 Try.underlying5 (by kernel_rfl) hf with ⟨hcs, _⟩ | ⟨x, l, c, zs, hcs, _, hl, hm, hz, _, hcell, hwz⟩
    · simp [Value.cells] at hcs
      obtain ⟨rfl, rfl, rfl⟩ := hcs
      exact ⟨[], .inl ⟨rfl, rfl, rfl, rfl⟩⟩
    · simp [Value.cells] at hcs
      obtain ⟨rfl, rfl, rfl⟩ := hcs
      exact ⟨zs, .inr ⟨_, rfl, hl, hm, by simpa using hz, hcell, hwz⟩⟩
  have reads0 := w0.reads
  obtain ⟨a1, rfl, rfl, rfl, w1⟩ := open_int Try.underlying5 (hval 1 5 v1 rfl rfl) h1
  clear hA0 hval0
  refine (still_core a0 len0 cap0 _ a1 W reads0).mono fun e W' ⟨he, bel⟩ => ?_
  subst he
  exact ⟨_, rfl, _, _, _, [], _, [], hW', trodAll_mk1 (shut_bool Try.underlying4 _), (trodAll_cons_mk (Below.trod laidOut (by kernel_rfl) (of_decide_eq_true (by kernel_rfl)) k0 bel lt0) (trodAll_cons_mk (shut_int Try.underlying5 w1) trodAll_mk0)), rfl, bel.frame _, fun h => by cases h⟩

theorem over : Rows.lruStillRow.holds Try.pinned (OpenSpec.ofChange Rows.lruStillSpec) :=
  OpenClaim.holds_of_wide 13 Try.f13 rfl rfl rfl rfl rfl rfl rfl ⟨rfl, rfl, rfl, rfl, rfl⟩ rfl rfl rfl rfl rfl (by kernel_rfl) Try.func13 (by kernel_rfl)
    (of_decide_eq_true (by kernel_rfl)) (by unfold Func.isWrapper; first | (rw [if_pos (by decide +kernel)]; kernel_rfl) | (rw [if_neg (by decide +kernel)]; exact ⟨rfl, rfl⟩))
    (fun os started H enc _ => lifted os started H enc)

theorem proved : Rows.LruStillSaid := over
end lruStill

end Go.Proofs.Ytgldonfpiifnfaa
