/- Atlases: Keys, Gone, Page. -/
import Derived.Test.YtaccppchhljnkaaAtT
import Derived.Test.YtaccppchhljnkaaItO
set_option linter.unusedVariables false
set_option linter.unusedSimpArgs false
namespace Go.Proofs.Ytaccppchhljnkaa
open Go.RowKit Go.Shelf Go.Proofs.YtaccppchhljnkaaW.PrintWords Go.Proofs.YtaccppchhljnkaaW.PrintLast Go.Proofs.YtaccppchhljnkaaW.PrintMore
theorem Try.info_u8O : (Try.prog.info? 5).map (fun i => (i.zero, i.size, i.bytes)) = some (some (.int .u8 0), 1, 1) := by kernel_rfl
set_option maxHeartbeats 400000 in
theorem clone_nil8 (w : World) : Calls Try.prog 41 #[.slice none 0 0] w fun e w' => e = .returned (.slice none 0 0) ∧ w = w' := by
  have hne := fun (w : World) a n c => Lib.run_eql_slice_nil (P := Try.prog) w 42 5 a n c 0 0 Try.underlying42
  go_enter Try.func41, Try.ntmps41
  go_wp2
  go_ret
  exact ⟨rfl, rfl⟩

set_option maxHeartbeats 400000 in
set_option maxRecDepth 100000 in
theorem clone_some8 (g cap n : Nat) (xs : List Int) (w : World) (hn : n = xs.length) (hsm : n ≤ 1000000) (hs : SlO w 5 1 (.slice (some ⟨g, 0, none⟩) n cap) n (xs.map (Value.int .u8))) :
    Calls Try.prog 41 #[.slice (some ⟨g, 0, none⟩) n cap] w fun e w' => ∃ v', e = .returned v' ∧ SlO w' 5 1 v' n (xs.map (Value.int .u8)) ∧ Kept (fun _ => False) w w' ∧ ∀ g', v'.ownBlock = some g' → w.heap.size ≤ g' := by
  obtain ⟨i0, hi0, hz0, hz1, hz2⟩ := info_parts Try.info_u8O
  have hS := Lib.hid hs; clear hs
  have hN := Lib.hid hn; clear hn
  have hcap : cap ≤ 9223372036854775807 := by
    rcases hS.out.form with ⟨h0, _⟩ | ⟨g', cap', he, h1, h2, _⟩
    · cases h0
    · injection he with he1 he2 he3; omega
  have hne := fun (w : World) a n c => Lib.run_eql_slice_nil (P := Try.prog) w 42 5 a n c 0 0 Try.underlying42
  go_enter Try.func41, Try.ntmps41
  have hs0 : SlO (w.alloc (.cells #[] 5)) 5 1 (.slice (some ⟨w.heap.size, 0, none⟩) 0 0) 0 [] := ⟨rfl, .inr ⟨w.heap.size, 0, #[], rfl, heap_alloc_new w _, Nat.le_refl _, by unfold maxLen; omega, by simp, by simp⟩⟩
  have H0 := Lib.hid hs0; clear hs0
  have hsrc : ∀ j u, (xs.map (Value.int .u8))[j]? = some u → (w.alloc (.cells #[] 5)).cell? ((⟨g, 0, none⟩ : Addr).add j) = some u := by
    intro j u hu
    rcases hS.out.form with ⟨h0, _⟩ | ⟨g', cap', he, h1, h2, _, _, h4⟩
    · cases h0
    · injection he with he1 he2 he3
      injection he1 with he1
      injection he1 with he1
      subst he1
      rw [Addr.add_lit, Nat.zero_add]
      exact (Kept.alloc (fun _ => False) w _).cell (h4 j u hu) (by simp)
  have HS := Lib.hid hsrc; clear hsrc
  have hz : 0 + n = n := Nat.zero_add n
  have HZ := Lib.hid hz; clear hz
  go_wp2_with (at_builtin; go_must (refine wpList_append_sl _ rfl (.tmp 5) (.tmp 6) 42 rfl 5 i0 (.int .u8 0) 1 1 Try.underlying42 hi0 hz0 hz1 hz2 rfl (by decide) _ 0 [] rfl H0.out ⟨g, 0, none⟩ n cap (xs.map (Value.int .u8)) rfl (by rw [List.length_map, hN.out, Nat.mul_one]) HS.out ?c2 ?c3 ?c4 ?_))
  case c2 => intro u hu; obtain ⟨x, _, rfl⟩ := List.mem_map.1 hu; rfl
  case c3 => unfold maxLen; omega
  case c4 => omega
  · intro A' cap' w2 hs2 hg2 ho2 _
    have R1 := Lib.hid hs2; have R2 := Lib.hid hg2; have R3 := Lib.hid ho2
    clear hs2 hg2 ho2
    go_wp2
    go_ret
    refine ⟨.slice A' n cap', rfl, R1.out, ?_, ?_⟩
    · refine (Kept.alloc (fun _ => False) w (.cells #[] 5)).andThen (Kept.of_grownBy R2.out) (fun _ _ h => h) (fun k hk hx => ?_)
      simp [Value.ownBlock] at hx; omega
    · intro g' hg'
      rcases R3.out with h | h
      · rw [hg'] at h; simp [Value.ownBlock] at h; omega
      · rw [hg'] at h; simp at h; omega

theorem clone8 (v : Value) (xs : List Int) (w : World) (hsm : xs.length ≤ 1000000) (hs : SlO w 5 1 v xs.length (xs.map (Value.int .u8))) :
    Calls Try.prog 41 #[v] w fun e w' => ∃ v', e = .returned v' ∧ SlO w' 5 1 v' xs.length (xs.map (Value.int .u8)) ∧ Kept (fun _ => False) w w' ∧ ∀ g', v'.ownBlock = some g' → w.heap.size ≤ g' := by
  rcases hs.form with ⟨rfl, h0, _⟩ | ⟨g, cap, rfl, _⟩
  · refine (clone_nil8 w).mono ?_
    rintro e w' ⟨rfl, rfl⟩
    exact ⟨_, rfl, hs, Kept.refl _ _, by simp [Value.ownBlock]⟩
  · exact clone_some8 g cap _ xs w rfl hsm hs


set_option maxHeartbeats 400000 in
theorem keys_c (W : World) (b w h pad : Nat) (s : AtS) (c : AtC) (hA : AtAt W b w h pad s c) :
    Calls Try.prog 12 #[.pointer (some ⟨b, 0, none⟩)] W fun e w' => ∃ vo, e = .returned vo ∧ SlO w' 9 1 vo s.keys.length (s.keys.map Value.string) ∧ Kept (fun _ => False) W w' ∧ ∀ g', vo.ownBlock = some g' → W.heap.size ≤ g' := by
  obtain ⟨c0, c1, c2, c3, c4, c5, c6, c7⟩ := hA.cell
  have hle := hA.inv.le
  have hal := Lib.hid (allO b 5 c.vk s.keys W (by omega) c5 hA.raw.ks)
  clear hA c0 c1 c2 c3 c4 c5 c6 c7
  go_enter Try.func12, Try.ntmps12
  go_wp2_with fail
  refine hal.out.mono ?_
  rintro e w1 ⟨Bs, v', rfl, hBs, hbs, hs1, hk1, hg1⟩
  have hco := Lib.hid (collectO Bs v' s.keys w1 (by omega) hbs hs1)
  have H1 := Lib.hid hk1
  clear hBs hbs hs1 hk1 hg1 hal
  go_wp2_with fail
  refine hco.out.mono ?_
  rintro e w2 ⟨vo, rfl, hs2, hk2, hg2⟩
  have H2 := Lib.hid hs2; have H3 := Lib.hid (H1.out.trans hk2); have H4 := Lib.hid hg2
  clear hs2 hk2 hg2 hco
  go_wp2_with fail
  go_ret
  exact ⟨vo, rfl, H2.out, H3.out, fun g' hg' => Nat.le_trans H1.out.size (H4.out g' hg')⟩
set_option maxHeartbeats 400000 in
theorem gone_c (W : World) (b w h pad : Nat) (s : AtS) (c : AtC) (hA : AtAt W b w h pad s c) (hn : s.gone.length ≤ 1000000) :
    Calls Try.prog 17 #[.pointer (some ⟨b, 0, none⟩)] W fun e w' => ∃ vo, e = .returned vo ∧ SlO w' 9 1 vo s.gone.length (s.gone.map Value.string) ∧ Kept (fun _ => False) W w' ∧ ∀ g', vo.ownBlock = some g' → W.heap.size ≤ g' := by
  obtain ⟨c0, c1, c2, c3, c4, c5, c6, c7⟩ := hA.cell
  have hal := Lib.hid (cloneO c.vg s.gone W hn hA.raw.gs)
  clear hA c0 c1 c2 c3 c4 c5 c6
  go_enter Try.func17, Try.ntmps17
  go_wp2_with fail
  refine hal.out.mono ?_
  rintro e w1 ⟨v', rfl, hs1, hk1, hg1⟩
  have H1 := Lib.hid hs1; have H2 := Lib.hid hk1; have H3 := Lib.hid hg1
  clear hs1 hk1 hg1 hal
  go_wp2_with fail
  go_ret
  exact ⟨v', rfl, H1.out, H2.out, H3.out⟩
theorem set3 (W : World) (g : Nat) (a0 a1 a2 b0 b1 b2 : Value) (t : TypeId) (h : W.heap[g]? = some (.cells #[a0, a1, a2] t (0, 0))) :
    (((W.setCell ⟨g, 0, none⟩ b0).setCell ⟨g, 1, none⟩ b1).setCell ⟨g, 2, none⟩ b2).heap[g]? = some (.cells #[b0, b1, b2] t (0, 0)) ∧
    Kept (· = g) W (((W.setCell ⟨g, 0, none⟩ b0).setCell ⟨g, 1, none⟩ b1).setCell ⟨g, 2, none⟩ b2) :=
  ⟨blk_set (blk_set (blk_set h 0 b0) 1 b1) 2 b2, ((Kept.setCell (· = g) W ⟨g, 0, none⟩ b0 rfl).trans (Kept.setCell _ _ ⟨g, 1, none⟩ b1 rfl)).trans (Kept.setCell _ _ ⟨g, 2, none⟩ b2 rfl)⟩
/-- A field as a value. -/
abbrev Ef (w h : Int) (v : Value) : Value := .agg #[.int .i64 w, .int .i64 h, v]
set_option maxHeartbeats 1000000 in
set_option maxRecDepth 100000 in
theorem page_c (W : World) (b w h pad : Nat) (s : AtS) (c : AtC) (hA : AtAt W b w h pad s c) :
    Calls Try.prog 21 #[.pointer (some ⟨b, 0, none⟩)] W fun e w' => ∃ A cap, e = .returned (Ef w h (.slice A (w * h) cap)) ∧ SlO w' 5 1 (.slice A (w * h) cap) (w * h) ((pgL w h pad s).map (Value.int .u8)) ∧ Kept (fun _ => False) W w' ∧ ∀ g', (Value.slice A (w * h) cap).ownBlock = some g' → W.heap.size ≤ g' := by
  have bb := below_alloc (Below.refl _ W) (.cells #[.int .i64 0, .int .i64 0, .slice none 0 0] 44)
  have A1 := hA.below bb
  obtain ⟨c0, c1, c2, c3, c4, c5, c6, c7⟩ := A1.cell
  obtain ⟨hw0, hw1⟩ := hA.w1
  obtain ⟨hh0, hh1⟩ := hA.h1
  have hwh : w * h ≤ 4096 := Nat.le_trans (Nat.mul_le_mul hw1 hh1) (by decide)
  have hsl : SlO (W.alloc (.cells #[.int .i64 0, .int .i64 0, .slice none 0 0] 44)) 5 1 (.slice (some ⟨c.bT, 0, none⟩) (w * h) (w * h)) (pgL w h pad s).length ((pgL w h pad s).map (Value.int .u8)) :=
    ⟨by simp, .inr ⟨c.bT, w * h, _, by rw [pgL_len], A1.txt, by rw [pgL_len]; exact Nat.le_refl _, by unfold maxLen; omega, by simp [pgL_len], by rw [pgL_len]; exact List.take_of_length_le (by simp [pgL_len])⟩⟩
  have hcl : ∀ w2 : World, Kept (fun _ => False) (W.alloc (.cells #[.int .i64 0, .int .i64 0, .slice none 0 0] 44)) w2 → _ := fun w2 hk => clone8 _ (pgL w h pad s) w2 (by rw [pgL_len]; omega) (hsl.kept hk (by simp))
  have HC := Lib.hid hcl
  have G1 := Lib.hid (heap_alloc_new W (.cells #[.int .i64 0, .int .i64 0, .slice none 0 0] 44))
  have K1 := Lib.hid (Kept.alloc (fun _ => False) W (.cells #[.int .i64 0, .int .i64 0, .slice none 0 0] 44))
  have hbn : b ≠ W.heap.size := by have := hA.lt (.inl rfl); omega
  clear hA bb A1 c3 c4 c5 c6 c7 hsl hcl
  go_enter Try.func21, Try.ntmps21
  go_upto_region 1 with (fail)
  generalize W.alloc (.cells #[.int .i64 0, .int .i64 0, .slice none 0 0] 44) = w1 at *
  have d0 : w1.cell? ⟨W.heap.size, 0, none⟩ = some (.int .i64 0) := (blk_cell G1.out 0).trans rfl
  have d1 : w1.cell? ⟨W.heap.size, 1, none⟩ = some (.int .i64 0) := (blk_cell G1.out 1).trans rfl
  have d2 : w1.cell? ⟨W.heap.size, 2, none⟩ = some (.slice none 0 0) := (blk_cell G1.out 2).trans rfl
  go_region_held3 (fun w' => w'.cell? ⟨b, 0, none⟩ = some (.int .i64 w) ∧ w'.cell? ⟨b, 1, none⟩ = some (.int .i64 h) ∧ w'.cell? ⟨b, 2, none⟩ = some (.slice (some ⟨c.bT, 0, none⟩) (w * h) (w * h))) (first
    | assumption
    | exact ⟨c0, c1, c2⟩
    | exact ⟨hk2.cell (a := ⟨b, 0, none⟩) c0 (by simp), hk2.cell (a := ⟨b, 1, none⟩) c1 (by simp), hk2.cell (a := ⟨b, 2, none⟩) c2 (by simp)⟩
    | exact ⟨(set3 w2 W.heap.size _ _ _ _ _ _ _ H4.out).2.cell (a := ⟨b, 0, none⟩) (hk2.cell (a := ⟨b, 0, none⟩) c0 (by simp)) hbn, (set3 w2 W.heap.size _ _ _ _ _ _ _ H4.out).2.cell (a := ⟨b, 1, none⟩) (hk2.cell (a := ⟨b, 1, none⟩) c1 (by simp)) hbn, (set3 w2 W.heap.size _ _ _ _ _ _ _ H4.out).2.cell (a := ⟨b, 2, none⟩) (hk2.cell (a := ⟨b, 2, none⟩) c2 (by simp)) hbn⟩) ((go_at_call 41; refine (HC.out w1.drew (Kept.drew _ _)).mono ?_; rintro e w2 ⟨v', rfl, hs2, hk2, hg2⟩; rw [pgL_len] at hs2; obtain ⟨A, cap, rfl, _⟩ := hs2.isSlice; have e0 := hk2.cell (a := ⟨W.heap.size, 0, none⟩) d0 (by simp); have e1 := hk2.cell (a := ⟨W.heap.size, 1, none⟩) d1 (by simp); have e2 := hk2.cell (a := ⟨W.heap.size, 2, none⟩) d2 (by simp); have G2 := hk2.get (show w1.drew.heap[W.heap.size]? = _ from G1.out) (by simp); have f0 : w2.frozen? ⟨W.heap.size, 0, none⟩ = false := blk_frozen G2 0; have f1 : w2.frozen? ⟨W.heap.size, 1, none⟩ = false := blk_frozen G2 1; have f2 : w2.frozen? ⟨W.heap.size, 2, none⟩ = false := blk_frozen G2 2; have H2 := Lib.hid hs2; have H3 := Lib.hid hg2; have H4 := Lib.hid G2; clear hs2 hg2 G2))
  all_goals
    go_wp2_with fail
    obtain ⟨m1, m2⟩ := set3 w2 W.heap.size _ _ _ (.int .i64 w) (.int .i64 h) (.slice A (w * h) cap) _ H4.out
    refine bodyPost_ret (results_cell_row rfl _ _ W.heap.size 44 #[.int .i64 w, .int .i64 h, .slice A (w * h) cap] (0, 0) _ rfl m1 Try.underlying44 rfl (by kernel_rfl)) rfl ?_
    have hsz := K1.out.size
    have hA2 : ∀ g', (Value.slice A (w * h) cap).ownBlock = some g' → W.heap.size < g' := fun g' hg' => by
      have h1 := H3.out g' hg'
      have h2 : W.heap.size < w1.heap.size := lt_in G1.out
      exact Nat.lt_of_lt_of_le h2 h1
    refine ⟨A, cap, rfl, H2.out.kept m2 (fun g' hg' e => by have := hA2 g' hg'; omega), (K1.out.trans ((Kept.drew (fun _ => False) w1).trans hk2)).andThen m2 (fun _ _ h => h) (fun k hk e => by omega), fun g' hg' => by have := hA2 g' hg'; omega⟩
end Go.Proofs.Ytaccppchhljnkaa
