/- slices.Values, slices.Clone, List.All and the loop that gathers what they give, at the kinds of key that the seat's laws use. -/
import Derived.Test.YtgldonfpiifnfaaLru
import Derived.Test.YtgldonfpiifnfaaIterBase
import Derived.Outline
import Derived.Deep.DeepMust
set_option linter.unusedVariables false
set_option linter.unusedSimpArgs false
namespace Go.Proofs.Ytgldonfpiifnfaa
open Go.RowKit Go.Shelf
attribute [local go_sem] Oper.semAt_some

/-! ### keys of kind uint8 -/
set_option maxRecDepth 100000 in
set_option maxHeartbeats 2000000 in
theorem values1_u8 (n : Nat) (hn : 1 ≤ n) (l Bs b off len cap : Nat) (X : Nat → Int) (hm : len ≤ 9223372036854775807) (T : Nat → Prop) (hT1 : T Bs) (hT2 : T b) (J Jx : List Int → World → Prop)
    (hY : ∀ pre x W, J pre W → pre.length < len → YieldAt Fence.wide (n - 1) Try.prog l #[.int .u8 x] W fun e W' =>
      (e = .returned (.bool true) ∧ J (pre ++ [x]) W' ∧ Keeps T W W') ∨ (e = .returned (.bool false) ∧ Jx (pre ++ [x]) W'))
    (W : World) (hBs : W.cell? ⟨Bs, 0, none⟩ = some (.slice (some ⟨b, off, none⟩) len cap)) (hc : ∀ j, j < len → W.cell? ⟨b, off + j, none⟩ = some (.int .u8 (X j))) (h0 : J [] W) :
    CallsIn Fence.wide n Try.prog 60 #[.func (.yield l) #[] #[], .pointer (some ⟨Bs, 0, none⟩)] W fun e W' => (∃ v, e = .returned v) ∧
      ((∃ ys, ys = upto X len ∧ J ys W') ∨ (∃ pre, (∃ k, k ≤ len ∧ pre = upto X k) ∧ Jx pre W')) := by
  have HC := Lib.hid hc; clear hc
  have HY := Lib.hid hY; clear hY
  refine callsIn_of_wp Try.func60 rfl trivial ?_ rfl
  simp only [Try.ntmps60, List.size_toArray, List.length_cons, List.length_nil, Nat.reduceAdd, Nat.reduceSub, Array.replicate_succ, Array.replicate_zero, List.push_toArray, List.append_toArray, List.nil_append, List.cons_append]
  gi_wp2
  gi_loopw [7] (fun i wr => ∃ k : Nat, k ≤ len ∧ i = .int .i64 k ∧ J (upto X k) wr ∧ Hid (Keeps T W wr))
    (fun i _ => len - (intOf i).toNat)
  case atStart => exact ⟨0, Nat.zero_le _, rfl, h0, Kept.refl _ _⟩
  case round =>
    obtain ⟨k, hk, rfl, hJs, hnx⟩ := hrel
    by_cases hlt : k < len
    · obtain ⟨fn, tmps, assign, body, hy, hR⟩ := HY.out _ (X k) wr hJs (by rw [upto_length]; exact hlt)
      have hcx' : wr.cell? ⟨b, off + k, none⟩ = some (.int .u8 (X k)) := Kept.cell hnx.out (HC.out k hlt) (fun h => h hT2)
      gi_wp2
      refine hR.mono ?_
      rintro e W3 (⟨rfl, hJ3, hk3⟩ | ⟨rfl, hJx3⟩)
      · gi_wp2
        go_roundw
        case rel => exact ⟨k + 1, by omega, by simp, by rw [upto_succ]; exact hJ3, hnx.out.trans hk3⟩
        case measure => simp [intOf]; omega
      · gi_wp2
        refine bodyPost_ret (results_none rfl _ _ _) rfl ?_
        exact ⟨⟨_, rfl⟩, .inr ⟨_, ⟨k + 1, by omega, (upto_succ _ _).symm⟩, hJx3⟩⟩
    · obtain rfl : k = len := by omega
      gi_wp2
      go_end0
      exact ⟨⟨_, rfl⟩, .inl ⟨_, rfl, hJs⟩⟩

set_option maxRecDepth 100000 in
set_option maxHeartbeats 1000000 in
theorem values1_nil_u8 (n : Nat) (l Bs : Nat) (J : List Int → World → Prop) (W : World) (hBs : W.cell? ⟨Bs, 0, none⟩ = some (.slice none 0 0)) (h0 : J [] W) :
    CallsIn Fence.wide n Try.prog 60 #[.func (.yield l) #[] #[], .pointer (some ⟨Bs, 0, none⟩)] W fun e W' => (∃ v, e = .returned v) ∧ J [] W' := by
  refine callsIn_of_wp Try.func60 rfl trivial ?_ rfl
  simp only [Try.ntmps60, List.size_toArray, List.length_cons, List.length_nil, Nat.reduceAdd, Nat.reduceSub, Array.replicate_succ, Array.replicate_zero, List.push_toArray, List.append_toArray, List.nil_append, List.cons_append]
  gi_wp2
  gi_loopw [7] (fun i wr => i = .int .i64 0 ∧ J [] wr) (fun _ _ => 0)
  case atStart => exact ⟨rfl, h0⟩
  case round =>
    obtain ⟨rfl, hJs⟩ := hrel
    gi_wp2
    go_end0
    exact ⟨⟨_, rfl⟩, hJs⟩

set_option maxHeartbeats 400000 in
/-- slices.Values: the slice is boxed. -/
theorem values_u8 (v : Value) (n : Nat) (xs : List Value) (w : World) (hs : SlO w 5 1 v n xs) :
    Calls Try.prog 54 #[v] w fun e w' => e = .returned (.func (.func 60) #[] #[.pointer (some ⟨w.heap.size, 0, none⟩)]) ∧ w' = w.alloc (.cells #[v] 22) := by
  obtain ⟨A, cap, rfl, _⟩ := hs.isSlice
  clear hs
  have hmf : ∀ (fn : Fn) (first cap : Array Value) (w : World), (Instr.makeFunc fn first cap).run Try.prog w = .ok (.func fn first cap) w := fun _ _ _ _ => rfl
  go_enter Try.func54, Try.ntmps54
  go_wp2
  go_ret
  exact ⟨rfl, rfl⟩

/-- What slices.Values hands back goes through all elements, in order. -/
theorem iter_u8 (n : Nat) (hn : 1 ≤ n) (Bs : Nat) (v : Value) (xs : List Int) (w : World) (T : Nat → Prop) (hT1 : T Bs) (hT2 : ∀ g, v.ownBlock = some g → T g)
    (hc : w.cell? ⟨Bs, 0, none⟩ = some v) (hs : SlO w 5 1 v xs.length (xs.map (Value.int .u8))) :
    SeqStopsK Fence.wide n Try.prog 60 #[.pointer (some ⟨Bs, 0, none⟩)] (fun x : Int => #[.int .u8 x]) (Keeps T) (fun ys => ys = xs) (fun pre => pre <+: xs) xs.length w := fun l J Jx W hW _ _ hY h0 => by
  have hBs : Bs < w.heap.size := World.block_lt_of_cell? w _ hc
  have hc' := (hW.cell (p := ⟨Bs, 0, none⟩) hBs).trans hc
  rcases hs.form with ⟨rfl, h0', _⟩ | ⟨g, cap, rfl, h2, h3, h5, hg, h4⟩
  · obtain rfl : xs = [] := List.eq_nil_of_length_eq_zero h0'
    exact (values1_nil_u8 n l Bs J W hc' h0).mono fun e W' ⟨he, hj⟩ => ⟨he, .inl ⟨_, rfl, hj⟩⟩
  · have hcs : ∀ j, j < xs.length → W.cell? ⟨g, 0 + j, none⟩ = some (.int .u8 (xs.getD j default)) := fun j hj => by
      rw [Nat.zero_add]
      exact (hW.cell (p := ⟨g, j, none⟩) hg).trans (h4 j _ (by simp [List.getElem?_map, List.getElem?_eq_getElem hj, List.getD_eq_getElem?_getD]))
    refine (values1_u8 n hn l Bs g 0 xs.length cap (fun j => xs.getD j default) (by omega) T hT1 (hT2 g h5) J Jx hY W hc' hcs h0).mono ?_
    rintro e W' ⟨he, ⟨ys, rfl, hj⟩ | ⟨pre, ⟨k, hk, rfl⟩, hj⟩⟩
    · exact ⟨he, .inl ⟨_, by rw [upto_getD xs _ (Nat.le_refl _), List.take_length], hj⟩⟩
    · exact ⟨he, .inr ⟨_, by rw [upto_getD xs k hk]; exact List.take_prefix _ _, hj⟩⟩

set_option maxHeartbeats 400000 in
theorem clone_nil_u8 (w : World) : Calls Try.prog 55 #[.slice none 0 0] w fun e w' => e = .returned (.slice none 0 0) ∧ w = w' := by
  have hne := fun (w : World) a n c => Lib.run_eql_slice_nil (P := Try.prog) w 22 5 a n c 0 0 Try.underlying22
  go_enter Try.func55, Try.ntmps55
  go_wp2
  go_ret
  exact ⟨rfl, rfl⟩

set_option maxHeartbeats 400000 in
set_option maxRecDepth 100000 in
theorem clone_some_u8 (g cap n : Nat) (xs : List Int) (w : World) (hn : n = xs.length) (hsm : n ≤ 1000000) (hs : SlO w 5 1 (.slice (some ⟨g, 0, none⟩) n cap) n (xs.map (Value.int .u8))) :
    Calls Try.prog 55 #[.slice (some ⟨g, 0, none⟩) n cap] w fun e w' => ∃ v', e = .returned v' ∧ SlO w' 5 1 v' n (xs.map (Value.int .u8)) ∧ Kept (fun _ => False) w w' ∧ ∀ g', v'.ownBlock = some g' → w.heap.size ≤ g' := by
  obtain ⟨i0, hi0, hz0, hz1, hz2⟩ := info_parts Try.info_u8
  have hS := Lib.hid hs; clear hs
  have hN := Lib.hid hn; clear hn
  have hcap : cap ≤ 9223372036854775807 := by
    rcases hS.out.form with ⟨h0, _⟩ | ⟨g', cap', he, h1, h2, _⟩
    · cases h0
    · injection he with he1 he2 he3; omega
  have hne := fun (w : World) a n c => Lib.run_eql_slice_nil (P := Try.prog) w 22 5 a n c 0 0 Try.underlying22
  go_enter Try.func55, Try.ntmps55
  have hs0 : SlO (w.alloc (.cells #[] 5)) 5 1 (.slice (some ⟨w.heap.size, 0, none⟩) 0 0) 0 [] := ⟨rfl, .inr ⟨w.heap.size, 0, #[], rfl, heap_alloc_new w _, Nat.le_refl _, by unfold maxLen; omega, by simp, by simp⟩⟩
  have H0 := Lib.hid hs0; clear hs0
  have hsrc : ∀ j u, (xs.map (Value.int .u8))[j]? = some u → (w.alloc (.cells #[] 5)).cell? ((⟨g, 0, none⟩ : Addr).add j) = some u := by
    intro j u hu
    rcases hS.out.form with ⟨h0, _⟩ | ⟨g', cap', he, h1, h2, _, _, h4⟩
    · cases h0
    · injection he with he1 he2 he3
      injection he1 with he1
      injection he1 with he1
      subst he1
      rw [Addr.add_lit, Nat.zero_add]
      exact (Kept.alloc (fun _ => False) w _).cell (h4 j u hu) (by simp)
  have HS := Lib.hid hsrc; clear hsrc
  have hz : 0 + n = n := Nat.zero_add n
  have HZ := Lib.hid hz; clear hz
  go_wp2_with (at_builtin; go_must (refine wpList_append_sl _ rfl (.tmp 5) (.tmp 6) 22 rfl 5 i0 (.int .u8 0) 1 1 Try.underlying22 hi0 hz0 hz1 hz2 rfl (by decide) _ 0 [] rfl H0.out ⟨g, 0, none⟩ n cap (xs.map (Value.int .u8)) rfl (by rw [List.length_map, hN.out, Nat.mul_one]) HS.out ?c2 ?c3 ?c4 ?_))
  case c2 => intro u hu; obtain ⟨x, _, rfl⟩ := List.mem_map.1 hu; rfl
  case c3 => unfold maxLen; omega
  case c4 => omega
  · intro A' cap' w2 hs2 hg2 ho2 _
    have R1 := Lib.hid hs2; have R2 := Lib.hid hg2; have R3 := Lib.hid ho2
    clear hs2 hg2 ho2
    go_wp2
    go_ret
    refine ⟨.slice A' n cap', rfl, R1.out, ?_, ?_⟩
    · refine (Kept.alloc (fun _ => False) w (.cells #[] 5)).andThen (Kept.of_grownBy R2.out) (fun _ _ h => h) (fun k hk hx => ?_)
      simp [Value.ownBlock] at hx; omega
    · intro g' hg'
      rcases R3.out with h | h
      · rw [hg'] at h; simp [Value.ownBlock] at h; omega
      · rw [hg'] at h; simp at h; omega

theorem clone_u8 (v : Value) (xs : List Int) (w : World) (hsm : xs.length ≤ 1000000) (hs : SlO w 5 1 v xs.length (xs.map (Value.int .u8))) :
    Calls Try.prog 55 #[v] w fun e w' => ∃ v', e = .returned v' ∧ SlO w' 5 1 v' xs.length (xs.map (Value.int .u8)) ∧ Kept (fun _ => False) w w' ∧ ∀ g', v'.ownBlock = some g' → w.heap.size ≤ g' := by
  rcases hs.form with ⟨rfl, h0, _⟩ | ⟨g, cap, rfl, _⟩
  · refine (clone_nil_u8 w).mono ?_
    rintro e w' ⟨rfl, rfl⟩
    exact ⟨_, rfl, hs, Kept.refl _ _, by simp [Value.ownBlock]⟩
  · exact clone_some_u8 g cap _ xs w rfl hsm hs

set_option maxHeartbeats 400000 in
/-- List.All: the keys that there are now, boxed. -/
theorem all_u8 (b : Nat) (v : Value) (xs : List Int) (w : World) (hsm : xs.length ≤ 1000000) (hL : LAt w 26 5 b v (xs.map (Value.int .u8))) :
    Calls Try.prog 41 #[.pointer (some ⟨b, 0, none⟩)] w fun e w' => ∃ Bs v', e = .returned (.func (.func 60) #[] #[.pointer (some ⟨Bs, 0, none⟩)]) ∧ w.heap.size ≤ Bs ∧ w'.heap[Bs]? = some (.cells #[v'] 22 (0, 0)) ∧
      SlO w' 5 1 v' xs.length (xs.map (Value.int .u8)) ∧ Kept (fun _ => False) w w' ∧ ∀ g', v'.ownBlock = some g' → w.heap.size ≤ g' := by
  have c0 := cell_of_one hL.1
  have hs : SlO w 5 1 v xs.length (xs.map (Value.int .u8)) := by have := hL.2; rwa [List.length_map] at this
  have hcl := Lib.hid (clone_u8 v xs w hsm hs)
  clear hs hL
  go_enter Try.func41, Try.ntmps41
  go_wp2_with fail
  refine hcl.out.mono ?_
  rintro e w1 ⟨v', rfl, hs1, hk1, hg1⟩
  have H1 := Lib.hid hs1; have H2 := Lib.hid hk1; have H3 := Lib.hid hg1
  clear hs1 hk1 hg1
  go_wp2_with fail
  refine (values_u8 v' _ _ w1 H1.out).mono ?_
  rintro e w2 ⟨rfl, rfl⟩
  go_wp2_with fail
  go_ret
  exact ⟨w1.heap.size, v', rfl, H2.out.size, heap_alloc_new w1 _, H1.out.kept (Kept.alloc (fun _ => False) w1 _) (by simp), H2.out.trans (Kept.alloc _ w1 _), H3.out⟩

set_option maxRecDepth 100000 in
set_option maxHeartbeats 2000000 in
/-- The keys that All gives, gathered. -/
theorem gather_u8 (b : Nat) (v : Value) (xs : List Int) (w : World) (hsm : xs.length ≤ 1000000) (hL : LAt w 26 5 b v (xs.map (Value.int .u8))) :
    Calls Try.prog 42 #[.pointer (some ⟨b, 0, none⟩)] w fun e w' => ∃ v', e = .returned v' ∧ SlO w' 5 1 v' xs.length (xs.map (Value.int .u8)) ∧ Kept (fun _ => False) w w' ∧ ∀ g', v'.ownBlock = some g' → w.heap.size ≤ g' := by
  obtain ⟨i0, hi0, hz0, hz1, hz2⟩ := info_parts Try.info_u8
  have hL1 := hL.kept (Kept.alloc (fun _ => False) w (.cells #[.slice none 0 0] 22)) (by simp) (by simp)
  have hall := Lib.hid (all_u8 b v xs _ hsm hL1)
  have hO := Lib.hid (heap_alloc_new w (.cells #[.slice none 0 0] 22))
  clear hL hL1
  refine (callsIn_wide (n := 5)).1 (callsIn_of_wp_marks Try.func42 rfl trivial ?_ rfl)
  refine wpIn_wide.2 ?_
  simp only [Try.ntmps42, List.size_toArray, List.length_cons, List.length_nil, Nat.reduceAdd, Nat.reduceSub, Array.replicate_succ, Array.replicate_zero, List.push_toArray, List.append_toArray, List.nil_append, List.cons_append]
  go_wp2_with fail
  refine hall.out.mono ?_
  rintro e w1 ⟨Bs, v', rfl, hBs, hbs, hs1, hk1, hg1⟩
  have ho1 := hk1.get hO.out (by simp)
  have hsz1 : w.heap.size < w1.heap.size := lt_of_block ho1
  have hbs1 : Bs < w1.heap.size := lt_of_block hbs
  have hBsw : w.heap.size + 1 ≤ Bs := by simpa using hBs
  have hg1' : ∀ g, v'.ownBlock = some g → w.heap.size + 1 ≤ g := fun g hg => by simpa using hg1 g hg
  have hk01 := (Kept.alloc (fun _ => False) w (.cells #[.slice none 0 0] 22)).trans hk1
  go_wp2_with fail
  refine (wpIn_wide (n := 5)).1 (wpIn_rangeFunc_ownG (F := Fence.wide) rfl (by omega) (gf := 60) (lb := #[.pointer (some ⟨Bs, 0, none⟩)]) rfl trivial (enters_of Try.func60 (by kernel_rfl) rfl)
    (iter_u8 4 (by omega) Bs v' xs w1 (fun k => k = Bs ∨ v'.ownBlock = some k) (.inl rfl) (fun g hg => .inr hg) (cell_of_one hbs) hs1) (fun h k => Keeps.trans h k)
    (Keeps.putObj (by rintro k (rfl | hk); exact hbs1; exact hs1.lt hk)) (Below.refl _ _) (fun _ => rfl)
    (fun pre W => ∃ vo, LAt W 22 5 w.heap.size vo (pre.map (Value.int .u8)) ∧ Kept (fun _ => False) w W ∧ w1.heap.size ≤ W.heap.size ∧ ∀ g, vo.ownBlock = some g → w.heap.size ≤ g ∧ g ≠ Bs ∧ v'.ownBlock ≠ some g)
    (fun _ _ _ => False)
    (own_from (by
      rintro pre S W W' ⟨vo, h1, h2, h3, h4⟩ hk hS
      exact ⟨vo, hS.lat hk h1, hS.kept hk (by omega) h2, Nat.le_trans h3 hk.size, h4⟩))
    (fun _ _ _ _ _ hs _ _ => hs)
    ⟨.slice none 0 0, ⟨ho1, SlO.nil _ _ _⟩, hk01, Nat.le_refl _, by simp [Value.ownBlock]⟩
    (fun x => { tmps := #[.pointer (some ⟨b, 0, none⟩), undef, .slice none 0 0, .pointer (some ⟨w.heap.size, 0, none⟩), .int .u8 x, .pointer (some ⟨b, 0, none⟩), .func (.func 60) #[] #[.pointer (some ⟨Bs, 0, none⟩)], .int .u8 x, undef, undef, undef, undef, undef], defers := [] }) ?assign ?body ?done ?stop)
  case assign =>
    intro l x W K hK
    gi_wp2
    exact hK
  case body =>
    rintro l pre x W ⟨vo, hLo, hko, hsz, hgo⟩ hlt
    obtain ⟨hbo, hso⟩ := hLo
    rw [List.length_map] at hso
    have hc := cell_of_one hbo
    have hgb : ∀ g, vo.ownBlock = some g → g ≠ w.heap.size := fun g hg => LAt.ne (t := 22) (e := 5) (cs := pre.map (Value.int .u8)) ⟨hbo, by rw [List.length_map]; exact hso⟩ (by decide) hg
    have HB := Lib.hid hbo; have HS := Lib.hid hso; have HK := Lib.hid hko; have HG := Lib.hid hgo; have HN := Lib.hid hgb
    clear hbo hso hko hgo hgb
    gi_wp2_with (gi_at_builtin; refine wpListIn_append_sl _ rfl (.tmp 8) (.tmp 10) 22 rfl 5 i0 (.int .u8 0) 1 1 Try.underlying22 hi0 hz0 hz1 hz2 rfl (by decide) _ pre.length _ rfl (HS.out.kept (Kept.alloc (fun _ => False) _ _) (by simp)) ⟨W.heap.size, 0, none⟩ 1 1 [.int .u8 x] rfl rfl (Go.cell_one_new _ _ _) (by intro u hu; simp at hu; subst hu; rfl) (by unfold maxLen; omega) (by omega) ?_; intro A' cap' w2 hs2 hg2 ho2; have hk2 : Kept (fun y => vo.ownBlock = some y) W w2 := (Kept.alloc _ W _).trans (Kept.of_grownBy hg2); have hb2 := hk2.get HB.out (fun h => HN.out _ h rfl); have c2 := cell_of_one hb2; have f2 := free_of_one hb2; have R1 := Lib.hid hs2; have R2 := Lib.hid hk2; have R3 := Lib.hid ho2; have R4 := Lib.hid hb2; clear hs2 hg2 ho2 hk2 hb2)
    have hl2 : Lies W vo (.slice A' (pre.length + 1) cap') := by
      rcases R3.out with h | h
      · exact .inl h
      · exact .inr ⟨_, h, by simp⟩
    obtain ⟨hr1, hr2⟩ := LAt.stored (t := 22) R4.out (lt_of_block HB.out) R2.out R1.out hl2 HN.out
    have hTk : ∀ k, (vo.ownBlock = some k ∨ k = w.heap.size) → ¬ (k = Bs ∨ v'.ownBlock = some k) := by
      rintro k (h | h) (h' | h')
      · exact (HG.out k h).2.1 h'
      · exact (HG.out k h).2.2 h'
      · omega
      · have := hg1' k h'; omega
    refine ⟨keepsFrom_of_kept hr2 ?_, hr2.mono (fun k _ h => hTk k h), .slice A' (pre.length + 1) cap', ?_, HK.out.andThen hr2 (fun _ _ h => h) ?_, ?_, ?_⟩
    · rintro k (h | h) o ho _
      · rcases HS.out.2 with ⟨rfl, _⟩ | ⟨g', cap, cur, rfl, hh, _⟩
        · simp [Value.ownBlock] at h
        · have : g' = k := by simpa [Value.ownBlock] using h
          subst this
          rw [hh] at ho
          injection ho with ho
          subst ho
          rfl
      · subst h
        rw [HB.out] at ho
        injection ho with ho
        subst ho
        rfl
    · rw [List.map_append]
      exact hr1
    · rintro k hk (h | h)
      · have := (HG.out k h).1; omega
      · omega
    · exact Nat.le_trans hsz hr2.size
    · intro g hg
      rcases hl2 with h | ⟨g', h, hle⟩
      · exact HG.out g (h ▸ hg)
      · rw [h] at hg; injection hg with hg
        subst hg
        refine ⟨by omega, by omega, fun h' => ?_⟩
        have := hs1.lt h'
        omega
  case done =>
    rintro D ys W hD rfl ⟨vo, hLo, hko, hsz, hgo⟩ hK
    have hc := cell_of_one hLo.1
    have hs' := hLo.2
    rw [List.length_map] at hs'
    go_wp2_with fail
    refine leaveM hK (results_tmp rfl _ _ _) ⟨vo, rfl, ?_, ?_, ?_⟩
    · refine hs'.kept (kept_putObj (· = D) W D _ rfl) (fun g hg h => ?_)
      subst h
      rcases hs'.2 with ⟨rfl, _⟩ | ⟨g', cap, cur, rfl, hh, _⟩
      · simp [Value.ownBlock] at hg
      · have : g' = g := by simpa [Value.ownBlock] using hg
        subst this
        rw [hh] at hK
        cases hK
    · exact hko.andThen (kept_putObj (· = D) W D _ rfl) (fun _ _ h => h) (fun k hk h => by omega)
    · exact fun g hg => (hgo g hg).1
  case stop =>
    rintro D c pre W _ _ h _
    exact h.elim

/-! ### keys of kind int -/
set_option maxRecDepth 100000 in
set_option maxHeartbeats 2000000 in
theorem values1_int (n : Nat) (hn : 1 ≤ n) (l Bs b off len cap : Nat) (X : Nat → Int) (hm : len ≤ 9223372036854775807) (T : Nat → Prop) (hT1 : T Bs) (hT2 : T b) (J Jx : List Int → World → Prop)
    (hY : ∀ pre x W, J pre W → pre.length < len → YieldAt Fence.wide (n - 1) Try.prog l #[.int .i64 x] W fun e W' =>
      (e = .returned (.bool true) ∧ J (pre ++ [x]) W' ∧ Keeps T W W') ∨ (e = .returned (.bool false) ∧ Jx (pre ++ [x]) W'))
    (W : World) (hBs : W.cell? ⟨Bs, 0, none⟩ = some (.slice (some ⟨b, off, none⟩) len cap)) (hc : ∀ j, j < len → W.cell? ⟨b, off + j, none⟩ = some (.int .i64 (X j))) (h0 : J [] W) :
    CallsIn Fence.wide n Try.prog 61 #[.func (.yield l) #[] #[], .pointer (some ⟨Bs, 0, none⟩)] W fun e W' => (∃ v, e = .returned v) ∧
      ((∃ ys, ys = upto X len ∧ J ys W') ∨ (∃ pre, (∃ k, k ≤ len ∧ pre = upto X k) ∧ Jx pre W')) := by
  have HC := Lib.hid hc; clear hc
  have HY := Lib.hid hY; clear hY
  refine callsIn_of_wp Try.func61 rfl trivial ?_ rfl
  simp only [Try.ntmps61, List.size_toArray, List.length_cons, List.length_nil, Nat.reduceAdd, Nat.reduceSub, Array.replicate_succ, Array.replicate_zero, List.push_toArray, List.append_toArray, List.nil_append, List.cons_append]
  gi_wp2
  gi_loopw [7] (fun i wr => ∃ k : Nat, k ≤ len ∧ i = .int .i64 k ∧ J (upto X k) wr ∧ Hid (Keeps T W wr))
    (fun i _ => len - (intOf i).toNat)
  case atStart => exact ⟨0, Nat.zero_le _, rfl, h0, Kept.refl _ _⟩
  case round =>
    obtain ⟨k, hk, rfl, hJs, hnx⟩ := hrel
    by_cases hlt : k < len
    · obtain ⟨fn, tmps, assign, body, hy, hR⟩ := HY.out _ (X k) wr hJs (by rw [upto_length]; exact hlt)
      have hcx' : wr.cell? ⟨b, off + k, none⟩ = some (.int .i64 (X k)) := Kept.cell hnx.out (HC.out k hlt) (fun h => h hT2)
      gi_wp2
      refine hR.mono ?_
      rintro e W3 (⟨rfl, hJ3, hk3⟩ | ⟨rfl, hJx3⟩)
      · gi_wp2
        go_roundw
        case rel => exact ⟨k + 1, by omega, by simp, by rw [upto_succ]; exact hJ3, hnx.out.trans hk3⟩
        case measure => simp [intOf]; omega
      · gi_wp2
        refine bodyPost_ret (results_none rfl _ _ _) rfl ?_
        exact ⟨⟨_, rfl⟩, .inr ⟨_, ⟨k + 1, by omega, (upto_succ _ _).symm⟩, hJx3⟩⟩
    · obtain rfl : k = len := by omega
      gi_wp2
      go_end0
      exact ⟨⟨_, rfl⟩, .inl ⟨_, rfl, hJs⟩⟩

set_option maxRecDepth 100000 in
set_option maxHeartbeats 1000000 in
theorem values1_nil_int (n : Nat) (l Bs : Nat) (J : List Int → World → Prop) (W : World) (hBs : W.cell? ⟨Bs, 0, none⟩ = some (.slice none 0 0)) (h0 : J [] W) :
    CallsIn Fence.wide n Try.prog 61 #[.func (.yield l) #[] #[], .pointer (some ⟨Bs, 0, none⟩)] W fun e W' => (∃ v, e = .returned v) ∧ J [] W' := by
  refine callsIn_of_wp Try.func61 rfl trivial ?_ rfl
  simp only [Try.ntmps61, List.size_toArray, List.length_cons, List.length_nil, Nat.reduceAdd, Nat.reduceSub, Array.replicate_succ, Array.replicate_zero, List.push_toArray, List.append_toArray, List.nil_append, List.cons_append]
  gi_wp2
  gi_loopw [7] (fun i wr => i = .int .i64 0 ∧ J [] wr) (fun _ _ => 0)
  case atStart => exact ⟨rfl, h0⟩
  case round =>
    obtain ⟨rfl, hJs⟩ := hrel
    gi_wp2
    go_end0
    exact ⟨⟨_, rfl⟩, hJs⟩

set_option maxHeartbeats 400000 in
/-- slices.Values: the slice is boxed. -/
theorem values_int (v : Value) (n : Nat) (xs : List Value) (w : World) (hs : SlO w 3 1 v n xs) :
    Calls Try.prog 56 #[v] w fun e w' => e = .returned (.func (.func 61) #[] #[.pointer (some ⟨w.heap.size, 0, none⟩)]) ∧ w' = w.alloc (.cells #[v] 65) := by
  obtain ⟨A, cap, rfl, _⟩ := hs.isSlice
  clear hs
  have hmf : ∀ (fn : Fn) (first cap : Array Value) (w : World), (Instr.makeFunc fn first cap).run Try.prog w = .ok (.func fn first cap) w := fun _ _ _ _ => rfl
  go_enter Try.func56, Try.ntmps56
  go_wp2
  go_ret
  exact ⟨rfl, rfl⟩

/-- What slices.Values hands back goes through all elements, in order. -/
theorem iter_int (n : Nat) (hn : 1 ≤ n) (Bs : Nat) (v : Value) (xs : List Int) (w : World) (T : Nat → Prop) (hT1 : T Bs) (hT2 : ∀ g, v.ownBlock = some g → T g)
    (hc : w.cell? ⟨Bs, 0, none⟩ = some v) (hs : SlO w 3 1 v xs.length (xs.map (Value.int .i64))) :
    SeqStopsK Fence.wide n Try.prog 61 #[.pointer (some ⟨Bs, 0, none⟩)] (fun x : Int => #[.int .i64 x]) (Keeps T) (fun ys => ys = xs) (fun pre => pre <+: xs) xs.length w := fun l J Jx W hW _ _ hY h0 => by
  have hBs : Bs < w.heap.size := World.block_lt_of_cell? w _ hc
  have hc' := (hW.cell (p := ⟨Bs, 0, none⟩) hBs).trans hc
  rcases hs.form with ⟨rfl, h0', _⟩ | ⟨g, cap, rfl, h2, h3, h5, hg, h4⟩
  · obtain rfl : xs = [] := List.eq_nil_of_length_eq_zero h0'
    exact (values1_nil_int n l Bs J W hc' h0).mono fun e W' ⟨he, hj⟩ => ⟨he, .inl ⟨_, rfl, hj⟩⟩
  · have hcs : ∀ j, j < xs.length → W.cell? ⟨g, 0 + j, none⟩ = some (.int .i64 (xs.getD j default)) := fun j hj => by
      rw [Nat.zero_add]
      exact (hW.cell (p := ⟨g, j, none⟩) hg).trans (h4 j _ (by simp [List.getElem?_map, List.getElem?_eq_getElem hj, List.getD_eq_getElem?_getD]))
    refine (values1_int n hn l Bs g 0 xs.length cap (fun j => xs.getD j default) (by omega) T hT1 (hT2 g h5) J Jx hY W hc' hcs h0).mono ?_
    rintro e W' ⟨he, ⟨ys, rfl, hj⟩ | ⟨pre, ⟨k, hk, rfl⟩, hj⟩⟩
    · exact ⟨he, .inl ⟨_, by rw [upto_getD xs _ (Nat.le_refl _), List.take_length], hj⟩⟩
    · exact ⟨he, .inr ⟨_, by rw [upto_getD xs k hk]; exact List.take_prefix _ _, hj⟩⟩

set_option maxHeartbeats 400000 in
theorem clone_nil_int (w : World) : Calls Try.prog 57 #[.slice none 0 0] w fun e w' => e = .returned (.slice none 0 0) ∧ w = w' := by
  have hne := fun (w : World) a n c => Lib.run_eql_slice_nil (P := Try.prog) w 65 3 a n c 0 0 Try.underlying65
  go_enter Try.func57, Try.ntmps57
  go_wp2
  go_ret
  exact ⟨rfl, rfl⟩

set_option maxHeartbeats 400000 in
set_option maxRecDepth 100000 in
theorem clone_some_int (g cap n : Nat) (xs : List Int) (w : World) (hn : n = xs.length) (hsm : n ≤ 1000000) (hs : SlO w 3 1 (.slice (some ⟨g, 0, none⟩) n cap) n (xs.map (Value.int .i64))) :
    Calls Try.prog 57 #[.slice (some ⟨g, 0, none⟩) n cap] w fun e w' => ∃ v', e = .returned v' ∧ SlO w' 3 1 v' n (xs.map (Value.int .i64)) ∧ Kept (fun _ => False) w w' ∧ ∀ g', v'.ownBlock = some g' → w.heap.size ≤ g' := by
  obtain ⟨i0, hi0, hz0, hz1, hz2⟩ := info_parts Try.info_int
  have hS := Lib.hid hs; clear hs
  have hN := Lib.hid hn; clear hn
  have hcap : cap ≤ 9223372036854775807 := by
    rcases hS.out.form with ⟨h0, _⟩ | ⟨g', cap', he, h1, h2, _⟩
    · cases h0
    · injection he with he1 he2 he3; omega
  have hne := fun (w : World) a n c => Lib.run_eql_slice_nil (P := Try.prog) w 65 3 a n c 0 0 Try.underlying65
  go_enter Try.func57, Try.ntmps57
  have hs0 : SlO (w.alloc (.cells #[] 3)) 3 1 (.slice (some ⟨w.heap.size, 0, none⟩) 0 0) 0 [] := ⟨rfl, .inr ⟨w.heap.size, 0, #[], rfl, heap_alloc_new w _, Nat.le_refl _, by unfold maxLen; omega, by simp, by simp⟩⟩
  have H0 := Lib.hid hs0; clear hs0
  have hsrc : ∀ j u, (xs.map (Value.int .i64))[j]? = some u → (w.alloc (.cells #[] 3)).cell? ((⟨g, 0, none⟩ : Addr).add j) = some u := by
    intro j u hu
    rcases hS.out.form with ⟨h0, _⟩ | ⟨g', cap', he, h1, h2, _, _, h4⟩
    · cases h0
    · injection he with he1 he2 he3
      injection he1 with he1
      injection he1 with he1
      subst he1
      rw [Addr.add_lit, Nat.zero_add]
      exact (Kept.alloc (fun _ => False) w _).cell (h4 j u hu) (by simp)
  have HS := Lib.hid hsrc; clear hsrc
  have hz : 0 + n = n := Nat.zero_add n
  have HZ := Lib.hid hz; clear hz
  go_wp2_with (at_builtin; go_must (refine wpList_append_sl _ rfl (.tmp 5) (.tmp 6) 65 rfl 3 i0 (.int .i64 0) 1 8 Try.underlying65 hi0 hz0 hz1 hz2 rfl (by decide) _ 0 [] rfl H0.out ⟨g, 0, none⟩ n cap (xs.map (Value.int .i64)) rfl (by rw [List.length_map, hN.out, Nat.mul_one]) HS.out ?c2 ?c3 ?c4 ?_))
  case c2 => intro u hu; obtain ⟨x, _, rfl⟩ := List.mem_map.1 hu; rfl
  case c3 => unfold maxLen; omega
  case c4 => omega
  · intro A' cap' w2 hs2 hg2 ho2 _
    have R1 := Lib.hid hs2; have R2 := Lib.hid hg2; have R3 := Lib.hid ho2
    clear hs2 hg2 ho2
    go_wp2
    go_ret
    refine ⟨.slice A' n cap', rfl, R1.out, ?_, ?_⟩
    · refine (Kept.alloc (fun _ => False) w (.cells #[] 3)).andThen (Kept.of_grownBy R2.out) (fun _ _ h => h) (fun k hk hx => ?_)
      simp [Value.ownBlock] at hx; omega
    · intro g' hg'
      rcases R3.out with h | h
      · rw [hg'] at h; simp [Value.ownBlock] at h; omega
      · rw [hg'] at h; simp at h; omega

theorem clone_int (v : Value) (xs : List Int) (w : World) (hsm : xs.length ≤ 1000000) (hs : SlO w 3 1 v xs.length (xs.map (Value.int .i64))) :
    Calls Try.prog 57 #[v] w fun e w' => ∃ v', e = .returned v' ∧ SlO w' 3 1 v' xs.length (xs.map (Value.int .i64)) ∧ Kept (fun _ => False) w w' ∧ ∀ g', v'.ownBlock = some g' → w.heap.size ≤ g' := by
  rcases hs.form with ⟨rfl, h0, _⟩ | ⟨g, cap, rfl, _⟩
  · refine (clone_nil_int w).mono ?_
    rintro e w' ⟨rfl, rfl⟩
    exact ⟨_, rfl, hs, Kept.refl _ _, by simp [Value.ownBlock]⟩
  · exact clone_some_int g cap _ xs w rfl hsm hs

set_option maxHeartbeats 400000 in
/-- List.All: the keys that there are now, boxed. -/
theorem all_int (b : Nat) (v : Value) (xs : List Int) (w : World) (hsm : xs.length ≤ 1000000) (hL : LAt w 67 3 b v (xs.map (Value.int .i64))) :
    Calls Try.prog 51 #[.pointer (some ⟨b, 0, none⟩)] w fun e w' => ∃ Bs v', e = .returned (.func (.func 61) #[] #[.pointer (some ⟨Bs, 0, none⟩)]) ∧ w.heap.size ≤ Bs ∧ w'.heap[Bs]? = some (.cells #[v'] 65 (0, 0)) ∧
      SlO w' 3 1 v' xs.length (xs.map (Value.int .i64)) ∧ Kept (fun _ => False) w w' ∧ ∀ g', v'.ownBlock = some g' → w.heap.size ≤ g' := by
  have c0 := cell_of_one hL.1
  have hs : SlO w 3 1 v xs.length (xs.map (Value.int .i64)) := by have := hL.2; rwa [List.length_map] at this
  have hcl := Lib.hid (clone_int v xs w hsm hs)
  clear hs hL
  go_enter Try.func51, Try.ntmps51
  go_wp2_with fail
  refine hcl.out.mono ?_
  rintro e w1 ⟨v', rfl, hs1, hk1, hg1⟩
  have H1 := Lib.hid hs1; have H2 := Lib.hid hk1; have H3 := Lib.hid hg1
  clear hs1 hk1 hg1
  go_wp2_with fail
  refine (values_int v' _ _ w1 H1.out).mono ?_
  rintro e w2 ⟨rfl, rfl⟩
  go_wp2_with fail
  go_ret
  exact ⟨w1.heap.size, v', rfl, H2.out.size, heap_alloc_new w1 _, H1.out.kept (Kept.alloc (fun _ => False) w1 _) (by simp), H2.out.trans (Kept.alloc _ w1 _), H3.out⟩

set_option maxRecDepth 100000 in
set_option maxHeartbeats 2000000 in
/-- The keys that All gives, gathered. -/
theorem gather_int (b : Nat) (v : Value) (xs : List Int) (w : World) (hsm : xs.length ≤ 1000000) (hL : LAt w 67 3 b v (xs.map (Value.int .i64))) :
    Calls Try.prog 35 #[.pointer (some ⟨b, 0, none⟩)] w fun e w' => ∃ v', e = .returned v' ∧ SlO w' 3 1 v' xs.length (xs.map (Value.int .i64)) ∧ Kept (fun _ => False) w w' ∧ ∀ g', v'.ownBlock = some g' → w.heap.size ≤ g' := by
  obtain ⟨i0, hi0, hz0, hz1, hz2⟩ := info_parts Try.info_int
  have hL1 := hL.kept (Kept.alloc (fun _ => False) w (.cells #[.slice none 0 0] 65)) (by simp) (by simp)
  have hall := Lib.hid (all_int b v xs _ hsm hL1)
  have hO := Lib.hid (heap_alloc_new w (.cells #[.slice none 0 0] 65))
  clear hL hL1
  refine (callsIn_wide (n := 5)).1 (callsIn_of_wp_marks Try.func35 rfl trivial ?_ rfl)
  refine wpIn_wide.2 ?_
  simp only [Try.ntmps35, List.size_toArray, List.length_cons, List.length_nil, Nat.reduceAdd, Nat.reduceSub, Array.replicate_succ, Array.replicate_zero, List.push_toArray, List.append_toArray, List.nil_append, List.cons_append]
  go_wp2_with fail
  refine hall.out.mono ?_
  rintro e w1 ⟨Bs, v', rfl, hBs, hbs, hs1, hk1, hg1⟩
  have ho1 := hk1.get hO.out (by simp)
  have hsz1 : w.heap.size < w1.heap.size := lt_of_block ho1
  have hbs1 : Bs < w1.heap.size := lt_of_block hbs
  have hBsw : w.heap.size + 1 ≤ Bs := by simpa using hBs
  have hg1' : ∀ g, v'.ownBlock = some g → w.heap.size + 1 ≤ g := fun g hg => by simpa using hg1 g hg
  have hk01 := (Kept.alloc (fun _ => False) w (.cells #[.slice none 0 0] 65)).trans hk1
  go_wp2_with fail
  refine (wpIn_wide (n := 5)).1 (wpIn_rangeFunc_ownG (F := Fence.wide) rfl (by omega) (gf := 61) (lb := #[.pointer (some ⟨Bs, 0, none⟩)]) rfl trivial (enters_of Try.func61 (by kernel_rfl) rfl)
    (iter_int 4 (by omega) Bs v' xs w1 (fun k => k = Bs ∨ v'.ownBlock = some k) (.inl rfl) (fun g hg => .inr hg) (cell_of_one hbs) hs1) (fun h k => Keeps.trans h k)
    (Keeps.putObj (by rintro k (rfl | hk); exact hbs1; exact hs1.lt hk)) (Below.refl _ _) (fun _ => rfl)
    (fun pre W => ∃ vo, LAt W 65 3 w.heap.size vo (pre.map (Value.int .i64)) ∧ Kept (fun _ => False) w W ∧ w1.heap.size ≤ W.heap.size ∧ ∀ g, vo.ownBlock = some g → w.heap.size ≤ g ∧ g ≠ Bs ∧ v'.ownBlock ≠ some g)
    (fun _ _ _ => False)
    (own_from (by
      rintro pre S W W' ⟨vo, h1, h2, h3, h4⟩ hk hS
      exact ⟨vo, hS.lat hk h1, hS.kept hk (by omega) h2, Nat.le_trans h3 hk.size, h4⟩))
    (fun _ _ _ _ _ hs _ _ => hs)
    ⟨.slice none 0 0, ⟨ho1, SlO.nil _ _ _⟩, hk01, Nat.le_refl _, by simp [Value.ownBlock]⟩
    (fun x => { tmps := #[.pointer (some ⟨b, 0, none⟩), undef, .slice none 0 0, .pointer (some ⟨w.heap.size, 0, none⟩), .int .i64 x, .pointer (some ⟨b, 0, none⟩), .func (.func 61) #[] #[.pointer (some ⟨Bs, 0, none⟩)], .int .i64 x, undef, undef, undef, undef, undef], defers := [] }) ?assign ?body ?done ?stop)
  case assign =>
    intro l x W K hK
    gi_wp2
    exact hK
  case body =>
    rintro l pre x W ⟨vo, hLo, hko, hsz, hgo⟩ hlt
    obtain ⟨hbo, hso⟩ := hLo
    rw [List.length_map] at hso
    have hc := cell_of_one hbo
    have hgb : ∀ g, vo.ownBlock = some g → g ≠ w.heap.size := fun g hg => LAt.ne (t := 65) (e := 3) (cs := pre.map (Value.int .i64)) ⟨hbo, by rw [List.length_map]; exact hso⟩ (by decide) hg
    have HB := Lib.hid hbo; have HS := Lib.hid hso; have HK := Lib.hid hko; have HG := Lib.hid hgo; have HN := Lib.hid hgb
    clear hbo hso hko hgo hgb
    gi_wp2_with (gi_at_builtin; refine wpListIn_append_sl _ rfl (.tmp 8) (.tmp 10) 65 rfl 3 i0 (.int .i64 0) 1 8 Try.underlying65 hi0 hz0 hz1 hz2 rfl (by decide) _ pre.length _ rfl (HS.out.kept (Kept.alloc (fun _ => False) _ _) (by simp)) ⟨W.heap.size, 0, none⟩ 1 1 [.int .i64 x] rfl rfl (Go.cell_one_new _ _ _) (by intro u hu; simp at hu; subst hu; rfl) (by unfold maxLen; omega) (by omega) ?_; intro A' cap' w2 hs2 hg2 ho2; have hk2 : Kept (fun y => vo.ownBlock = some y) W w2 := (Kept.alloc _ W _).trans (Kept.of_grownBy hg2); have hb2 := hk2.get HB.out (fun h => HN.out _ h rfl); have c2 := cell_of_one hb2; have f2 := free_of_one hb2; have R1 := Lib.hid hs2; have R2 := Lib.hid hk2; have R3 := Lib.hid ho2; have R4 := Lib.hid hb2; clear hs2 hg2 ho2 hk2 hb2)
    have hl2 : Lies W vo (.slice A' (pre.length + 1) cap') := by
      rcases R3.out with h | h
      · exact .inl h
      · exact .inr ⟨_, h, by simp⟩
    obtain ⟨hr1, hr2⟩ := LAt.stored (t := 65) R4.out (lt_of_block HB.out) R2.out R1.out hl2 HN.out
    have hTk : ∀ k, (vo.ownBlock = some k ∨ k = w.heap.size) → ¬ (k = Bs ∨ v'.ownBlock = some k) := by
      rintro k (h | h) (h' | h')
      · exact (HG.out k h).2.1 h'
      · exact (HG.out k h).2.2 h'
      · omega
      · have := hg1' k h'; omega
    refine ⟨keepsFrom_of_kept hr2 ?_, hr2.mono (fun k _ h => hTk k h), .slice A' (pre.length + 1) cap', ?_, HK.out.andThen hr2 (fun _ _ h => h) ?_, ?_, ?_⟩
    · rintro k (h | h) o ho _
      · rcases HS.out.2 with ⟨rfl, _⟩ | ⟨g', cap, cur, rfl, hh, _⟩
        · simp [Value.ownBlock] at h
        · have : g' = k := by simpa [Value.ownBlock] using h
          subst this
          rw [hh] at ho
          injection ho with ho
          subst ho
          rfl
      · subst h
        rw [HB.out] at ho
        injection ho with ho
        subst ho
        rfl
    · rw [List.map_append]
      exact hr1
    · rintro k hk (h | h)
      · have := (HG.out k h).1; omega
      · omega
    · exact Nat.le_trans hsz hr2.size
    · intro g hg
      rcases hl2 with h | ⟨g', h, hle⟩
      · exact HG.out g (h ▸ hg)
      · rw [h] at hg; injection hg with hg
        subst hg
        refine ⟨by omega, by omega, fun h' => ?_⟩
        have := hs1.lt h'
        omega
  case done =>
    rintro D ys W hD rfl ⟨vo, hLo, hko, hsz, hgo⟩ hK
    have hc := cell_of_one hLo.1
    have hs' := hLo.2
    rw [List.length_map] at hs'
    go_wp2_with fail
    refine leaveM hK (results_tmp rfl _ _ _) ⟨vo, rfl, ?_, ?_, ?_⟩
    · refine hs'.kept (kept_putObj (· = D) W D _ rfl) (fun g hg h => ?_)
      subst h
      rcases hs'.2 with ⟨rfl, _⟩ | ⟨g', cap, cur, rfl, hh, _⟩
      · simp [Value.ownBlock] at hg
      · have : g' = g := by simpa [Value.ownBlock] using hg
        subst this
        rw [hh] at hK
        cases hK
    · exact hko.andThen (kept_putObj (· = D) W D _ rfl) (fun _ _ h => h) (fun k hk h => by omega)
    · exact fun g hg => (hgo g hg).1
  case stop =>
    rintro D c pre W _ _ h _
    exact h.elim

/-! ### keys of kind string -/
set_option maxRecDepth 100000 in
set_option maxHeartbeats 2000000 in
theorem values1_str (n : Nat) (hn : 1 ≤ n) (l Bs b off len cap : Nat) (X : Nat → ByteArray) (hm : len ≤ 9223372036854775807) (T : Nat → Prop) (hT1 : T Bs) (hT2 : T b) (J Jx : List ByteArray → World → Prop)
    (hY : ∀ pre x W, J pre W → pre.length < len → YieldAt Fence.wide (n - 1) Try.prog l #[.string x] W fun e W' =>
      (e = .returned (.bool true) ∧ J (pre ++ [x]) W' ∧ Keeps T W W') ∨ (e = .returned (.bool false) ∧ Jx (pre ++ [x]) W'))
    (W : World) (hBs : W.cell? ⟨Bs, 0, none⟩ = some (.slice (some ⟨b, off, none⟩) len cap)) (hc : ∀ j, j < len → W.cell? ⟨b, off + j, none⟩ = some (.string (X j))) (h0 : J [] W) :
    CallsIn Fence.wide n Try.prog 62 #[.func (.yield l) #[] #[], .pointer (some ⟨Bs, 0, none⟩)] W fun e W' => (∃ v, e = .returned v) ∧
      ((∃ ys, ys = upto X len ∧ J ys W') ∨ (∃ pre, (∃ k, k ≤ len ∧ pre = upto X k) ∧ Jx pre W')) := by
  have HC := Lib.hid hc; clear hc
  have HY := Lib.hid hY; clear hY
  refine callsIn_of_wp Try.func62 rfl trivial ?_ rfl
  simp only [Try.ntmps62, List.size_toArray, List.length_cons, List.length_nil, Nat.reduceAdd, Nat.reduceSub, Array.replicate_succ, Array.replicate_zero, List.push_toArray, List.append_toArray, List.nil_append, List.cons_append]
  gi_wp2
  gi_loopw [7] (fun i wr => ∃ k : Nat, k ≤ len ∧ i = .int .i64 k ∧ J (upto X k) wr ∧ Hid (Keeps T W wr))
    (fun i _ => len - (intOf i).toNat)
  case atStart => exact ⟨0, Nat.zero_le _, rfl, h0, Kept.refl _ _⟩
  case round =>
    obtain ⟨k, hk, rfl, hJs, hnx⟩ := hrel
    by_cases hlt : k < len
    · obtain ⟨fn, tmps, assign, body, hy, hR⟩ := HY.out _ (X k) wr hJs (by rw [upto_length]; exact hlt)
      have hcx' : wr.cell? ⟨b, off + k, none⟩ = some (.string (X k)) := Kept.cell hnx.out (HC.out k hlt) (fun h => h hT2)
      gi_wp2
      refine hR.mono ?_
      rintro e W3 (⟨rfl, hJ3, hk3⟩ | ⟨rfl, hJx3⟩)
      · gi_wp2
        go_roundw
        case rel => exact ⟨k + 1, by omega, by simp, by rw [upto_succ]; exact hJ3, hnx.out.trans hk3⟩
        case measure => simp [intOf]; omega
      · gi_wp2
        refine bodyPost_ret (results_none rfl _ _ _) rfl ?_
        exact ⟨⟨_, rfl⟩, .inr ⟨_, ⟨k + 1, by omega, (upto_succ _ _).symm⟩, hJx3⟩⟩
    · obtain rfl : k = len := by omega
      gi_wp2
      go_end0
      exact ⟨⟨_, rfl⟩, .inl ⟨_, rfl, hJs⟩⟩

set_option maxRecDepth 100000 in
set_option maxHeartbeats 1000000 in
theorem values1_nil_str (n : Nat) (l Bs : Nat) (J : List ByteArray → World → Prop) (W : World) (hBs : W.cell? ⟨Bs, 0, none⟩ = some (.slice none 0 0)) (h0 : J [] W) :
    CallsIn Fence.wide n Try.prog 62 #[.func (.yield l) #[] #[], .pointer (some ⟨Bs, 0, none⟩)] W fun e W' => (∃ v, e = .returned v) ∧ J [] W' := by
  refine callsIn_of_wp Try.func62 rfl trivial ?_ rfl
  simp only [Try.ntmps62, List.size_toArray, List.length_cons, List.length_nil, Nat.reduceAdd, Nat.reduceSub, Array.replicate_succ, Array.replicate_zero, List.push_toArray, List.append_toArray, List.nil_append, List.cons_append]
  gi_wp2
  gi_loopw [7] (fun i wr => i = .int .i64 0 ∧ J [] wr) (fun _ _ => 0)
  case atStart => exact ⟨rfl, h0⟩
  case round =>
    obtain ⟨rfl, hJs⟩ := hrel
    gi_wp2
    go_end0
    exact ⟨⟨_, rfl⟩, hJs⟩

set_option maxHeartbeats 400000 in
/-- slices.Values: the slice is boxed. -/
theorem values_str (v : Value) (n : Nat) (xs : List Value) (w : World) (hs : SlO w 9 1 v n xs) :
    Calls Try.prog 58 #[v] w fun e w' => e = .returned (.func (.func 62) #[] #[.pointer (some ⟨w.heap.size, 0, none⟩)]) ∧ w' = w.alloc (.cells #[v] 74) := by
  obtain ⟨A, cap, rfl, _⟩ := hs.isSlice
  clear hs
  have hmf : ∀ (fn : Fn) (first cap : Array Value) (w : World), (Instr.makeFunc fn first cap).run Try.prog w = .ok (.func fn first cap) w := fun _ _ _ _ => rfl
  go_enter Try.func58, Try.ntmps58
  go_wp2
  go_ret
  exact ⟨rfl, rfl⟩

/-- What slices.Values hands back goes through all elements, in order. -/
theorem iter_str (n : Nat) (hn : 1 ≤ n) (Bs : Nat) (v : Value) (xs : List ByteArray) (w : World) (T : Nat → Prop) (hT1 : T Bs) (hT2 : ∀ g, v.ownBlock = some g → T g)
    (hc : w.cell? ⟨Bs, 0, none⟩ = some v) (hs : SlO w 9 1 v xs.length (xs.map Value.string)) :
    SeqStopsK Fence.wide n Try.prog 62 #[.pointer (some ⟨Bs, 0, none⟩)] (fun x : ByteArray => #[.string x]) (Keeps T) (fun ys => ys = xs) (fun pre => pre <+: xs) xs.length w := fun l J Jx W hW _ _ hY h0 => by
  have hBs : Bs < w.heap.size := World.block_lt_of_cell? w _ hc
  have hc' := (hW.cell (p := ⟨Bs, 0, none⟩) hBs).trans hc
  rcases hs.form with ⟨rfl, h0', _⟩ | ⟨g, cap, rfl, h2, h3, h5, hg, h4⟩
  · obtain rfl : xs = [] := List.eq_nil_of_length_eq_zero h0'
    exact (values1_nil_str n l Bs J W hc' h0).mono fun e W' ⟨he, hj⟩ => ⟨he, .inl ⟨_, rfl, hj⟩⟩
  · have hcs : ∀ j, j < xs.length → W.cell? ⟨g, 0 + j, none⟩ = some (.string (xs.getD j default)) := fun j hj => by
      rw [Nat.zero_add]
      exact (hW.cell (p := ⟨g, j, none⟩) hg).trans (h4 j _ (by simp [List.getElem?_map, List.getElem?_eq_getElem hj, List.getD_eq_getElem?_getD]))
    refine (values1_str n hn l Bs g 0 xs.length cap (fun j => xs.getD j default) (by omega) T hT1 (hT2 g h5) J Jx hY W hc' hcs h0).mono ?_
    rintro e W' ⟨he, ⟨ys, rfl, hj⟩ | ⟨pre, ⟨k, hk, rfl⟩, hj⟩⟩
    · exact ⟨he, .inl ⟨_, by rw [upto_getD xs _ (Nat.le_refl _), List.take_length], hj⟩⟩
    · exact ⟨he, .inr ⟨_, by rw [upto_getD xs k hk]; exact List.take_prefix _ _, hj⟩⟩

set_option maxHeartbeats 400000 in
theorem clone_nil_str (w : World) : Calls Try.prog 59 #[.slice none 0 0] w fun e w' => e = .returned (.slice none 0 0) ∧ w = w' := by
  have hne := fun (w : World) a n c => Lib.run_eql_slice_nil (P := Try.prog) w 74 9 a n c 0 0 Try.underlying74
  go_enter Try.func59, Try.ntmps59
  go_wp2
  go_ret
  exact ⟨rfl, rfl⟩

set_option maxHeartbeats 400000 in
set_option maxRecDepth 100000 in
theorem clone_some_str (g cap n : Nat) (xs : List ByteArray) (w : World) (hn : n = xs.length) (hsm : n ≤ 1000000) (hs : SlO w 9 1 (.slice (some ⟨g, 0, none⟩) n cap) n (xs.map Value.string)) :
    Calls Try.prog 59 #[.slice (some ⟨g, 0, none⟩) n cap] w fun e w' => ∃ v', e = .returned v' ∧ SlO w' 9 1 v' n (xs.map Value.string) ∧ Kept (fun _ => False) w w' ∧ ∀ g', v'.ownBlock = some g' → w.heap.size ≤ g' := by
  obtain ⟨i0, hi0, hz0, hz1, hz2⟩ := info_parts Try.info_str
  have hS := Lib.hid hs; clear hs
  have hN := Lib.hid hn; clear hn
  have hcap : cap ≤ 9223372036854775807 := by
    rcases hS.out.form with ⟨h0, _⟩ | ⟨g', cap', he, h1, h2, _⟩
    · cases h0
    · injection he with he1 he2 he3; omega
  have hne := fun (w : World) a n c => Lib.run_eql_slice_nil (P := Try.prog) w 74 9 a n c 0 0 Try.underlying74
  go_enter Try.func59, Try.ntmps59
  have hs0 : SlO (w.alloc (.cells #[] 9)) 9 1 (.slice (some ⟨w.heap.size, 0, none⟩) 0 0) 0 [] := ⟨rfl, .inr ⟨w.heap.size, 0, #[], rfl, heap_alloc_new w _, Nat.le_refl _, by unfold maxLen; omega, by simp, by simp⟩⟩
  have H0 := Lib.hid hs0; clear hs0
  have hsrc : ∀ j u, (xs.map Value.string)[j]? = some u → (w.alloc (.cells #[] 9)).cell? ((⟨g, 0, none⟩ : Addr).add j) = some u := by
    intro j u hu
    rcases hS.out.form with ⟨h0, _⟩ | ⟨g', cap', he, h1, h2, _, _, h4⟩
    · cases h0
    · injection he with he1 he2 he3
      injection he1 with he1
      injection he1 with he1
      subst he1
      rw [Addr.add_lit, Nat.zero_add]
      exact (Kept.alloc (fun _ => False) w _).cell (h4 j u hu) (by simp)
  have HS := Lib.hid hsrc; clear hsrc
  have hz : 0 + n = n := Nat.zero_add n
  have HZ := Lib.hid hz; clear hz
  go_wp2_with (at_builtin; go_must (refine wpList_append_sl _ rfl (.tmp 5) (.tmp 6) 74 rfl 9 i0 (.string ByteArray.empty) 1 16 Try.underlying74 hi0 hz0 hz1 hz2 rfl (by decide) _ 0 [] rfl H0.out ⟨g, 0, none⟩ n cap (xs.map Value.string) rfl (by rw [List.length_map, hN.out, Nat.mul_one]) HS.out ?c2 ?c3 ?c4 ?_))
  case c2 => intro u hu; obtain ⟨x, _, rfl⟩ := List.mem_map.1 hu; rfl
  case c3 => unfold maxLen; omega
  case c4 => omega
  · intro A' cap' w2 hs2 hg2 ho2 _
    have R1 := Lib.hid hs2; have R2 := Lib.hid hg2; have R3 := Lib.hid ho2
    clear hs2 hg2 ho2
    go_wp2
    go_ret
    refine ⟨.slice A' n cap', rfl, R1.out, ?_, ?_⟩
    · refine (Kept.alloc (fun _ => False) w (.cells #[] 9)).andThen (Kept.of_grownBy R2.out) (fun _ _ h => h) (fun k hk hx => ?_)
      simp [Value.ownBlock] at hx; omega
    · intro g' hg'
      rcases R3.out with h | h
      · rw [hg'] at h; simp [Value.ownBlock] at h; omega
      · rw [hg'] at h; simp at h; omega

theorem clone_str (v : Value) (xs : List ByteArray) (w : World) (hsm : xs.length ≤ 1000000) (hs : SlO w 9 1 v xs.length (xs.map Value.string)) :
    Calls Try.prog 59 #[v] w fun e w' => ∃ v', e = .returned v' ∧ SlO w' 9 1 v' xs.length (xs.map Value.string) ∧ Kept (fun _ => False) w w' ∧ ∀ g', v'.ownBlock = some g' → w.heap.size ≤ g' := by
  rcases hs.form with ⟨rfl, h0, _⟩ | ⟨g, cap, rfl, _⟩
  · refine (clone_nil_str w).mono ?_
    rintro e w' ⟨rfl, rfl⟩
    exact ⟨_, rfl, hs, Kept.refl _ _, by simp [Value.ownBlock]⟩
  · exact clone_some_str g cap _ xs w rfl hsm hs

set_option maxHeartbeats 400000 in
/-- List.All: the keys that there are now, boxed. -/
theorem all_str (b : Nat) (v : Value) (xs : List ByteArray) (w : World) (hsm : xs.length ≤ 1000000) (hL : LAt w 76 9 b v (xs.map Value.string)) :
    Calls Try.prog 53 #[.pointer (some ⟨b, 0, none⟩)] w fun e w' => ∃ Bs v', e = .returned (.func (.func 62) #[] #[.pointer (some ⟨Bs, 0, none⟩)]) ∧ w.heap.size ≤ Bs ∧ w'.heap[Bs]? = some (.cells #[v'] 74 (0, 0)) ∧
      SlO w' 9 1 v' xs.length (xs.map Value.string) ∧ Kept (fun _ => False) w w' ∧ ∀ g', v'.ownBlock = some g' → w.heap.size ≤ g' := by
  have c0 := cell_of_one hL.1
  have hs : SlO w 9 1 v xs.length (xs.map Value.string) := by have := hL.2; rwa [List.length_map] at this
  have hcl := Lib.hid (clone_str v xs w hsm hs)
  clear hs hL
  go_enter Try.func53, Try.ntmps53
  go_wp2_with fail
  refine hcl.out.mono ?_
  rintro e w1 ⟨v', rfl, hs1, hk1, hg1⟩
  have H1 := Lib.hid hs1; have H2 := Lib.hid hk1; have H3 := Lib.hid hg1
  clear hs1 hk1 hg1
  go_wp2_with fail
  refine (values_str v' _ _ w1 H1.out).mono ?_
  rintro e w2 ⟨rfl, rfl⟩
  go_wp2_with fail
  go_ret
  exact ⟨w1.heap.size, v', rfl, H2.out.size, heap_alloc_new w1 _, H1.out.kept (Kept.alloc (fun _ => False) w1 _) (by simp), H2.out.trans (Kept.alloc _ w1 _), H3.out⟩

set_option maxRecDepth 100000 in
set_option maxHeartbeats 2000000 in
/-- The keys that All gives, gathered. -/
theorem gather_str (b : Nat) (v : Value) (xs : List ByteArray) (w : World) (hsm : xs.length ≤ 1000000) (hL : LAt w 76 9 b v (xs.map Value.string)) :
    Calls Try.prog 40 #[.pointer (some ⟨b, 0, none⟩)] w fun e w' => ∃ v', e = .returned v' ∧ SlO w' 9 1 v' xs.length (xs.map Value.string) ∧ Kept (fun _ => False) w w' ∧ ∀ g', v'.ownBlock = some g' → w.heap.size ≤ g' := by
  obtain ⟨i0, hi0, hz0, hz1, hz2⟩ := info_parts Try.info_str
  have hL1 := hL.kept (Kept.alloc (fun _ => False) w (.cells #[.slice none 0 0] 74)) (by simp) (by simp)
  have hall := Lib.hid (all_str b v xs _ hsm hL1)
  have hO := Lib.hid (heap_alloc_new w (.cells #[.slice none 0 0] 74))
  clear hL hL1
  refine (callsIn_wide (n := 5)).1 (callsIn_of_wp_marks Try.func40 rfl trivial ?_ rfl)
  refine wpIn_wide.2 ?_
  simp only [Try.ntmps40, List.size_toArray, List.length_cons, List.length_nil, Nat.reduceAdd, Nat.reduceSub, Array.replicate_succ, Array.replicate_zero, List.push_toArray, List.append_toArray, List.nil_append, List.cons_append]
  go_wp2_with fail
  refine hall.out.mono ?_
  rintro e w1 ⟨Bs, v', rfl, hBs, hbs, hs1, hk1, hg1⟩
  have ho1 := hk1.get hO.out (by simp)
  have hsz1 : w.heap.size < w1.heap.size := lt_of_block ho1
  have hbs1 : Bs < w1.heap.size := lt_of_block hbs
  have hBsw : w.heap.size + 1 ≤ Bs := by simpa using hBs
  have hg1' : ∀ g, v'.ownBlock = some g → w.heap.size + 1 ≤ g := fun g hg => by simpa using hg1 g hg
  have hk01 := (Kept.alloc (fun _ => False) w (.cells #[.slice none 0 0] 74)).trans hk1
  go_wp2_with fail
  refine (wpIn_wide (n := 5)).1 (wpIn_rangeFunc_ownG (F := Fence.wide) rfl (by omega) (gf := 62) (lb := #[.pointer (some ⟨Bs, 0, none⟩)]) rfl trivial (enters_of Try.func62 (by kernel_rfl) rfl)
    (iter_str 4 (by omega) Bs v' xs w1 (fun k => k = Bs ∨ v'.ownBlock = some k) (.inl rfl) (fun g hg => .inr hg) (cell_of_one hbs) hs1) (fun h k => Keeps.trans h k)
    (Keeps.putObj (by rintro k (rfl | hk); exact hbs1; exact hs1.lt hk)) (Below.refl _ _) (fun _ => rfl)
    (fun pre W => ∃ vo, LAt W 74 9 w.heap.size vo (pre.map Value.string) ∧ Kept (fun _ => False) w W ∧ w1.heap.size ≤ W.heap.size ∧ ∀ g, vo.ownBlock = some g → w.heap.size ≤ g ∧ g ≠ Bs ∧ v'.ownBlock ≠ some g)
    (fun _ _ _ => False)
    (own_from (by
      rintro pre S W W' ⟨vo, h1, h2, h3, h4⟩ hk hS
      exact ⟨vo, hS.lat hk h1, hS.kept hk (by omega) h2, Nat.le_trans h3 hk.size, h4⟩))
    (fun _ _ _ _ _ hs _ _ => hs)
    ⟨.slice none 0 0, ⟨ho1, SlO.nil _ _ _⟩, hk01, Nat.le_refl _, by simp [Value.ownBlock]⟩
    (fun x => { tmps := #[.pointer (some ⟨b, 0, none⟩), undef, .slice none 0 0, .pointer (some ⟨w.heap.size, 0, none⟩), .string x, .pointer (some ⟨b, 0, none⟩), .func (.func 62) #[] #[.pointer (some ⟨Bs, 0, none⟩)], .string x, undef, undef, undef, undef, undef], defers := [] }) ?assign ?body ?done ?stop)
  case assign =>
    intro l x W K hK
    gi_wp2
    exact hK
  case body =>
    rintro l pre x W ⟨vo, hLo, hko, hsz, hgo⟩ hlt
    obtain ⟨hbo, hso⟩ := hLo
    rw [List.length_map] at hso
    have hc := cell_of_one hbo
    have hgb : ∀ g, vo.ownBlock = some g → g ≠ w.heap.size := fun g hg => LAt.ne (t := 74) (e := 9) (cs := pre.map Value.string) ⟨hbo, by rw [List.length_map]; exact hso⟩ (by decide) hg
    have HB := Lib.hid hbo; have HS := Lib.hid hso; have HK := Lib.hid hko; have HG := Lib.hid hgo; have HN := Lib.hid hgb
    clear hbo hso hko hgo hgb
    gi_wp2_with (gi_at_builtin; refine wpListIn_append_sl _ rfl (.tmp 8) (.tmp 10) 74 rfl 9 i0 (.string ByteArray.empty) 1 16 Try.underlying74 hi0 hz0 hz1 hz2 rfl (by decide) _ pre.length _ rfl (HS.out.kept (Kept.alloc (fun _ => False) _ _) (by simp)) ⟨W.heap.size, 0, none⟩ 1 1 [.string x] rfl rfl (Go.cell_one_new _ _ _) (by intro u hu; simp at hu; subst hu; rfl) (by unfold maxLen; omega) (by omega) ?_; intro A' cap' w2 hs2 hg2 ho2; have hk2 : Kept (fun y => vo.ownBlock = some y) W w2 := (Kept.alloc _ W _).trans (Kept.of_grownBy hg2); have hb2 := hk2.get HB.out (fun h => HN.out _ h rfl); have c2 := cell_of_one hb2; have f2 := free_of_one hb2; have R1 := Lib.hid hs2; have R2 := Lib.hid hk2; have R3 := Lib.hid ho2; have R4 := Lib.hid hb2; clear hs2 hg2 ho2 hk2 hb2)
    have hl2 : Lies W vo (.slice A' (pre.length + 1) cap') := by
      rcases R3.out with h | h
      · exact .inl h
      · exact .inr ⟨_, h, by simp⟩
    obtain ⟨hr1, hr2⟩ := LAt.stored (t := 74) R4.out (lt_of_block HB.out) R2.out R1.out hl2 HN.out
    have hTk : ∀ k, (vo.ownBlock = some k ∨ k = w.heap.size) → ¬ (k = Bs ∨ v'.ownBlock = some k) := by
      rintro k (h | h) (h' | h')
      · exact (HG.out k h).2.1 h'
      · exact (HG.out k h).2.2 h'
      · omega
      · have := hg1' k h'; omega
    refine ⟨keepsFrom_of_kept hr2 ?_, hr2.mono (fun k _ h => hTk k h), .slice A' (pre.length + 1) cap', ?_, HK.out.andThen hr2 (fun _ _ h => h) ?_, ?_, ?_⟩
    · rintro k (h | h) o ho _
      · rcases HS.out.2 with ⟨rfl, _⟩ | ⟨g', cap, cur, rfl, hh, _⟩
        · simp [Value.ownBlock] at h
        · have : g' = k := by simpa [Value.ownBlock] using h
          subst this
          rw [hh] at ho
          injection ho with ho
          subst ho
          rfl
      · subst h
        rw [HB.out] at ho
        injection ho with ho
        subst ho
        rfl
    · rw [List.map_append]
      exact hr1
    · rintro k hk (h | h)
      · have := (HG.out k h).1; omega
      · omega
    · exact Nat.le_trans hsz hr2.size
    · intro g hg
      rcases hl2 with h | ⟨g', h, hle⟩
      · exact HG.out g (h ▸ hg)
      · rw [h] at hg; injection hg with hg
        subst hg
        refine ⟨by omega, by omega, fun h' => ?_⟩
        have := hs1.lt h'
        omega
  case done =>
    rintro D ys W hD rfl ⟨vo, hLo, hko, hsz, hgo⟩ hK
    have hc := cell_of_one hLo.1
    have hs' := hLo.2
    rw [List.length_map] at hs'
    go_wp2_with fail
    refine leaveM hK (results_tmp rfl _ _ _) ⟨vo, rfl, ?_, ?_, ?_⟩
    · refine hs'.kept (kept_putObj (· = D) W D _ rfl) (fun g hg h => ?_)
      subst h
      rcases hs'.2 with ⟨rfl, _⟩ | ⟨g', cap, cur, rfl, hh, _⟩
      · simp [Value.ownBlock] at hg
      · have : g' = g := by simpa [Value.ownBlock] using hg
        subst this
        rw [hh] at hK
        cases hK
    · exact hko.andThen (kept_putObj (· = D) W D _ rfl) (fun _ _ h => h) (fun k hk h => by omega)
    · exact fun g hg => (hgo g hg).1
  case stop =>
    rintro D c pre W _ _ h _
    exact h.elim

end Go.Proofs.Ytgldonfpiifnfaa
