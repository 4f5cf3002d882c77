/- slices.Values, slices.Clone, List.All, slices.AppendSeq and slices.Collect at strings, the list a field of a greater struct. -/
import Derived.Test.YtaccppchhljnkaaLruO
import Derived.Test.YtaccppchhljnkaaIterBase
import Derived.Outline
import Derived.Deep.DeepMust
set_option linter.unusedVariables false
set_option linter.unusedSimpArgs false
namespace Go.Proofs.Ytaccppchhljnkaa
open Go.RowKit Go.Shelf
attribute [local go_sem] Oper.semAt_some
/-! ### keys of kind string -/
set_option maxRecDepth 100000 in
set_option maxHeartbeats 2000000 in
theorem values1O (n : Nat) (hn : 1 ≤ n) (l Bs b off len cap : Nat) (X : Nat → ByteArray) (hm : len ≤ 9223372036854775807) (T : Nat → Prop) (hT1 : T Bs) (hT2 : T b) (J Jx : List ByteArray → World → Prop)
    (hY : ∀ pre x W, J pre W → pre.length < len → YieldAt Fence.wide (n - 1) Try.prog l #[.string x] W fun e W' =>
      (e = .returned (.bool true) ∧ J (pre ++ [x]) W' ∧ Keeps T W W') ∨ (e = .returned (.bool false) ∧ Jx (pre ++ [x]) W'))
    (W : World) (hBs : W.cell? ⟨Bs, 0, none⟩ = some (.slice (some ⟨b, off, none⟩) len cap)) (hc : ∀ j, j < len → W.cell? ⟨b, off + j, none⟩ = some (.string (X j))) (h0 : J [] W) :
    CallsIn Fence.wide n Try.prog 49 #[.func (.yield l) #[] #[], .pointer (some ⟨Bs, 0, none⟩)] W fun e W' => (∃ v, e = .returned v) ∧
      ((∃ ys, ys = upto X len ∧ J ys W') ∨ (∃ pre, (∃ k, k ≤ len ∧ pre = upto X k) ∧ Jx pre W')) := by
  have HC := Lib.hid hc; clear hc
  have HY := Lib.hid hY; clear hY
  refine callsIn_of_wp Try.func49 rfl trivial ?_ rfl
  simp only [Try.ntmps49, List.size_toArray, List.length_cons, List.length_nil, Nat.reduceAdd, Nat.reduceSub, Array.replicate_succ, Array.replicate_zero, List.push_toArray, List.append_toArray, List.nil_append, List.cons_append]
  gi_wp2
  gi_loopw [7] (fun i wr => ∃ k : Nat, k ≤ len ∧ i = .int .i64 k ∧ J (upto X k) wr ∧ Hid (Keeps T W wr))
    (fun i _ => len - (intOf i).toNat)
  case atStart => exact ⟨0, Nat.zero_le _, rfl, h0, Kept.refl _ _⟩
  case round =>
    obtain ⟨k, hk, rfl, hJs, hnx⟩ := hrel
    by_cases hlt : k < len
    · obtain ⟨fn, tmps, assign, body, hy, hR⟩ := HY.out _ (X k) wr hJs (by rw [upto_length]; exact hlt)
      have hcx' : wr.cell? ⟨b, off + k, none⟩ = some (.string (X k)) := Kept.cell hnx.out (HC.out k hlt) (fun h => h hT2)
      gi_wp2
      refine hR.mono ?_
      rintro e W3 (⟨rfl, hJ3, hk3⟩ | ⟨rfl, hJx3⟩)
      · gi_wp2
        go_roundw
        case rel => exact ⟨k + 1, by omega, by simp, by rw [upto_succ]; exact hJ3, hnx.out.trans hk3⟩
        case measure => simp [intOf]; omega
      · gi_wp2
        refine bodyPost_ret (results_none rfl _ _ _) rfl ?_
        exact ⟨⟨_, rfl⟩, .inr ⟨_, ⟨k + 1, by omega, (upto_succ _ _).symm⟩, hJx3⟩⟩
    · obtain rfl : k = len := by omega
      gi_wp2
      go_end0
      exact ⟨⟨_, rfl⟩, .inl ⟨_, rfl, hJs⟩⟩

set_option maxRecDepth 100000 in
set_option maxHeartbeats 1000000 in
theorem values1_nilO (n : Nat) (l Bs : Nat) (J : List ByteArray → World → Prop) (W : World) (hBs : W.cell? ⟨Bs, 0, none⟩ = some (.slice none 0 0)) (h0 : J [] W) :
    CallsIn Fence.wide n Try.prog 49 #[.func (.yield l) #[] #[], .pointer (some ⟨Bs, 0, none⟩)] W fun e W' => (∃ v, e = .returned v) ∧ J [] W' := by
  refine callsIn_of_wp Try.func49 rfl trivial ?_ rfl
  simp only [Try.ntmps49, List.size_toArray, List.length_cons, List.length_nil, Nat.reduceAdd, Nat.reduceSub, Array.replicate_succ, Array.replicate_zero, List.push_toArray, List.append_toArray, List.nil_append, List.cons_append]
  gi_wp2
  gi_loopw [7] (fun i wr => i = .int .i64 0 ∧ J [] wr) (fun _ _ => 0)
  case atStart => exact ⟨rfl, h0⟩
  case round =>
    obtain ⟨rfl, hJs⟩ := hrel
    gi_wp2
    go_end0
    exact ⟨⟨_, rfl⟩, hJs⟩

set_option maxHeartbeats 400000 in
/-- slices.Values: the slice is boxed. -/
theorem valuesO (v : Value) (n : Nat) (xs : List Value) (w : World) (hs : SlO w 9 1 v n xs) :
    Calls Try.prog 43 #[v] w fun e w' => e = .returned (.func (.func 49) #[] #[.pointer (some ⟨w.heap.size, 0, none⟩)]) ∧ w' = w.alloc (.cells #[v] 29) := by
  obtain ⟨A, cap, rfl, _⟩ := hs.isSlice
  clear hs
  have hmf : ∀ (fn : Fn) (first cap : Array Value) (w : World), (Instr.makeFunc fn first cap).run Try.prog w = .ok (.func fn first cap) w := fun _ _ _ _ => rfl
  go_enter Try.func43, Try.ntmps43
  go_wp2
  go_ret
  exact ⟨rfl, rfl⟩

/-- What slices.Values hands back goes through all elements, in order. -/
theorem iterO (n : Nat) (hn : 1 ≤ n) (Bs : Nat) (v : Value) (xs : List ByteArray) (w : World) (T : Nat → Prop) (hT1 : T Bs) (hT2 : ∀ g, v.ownBlock = some g → T g)
    (hc : w.cell? ⟨Bs, 0, none⟩ = some v) (hs : SlO w 9 1 v xs.length (xs.map Value.string)) :
    SeqStopsK Fence.wide n Try.prog 49 #[.pointer (some ⟨Bs, 0, none⟩)] (fun x : ByteArray => #[.string x]) (Keeps T) (fun ys => ys = xs) (fun pre => pre <+: xs) xs.length w := fun l J Jx W hW _ _ hY h0 => by
  have hBs : Bs < w.heap.size := World.block_lt_of_cell? w _ hc
  have hc' := (hW.cell (p := ⟨Bs, 0, none⟩) hBs).trans hc
  rcases hs.form with ⟨rfl, h0', _⟩ | ⟨g, cap, rfl, h2, h3, h5, hg, h4⟩
  · obtain rfl : xs = [] := List.eq_nil_of_length_eq_zero h0'
    exact (values1_nilO n l Bs J W hc' h0).mono fun e W' ⟨he, hj⟩ => ⟨he, .inl ⟨_, rfl, hj⟩⟩
  · have hcs : ∀ j, j < xs.length → W.cell? ⟨g, 0 + j, none⟩ = some (.string (xs.getD j default)) := fun j hj => by
      rw [Nat.zero_add]
      exact (hW.cell (p := ⟨g, j, none⟩) hg).trans (h4 j _ (by simp [List.getElem?_map, List.getElem?_eq_getElem hj, List.getD_eq_getElem?_getD]))
    refine (values1O n hn l Bs g 0 xs.length cap (fun j => xs.getD j default) (by omega) T hT1 (hT2 g h5) J Jx hY W hc' hcs h0).mono ?_
    rintro e W' ⟨he, ⟨ys, rfl, hj⟩ | ⟨pre, ⟨k, hk, rfl⟩, hj⟩⟩
    · exact ⟨he, .inl ⟨_, by rw [upto_getD xs _ (Nat.le_refl _), List.take_length], hj⟩⟩
    · exact ⟨he, .inr ⟨_, by rw [upto_getD xs k hk]; exact List.take_prefix _ _, hj⟩⟩

set_option maxHeartbeats 400000 in
theorem clone_nilO (w : World) : Calls Try.prog 38 #[.slice none 0 0] w fun e w' => e = .returned (.slice none 0 0) ∧ w = w' := by
  have hne := fun (w : World) a n c => Lib.run_eql_slice_nil (P := Try.prog) w 29 9 a n c 0 0 Try.underlying29
  go_enter Try.func38, Try.ntmps38
  go_wp2
  go_ret
  exact ⟨rfl, rfl⟩

set_option maxHeartbeats 400000 in
set_option maxRecDepth 100000 in
theorem clone_someO (g cap n : Nat) (xs : List ByteArray) (w : World) (hn : n = xs.length) (hsm : n ≤ 1000000) (hs : SlO w 9 1 (.slice (some ⟨g, 0, none⟩) n cap) n (xs.map Value.string)) :
    Calls Try.prog 38 #[.slice (some ⟨g, 0, none⟩) n cap] w fun e w' => ∃ v', e = .returned v' ∧ SlO w' 9 1 v' n (xs.map Value.string) ∧ Kept (fun _ => False) w w' ∧ ∀ g', v'.ownBlock = some g' → w.heap.size ≤ g' := by
  obtain ⟨i0, hi0, hz0, hz1, hz2⟩ := info_parts Try.info_strO
  have hS := Lib.hid hs; clear hs
  have hN := Lib.hid hn; clear hn
  have hcap : cap ≤ 9223372036854775807 := by
    rcases hS.out.form with ⟨h0, _⟩ | ⟨g', cap', he, h1, h2, _⟩
    · cases h0
    · injection he with he1 he2 he3; omega
  have hne := fun (w : World) a n c => Lib.run_eql_slice_nil (P := Try.prog) w 29 9 a n c 0 0 Try.underlying29
  go_enter Try.func38, Try.ntmps38
  have hs0 : SlO (w.alloc (.cells #[] 9)) 9 1 (.slice (some ⟨w.heap.size, 0, none⟩) 0 0) 0 [] := ⟨rfl, .inr ⟨w.heap.size, 0, #[], rfl, heap_alloc_new w _, Nat.le_refl _, by unfold maxLen; omega, by simp, by simp⟩⟩
  have H0 := Lib.hid hs0; clear hs0
  have hsrc : ∀ j u, (xs.map Value.string)[j]? = some u → (w.alloc (.cells #[] 9)).cell? ((⟨g, 0, none⟩ : Addr).add j) = some u := by
    intro j u hu
    rcases hS.out.form with ⟨h0, _⟩ | ⟨g', cap', he, h1, h2, _, _, h4⟩
    · cases h0
    · injection he with he1 he2 he3
      injection he1 with he1
      injection he1 with he1
      subst he1
      rw [Addr.add_lit, Nat.zero_add]
      exact (Kept.alloc (fun _ => False) w _).cell (h4 j u hu) (by simp)
  have HS := Lib.hid hsrc; clear hsrc
  have hz : 0 + n = n := Nat.zero_add n
  have HZ := Lib.hid hz; clear hz
  go_wp2_with (at_builtin; go_must (refine wpList_append_sl _ rfl (.tmp 5) (.tmp 6) 29 rfl 9 i0 (.string ByteArray.empty) 1 16 Try.underlying29 hi0 hz0 hz1 hz2 rfl (by decide) _ 0 [] rfl H0.out ⟨g, 0, none⟩ n cap (xs.map Value.string) rfl (by rw [List.length_map, hN.out, Nat.mul_one]) HS.out ?c2 ?c3 ?c4 ?_))
  case c2 => intro u hu; obtain ⟨x, _, rfl⟩ := List.mem_map.1 hu; rfl
  case c3 => unfold maxLen; omega
  case c4 => omega
  · intro A' cap' w2 hs2 hg2 ho2 _
    have R1 := Lib.hid hs2; have R2 := Lib.hid hg2; have R3 := Lib.hid ho2
    clear hs2 hg2 ho2
    go_wp2
    go_ret
    refine ⟨.slice A' n cap', rfl, R1.out, ?_, ?_⟩
    · refine (Kept.alloc (fun _ => False) w (.cells #[] 9)).andThen (Kept.of_grownBy R2.out) (fun _ _ h => h) (fun k hk hx => ?_)
      simp [Value.ownBlock] at hx; omega
    · intro g' hg'
      rcases R3.out with h | h
      · rw [hg'] at h; simp [Value.ownBlock] at h; omega
      · rw [hg'] at h; simp at h; omega

theorem cloneO (v : Value) (xs : List ByteArray) (w : World) (hsm : xs.length ≤ 1000000) (hs : SlO w 9 1 v xs.length (xs.map Value.string)) :
    Calls Try.prog 38 #[v] w fun e w' => ∃ v', e = .returned v' ∧ SlO w' 9 1 v' xs.length (xs.map Value.string) ∧ Kept (fun _ => False) w w' ∧ ∀ g', v'.ownBlock = some g' → w.heap.size ≤ g' := by
  rcases hs.form with ⟨rfl, h0, _⟩ | ⟨g, cap, rfl, _⟩
  · refine (clone_nilO w).mono ?_
    rintro e w' ⟨rfl, rfl⟩
    exact ⟨_, rfl, hs, Kept.refl _ _, by simp [Value.ownBlock]⟩
  · exact clone_someO g cap _ xs w rfl hsm hs

set_option maxHeartbeats 400000 in
/-- List.All: the keys that there are now, boxed. -/
theorem allO (b off : Nat) (v : Value) (xs : List ByteArray) (w : World) (hsm : xs.length ≤ 1000000) (c0 : w.cell? ⟨b, off, none⟩ = some v) (hs : SlO w 9 1 v xs.length (xs.map Value.string)) :
    Calls Try.prog 30 #[.pointer (some ⟨b, off, none⟩)] w fun e w' => ∃ Bs v', e = .returned (.func (.func 49) #[] #[.pointer (some ⟨Bs, 0, none⟩)]) ∧ w.heap.size ≤ Bs ∧ w'.heap[Bs]? = some (.cells #[v'] 29 (0, 0)) ∧
      SlO w' 9 1 v' xs.length (xs.map Value.string) ∧ Kept (fun _ => False) w w' ∧ ∀ g', v'.ownBlock = some g' → w.heap.size ≤ g' := by
  have hcl := Lib.hid (cloneO v xs w hsm hs)
  clear hs
  go_enter Try.func30, Try.ntmps30
  go_wp2_with fail
  refine hcl.out.mono ?_
  rintro e w1 ⟨v', rfl, hs1, hk1, hg1⟩
  have H1 := Lib.hid hs1; have H2 := Lib.hid hk1; have H3 := Lib.hid hg1
  clear hs1 hk1 hg1
  go_wp2_with fail
  refine (valuesO v' _ _ w1 H1.out).mono ?_
  rintro e w2 ⟨rfl, rfl⟩
  go_wp2_with fail
  go_ret
  exact ⟨w1.heap.size, v', rfl, H2.out.size, heap_alloc_new w1 _, H1.out.kept (Kept.alloc (fun _ => False) w1 _) (by simp), H2.out.trans (Kept.alloc _ w1 _), H3.out⟩

set_option maxRecDepth 100000 in
set_option maxHeartbeats 2000000 in
/-- The keys that an iterator gives, gathered. -/
theorem appendSeqO (Bs : Nat) (v' : Value) (xs : List ByteArray) (w : World) (hsm : xs.length ≤ 1000000) (hbs0 : w.heap[Bs]? = some (.cells #[v'] 29 (0, 0))) (hs0 : SlO w 9 1 v' xs.length (xs.map Value.string)) :
    Calls Try.prog 42 #[.slice none 0 0, .func (.func 49) #[] #[.pointer (some ⟨Bs, 0, none⟩)]] w fun e w' => ∃ vo, e = .returned vo ∧ SlO w' 9 1 vo xs.length (xs.map Value.string) ∧ Kept (fun _ => False) w w' ∧ ∀ g', vo.ownBlock = some g' → w.heap.size ≤ g' := by
  obtain ⟨i0, hi0, hz0, hz1, hz2⟩ := info_parts Try.info_strO
  have ho1 := heap_alloc_new w (.cells #[.slice none 0 0] 29)
  have hk01 := Kept.alloc (fun _ => False) w (.cells #[.slice none 0 0] 29)
  have hbs := hk01.get hbs0 (by simp)
  have hs1 := hs0.kept hk01 (by simp)
  have hsw : (w.alloc (.cells #[.slice none 0 0] 29)).heap.size = w.heap.size + 1 := by simp
  have hBsw : Bs < w.heap.size := lt_in hbs0
  have hgw : ∀ g, v'.ownBlock = some g → g < w.heap.size := fun g hg => hs0.lt hg
  refine (callsIn_wide (n := 5)).1 (callsIn_of_wp_marks Try.func42 rfl trivial ?_ rfl)
  refine wpIn_wide.2 ?_
  simp only [Try.ntmps42, List.size_toArray, List.length_cons, List.length_nil, Nat.reduceAdd, Nat.reduceSub, Array.replicate_succ, Array.replicate_zero, List.push_toArray, List.append_toArray, List.nil_append, List.cons_append]
  go_wp2_with fail
  generalize w.alloc (.cells #[.slice none 0 0] 29) = w1 at *
  refine (wpIn_wide (n := 5)).1 (wpIn_rangeFunc_ownG (F := Fence.wide) rfl (by omega) (gf := 49) (lb := #[.pointer (some ⟨Bs, 0, none⟩)]) rfl trivial (enters_of Try.func49 (by kernel_rfl) rfl)
    (iterO 4 (by omega) Bs v' xs w1 (fun k => k = Bs ∨ v'.ownBlock = some k) (.inl rfl) (fun g hg => .inr hg) (cell_of_one hbs) hs1) (fun h k => Keeps.trans h k)
    (Keeps.putObj (by rintro k (rfl | hk); exact lt_in hbs; exact hs1.lt hk)) (Below.refl _ _) (fun _ => rfl)
    (fun pre W => ∃ vo, LAt W 29 9 w.heap.size vo (pre.map Value.string) ∧ Kept (fun _ => False) w W ∧ w1.heap.size ≤ W.heap.size ∧ ∀ g, vo.ownBlock = some g → w.heap.size ≤ g)
    (fun _ _ _ => False)
    (own_from (by
      rintro pre S W W' ⟨vo, h1, h2, h3, h4⟩ hk hS
      exact ⟨vo, hS.lat hk h1, hS.kept hk (by omega) h2, Nat.le_trans h3 hk.size, h4⟩))
    (fun _ _ _ _ _ hs _ _ => hs)
    ⟨.slice none 0 0, ⟨ho1, SlO.nil _ _ _⟩, hk01, Nat.le_refl _, by simp [Value.ownBlock]⟩
    (fun x => { tmps := #[.slice none 0 0, .func (.func 49) #[] #[.pointer (some ⟨Bs, 0, none⟩)], .pointer (some ⟨w.heap.size, 0, none⟩), undef, .slice none 0 0, .string x, .func (.func 49) #[] #[.pointer (some ⟨Bs, 0, none⟩)], .string x, undef, undef, undef, undef, undef], defers := [] }) ?assign ?body ?done ?stop)
  case assign =>
    intro l x W K hK
    gi_wp2
    exact hK
  case body =>
    rintro l pre x W ⟨vo, hLo, hko, hsz, hgo⟩ hlt
    obtain ⟨hbo, hso⟩ := hLo
    rw [List.length_map] at hso
    have hc := cell_of_one hbo
    have hgb : ∀ g, vo.ownBlock = some g → g ≠ w.heap.size := fun g hg => LAt.ne (t := 29) (e := 9) (cs := pre.map Value.string) ⟨hbo, by rw [List.length_map]; exact hso⟩ (by decide) hg
    have HB := Lib.hid hbo; have HS := Lib.hid hso; have HK := Lib.hid hko; have HG := Lib.hid hgo; have HN := Lib.hid hgb
    clear hbo hso hko hgo hgb
    gi_wp2_with (gi_at_builtin; refine wpListIn_append_sl _ rfl (.tmp 8) (.tmp 10) 29 rfl 9 i0 (.string ByteArray.empty) 1 16 Try.underlying29 hi0 hz0 hz1 hz2 rfl (by decide) _ pre.length _ rfl (HS.out.kept (Kept.alloc (fun _ => False) _ _) (by simp)) ⟨W.heap.size, 0, none⟩ 1 1 [.string x] rfl rfl (Go.cell_one_new _ _ _) (by intro u hu; simp at hu; subst hu; rfl) (by unfold maxLen; omega) (by omega) ?_; intro A' cap' w2 hs2 hg2 ho2; have hk2 : Kept (fun y => vo.ownBlock = some y) W w2 := (Kept.alloc _ W _).trans (Kept.of_grownBy hg2); have hb2 := hk2.get HB.out (fun h => HN.out _ h rfl); have c2 := cell_of_one hb2; have f2 := free_of_one hb2; have R1 := Lib.hid hs2; have R2 := Lib.hid hk2; have R3 := Lib.hid ho2; have R4 := Lib.hid hb2; clear hs2 hg2 ho2 hk2 hb2)
    have hl2 : Lies W vo (.slice A' (pre.length + 1) cap') := by
      rcases R3.out with h | h
      · exact .inl h
      · exact .inr ⟨_, h, by simp⟩
    obtain ⟨hr1, hr2⟩ := LAt.stored (t := 29) R4.out (lt_of_block HB.out) R2.out R1.out hl2 HN.out
    have hTk : ∀ k, (vo.ownBlock = some k ∨ k = w.heap.size) → ¬ (k = Bs ∨ v'.ownBlock = some k) := by
      rintro k (h | h) (h' | h')
      · have := HG.out k h; omega
      · have := HG.out k h; have := hgw k h'; omega
      · omega
      · have := hgw k h'; omega
    refine ⟨keepsFrom_of_kept hr2 ?_, hr2.mono (fun k _ h => hTk k h), .slice A' (pre.length + 1) cap', ?_, HK.out.andThen hr2 (fun _ _ h => h) ?_, ?_, ?_⟩
    · rintro k (h | h) o ho _
      · rcases HS.out.2 with ⟨rfl, _⟩ | ⟨g', cap, cur, rfl, hh, _⟩
        · simp [Value.ownBlock] at h
        · have : g' = k := by simpa [Value.ownBlock] using h
          subst this
          rw [hh] at ho
          injection ho with ho
          subst ho
          rfl
      · subst h
        rw [HB.out] at ho
        injection ho with ho
        subst ho
        rfl
    · rw [List.map_append]
      exact hr1
    · rintro k hk (h | h)
      · have := HG.out k h; omega
      · omega
    · exact Nat.le_trans hsz hr2.size
    · intro g hg
      rcases hl2 with h | ⟨g', h, hle⟩
      · exact HG.out g (h ▸ hg)
      · rw [h] at hg; injection hg with hg
        subst hg
        omega
  case done =>
    rintro D ys W hD rfl ⟨vo, hLo, hko, hsz, hgo⟩ hK
    have hc := cell_of_one hLo.1
    have hs' := hLo.2
    rw [List.length_map] at hs'
    go_wp2_with fail
    refine leaveM hK (results_tmp rfl _ _ _) ⟨vo, rfl, ?_, ?_, ?_⟩
    · refine hs'.kept (kept_putObj (· = D) W D _ rfl) (fun g hg h => ?_)
      subst h
      rcases hs'.2 with ⟨rfl, _⟩ | ⟨g', cap, cur, rfl, hh, _⟩
      · simp [Value.ownBlock] at hg
      · have : g' = g := by simpa [Value.ownBlock] using hg
        subst this
        rw [hh] at hK
        cases hK
    · exact hko.andThen (kept_putObj (· = D) W D _ rfl) (fun _ _ h => h) (fun k hk h => by omega)
    · exact fun g hg => hgo g hg
  case stop =>
    rintro D c pre W _ _ h _
    exact h.elim
set_option maxHeartbeats 400000 in
theorem collectO (Bs : Nat) (v' : Value) (xs : List ByteArray) (w : World) (hsm : xs.length ≤ 1000000) (hbs0 : w.heap[Bs]? = some (.cells #[v'] 29 (0, 0))) (hs0 : SlO w 9 1 v' xs.length (xs.map Value.string)) :
    Calls Try.prog 29 #[.func (.func 49) #[] #[.pointer (some ⟨Bs, 0, none⟩)]] w fun e w' => ∃ vo, e = .returned vo ∧ SlO w' 9 1 vo xs.length (xs.map Value.string) ∧ Kept (fun _ => False) w w' ∧ ∀ g', vo.ownBlock = some g' → w.heap.size ≤ g' := by
  have hcl := Lib.hid (appendSeqO Bs v' xs w hsm hbs0 hs0)
  clear hbs0 hs0
  go_enter Try.func29, Try.ntmps29
  go_wp2_with fail
  refine hcl.out.mono ?_
  rintro e w1 ⟨vo, rfl, hs1, hk1, hg1⟩
  have H1 := Lib.hid hs1; have H2 := Lib.hid hk1; have H3 := Lib.hid hg1
  clear hs1 hk1 hg1
  go_wp2_with fail
  go_ret
  exact ⟨vo, rfl, H1.out, H2.out, H3.out⟩
end Go.Proofs.Ytaccppchhljnkaa
