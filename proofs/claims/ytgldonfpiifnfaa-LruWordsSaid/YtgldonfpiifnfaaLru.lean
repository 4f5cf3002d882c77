/- The contracts of lru.List at the kinds of key that the seat's laws use: Index, Contains, Drop, Use, Len, Has, Oldest. -/
import Derived.Test.YtgldonfpiifnfaaProg
import Derived.Test.YtgldonfpiifnfaaBase
import Derived.WalkLawsBesides
import Derived.Laws.StructEq
import Derived.WalkSpells
set_option linter.unusedVariables false
set_option linter.unusedSimpArgs false
namespace Go.Proofs.Ytgldonfpiifnfaa
open Go.RowKit

/-! ### keys of kind uint8 -/
theorem Try.info_u8 : (Try.prog.info? 5).map (fun i => (i.zero, i.size, i.bytes)) = some (some (.int .u8 0), 1, 1) := by kernel_rfl

set_option maxHeartbeats 400000 in
theorem index_u8 (A : Option Addr) (len cap : Nat) (X : Nat → Int) (k : Int) (r : Int) (w : World) (hm : len ≤ 9223372036854775807)
    (hc : len = 0 ∨ ∃ b off, A = some ⟨b, off, none⟩ ∧ ∀ j, j < len → w.cell? ⟨b, off + j, none⟩ = some (.int .u8 (X j)))
    (hmiss : (∀ t, t < len → X t ≠ k) → r = -1) (hhit : ∀ j : Nat, j < len → X j = k → (∀ t, t < j → X t ≠ k) → r = j) :
    Calls Try.prog 43 #[.slice A len cap, .int .u8 k] w fun e w' => e = .returned (.int .i64 r) ∧ w = w' := by
  have hmiss' := Lib.hid hmiss
  have hhit' := Lib.hid hhit
  clear hmiss hhit
  have HC := Lib.hid hc; clear hc
  go_enter Try.func43, Try.ntmps43
  go_wp2
  go_loop [8, 5] (fun i _ => ∃ j : Nat, j ≤ len ∧ i = .int .i64 j ∧ Hid (∀ t, t < j → X t ≠ k)) (fun i _ => len - (intOf i).toNat)
  case atStart => exact ⟨0, Nat.zero_le _, rfl, fun t h => absurd h (by omega)⟩
  case round =>
    obtain ⟨j, hj, rfl, HN⟩ := hrel
    by_cases hlt : j < len
    · rcases HC.out with h0 | ⟨b, off, rfl, hc⟩
      · exact absurd h0 (by omega)
      have hcell := hc j hlt
      clear hc HC
      by_cases he : k = X j
      · have he' : (k == X j) = true := by simpa using he
        have hr := hhit'.out j hlt he.symm HN.out
        clear he
        go_wp2
        go_ret
        exact ⟨rfl, rfl⟩
      · have he' : (k == X j) = false := by simpa using he
        have HN' : Hid (∀ t, t < j + 1 → X t ≠ k) := fun t ht => by
          by_cases h : t = j
          · subst h; exact fun hh => he hh.symm
          · exact HN.out t (by omega)
        clear he HN
        go_wp2
        go_round
        case rel => exact ⟨j + 1, by omega, by go_num, HN'⟩
        case measure => simp [intOf]; omega
    · have hr := hmiss'.out (fun t ht => HN.out t (by omega))
      go_wp2
      go_ret
      exact ⟨rfl, rfl⟩

theorem indexOf_u8 (v : Value) (xs : List Int) (k : Int) (w : World) (hs : SlO w 5 1 v xs.length (xs.map (Value.int .u8))) :
    Calls Try.prog 43 #[v, .int .u8 k] w fun e w' => e = .returned (.int .i64 (ixOf xs k)) ∧ w = w' := by
  have h1 : ∀ t (h : t < xs.length), xs.getD t default = xs[t] := fun t h => by simp [List.getD_eq_getElem?_getD, List.getElem?_eq_getElem h]
  have hmiss : (∀ t, t < xs.length → xs.getD t default ≠ k) → ixOf xs k = -1 := fun h => ixOf_miss fun t ht => by rw [← h1 t ht]; exact h t ht
  have hhit : ∀ j : Nat, j < xs.length → xs.getD j default = k → (∀ t, t < j → xs.getD t default ≠ k) → ixOf xs k = j := fun j hj h hn => ixOf_hit hj (by rw [← h1 j hj]; exact h) fun t ht => by rw [← h1 t (by omega)]; exact hn t ht
  rcases hs.form with ⟨rfl, h0, _⟩ | ⟨g, cap, rfl, h2, h3, _, _, h4⟩
  · rw [h0] at hmiss hhit
    exact index_u8 none 0 0 (fun j => xs.getD j default) k _ w (by omega) (.inl rfl) hmiss hhit
  · refine index_u8 (some ⟨g, 0, none⟩) xs.length cap (fun j => xs.getD j default) k _ w (by omega) (.inr ⟨g, 0, rfl, fun j hj => ?_⟩) hmiss hhit
    rw [Nat.zero_add]
    exact h4 j _ (by rw [List.getElem?_map, List.getElem?_eq_getElem hj]; simp [h1 j hj, List.getElem?_eq_getElem hj])

set_option maxHeartbeats 400000 in
theorem contains_u8 (v : Value) (xs : List Int) (k : Int) (w : World) (hs : SlO w 5 1 v xs.length (xs.map (Value.int .u8))) :
    Calls Try.prog 44 #[v, .int .u8 k] w fun e w' => e = .returned (.bool (decide (k ∈ xs))) ∧ w = w' := by
  have hi := Lib.hid (indexOf_u8 v xs k w hs)
  clear hs
  by_cases h : k ∈ xs
  · have hd : decide (k ∈ xs) = true := by simp [h]
    have h0 : 0 ≤ ixOf xs k := ixOf_nonneg h
    rw [hd]; clear hd h
    generalize ixOf xs k = r at *
    go_enter Try.func44, Try.ntmps44
    go_wp2_with (go_at_call 43; refine (hi.out).mono ?_; rintro e w' ⟨rfl, rfl⟩)
    go_ret
    exact ⟨rfl, rfl⟩
  · have hd : decide (k ∈ xs) = false := by simp [h]
    have h0 : ixOf xs k = -1 := ixOf_not h
    rw [hd]
    rw [h0] at hi; clear hd h h0
    go_enter Try.func44, Try.ntmps44
    go_wp2_with (go_at_call 43; refine (hi.out).mono ?_; rintro e w' ⟨rfl, rfl⟩)
    go_ret
    exact ⟨rfl, rfl⟩

set_option maxHeartbeats 400000 in
set_option maxRecDepth 100000 in
theorem drop_hit_u8 (b g len cap : Nat) (pre : List Int) (k : Int) (post : List Int) (w : World) (hlq : pre.length + 1 + post.length = len) (hsm : len ≤ 1000000)
    (hL : LAt w 26 5 b (.slice (some ⟨g, 0, none⟩) (len) cap) ((pre ++ k :: post).map (Value.int .u8)))
    (hidx : Calls Try.prog 43 #[.slice (some ⟨g, 0, none⟩) (len) cap, .int .u8 k] w fun e w' => e = .returned (.int .i64 pre.length) ∧ w = w') :
    Calls Try.prog 19 #[.pointer (some ⟨b, 0, none⟩), .int .u8 k] w fun e w' => e = .returned (.bool true) ∧
      ∃ v', LAt w' 26 5 b v' ((pre ++ post).map (Value.int .u8)) ∧ Kept (· = b) w w' ∧ Lies w (.slice (some ⟨g, 0, none⟩) (len) cap) v' := by
  obtain ⟨i0, hi0, hz0, hz1, hz2⟩ := info_parts Try.info_u8
  obtain ⟨hb, hs⟩ := hL
  have hlen : ((pre ++ k :: post).map (Value.int .u8)).length = len := by simp; omega
  rw [hlen] at hs
  have hgb : g ≠ b := LAt.ne (t := 26) (e := 5) (cs := (pre ++ k :: post).map (Value.int .u8)) ⟨hb, by rw [hlen]; exact hs⟩ (by decide) rfl
  have hcut := hs.cut (k := pre.length) (by omega)
  have hcs : ((pre ++ k :: post).map (Value.int .u8)).take (pre.length * 1) = pre.map (Value.int .u8) := by simp
  rw [hcs] at hcut
  obtain ⟨hcells, hcapm⟩ : (∀ j u, ((pre ++ k :: post).map (Value.int .u8))[j]? = some u → w.cell? ⟨g, j, none⟩ = some u) ∧ len ≤ cap ∧ cap ≤ 9223372036854775807 := by
    rcases hs.form with ⟨h0, _⟩ | ⟨g', cap', he, h1, h2, _, _, h3⟩
    · cases h0
    · injection he with he1 he2 he3
      injection he1 with he1
      injection he1 with he1
      subst he1; subst he3
      exact ⟨h3, h1, h2⟩
  have c0 := cell_of_one hb
  have f0 := free_of_one hb
  obtain ⟨A, hA, hnews⟩ : ∃ A : Addr, (if cap = pre.length + 1 then some (⟨g, 0, none⟩ : Addr) else some ⟨g, pre.length + 1, none⟩) = some A ∧ Hid (∀ (w0 : World), Kept (fun _ => False) w w0 → ∀ j u, (post.map (Value.int .u8))[j]? = some u → w0.cell? (A.add j) = some u) := by
    have key : ∀ (w0 : World), Kept (fun _ => False) w w0 → ∀ j u, (post.map (Value.int .u8))[j]? = some u → w0.cell? ⟨g, pre.length + 1 + j, none⟩ = some u := by
      intro w0 hk j u hu
      refine hk.cell (hcells (pre.length + 1 + j) u ?_) (by simp)
      rw [List.map_append, List.map_cons, List.getElem?_append_right (by simp; omega)]
      rw [show pre.length + 1 + j - (pre.map (Value.int .u8)).length = j + 1 by simp; omega]
      simpa using hu
    by_cases h : cap = pre.length + 1
    · refine ⟨⟨g, 0, none⟩, by simp [h], fun w0 hk j u hu => ?_⟩
      have : j < post.length := by simpa using (List.getElem?_eq_some_iff.1 hu).1
      omega
    · refine ⟨⟨g, pre.length + 1, none⟩, by simp [h], fun w0 hk j u hu => ?_⟩
      rw [Addr.add_lit]
      exact key w0 hk j u hu
  have hi := Lib.hid hidx; clear hidx
  have hh := Lib.hid hb; clear hb
  clear hcells hlen hcs
  have hS := Lib.hid hs; clear hs
  have hC := Lib.hid hcut; clear hcut
  have hwr : IntKind.i64.wrap ((pre.length : Int) + 1) = (pre.length : Int) + 1 := by rw [IntKind.wrap_i64]; omega
  have hp0 : (0 : Int) ≤ (pre.length : Int) + 1 := by omega
  have hp1 : (pre.length : Int) + 1 ≤ (len : Int) := by omega
  have hp2 : ((pre.length : Int) + 1).toNat = pre.length + 1 := by omega
  have hac : pre.length ≤ cap := by omega
  have hpl : len - (pre.length + 1) = post.length := by omega
  have hb1 : pre.length + post.length ≤ 1000000 := by omega
  have hlq' := Lib.hid hlq; clear hlq
  go_enter Try.func19, Try.ntmps19
  go_wp2_with (go_at_call 43; refine (hi.out).mono ?_; rintro e w' ⟨rfl, rfl⟩)
  go_region_law (refine step_append_full _ rfl (.tmp 21) (.tmp 28) 22 rfl 5 i0 (.int .u8 0) 1 1 Try.underlying22 hi0 hz0 hz1 hz2 rfl (by decide) _ pre.length _ rfl (hC.out.kept (Kept.drew (fun _ => False) _) (by simp)) A post.length (cap - (pre.length + 1)) (post.map (Value.int .u8)) rfl (by simp) (hnews.out _ (Kept.drew _ _)) (fun u hu => by obtain ⟨x, _, rfl⟩ := List.mem_map.1 hu; rfl) (by unfold maxLen; omega) (by omega) (fun A' cap' w1 hs1 hg1 ho1 => ?_); have hk1 := (Kept.drew (fun _ => False) w).trans hg1; have c1 := hk1.cell c0 (by simp); have hb2 := hk1.get hh.out (by simp); have f1 := free_of_one hb2; have HS := Lib.hid hs1; have HB := Lib.hid hb2; clear hs1 hg1 hb2)
  all_goals go_wp2
  all_goals go_ret
  all_goals
    obtain ⟨hr1, hr2⟩ := LAt.stored (v := .slice (some ⟨g, 0, none⟩) pre.length pre.length) HB.out (lt_of_block hh.out) hk1 HS.out ho1 (by intro g' hg'; injection hg' with hg'; subst hg'; exact hgb)
    refine ⟨rfl, _, ?_, hr2.mono (by simp), ho1⟩
    rw [List.map_append]
    exact hr1

set_option maxHeartbeats 400000 in
theorem drop_miss_u8 (b : Nat) (v : Value) (k : Int) (w : World) (hb : w.heap[b]? = some (.cells #[v] 26 (0, 0)))
    (hidx : Calls Try.prog 43 #[v, .int .u8 k] w fun e w' => e = .returned (.int .i64 (-1)) ∧ w = w') :
    Calls Try.prog 19 #[.pointer (some ⟨b, 0, none⟩), .int .u8 k] w fun e w' => e = .returned (.bool false) ∧ w = w' := by
  have c0 := cell_of_one hb
  clear hb
  have hi := Lib.hid hidx; clear hidx
  go_enter Try.func19, Try.ntmps19
  go_wp2_with (go_at_call 43; refine (hi.out).mono ?_; rintro e w' ⟨rfl, rfl⟩)
  go_ret
  exact ⟨rfl, rfl⟩

/-- Drop: whether it was there; the key is gone. -/
theorem drop_u8 (b : Nat) (v : Value) (xs : List Int) (k : Int) (w : World) (hsm : xs.length ≤ 1000000) (hL : LAt w 26 5 b v (xs.map (Value.int .u8))) :
    Calls Try.prog 19 #[.pointer (some ⟨b, 0, none⟩), .int .u8 k] w fun e w' => e = .returned (.bool (decide (k ∈ xs))) ∧
      ∃ v', LAt w' 26 5 b v' ((xs.erase k).map (Value.int .u8)) ∧ Kept (· = b) w w' ∧ Lies w v v' := by
  have hs : SlO w 5 1 v xs.length (xs.map (Value.int .u8)) := by have := hL.2; rwa [List.length_map] at this
  have hidx := indexOf_u8 v xs k w hs
  by_cases hk : k ∈ xs
  · obtain ⟨pre, post, rfl, hpre⟩ := append_of_mem_first hk
    have hix : ixOf (pre ++ k :: post) k = pre.length := ixOf_split hpre
    rw [hix] at hidx
    rcases hs.form with ⟨_, h0, _⟩ | ⟨g, cap, rfl, _⟩
    · simp at h0
    · refine (drop_hit_u8 b g _ cap pre k post w (by simp; omega) hsm hL hidx).mono fun e w' h => ?_
      rw [show decide (k ∈ pre ++ k :: post) = true by simp, erase_split hpre]
      exact h
  · rw [ixOf_not hk] at hidx
    refine (drop_miss_u8 b v k w hL.1 hidx).mono ?_
    rintro e w' ⟨rfl, rfl⟩
    refine ⟨by simp [hk], v, ?_, Kept.refl _ _, Lies.refl _ _⟩
    rw [List.erase_of_not_mem hk]
    exact hL

set_option maxHeartbeats 400000 in
/-- Use: whether it was there; the key is the last one. -/
theorem use_u8 (b : Nat) (v : Value) (xs : List Int) (k : Int) (w : World) (hsm : xs.length ≤ 999999) (hL : LAt w 26 5 b v (xs.map (Value.int .u8))) :
    Calls Try.prog 16 #[.pointer (some ⟨b, 0, none⟩), .int .u8 k] w fun e w' => e = .returned (.bool (decide (k ∈ xs))) ∧
      ∃ v', LAt w' 26 5 b v' ((xs.erase k ++ [k]).map (Value.int .u8)) ∧ Kept (fun x => x = b ∨ v.ownBlock = some x) w w' ∧ Lies w v v' := by
  obtain ⟨i0, hi0, hz0, hz1, hz2⟩ := info_parts Try.info_u8
  have hd := Lib.hid (drop_u8 b v xs k w (by omega) hL)
  have hbw : b < w.heap.size := lt_of_block hL.1
  have hvb : ∀ g, v.ownBlock = some g → g ≠ b := fun g hg => hL.ne (by decide) hg
  have hel : (xs.erase k).length ≤ xs.length := List.length_erase_le
  clear hL
  have HV := Lib.hid hvb; clear hvb
  generalize decide (k ∈ xs) = r at hd ⊢
  go_enter Try.func16, Try.ntmps16
  go_wp2_with fail
  refine (hd.out).mono ?_
  rintro e w1 ⟨rfl, v1, hL1, hk1, hl1⟩
  obtain ⟨hb1, hs1⟩ := hL1
  rw [List.length_map] at hs1
  have c1 := cell_of_one hb1
  have f1 := free_of_one hb1
  have hb1w := lt_of_block hb1
  have hv1b : ∀ g, v1.ownBlock = some g → g ≠ b := fun g hg => LAt.ne (t := 26) (e := 5) (cs := (xs.erase k).map (Value.int .u8)) ⟨hb1, by rw [List.length_map]; exact hs1⟩ (by decide) hg
  have H1 := Lib.hid hb1; clear hb1
  have H2 := Lib.hid hs1; clear hs1
  have H3 := Lib.hid hl1; clear hl1
  have H4 := Lib.hid hk1; clear hk1
  have H5 := Lib.hid hv1b; clear hv1b
  go_wp2_with (at_builtin; refine wpList_append_sl _ rfl (.tmp 13) (.tmp 15) 22 rfl 5 i0 (.int .u8 0) 1 1 Try.underlying22 hi0 hz0 hz1 hz2 rfl (by decide) _ (xs.erase k).length _ rfl (H2.out.kept (Kept.alloc (fun _ => False) _ _) (by simp)) ⟨w1.heap.size, 0, none⟩ 1 1 [.int .u8 k] rfl rfl ?c1 ?c2 ?c3 ?c4 ?_)
  case c1 =>
    intro j u hj
    match j, hj with
    | 0, hj => simp at hj; subst hj; simp [Addr.add]
  case c2 => intro u hu; simp at hu; subst hu; rfl
  case c3 => unfold maxLen; omega
  case c4 => omega
  · intro A' cap' w2 hs2 hg2 ho2 _
    have hk2 : Kept (fun x => v1.ownBlock = some x) w1 w2 := (Kept.alloc _ w1 _).trans ((Kept.of_grownBy hg2))
    have hb2 := hk2.get H1.out (fun h => H5.out b h rfl)
    have c2 := cell_of_one hb2
    have f2 := free_of_one hb2
    have hl2 : Lies w1 v1 (.slice A' ((xs.erase k).length + 1) cap') := by
      rcases ho2 with h | h
      · exact .inl h
      · exact .inr ⟨_, h, by simp⟩
    have hlt : b < w1.heap.size := hb1w
    obtain ⟨hr1, hr2⟩ := LAt.stored hb2 hlt hk2 hs2 hl2 H5.out
    have R1 := Lib.hid hr1; have R2 := Lib.hid hr2; have R3 := Lib.hid hl2
    clear hr1 hr2 hl2 hs2 hg2 ho2 hk2 hb2
    go_wp2
    go_ret
    refine ⟨rfl, _, ?_, (H4.out).andThen R2.out (fun x _ h => .inl h) ?_, H3.out.trans H4.out.size R3.out⟩
    · rw [List.map_append]
      exact R1.out
    · intro x hx h
      rcases h with h | h
      · rcases H3.out with h' | ⟨g, hg, hle⟩
        · exact .inr (h' ▸ h)
        · rw [h] at hg; injection hg with hg; omega
      · exact .inl h

set_option maxHeartbeats 400000 in
theorem len_u8 (b : Nat) (v : Value) (xs : List Int) (w : World) (hL : LAt w 26 5 b v (xs.map (Value.int .u8))) :
    Calls Try.prog 17 #[.pointer (some ⟨b, 0, none⟩)] w fun e w' => e = .returned (.int .i64 xs.length) ∧ w = w' := by
  have c0 := cell_of_one hL.1
  obtain ⟨A, cap, rfl, _⟩ := hL.2.isSlice
  rw [List.length_map] at c0
  clear hL
  go_enter Try.func17, Try.ntmps17
  go_wp2
  go_ret
  exact ⟨rfl, rfl⟩

set_option maxHeartbeats 400000 in
theorem has_u8 (b : Nat) (v : Value) (xs : List Int) (k : Int) (w : World) (hL : LAt w 26 5 b v (xs.map (Value.int .u8))) :
    Calls Try.prog 20 #[.pointer (some ⟨b, 0, none⟩), .int .u8 k] w fun e w' => e = .returned (.bool (decide (k ∈ xs))) ∧ w = w' := by
  have c0 := cell_of_one hL.1
  have hs : SlO w 5 1 v xs.length (xs.map (Value.int .u8)) := by have := hL.2; rwa [List.length_map] at this
  have hi := Lib.hid (contains_u8 v xs k w hs)
  clear hL hs
  generalize decide (k ∈ xs) = r at *
  go_enter Try.func20, Try.ntmps20
  go_wp2_with (go_at_call 44; refine (hi.out).mono ?_; rintro e w' ⟨rfl, rfl⟩)
  go_ret
  exact ⟨rfl, rfl⟩

set_option maxHeartbeats 400000 in
theorem oldest_nil_u8 (b : Nat) (v : Value) (w : World) (hL : LAt w 26 5 b v []) :
    Calls Try.prog 18 #[.pointer (some ⟨b, 0, none⟩)] w fun e w' => e = .returned (.tuple #[(.int .u8 0), .bool false]) ∧ w = w' := by
  have c0 := cell_of_one hL.1
  obtain ⟨A, cap, rfl, _⟩ := hL.2.isSlice
  rw [List.length_nil] at c0
  clear hL
  go_enter Try.func18, Try.ntmps18
  go_wp2
  go_ret2
  exact ⟨rfl, rfl⟩

set_option maxHeartbeats 400000 in
theorem oldest_cons_u8 (b : Nat) (v : Value) (x : Int) (xs : List Int) (w : World) (hL : LAt w 26 5 b v ((x :: xs).map (Value.int .u8))) :
    Calls Try.prog 18 #[.pointer (some ⟨b, 0, none⟩)] w fun e w' => e = .returned (.tuple #[.int .u8 x, .bool true]) ∧ w = w' := by
  have c0 := cell_of_one hL.1
  rcases hL.2.form with ⟨_, h0, _⟩ | ⟨g, cap, rfl, h2, h3, _, _, h4⟩
  · simp at h0
  have cg := h4 0 (.int .u8 x) rfl
  have hp : 0 < ((x :: xs).map (Value.int .u8)).length := by simp
  clear hL h4
  generalize ((x :: xs).map (Value.int .u8)).length = n at *
  have hz : ((n : Int) == 0) = false := by simp; omega
  go_enter Try.func18, Try.ntmps18
  go_wp2
  go_ret2
  exact ⟨rfl, rfl⟩

/-! ### keys of kind int -/
theorem Try.info_int : (Try.prog.info? 3).map (fun i => (i.zero, i.size, i.bytes)) = some (some (.int .i64 0), 1, 8) := by kernel_rfl

set_option maxHeartbeats 400000 in
theorem index_int (A : Option Addr) (len cap : Nat) (X : Nat → Int) (k : Int) (r : Int) (w : World) (hm : len ≤ 9223372036854775807)
    (hc : len = 0 ∨ ∃ b off, A = some ⟨b, off, none⟩ ∧ ∀ j, j < len → w.cell? ⟨b, off + j, none⟩ = some (.int .i64 (X j)))
    (hmiss : (∀ t, t < len → X t ≠ k) → r = -1) (hhit : ∀ j : Nat, j < len → X j = k → (∀ t, t < j → X t ≠ k) → r = j) :
    Calls Try.prog 50 #[.slice A len cap, .int .i64 k] w fun e w' => e = .returned (.int .i64 r) ∧ w = w' := by
  have hmiss' := Lib.hid hmiss
  have hhit' := Lib.hid hhit
  clear hmiss hhit
  have HC := Lib.hid hc; clear hc
  go_enter Try.func50, Try.ntmps50
  go_wp2
  go_loop [8, 5] (fun i _ => ∃ j : Nat, j ≤ len ∧ i = .int .i64 j ∧ Hid (∀ t, t < j → X t ≠ k)) (fun i _ => len - (intOf i).toNat)
  case atStart => exact ⟨0, Nat.zero_le _, rfl, fun t h => absurd h (by omega)⟩
  case round =>
    obtain ⟨j, hj, rfl, HN⟩ := hrel
    by_cases hlt : j < len
    · rcases HC.out with h0 | ⟨b, off, rfl, hc⟩
      · exact absurd h0 (by omega)
      have hcell := hc j hlt
      clear hc HC
      by_cases he : k = X j
      · have he' : (k == X j) = true := by simpa using he
        have hr := hhit'.out j hlt he.symm HN.out
        clear he
        go_wp2
        go_ret
        exact ⟨rfl, rfl⟩
      · have he' : (k == X j) = false := by simpa using he
        have HN' : Hid (∀ t, t < j + 1 → X t ≠ k) := fun t ht => by
          by_cases h : t = j
          · subst h; exact fun hh => he hh.symm
          · exact HN.out t (by omega)
        clear he HN
        go_wp2
        go_round
        case rel => exact ⟨j + 1, by omega, by go_num, HN'⟩
        case measure => simp [intOf]; omega
    · have hr := hmiss'.out (fun t ht => HN.out t (by omega))
      go_wp2
      go_ret
      exact ⟨rfl, rfl⟩

theorem indexOf_int (v : Value) (xs : List Int) (k : Int) (w : World) (hs : SlO w 3 1 v xs.length (xs.map (Value.int .i64))) :
    Calls Try.prog 50 #[v, .int .i64 k] w fun e w' => e = .returned (.int .i64 (ixOf xs k)) ∧ w = w' := by
  have h1 : ∀ t (h : t < xs.length), xs.getD t default = xs[t] := fun t h => by simp [List.getD_eq_getElem?_getD, List.getElem?_eq_getElem h]
  have hmiss : (∀ t, t < xs.length → xs.getD t default ≠ k) → ixOf xs k = -1 := fun h => ixOf_miss fun t ht => by rw [← h1 t ht]; exact h t ht
  have hhit : ∀ j : Nat, j < xs.length → xs.getD j default = k → (∀ t, t < j → xs.getD t default ≠ k) → ixOf xs k = j := fun j hj h hn => ixOf_hit hj (by rw [← h1 j hj]; exact h) fun t ht => by rw [← h1 t (by omega)]; exact hn t ht
  rcases hs.form with ⟨rfl, h0, _⟩ | ⟨g, cap, rfl, h2, h3, _, _, h4⟩
  · rw [h0] at hmiss hhit
    exact index_int none 0 0 (fun j => xs.getD j default) k _ w (by omega) (.inl rfl) hmiss hhit
  · refine index_int (some ⟨g, 0, none⟩) xs.length cap (fun j => xs.getD j default) k _ w (by omega) (.inr ⟨g, 0, rfl, fun j hj => ?_⟩) hmiss hhit
    rw [Nat.zero_add]
    exact h4 j _ (by rw [List.getElem?_map, List.getElem?_eq_getElem hj]; simp [h1 j hj, List.getElem?_eq_getElem hj])

set_option maxHeartbeats 400000 in
theorem contains_int (v : Value) (xs : List Int) (k : Int) (w : World) (hs : SlO w 3 1 v xs.length (xs.map (Value.int .i64))) :
    Calls Try.prog 49 #[v, .int .i64 k] w fun e w' => e = .returned (.bool (decide (k ∈ xs))) ∧ w = w' := by
  have hi := Lib.hid (indexOf_int v xs k w hs)
  clear hs
  by_cases h : k ∈ xs
  · have hd : decide (k ∈ xs) = true := by simp [h]
    have h0 : 0 ≤ ixOf xs k := ixOf_nonneg h
    rw [hd]; clear hd h
    generalize ixOf xs k = r at *
    go_enter Try.func49, Try.ntmps49
    go_wp2_with (go_at_call 50; refine (hi.out).mono ?_; rintro e w' ⟨rfl, rfl⟩)
    go_ret
    exact ⟨rfl, rfl⟩
  · have hd : decide (k ∈ xs) = false := by simp [h]
    have h0 : ixOf xs k = -1 := ixOf_not h
    rw [hd]
    rw [h0] at hi; clear hd h h0
    go_enter Try.func49, Try.ntmps49
    go_wp2_with (go_at_call 50; refine (hi.out).mono ?_; rintro e w' ⟨rfl, rfl⟩)
    go_ret
    exact ⟨rfl, rfl⟩

set_option maxHeartbeats 400000 in
set_option maxRecDepth 100000 in
theorem drop_hit_int (b g len cap : Nat) (pre : List Int) (k : Int) (post : List Int) (w : World) (hlq : pre.length + 1 + post.length = len) (hsm : len ≤ 1000000)
    (hL : LAt w 67 3 b (.slice (some ⟨g, 0, none⟩) (len) cap) ((pre ++ k :: post).map (Value.int .i64)))
    (hidx : Calls Try.prog 50 #[.slice (some ⟨g, 0, none⟩) (len) cap, .int .i64 k] w fun e w' => e = .returned (.int .i64 pre.length) ∧ w = w') :
    Calls Try.prog 33 #[.pointer (some ⟨b, 0, none⟩), .int .i64 k] w fun e w' => e = .returned (.bool true) ∧
      ∃ v', LAt w' 67 3 b v' ((pre ++ post).map (Value.int .i64)) ∧ Kept (· = b) w w' ∧ Lies w (.slice (some ⟨g, 0, none⟩) (len) cap) v' := by
  obtain ⟨i0, hi0, hz0, hz1, hz2⟩ := info_parts Try.info_int
  obtain ⟨hb, hs⟩ := hL
  have hlen : ((pre ++ k :: post).map (Value.int .i64)).length = len := by simp; omega
  rw [hlen] at hs
  have hgb : g ≠ b := LAt.ne (t := 67) (e := 3) (cs := (pre ++ k :: post).map (Value.int .i64)) ⟨hb, by rw [hlen]; exact hs⟩ (by decide) rfl
  have hcut := hs.cut (k := pre.length) (by omega)
  have hcs : ((pre ++ k :: post).map (Value.int .i64)).take (pre.length * 1) = pre.map (Value.int .i64) := by simp
  rw [hcs] at hcut
  obtain ⟨hcells, hcapm⟩ : (∀ j u, ((pre ++ k :: post).map (Value.int .i64))[j]? = some u → w.cell? ⟨g, j, none⟩ = some u) ∧ len ≤ cap ∧ cap ≤ 9223372036854775807 := by
    rcases hs.form with ⟨h0, _⟩ | ⟨g', cap', he, h1, h2, _, _, h3⟩
    · cases h0
    · injection he with he1 he2 he3
      injection he1 with he1
      injection he1 with he1
      subst he1; subst he3
      exact ⟨h3, h1, h2⟩
  have c0 := cell_of_one hb
  have f0 := free_of_one hb
  obtain ⟨A, hA, hnews⟩ : ∃ A : Addr, (if cap = pre.length + 1 then some (⟨g, 0, none⟩ : Addr) else some ⟨g, pre.length + 1, none⟩) = some A ∧ Hid (∀ (w0 : World), Kept (fun _ => False) w w0 → ∀ j u, (post.map (Value.int .i64))[j]? = some u → w0.cell? (A.add j) = some u) := by
    have key : ∀ (w0 : World), Kept (fun _ => False) w w0 → ∀ j u, (post.map (Value.int .i64))[j]? = some u → w0.cell? ⟨g, pre.length + 1 + j, none⟩ = some u := by
      intro w0 hk j u hu
      refine hk.cell (hcells (pre.length + 1 + j) u ?_) (by simp)
      rw [List.map_append, List.map_cons, List.getElem?_append_right (by simp; omega)]
      rw [show pre.length + 1 + j - (pre.map (Value.int .i64)).length = j + 1 by simp; omega]
      simpa using hu
    by_cases h : cap = pre.length + 1
    · refine ⟨⟨g, 0, none⟩, by simp [h], fun w0 hk j u hu => ?_⟩
      have : j < post.length := by simpa using (List.getElem?_eq_some_iff.1 hu).1
      omega
    · refine ⟨⟨g, pre.length + 1, none⟩, by simp [h], fun w0 hk j u hu => ?_⟩
      rw [Addr.add_lit]
      exact key w0 hk j u hu
  have hi := Lib.hid hidx; clear hidx
  have hh := Lib.hid hb; clear hb
  clear hcells hlen hcs
  have hS := Lib.hid hs; clear hs
  have hC := Lib.hid hcut; clear hcut
  have hwr : IntKind.i64.wrap ((pre.length : Int) + 1) = (pre.length : Int) + 1 := by rw [IntKind.wrap_i64]; omega
  have hp0 : (0 : Int) ≤ (pre.length : Int) + 1 := by omega
  have hp1 : (pre.length : Int) + 1 ≤ (len : Int) := by omega
  have hp2 : ((pre.length : Int) + 1).toNat = pre.length + 1 := by omega
  have hac : pre.length ≤ cap := by omega
  have hpl : len - (pre.length + 1) = post.length := by omega
  have hb1 : pre.length + post.length ≤ 1000000 := by omega
  have hlq' := Lib.hid hlq; clear hlq
  go_enter Try.func33, Try.ntmps33
  go_wp2_with (go_at_call 50; refine (hi.out).mono ?_; rintro e w' ⟨rfl, rfl⟩)
  go_region_law (refine step_append_full _ rfl (.tmp 21) (.tmp 28) 65 rfl 3 i0 (.int .i64 0) 1 8 Try.underlying65 hi0 hz0 hz1 hz2 rfl (by decide) _ pre.length _ rfl (hC.out.kept (Kept.drew (fun _ => False) _) (by simp)) A post.length (cap - (pre.length + 1)) (post.map (Value.int .i64)) rfl (by simp) (hnews.out _ (Kept.drew _ _)) (fun u hu => by obtain ⟨x, _, rfl⟩ := List.mem_map.1 hu; rfl) (by unfold maxLen; omega) (by omega) (fun A' cap' w1 hs1 hg1 ho1 => ?_); have hk1 := (Kept.drew (fun _ => False) w).trans hg1; have c1 := hk1.cell c0 (by simp); have hb2 := hk1.get hh.out (by simp); have f1 := free_of_one hb2; have HS := Lib.hid hs1; have HB := Lib.hid hb2; clear hs1 hg1 hb2)
  all_goals go_wp2
  all_goals go_ret
  all_goals
    obtain ⟨hr1, hr2⟩ := LAt.stored (v := .slice (some ⟨g, 0, none⟩) pre.length pre.length) HB.out (lt_of_block hh.out) hk1 HS.out ho1 (by intro g' hg'; injection hg' with hg'; subst hg'; exact hgb)
    refine ⟨rfl, _, ?_, hr2.mono (by simp), ho1⟩
    rw [List.map_append]
    exact hr1

set_option maxHeartbeats 400000 in
theorem drop_miss_int (b : Nat) (v : Value) (k : Int) (w : World) (hb : w.heap[b]? = some (.cells #[v] 67 (0, 0)))
    (hidx : Calls Try.prog 50 #[v, .int .i64 k] w fun e w' => e = .returned (.int .i64 (-1)) ∧ w = w') :
    Calls Try.prog 33 #[.pointer (some ⟨b, 0, none⟩), .int .i64 k] w fun e w' => e = .returned (.bool false) ∧ w = w' := by
  have c0 := cell_of_one hb
  clear hb
  have hi := Lib.hid hidx; clear hidx
  go_enter Try.func33, Try.ntmps33
  go_wp2_with (go_at_call 50; refine (hi.out).mono ?_; rintro e w' ⟨rfl, rfl⟩)
  go_ret
  exact ⟨rfl, rfl⟩

/-- Drop: whether it was there; the key is gone. -/
theorem drop_int (b : Nat) (v : Value) (xs : List Int) (k : Int) (w : World) (hsm : xs.length ≤ 1000000) (hL : LAt w 67 3 b v (xs.map (Value.int .i64))) :
    Calls Try.prog 33 #[.pointer (some ⟨b, 0, none⟩), .int .i64 k] w fun e w' => e = .returned (.bool (decide (k ∈ xs))) ∧
      ∃ v', LAt w' 67 3 b v' ((xs.erase k).map (Value.int .i64)) ∧ Kept (· = b) w w' ∧ Lies w v v' := by
  have hs : SlO w 3 1 v xs.length (xs.map (Value.int .i64)) := by have := hL.2; rwa [List.length_map] at this
  have hidx := indexOf_int v xs k w hs
  by_cases hk : k ∈ xs
  · obtain ⟨pre, post, rfl, hpre⟩ := append_of_mem_first hk
    have hix : ixOf (pre ++ k :: post) k = pre.length := ixOf_split hpre
    rw [hix] at hidx
    rcases hs.form with ⟨_, h0, _⟩ | ⟨g, cap, rfl, _⟩
    · simp at h0
    · refine (drop_hit_int b g _ cap pre k post w (by simp; omega) hsm hL hidx).mono fun e w' h => ?_
      rw [show decide (k ∈ pre ++ k :: post) = true by simp, erase_split hpre]
      exact h
  · rw [ixOf_not hk] at hidx
    refine (drop_miss_int b v k w hL.1 hidx).mono ?_
    rintro e w' ⟨rfl, rfl⟩
    refine ⟨by simp [hk], v, ?_, Kept.refl _ _, Lies.refl _ _⟩
    rw [List.erase_of_not_mem hk]
    exact hL

set_option maxHeartbeats 400000 in
/-- Use: whether it was there; the key is the last one. -/
theorem use_int (b : Nat) (v : Value) (xs : List Int) (k : Int) (w : World) (hsm : xs.length ≤ 999999) (hL : LAt w 67 3 b v (xs.map (Value.int .i64))) :
    Calls Try.prog 34 #[.pointer (some ⟨b, 0, none⟩), .int .i64 k] w fun e w' => e = .returned (.bool (decide (k ∈ xs))) ∧
      ∃ v', LAt w' 67 3 b v' ((xs.erase k ++ [k]).map (Value.int .i64)) ∧ Kept (fun x => x = b ∨ v.ownBlock = some x) w w' ∧ Lies w v v' := by
  obtain ⟨i0, hi0, hz0, hz1, hz2⟩ := info_parts Try.info_int
  have hd := Lib.hid (drop_int b v xs k w (by omega) hL)
  have hbw : b < w.heap.size := lt_of_block hL.1
  have hvb : ∀ g, v.ownBlock = some g → g ≠ b := fun g hg => hL.ne (by decide) hg
  have hel : (xs.erase k).length ≤ xs.length := List.length_erase_le
  clear hL
  have HV := Lib.hid hvb; clear hvb
  generalize decide (k ∈ xs) = r at hd ⊢
  go_enter Try.func34, Try.ntmps34
  go_wp2_with fail
  refine (hd.out).mono ?_
  rintro e w1 ⟨rfl, v1, hL1, hk1, hl1⟩
  obtain ⟨hb1, hs1⟩ := hL1
  rw [List.length_map] at hs1
  have c1 := cell_of_one hb1
  have f1 := free_of_one hb1
  have hb1w := lt_of_block hb1
  have hv1b : ∀ g, v1.ownBlock = some g → g ≠ b := fun g hg => LAt.ne (t := 67) (e := 3) (cs := (xs.erase k).map (Value.int .i64)) ⟨hb1, by rw [List.length_map]; exact hs1⟩ (by decide) hg
  have H1 := Lib.hid hb1; clear hb1
  have H2 := Lib.hid hs1; clear hs1
  have H3 := Lib.hid hl1; clear hl1
  have H4 := Lib.hid hk1; clear hk1
  have H5 := Lib.hid hv1b; clear hv1b
  go_wp2_with (at_builtin; refine wpList_append_sl _ rfl (.tmp 13) (.tmp 15) 65 rfl 3 i0 (.int .i64 0) 1 8 Try.underlying65 hi0 hz0 hz1 hz2 rfl (by decide) _ (xs.erase k).length _ rfl (H2.out.kept (Kept.alloc (fun _ => False) _ _) (by simp)) ⟨w1.heap.size, 0, none⟩ 1 1 [.int .i64 k] rfl rfl ?c1 ?c2 ?c3 ?c4 ?_)
  case c1 =>
    intro j u hj
    match j, hj with
    | 0, hj => simp at hj; subst hj; simp [Addr.add]
  case c2 => intro u hu; simp at hu; subst hu; rfl
  case c3 => unfold maxLen; omega
  case c4 => omega
  · intro A' cap' w2 hs2 hg2 ho2 _
    have hk2 : Kept (fun x => v1.ownBlock = some x) w1 w2 := (Kept.alloc _ w1 _).trans ((Kept.of_grownBy hg2))
    have hb2 := hk2.get H1.out (fun h => H5.out b h rfl)
    have c2 := cell_of_one hb2
    have f2 := free_of_one hb2
    have hl2 : Lies w1 v1 (.slice A' ((xs.erase k).length + 1) cap') := by
      rcases ho2 with h | h
      · exact .inl h
      · exact .inr ⟨_, h, by simp⟩
    have hlt : b < w1.heap.size := hb1w
    obtain ⟨hr1, hr2⟩ := LAt.stored hb2 hlt hk2 hs2 hl2 H5.out
    have R1 := Lib.hid hr1; have R2 := Lib.hid hr2; have R3 := Lib.hid hl2
    clear hr1 hr2 hl2 hs2 hg2 ho2 hk2 hb2
    go_wp2
    go_ret
    refine ⟨rfl, _, ?_, (H4.out).andThen R2.out (fun x _ h => .inl h) ?_, H3.out.trans H4.out.size R3.out⟩
    · rw [List.map_append]
      exact R1.out
    · intro x hx h
      rcases h with h | h
      · rcases H3.out with h' | ⟨g, hg, hle⟩
        · exact .inr (h' ▸ h)
        · rw [h] at hg; injection hg with hg; omega
      · exact .inl h

set_option maxHeartbeats 400000 in
theorem len_int (b : Nat) (v : Value) (xs : List Int) (w : World) (hL : LAt w 67 3 b v (xs.map (Value.int .i64))) :
    Calls Try.prog 36 #[.pointer (some ⟨b, 0, none⟩)] w fun e w' => e = .returned (.int .i64 xs.length) ∧ w = w' := by
  have c0 := cell_of_one hL.1
  obtain ⟨A, cap, rfl, _⟩ := hL.2.isSlice
  rw [List.length_map] at c0
  clear hL
  go_enter Try.func36, Try.ntmps36
  go_wp2
  go_ret
  exact ⟨rfl, rfl⟩

set_option maxHeartbeats 400000 in
theorem has_int (b : Nat) (v : Value) (xs : List Int) (k : Int) (w : World) (hL : LAt w 67 3 b v (xs.map (Value.int .i64))) :
    Calls Try.prog 32 #[.pointer (some ⟨b, 0, none⟩), .int .i64 k] w fun e w' => e = .returned (.bool (decide (k ∈ xs))) ∧ w = w' := by
  have c0 := cell_of_one hL.1
  have hs : SlO w 3 1 v xs.length (xs.map (Value.int .i64)) := by have := hL.2; rwa [List.length_map] at this
  have hi := Lib.hid (contains_int v xs k w hs)
  clear hL hs
  generalize decide (k ∈ xs) = r at *
  go_enter Try.func32, Try.ntmps32
  go_wp2_with (go_at_call 49; refine (hi.out).mono ?_; rintro e w' ⟨rfl, rfl⟩)
  go_ret
  exact ⟨rfl, rfl⟩

set_option maxHeartbeats 400000 in
theorem oldest_nil_int (b : Nat) (v : Value) (w : World) (hL : LAt w 67 3 b v []) :
    Calls Try.prog 37 #[.pointer (some ⟨b, 0, none⟩)] w fun e w' => e = .returned (.tuple #[(.int .i64 0), .bool false]) ∧ w = w' := by
  have c0 := cell_of_one hL.1
  obtain ⟨A, cap, rfl, _⟩ := hL.2.isSlice
  rw [List.length_nil] at c0
  clear hL
  go_enter Try.func37, Try.ntmps37
  go_wp2
  go_ret2
  exact ⟨rfl, rfl⟩

set_option maxHeartbeats 400000 in
theorem oldest_cons_int (b : Nat) (v : Value) (x : Int) (xs : List Int) (w : World) (hL : LAt w 67 3 b v ((x :: xs).map (Value.int .i64))) :
    Calls Try.prog 37 #[.pointer (some ⟨b, 0, none⟩)] w fun e w' => e = .returned (.tuple #[.int .i64 x, .bool true]) ∧ w = w' := by
  have c0 := cell_of_one hL.1
  rcases hL.2.form with ⟨_, h0, _⟩ | ⟨g, cap, rfl, h2, h3, _, _, h4⟩
  · simp at h0
  have cg := h4 0 (.int .i64 x) rfl
  have hp : 0 < ((x :: xs).map (Value.int .i64)).length := by simp
  clear hL h4
  generalize ((x :: xs).map (Value.int .i64)).length = n at *
  have hz : ((n : Int) == 0) = false := by simp; omega
  go_enter Try.func37, Try.ntmps37
  go_wp2
  go_ret2
  exact ⟨rfl, rfl⟩

/-! ### keys of kind string -/
theorem Try.info_str : (Try.prog.info? 9).map (fun i => (i.zero, i.size, i.bytes)) = some (some (.string ByteArray.empty), 1, 16) := by kernel_rfl

set_option maxHeartbeats 400000 in
theorem index_str (A : Option Addr) (len cap : Nat) (X : Nat → ByteArray) (k : ByteArray) (r : Int) (w : World) (hm : len ≤ 9223372036854775807)
    (hc : len = 0 ∨ ∃ b off, A = some ⟨b, off, none⟩ ∧ ∀ j, j < len → w.cell? ⟨b, off + j, none⟩ = some (.string (X j)))
    (hmiss : (∀ t, t < len → X t ≠ k) → r = -1) (hhit : ∀ j : Nat, j < len → X j = k → (∀ t, t < j → X t ≠ k) → r = j) :
    Calls Try.prog 52 #[.slice A len cap, .string k] w fun e w' => e = .returned (.int .i64 r) ∧ w = w' := by
  have hmiss' := Lib.hid hmiss
  have hhit' := Lib.hid hhit
  clear hmiss hhit
  have HC := Lib.hid hc; clear hc
  go_enter Try.func52, Try.ntmps52
  go_wp2
  go_loop [8, 5] (fun i _ => ∃ j : Nat, j ≤ len ∧ i = .int .i64 j ∧ Hid (∀ t, t < j → X t ≠ k)) (fun i _ => len - (intOf i).toNat)
  case atStart => exact ⟨0, Nat.zero_le _, rfl, fun t h => absurd h (by omega)⟩
  case round =>
    obtain ⟨j, hj, rfl, HN⟩ := hrel
    by_cases hlt : j < len
    · rcases HC.out with h0 | ⟨b, off, rfl, hc⟩
      · exact absurd h0 (by omega)
      have hcell := hc j hlt
      clear hc HC
      by_cases he : k = X j
      · have he' : (k.toList == (X j).toList) = true := by rw [← beq_toListBytes]; simpa using he
        have hr := hhit'.out j hlt he.symm HN.out
        clear he
        go_wp2
        go_ret
        exact ⟨rfl, rfl⟩
      · have he' : (k.toList == (X j).toList) = false := by rw [← beq_toListBytes]; simpa using he
        have HN' : Hid (∀ t, t < j + 1 → X t ≠ k) := fun t ht => by
          by_cases h : t = j
          · subst h; exact fun hh => he hh.symm
          · exact HN.out t (by omega)
        clear he HN
        go_wp2
        go_round
        case rel => exact ⟨j + 1, by omega, by go_num, HN'⟩
        case measure => simp [intOf]; omega
    · have hr := hmiss'.out (fun t ht => HN.out t (by omega))
      go_wp2
      go_ret
      exact ⟨rfl, rfl⟩

theorem indexOf_str (v : Value) (xs : List ByteArray) (k : ByteArray) (w : World) (hs : SlO w 9 1 v xs.length (xs.map Value.string)) :
    Calls Try.prog 52 #[v, .string k] w fun e w' => e = .returned (.int .i64 (ixOf xs k)) ∧ w = w' := by
  have h1 : ∀ t (h : t < xs.length), xs.getD t default = xs[t] := fun t h => by simp [List.getD_eq_getElem?_getD, List.getElem?_eq_getElem h]
  have hmiss : (∀ t, t < xs.length → xs.getD t default ≠ k) → ixOf xs k = -1 := fun h => ixOf_miss fun t ht => by rw [← h1 t ht]; exact h t ht
  have hhit : ∀ j : Nat, j < xs.length → xs.getD j default = k → (∀ t, t < j → xs.getD t default ≠ k) → ixOf xs k = j := fun j hj h hn => ixOf_hit hj (by rw [← h1 j hj]; exact h) fun t ht => by rw [← h1 t (by omega)]; exact hn t ht
  rcases hs.form with ⟨rfl, h0, _⟩ | ⟨g, cap, rfl, h2, h3, _, _, h4⟩
  · rw [h0] at hmiss hhit
    exact index_str none 0 0 (fun j => xs.getD j default) k _ w (by omega) (.inl rfl) hmiss hhit
  · refine index_str (some ⟨g, 0, none⟩) xs.length cap (fun j => xs.getD j default) k _ w (by omega) (.inr ⟨g, 0, rfl, fun j hj => ?_⟩) hmiss hhit
    rw [Nat.zero_add]
    exact h4 j _ (by rw [List.getElem?_map, List.getElem?_eq_getElem hj]; simp [h1 j hj, List.getElem?_eq_getElem hj])


set_option maxHeartbeats 400000 in
set_option maxRecDepth 100000 in
theorem drop_hit_str (b g len cap : Nat) (pre : List ByteArray) (k : ByteArray) (post : List ByteArray) (w : World) (hlq : pre.length + 1 + post.length = len) (hsm : len ≤ 1000000)
    (hL : LAt w 76 9 b (.slice (some ⟨g, 0, none⟩) (len) cap) ((pre ++ k :: post).map Value.string))
    (hidx : Calls Try.prog 52 #[.slice (some ⟨g, 0, none⟩) (len) cap, .string k] w fun e w' => e = .returned (.int .i64 pre.length) ∧ w = w') :
    Calls Try.prog 38 #[.pointer (some ⟨b, 0, none⟩), .string k] w fun e w' => e = .returned (.bool true) ∧
      ∃ v', LAt w' 76 9 b v' ((pre ++ post).map Value.string) ∧ Kept (· = b) w w' ∧ Lies w (.slice (some ⟨g, 0, none⟩) (len) cap) v' := by
  obtain ⟨i0, hi0, hz0, hz1, hz2⟩ := info_parts Try.info_str
  obtain ⟨hb, hs⟩ := hL
  have hlen : ((pre ++ k :: post).map Value.string).length = len := by simp; omega
  rw [hlen] at hs
  have hgb : g ≠ b := LAt.ne (t := 76) (e := 9) (cs := (pre ++ k :: post).map Value.string) ⟨hb, by rw [hlen]; exact hs⟩ (by decide) rfl
  have hcut := hs.cut (k := pre.length) (by omega)
  have hcs : ((pre ++ k :: post).map Value.string).take (pre.length * 1) = pre.map Value.string := by simp
  rw [hcs] at hcut
  obtain ⟨hcells, hcapm⟩ : (∀ j u, ((pre ++ k :: post).map Value.string)[j]? = some u → w.cell? ⟨g, j, none⟩ = some u) ∧ len ≤ cap ∧ cap ≤ 9223372036854775807 := by
    rcases hs.form with ⟨h0, _⟩ | ⟨g', cap', he, h1, h2, _, _, h3⟩
    · cases h0
    · injection he with he1 he2 he3
      injection he1 with he1
      injection he1 with he1
      subst he1; subst he3
      exact ⟨h3, h1, h2⟩
  have c0 := cell_of_one hb
  have f0 := free_of_one hb
  obtain ⟨A, hA, hnews⟩ : ∃ A : Addr, (if cap = pre.length + 1 then some (⟨g, 0, none⟩ : Addr) else some ⟨g, pre.length + 1, none⟩) = some A ∧ Hid (∀ (w0 : World), Kept (fun _ => False) w w0 → ∀ j u, (post.map Value.string)[j]? = some u → w0.cell? (A.add j) = some u) := by
    have key : ∀ (w0 : World), Kept (fun _ => False) w w0 → ∀ j u, (post.map Value.string)[j]? = some u → w0.cell? ⟨g, pre.length + 1 + j, none⟩ = some u := by
      intro w0 hk j u hu
      refine hk.cell (hcells (pre.length + 1 + j) u ?_) (by simp)
      rw [List.map_append, List.map_cons, List.getElem?_append_right (by simp; omega)]
      rw [show pre.length + 1 + j - (pre.map Value.string).length = j + 1 by simp; omega]
      simpa using hu
    by_cases h : cap = pre.length + 1
    · refine ⟨⟨g, 0, none⟩, by simp [h], fun w0 hk j u hu => ?_⟩
      have : j < post.length := by simpa using (List.getElem?_eq_some_iff.1 hu).1
      omega
    · refine ⟨⟨g, pre.length + 1, none⟩, by simp [h], fun w0 hk j u hu => ?_⟩
      rw [Addr.add_lit]
      exact key w0 hk j u hu
  have hi := Lib.hid hidx; clear hidx
  have hh := Lib.hid hb; clear hb
  clear hcells hlen hcs
  have hS := Lib.hid hs; clear hs
  have hC := Lib.hid hcut; clear hcut
  have hwr : IntKind.i64.wrap ((pre.length : Int) + 1) = (pre.length : Int) + 1 := by rw [IntKind.wrap_i64]; omega
  have hp0 : (0 : Int) ≤ (pre.length : Int) + 1 := by omega
  have hp1 : (pre.length : Int) + 1 ≤ (len : Int) := by omega
  have hp2 : ((pre.length : Int) + 1).toNat = pre.length + 1 := by omega
  have hac : pre.length ≤ cap := by omega
  have hpl : len - (pre.length + 1) = post.length := by omega
  have hb1 : pre.length + post.length ≤ 1000000 := by omega
  have hlq' := Lib.hid hlq; clear hlq
  go_enter Try.func38, Try.ntmps38
  go_wp2_with (go_at_call 52; refine (hi.out).mono ?_; rintro e w' ⟨rfl, rfl⟩)
  go_region_law (refine step_append_full _ rfl (.tmp 21) (.tmp 28) 74 rfl 9 i0 (.string ByteArray.empty) 1 16 Try.underlying74 hi0 hz0 hz1 hz2 rfl (by decide) _ pre.length _ rfl (hC.out.kept (Kept.drew (fun _ => False) _) (by simp)) A post.length (cap - (pre.length + 1)) (post.map Value.string) rfl (by simp) (hnews.out _ (Kept.drew _ _)) (fun u hu => by obtain ⟨x, _, rfl⟩ := List.mem_map.1 hu; rfl) (by unfold maxLen; omega) (by omega) (fun A' cap' w1 hs1 hg1 ho1 => ?_); have hk1 := (Kept.drew (fun _ => False) w).trans hg1; have c1 := hk1.cell c0 (by simp); have hb2 := hk1.get hh.out (by simp); have f1 := free_of_one hb2; have HS := Lib.hid hs1; have HB := Lib.hid hb2; clear hs1 hg1 hb2)
  all_goals go_wp2
  all_goals go_ret
  all_goals
    obtain ⟨hr1, hr2⟩ := LAt.stored (v := .slice (some ⟨g, 0, none⟩) pre.length pre.length) HB.out (lt_of_block hh.out) hk1 HS.out ho1 (by intro g' hg'; injection hg' with hg'; subst hg'; exact hgb)
    refine ⟨rfl, _, ?_, hr2.mono (by simp), ho1⟩
    rw [List.map_append]
    exact hr1

set_option maxHeartbeats 400000 in
theorem drop_miss_str (b : Nat) (v : Value) (k : ByteArray) (w : World) (hb : w.heap[b]? = some (.cells #[v] 76 (0, 0)))
    (hidx : Calls Try.prog 52 #[v, .string k] w fun e w' => e = .returned (.int .i64 (-1)) ∧ w = w') :
    Calls Try.prog 38 #[.pointer (some ⟨b, 0, none⟩), .string k] w fun e w' => e = .returned (.bool false) ∧ w = w' := by
  have c0 := cell_of_one hb
  clear hb
  have hi := Lib.hid hidx; clear hidx
  go_enter Try.func38, Try.ntmps38
  go_wp2_with (go_at_call 52; refine (hi.out).mono ?_; rintro e w' ⟨rfl, rfl⟩)
  go_ret
  exact ⟨rfl, rfl⟩

/-- Drop: whether it was there; the key is gone. -/
theorem drop_str (b : Nat) (v : Value) (xs : List ByteArray) (k : ByteArray) (w : World) (hsm : xs.length ≤ 1000000) (hL : LAt w 76 9 b v (xs.map Value.string)) :
    Calls Try.prog 38 #[.pointer (some ⟨b, 0, none⟩), .string k] w fun e w' => e = .returned (.bool (decide (k ∈ xs))) ∧
      ∃ v', LAt w' 76 9 b v' ((xs.erase k).map Value.string) ∧ Kept (· = b) w w' ∧ Lies w v v' := by
  have hs : SlO w 9 1 v xs.length (xs.map Value.string) := by have := hL.2; rwa [List.length_map] at this
  have hidx := indexOf_str v xs k w hs
  by_cases hk : k ∈ xs
  · obtain ⟨pre, post, rfl, hpre⟩ := append_of_mem_first hk
    have hix : ixOf (pre ++ k :: post) k = pre.length := ixOf_split hpre
    rw [hix] at hidx
    rcases hs.form with ⟨_, h0, _⟩ | ⟨g, cap, rfl, _⟩
    · simp at h0
    · refine (drop_hit_str b g _ cap pre k post w (by simp; omega) hsm hL hidx).mono fun e w' h => ?_
      rw [show decide (k ∈ pre ++ k :: post) = true by simp, erase_split hpre]
      exact h
  · rw [ixOf_not hk] at hidx
    refine (drop_miss_str b v k w hL.1 hidx).mono ?_
    rintro e w' ⟨rfl, rfl⟩
    refine ⟨by simp [hk], v, ?_, Kept.refl _ _, Lies.refl _ _⟩
    rw [List.erase_of_not_mem hk]
    exact hL

set_option maxHeartbeats 400000 in
/-- Use: whether it was there; the key is the last one. -/
theorem use_str (b : Nat) (v : Value) (xs : List ByteArray) (k : ByteArray) (w : World) (hsm : xs.length ≤ 999999) (hL : LAt w 76 9 b v (xs.map Value.string)) :
    Calls Try.prog 39 #[.pointer (some ⟨b, 0, none⟩), .string k] w fun e w' => e = .returned (.bool (decide (k ∈ xs))) ∧
      ∃ v', LAt w' 76 9 b v' ((xs.erase k ++ [k]).map Value.string) ∧ Kept (fun x => x = b ∨ v.ownBlock = some x) w w' ∧ Lies w v v' := by
  obtain ⟨i0, hi0, hz0, hz1, hz2⟩ := info_parts Try.info_str
  have hd := Lib.hid (drop_str b v xs k w (by omega) hL)
  have hbw : b < w.heap.size := lt_of_block hL.1
  have hvb : ∀ g, v.ownBlock = some g → g ≠ b := fun g hg => hL.ne (by decide) hg
  have hel : (xs.erase k).length ≤ xs.length := List.length_erase_le
  clear hL
  have HV := Lib.hid hvb; clear hvb
  generalize decide (k ∈ xs) = r at hd ⊢
  go_enter Try.func39, Try.ntmps39
  go_wp2_with fail
  refine (hd.out).mono ?_
  rintro e w1 ⟨rfl, v1, hL1, hk1, hl1⟩
  obtain ⟨hb1, hs1⟩ := hL1
  rw [List.length_map] at hs1
  have c1 := cell_of_one hb1
  have f1 := free_of_one hb1
  have hb1w := lt_of_block hb1
  have hv1b : ∀ g, v1.ownBlock = some g → g ≠ b := fun g hg => LAt.ne (t := 76) (e := 9) (cs := (xs.erase k).map Value.string) ⟨hb1, by rw [List.length_map]; exact hs1⟩ (by decide) hg
  have H1 := Lib.hid hb1; clear hb1
  have H2 := Lib.hid hs1; clear hs1
  have H3 := Lib.hid hl1; clear hl1
  have H4 := Lib.hid hk1; clear hk1
  have H5 := Lib.hid hv1b; clear hv1b
  go_wp2_with (at_builtin; refine wpList_append_sl _ rfl (.tmp 13) (.tmp 15) 74 rfl 9 i0 (.string ByteArray.empty) 1 16 Try.underlying74 hi0 hz0 hz1 hz2 rfl (by decide) _ (xs.erase k).length _ rfl (H2.out.kept (Kept.alloc (fun _ => False) _ _) (by simp)) ⟨w1.heap.size, 0, none⟩ 1 1 [.string k] rfl rfl ?c1 ?c2 ?c3 ?c4 ?_)
  case c1 =>
    intro j u hj
    match j, hj with
    | 0, hj => simp at hj; subst hj; simp [Addr.add]
  case c2 => intro u hu; simp at hu; subst hu; rfl
  case c3 => unfold maxLen; omega
  case c4 => omega
  · intro A' cap' w2 hs2 hg2 ho2 _
    have hk2 : Kept (fun x => v1.ownBlock = some x) w1 w2 := (Kept.alloc _ w1 _).trans ((Kept.of_grownBy hg2))
    have hb2 := hk2.get H1.out (fun h => H5.out b h rfl)
    have c2 := cell_of_one hb2
    have f2 := free_of_one hb2
    have hl2 : Lies w1 v1 (.slice A' ((xs.erase k).length + 1) cap') := by
      rcases ho2 with h | h
      · exact .inl h
      · exact .inr ⟨_, h, by simp⟩
    have hlt : b < w1.heap.size := hb1w
    obtain ⟨hr1, hr2⟩ := LAt.stored hb2 hlt hk2 hs2 hl2 H5.out
    have R1 := Lib.hid hr1; have R2 := Lib.hid hr2; have R3 := Lib.hid hl2
    clear hr1 hr2 hl2 hs2 hg2 ho2 hk2 hb2
    go_wp2
    go_ret
    refine ⟨rfl, _, ?_, (H4.out).andThen R2.out (fun x _ h => .inl h) ?_, H3.out.trans H4.out.size R3.out⟩
    · rw [List.map_append]
      exact R1.out
    · intro x hx h
      rcases h with h | h
      · rcases H3.out with h' | ⟨g, hg, hle⟩
        · exact .inr (h' ▸ h)
        · rw [h] at hg; injection hg with hg; omega
      · exact .inl h



end Go.Proofs.Ytgldonfpiifnfaa
