/- The contracts of lru.List[string] where the list is a field of a greater struct: Index, Contains, Drop, Use, Len, Has, Oldest, All. -/
import Derived.Test.YtaccppchhljnkaaProg
import Derived.Test.YtaccppchhljnkaaBase
import Derived.WalkLawsBesides
import Derived.Laws.StructEq
import Derived.WalkSpells
import Derived.Outline
import Derived.Deep.DeepMust
set_option linter.unusedVariables false
set_option linter.unusedSimpArgs false
namespace Go.Proofs.Ytaccppchhljnkaa
open Go.RowKit

/-- A slice in cell `off` of block b, whose cells are cs0; the slice's row lies in another block. -/
structure LAo (w : World) (t e : TypeId) (b off : Nat) (cs0 : Array Value) (v : Value) (cs : List Value) : Prop where
  blk : w.heap[b]? = some (.cells cs0 t (0, 0))
  here : cs0[off]? = some v
  sl : SlO w e 1 v cs.length cs
  ne : ∀ g, v.ownBlock = some g → g ≠ b
theorem cell_in {w : World} {b off : Nat} {cs0 : Array Value} {t : TypeId} {v : Value} (hb : w.heap[b]? = some (.cells cs0 t (0, 0))) (h : cs0[off]? = some v) : w.cell? ⟨b, off, none⟩ = some v := by
  rw [cell_of_row w b off cs0 t (0, 0) hb, h]
theorem free_in {w : World} {b off : Nat} {cs0 : Array Value} {t : TypeId} (hb : w.heap[b]? = some (.cells cs0 t (0, 0))) : w.frozen? ⟨b, off, none⟩ = false := by
  simp [World.frozen?, hb]
theorem LAo.cell {w : World} {t e : TypeId} {b off : Nat} {cs0 : Array Value} {v : Value} {cs : List Value} (h : LAo w t e b off cs0 v cs) : w.cell? ⟨b, off, none⟩ = some v := cell_in h.blk h.here
theorem LAo.kept {S : Nat → Prop} {w w' : World} {t e : TypeId} {b off : Nat} {cs0 : Array Value} {v : Value} {cs : List Value} (h : LAo w t e b off cs0 v cs) (hk : Kept S w w') (hb : ¬ S b) (hs : ∀ g, v.ownBlock = some g → ¬ S g) : LAo w' t e b off cs0 v cs :=
  ⟨hk.get h.blk hb, h.here, h.sl.kept hk hs, h.ne⟩
theorem heap_setCell_in {w : World} {b off : Nat} {cs0 : Array Value} {t : TypeId} (v : Value) (hb : w.heap[b]? = some (.cells cs0 t (0, 0))) : (w.setCell ⟨b, off, none⟩ v).heap[b]? = some (.cells (cs0.setIfInBounds off v) t (0, 0)) := by
  rw [setCell_eq_setRow w b off cs0 t (0, 0) v hb]
  exact setRow_heap w b cs0 _ t _ hb
/-- A new slice is stored into the field. -/
theorem LAo.stored {S : Nat → Prop} {w w1 : World} {t e : TypeId} {b off n : Nat} {cs0 : Array Value} {v0 v v' : Value} {cs : List Value} (hb : w1.heap[b]? = some (.cells cs0 t (0, 0))) (h0 : cs0[off]? = some v0) (hbw : b < w.heap.size) (hk : Kept S w w1) (hs : SlO w1 e 1 v' n cs) (hl : Lies w v v') (hv : ∀ g, v.ownBlock = some g → g ≠ b) :
    LAo (w1.setCell ⟨b, off, none⟩ v') t e b off (cs0.setIfInBounds off v') v' cs ∧ Kept (fun k => S k ∨ k = b) w (w1.setCell ⟨b, off, none⟩ v') := by
  have hne : ∀ g, v'.ownBlock = some g → g ≠ b := by
    intro g hg
    rcases hl with hl | ⟨g', hg', hle⟩
    · exact hv g (hl ▸ hg)
    · rw [hg] at hg'; injection hg' with hg'; omega
  have hof : off < cs0.size := (Array.getElem?_eq_some_iff.1 h0).1
  refine ⟨⟨heap_setCell_in v' hb, by simp [Array.getElem?_setIfInBounds, hof], ?_, hne⟩, hk.andThen (Kept.setCell (· = b) w1 _ _ rfl) (fun _ _ h => .inl h) (fun _ _ h => .inr h)⟩
  have : n = cs.length := by have := hs.1; omega
  subst this
  exact hs.kept (Kept.setCell (· = b) w1 _ _ rfl) hne
theorem lt_in {w : World} {b : Nat} {o : Obj} (hb : w.heap[b]? = some o) : b < w.heap.size := (Array.getElem?_eq_some_iff.1 hb).1

theorem Try.info_strO : (Try.prog.info? 9).map (fun i => (i.zero, i.size, i.bytes)) = some (some (.string ByteArray.empty), 1, 16) := by kernel_rfl

set_option maxHeartbeats 400000 in
theorem indexO (A : Option Addr) (len cap : Nat) (X : Nat → ByteArray) (k : ByteArray) (r : Int) (w : World) (hm : len ≤ 9223372036854775807)
    (hc : len = 0 ∨ ∃ b off, A = some ⟨b, off, none⟩ ∧ ∀ j, j < len → w.cell? ⟨b, off + j, none⟩ = some (.string (X j)))
    (hmiss : (∀ t, t < len → X t ≠ k) → r = -1) (hhit : ∀ j : Nat, j < len → X j = k → (∀ t, t < j → X t ≠ k) → r = j) :
    Calls Try.prog 48 #[.slice A len cap, .string k] w fun e w' => e = .returned (.int .i64 r) ∧ w = w' := by
  have hmiss' := Lib.hid hmiss
  have hhit' := Lib.hid hhit
  clear hmiss hhit
  have HC := Lib.hid hc; clear hc
  go_enter Try.func48, Try.ntmps48
  go_wp2
  go_loop [8, 5] (fun i _ => ∃ j : Nat, j ≤ len ∧ i = .int .i64 j ∧ Hid (∀ t, t < j → X t ≠ k)) (fun i _ => len - (intOf i).toNat)
  case atStart => exact ⟨0, Nat.zero_le _, rfl, fun t h => absurd h (by omega)⟩
  case round =>
    obtain ⟨j, hj, rfl, HN⟩ := hrel
    by_cases hlt : j < len
    · rcases HC.out with h0 | ⟨b, off, rfl, hc⟩
      · exact absurd h0 (by omega)
      have hcell := hc j hlt
      clear hc HC
      by_cases he : k = X j
      · have he' : (k.toList == (X j).toList) = true := by rw [← beq_toListBytes]; simpa using he
        have hr := hhit'.out j hlt he.symm HN.out
        clear he
        go_wp2
        go_ret
        exact ⟨rfl, rfl⟩
      · have he' : (k.toList == (X j).toList) = false := by rw [← beq_toListBytes]; simpa using he
        have HN' : Hid (∀ t, t < j + 1 → X t ≠ k) := fun t ht => by
          by_cases h : t = j
          · subst h; exact fun hh => he hh.symm
          · exact HN.out t (by omega)
        clear he HN
        go_wp2
        go_round
        case rel => exact ⟨j + 1, by omega, by go_num, HN'⟩
        case measure => simp [intOf]; omega
    · have hr := hmiss'.out (fun t ht => HN.out t (by omega))
      go_wp2
      go_ret
      exact ⟨rfl, rfl⟩

theorem indexOfO (v : Value) (xs : List ByteArray) (k : ByteArray) (w : World) (hs : SlO w 9 1 v xs.length (xs.map Value.string)) :
    Calls Try.prog 48 #[v, .string k] w fun e w' => e = .returned (.int .i64 (ixOf xs k)) ∧ w = w' := by
  have h1 : ∀ t (h : t < xs.length), xs.getD t default = xs[t] := fun t h => by simp [List.getD_eq_getElem?_getD, List.getElem?_eq_getElem h]
  have hmiss : (∀ t, t < xs.length → xs.getD t default ≠ k) → ixOf xs k = -1 := fun h => ixOf_miss fun t ht => by rw [← h1 t ht]; exact h t ht
  have hhit : ∀ j : Nat, j < xs.length → xs.getD j default = k → (∀ t, t < j → xs.getD t default ≠ k) → ixOf xs k = j := fun j hj h hn => ixOf_hit hj (by rw [← h1 j hj]; exact h) fun t ht => by rw [← h1 t (by omega)]; exact hn t ht
  rcases hs.form with ⟨rfl, h0, _⟩ | ⟨g, cap, rfl, h2, h3, _, _, h4⟩
  · rw [h0] at hmiss hhit
    exact indexO none 0 0 (fun j => xs.getD j default) k _ w (by omega) (.inl rfl) hmiss hhit
  · refine indexO (some ⟨g, 0, none⟩) xs.length cap (fun j => xs.getD j default) k _ w (by omega) (.inr ⟨g, 0, rfl, fun j hj => ?_⟩) hmiss hhit
    rw [Nat.zero_add]
    exact h4 j _ (by rw [List.getElem?_map, List.getElem?_eq_getElem hj]; simp [h1 j hj, List.getElem?_eq_getElem hj])

set_option maxHeartbeats 400000 in
theorem containsO (v : Value) (xs : List ByteArray) (k : ByteArray) (w : World) (hs : SlO w 9 1 v xs.length (xs.map Value.string)) :
    Calls Try.prog 44 #[v, .string k] w fun e w' => e = .returned (.bool (decide (k ∈ xs))) ∧ w = w' := by
  have hi := Lib.hid (indexOfO v xs k w hs)
  clear hs
  by_cases h : k ∈ xs
  · have hd : decide (k ∈ xs) = true := by simp [h]
    have h0 : 0 ≤ ixOf xs k := ixOf_nonneg h
    rw [hd]; clear hd h
    generalize ixOf xs k = r at *
    go_enter Try.func44, Try.ntmps44
    go_wp2_with (go_at_call 48; refine (hi.out).mono ?_; rintro e w' ⟨rfl, rfl⟩)
    go_ret
    exact ⟨rfl, rfl⟩
  · have hd : decide (k ∈ xs) = false := by simp [h]
    have h0 : ixOf xs k = -1 := ixOf_not h
    rw [hd]
    rw [h0] at hi; clear hd h h0
    go_enter Try.func44, Try.ntmps44
    go_wp2_with (go_at_call 48; refine (hi.out).mono ?_; rintro e w' ⟨rfl, rfl⟩)
    go_ret
    exact ⟨rfl, rfl⟩

set_option maxHeartbeats 400000 in
set_option maxRecDepth 100000 in
theorem drop_hitO (tt : TypeId) (b off : Nat) (cs0 : Array Value) (g len cap : Nat) (pre : List ByteArray) (k : ByteArray) (post : List ByteArray) (w : World) (hlq : pre.length + 1 + post.length = len) (hsm : len ≤ 1000000)
    (hL : LAo w tt 9 b off cs0 (.slice (some ⟨g, 0, none⟩) (len) cap) ((pre ++ k :: post).map Value.string))
    (hidx : Calls Try.prog 48 #[.slice (some ⟨g, 0, none⟩) (len) cap, .string k] w fun e w' => e = .returned (.int .i64 pre.length) ∧ w = w') :
    Calls Try.prog 39 #[.pointer (some ⟨b, off, none⟩), .string k] w fun e w' => e = .returned (.bool true) ∧
      ∃ v', LAo w' tt 9 b off (cs0.setIfInBounds off v') v' ((pre ++ post).map Value.string) ∧ Kept (· = b) w w' ∧ Lies w (.slice (some ⟨g, 0, none⟩) (len) cap) v' := by
  obtain ⟨i0, hi0, hz0, hz1, hz2⟩ := info_parts Try.info_strO
  obtain ⟨hb, hat, hs, hne⟩ := hL
  have hlen : ((pre ++ k :: post).map Value.string).length = len := by simp; omega
  rw [hlen] at hs
  have hgb : g ≠ b := hne g rfl
  have hcut := hs.cut (k := pre.length) (by omega)
  have hcs : ((pre ++ k :: post).map Value.string).take (pre.length * 1) = pre.map Value.string := by simp
  rw [hcs] at hcut
  obtain ⟨hcells, hcapm⟩ : (∀ j u, ((pre ++ k :: post).map Value.string)[j]? = some u → w.cell? ⟨g, j, none⟩ = some u) ∧ len ≤ cap ∧ cap ≤ 9223372036854775807 := by
    rcases hs.form with ⟨h0, _⟩ | ⟨g', cap', he, h1, h2, _, _, h3⟩
    · cases h0
    · injection he with he1 he2 he3
      injection he1 with he1
      injection he1 with he1
      subst he1; subst he3
      exact ⟨h3, h1, h2⟩
  have c0 := cell_in hb hat
  have f0 : w.frozen? ⟨b, off, none⟩ = false := free_in hb
  obtain ⟨A, hA, hnews⟩ : ∃ A : Addr, (if cap = pre.length + 1 then some (⟨g, 0, none⟩ : Addr) else some ⟨g, pre.length + 1, none⟩) = some A ∧ Hid (∀ (w0 : World), Kept (fun _ => False) w w0 → ∀ j u, (post.map Value.string)[j]? = some u → w0.cell? (A.add j) = some u) := by
    have key : ∀ (w0 : World), Kept (fun _ => False) w w0 → ∀ j u, (post.map Value.string)[j]? = some u → w0.cell? ⟨g, pre.length + 1 + j, none⟩ = some u := by
      intro w0 hk j u hu
      refine hk.cell (hcells (pre.length + 1 + j) u ?_) (by simp)
      rw [List.map_append, List.map_cons, List.getElem?_append_right (by simp; omega)]
      rw [show pre.length + 1 + j - (pre.map Value.string).length = j + 1 by simp; omega]
      simpa using hu
    by_cases h : cap = pre.length + 1
    · refine ⟨⟨g, 0, none⟩, by simp [h], fun w0 hk j u hu => ?_⟩
      have : j < post.length := by simpa using (List.getElem?_eq_some_iff.1 hu).1
      omega
    · refine ⟨⟨g, pre.length + 1, none⟩, by simp [h], fun w0 hk j u hu => ?_⟩
      rw [Addr.add_lit]
      exact key w0 hk j u hu
  have hi := Lib.hid hidx; clear hidx
  have hh := Lib.hid hb; clear hb
  have HAT := Lib.hid hat
  clear hcells hlen hcs hat hne
  have hS := Lib.hid hs; clear hs
  have hC := Lib.hid hcut; clear hcut
  have hwr : IntKind.i64.wrap ((pre.length : Int) + 1) = (pre.length : Int) + 1 := by rw [IntKind.wrap_i64]; omega
  have hp0 : (0 : Int) ≤ (pre.length : Int) + 1 := by omega
  have hp1 : (pre.length : Int) + 1 ≤ (len : Int) := by omega
  have hp2 : ((pre.length : Int) + 1).toNat = pre.length + 1 := by omega
  have hac : pre.length ≤ cap := by omega
  have hpl : len - (pre.length + 1) = post.length := by omega
  have hb1 : pre.length + post.length ≤ 1000000 := by omega
  have hlq' := Lib.hid hlq; clear hlq
  go_enter Try.func39, Try.ntmps39
  go_wp2_with (go_at_call 48; refine (hi.out).mono ?_; rintro e w' ⟨rfl, rfl⟩)
  go_region_law (refine step_append_full _ rfl (.tmp 21) (.tmp 28) 29 rfl 9 i0 (.string ByteArray.empty) 1 16 Try.underlying29 hi0 hz0 hz1 hz2 rfl (by decide) _ pre.length _ rfl (hC.out.kept (Kept.drew (fun _ => False) _) (by simp)) A post.length (cap - (pre.length + 1)) (post.map Value.string) rfl (by simp) (hnews.out _ (Kept.drew _ _)) (fun u hu => by obtain ⟨x, _, rfl⟩ := List.mem_map.1 hu; rfl) (by unfold maxLen; omega) (by omega) (fun A' cap' w1 hs1 hg1 ho1 => ?_); have hk1 := (Kept.drew (fun _ => False) w).trans hg1; have c1 := hk1.cell c0 (by simp); have hb2 := hk1.get hh.out (by simp); have f1 : w1.frozen? ⟨b, off, none⟩ = false := free_in hb2; have HS := Lib.hid hs1; have HB := Lib.hid hb2; clear hs1 hg1 hb2)
  all_goals go_wp2
  all_goals go_ret
  all_goals
    obtain ⟨hr1, hr2⟩ := LAo.stored (v := .slice (some ⟨g, 0, none⟩) pre.length pre.length) HB.out HAT.out (lt_in hh.out) hk1 HS.out ho1 (by intro g' hg'; injection hg' with hg'; subst hg'; exact hgb)
    refine ⟨rfl, _, ?_, hr2.mono (by simp), ho1⟩
    rw [List.map_append]
    exact hr1

set_option maxHeartbeats 400000 in
theorem drop_missO (b off : Nat) (v : Value) (k : ByteArray) (w : World) (c0 : w.cell? ⟨b, off, none⟩ = some v)
    (hidx : Calls Try.prog 48 #[v, .string k] w fun e w' => e = .returned (.int .i64 (-1)) ∧ w = w') :
    Calls Try.prog 39 #[.pointer (some ⟨b, off, none⟩), .string k] w fun e w' => e = .returned (.bool false) ∧ w = w' := by
  have hi := Lib.hid hidx; clear hidx
  go_enter Try.func39, Try.ntmps39
  go_wp2_with (go_at_call 48; refine (hi.out).mono ?_; rintro e w' ⟨rfl, rfl⟩)
  go_ret
  exact ⟨rfl, rfl⟩

theorem set_self {cs0 : Array Value} {off : Nat} {v : Value} (h : cs0[off]? = some v) : cs0.setIfInBounds off v = cs0 := by
  obtain ⟨ho, hv⟩ := Array.getElem?_eq_some_iff.1 h
  apply Array.ext (by simp)
  intro i h1 h2
  rw [Array.getElem_setIfInBounds (by simpa using h1)]
  split
  · rename_i e; subst e; exact hv.symm
  · rfl
/-- Drop: whether it was there; the key is gone. -/
theorem dropO (tt : TypeId) (b off : Nat) (cs0 : Array Value) (v : Value) (xs : List ByteArray) (k : ByteArray) (w : World) (hsm : xs.length ≤ 1000000) (hL : LAo w tt 9 b off cs0 v (xs.map Value.string)) :
    Calls Try.prog 39 #[.pointer (some ⟨b, off, none⟩), .string k] w fun e w' => e = .returned (.bool (decide (k ∈ xs))) ∧
      ∃ v', LAo w' tt 9 b off (cs0.setIfInBounds off v') v' ((xs.erase k).map Value.string) ∧ Kept (· = b) w w' ∧ Lies w v v' := by
  have hs : SlO w 9 1 v xs.length (xs.map Value.string) := by have := hL.sl; rwa [List.length_map] at this
  have hidx := indexOfO v xs k w hs
  by_cases hk : k ∈ xs
  · obtain ⟨pre, post, rfl, hpre⟩ := append_of_mem_first hk
    have hix : ixOf (pre ++ k :: post) k = pre.length := ixOf_split hpre
    rw [hix] at hidx
    rcases hs.form with ⟨_, h0, _⟩ | ⟨g, cap, rfl, _⟩
    · simp at h0
    · refine (drop_hitO tt b off cs0 g _ cap pre k post w (by simp; omega) hsm hL hidx).mono fun e w' h => ?_
      rw [show decide (k ∈ pre ++ k :: post) = true by simp, erase_split hpre]
      exact h
  · rw [ixOf_not hk] at hidx
    refine (drop_missO b off v k w hL.cell hidx).mono ?_
    rintro e w' ⟨rfl, rfl⟩
    refine ⟨by simp [hk], v, ?_, Kept.refl _ _, Lies.refl _ _⟩
    rw [List.erase_of_not_mem hk, set_self hL.here]
    exact hL

set_option maxHeartbeats 400000 in
/-- Use: whether it was there; the key is the last one. -/
theorem useO (tt : TypeId) (b off : Nat) (cs0 : Array Value) (v : Value) (xs : List ByteArray) (k : ByteArray) (w : World) (hsm : xs.length ≤ 999999) (hL : LAo w tt 9 b off cs0 v (xs.map Value.string)) :
    Calls Try.prog 37 #[.pointer (some ⟨b, off, none⟩), .string k] w fun e w' => e = .returned (.bool (decide (k ∈ xs))) ∧
      ∃ v', LAo w' tt 9 b off (cs0.setIfInBounds off v') v' ((xs.erase k ++ [k]).map Value.string) ∧ Kept (fun x => x = b ∨ v.ownBlock = some x) w w' ∧ Lies w v v' := by
  obtain ⟨i0, hi0, hz0, hz1, hz2⟩ := info_parts Try.info_strO
  have hd := Lib.hid (dropO tt b off cs0 v xs k w (by omega) hL)
  have hbw : b < w.heap.size := lt_in hL.blk
  have hvb : ∀ g, v.ownBlock = some g → g ≠ b := hL.ne
  have hel : (xs.erase k).length ≤ xs.length := List.length_erase_le
  clear hL
  have HV := Lib.hid hvb; clear hvb
  generalize decide (k ∈ xs) = r at hd ⊢
  go_enter Try.func37, Try.ntmps37
  go_wp2_with fail
  refine (hd.out).mono ?_
  rintro e w1 ⟨rfl, v1, hL1, hk1, hl1⟩
  obtain ⟨hb1, ha1, hs1, hv1b⟩ := hL1
  rw [List.length_map] at hs1
  have c1 := cell_in hb1 ha1
  have f1 : w1.frozen? ⟨b, off, none⟩ = false := free_in hb1
  have hb1w := lt_in hb1
  have HA1 := Lib.hid ha1; clear ha1
  have H1 := Lib.hid hb1; clear hb1
  have H2 := Lib.hid hs1; clear hs1
  have H3 := Lib.hid hl1; clear hl1
  have H4 := Lib.hid hk1; clear hk1
  have H5 := Lib.hid hv1b; clear hv1b
  go_wp2_with (at_builtin; refine wpList_append_sl _ rfl (.tmp 13) (.tmp 15) 29 rfl 9 i0 (.string ByteArray.empty) 1 16 Try.underlying29 hi0 hz0 hz1 hz2 rfl (by decide) _ (xs.erase k).length _ rfl (H2.out.kept (Kept.alloc (fun _ => False) _ _) (by simp)) ⟨w1.heap.size, 0, none⟩ 1 1 [.string k] rfl rfl ?c1 ?c2 ?c3 ?c4 ?_)
  case c1 =>
    intro j u hj
    match j, hj with
    | 0, hj => simp at hj; subst hj; simp [Addr.add]
  case c2 => intro u hu; simp at hu; subst hu; rfl
  case c3 => unfold maxLen; omega
  case c4 => omega
  · intro A' cap' w2 hs2 hg2 ho2 _
    have hk2 : Kept (fun x => v1.ownBlock = some x) w1 w2 := (Kept.alloc _ w1 _).trans ((Kept.of_grownBy hg2))
    have hb2 := hk2.get H1.out (fun h => H5.out b h rfl)
    have c2 := cell_in hb2 HA1.out
    have f2 : w2.frozen? ⟨b, off, none⟩ = false := free_in hb2
    have hl2 : Lies w1 v1 (.slice A' ((xs.erase k).length + 1) cap') := by
      rcases ho2 with h | h
      · exact .inl h
      · exact .inr ⟨_, h, by simp⟩
    have hlt : b < w1.heap.size := hb1w
    obtain ⟨hr1, hr2⟩ := LAo.stored hb2 HA1.out hlt hk2 hs2 hl2 H5.out
    have hss : (cs0.setIfInBounds off v1).setIfInBounds off (.slice A' ((xs.erase k).length + 1) cap') = cs0.setIfInBounds off (.slice A' ((xs.erase k).length + 1) cap') := by simp
    rw [hss] at hr1
    have R1 := Lib.hid hr1; have R2 := Lib.hid hr2; have R3 := Lib.hid hl2
    clear hr1 hr2 hl2 hs2 hg2 ho2 hk2 hb2 hss
    go_wp2
    go_ret
    refine ⟨rfl, _, ?_, (H4.out).andThen R2.out (fun x _ h => .inl h) ?_, H3.out.trans H4.out.size R3.out⟩
    · rw [List.map_append]
      exact R1.out
    · intro x hx h
      rcases h with h | h
      · rcases H3.out with h' | ⟨g, hg, hle⟩
        · exact .inr (h' ▸ h)
        · rw [h] at hg; injection hg with hg; omega
      · exact .inl h

set_option maxHeartbeats 400000 in
theorem lenO (b off : Nat) (v : Value) (xs : List ByteArray) (w : World) (c0 : w.cell? ⟨b, off, none⟩ = some v) (hs : SlO w 9 1 v xs.length (xs.map Value.string)) :
    Calls Try.prog 33 #[.pointer (some ⟨b, off, none⟩)] w fun e w' => e = .returned (.int .i64 xs.length) ∧ w = w' := by
  obtain ⟨A, cap, rfl, _⟩ := hs.isSlice
  clear hs
  go_enter Try.func33, Try.ntmps33
  go_wp2
  go_ret
  exact ⟨rfl, rfl⟩

set_option maxHeartbeats 400000 in
theorem hasO (b off : Nat) (v : Value) (xs : List ByteArray) (k : ByteArray) (w : World) (c0 : w.cell? ⟨b, off, none⟩ = some v) (hs : SlO w 9 1 v xs.length (xs.map Value.string)) :
    Calls Try.prog 32 #[.pointer (some ⟨b, off, none⟩), .string k] w fun e w' => e = .returned (.bool (decide (k ∈ xs))) ∧ w = w' := by
  have hi := Lib.hid (containsO v xs k w hs)
  clear hs
  generalize decide (k ∈ xs) = r at *
  go_enter Try.func32, Try.ntmps32
  go_wp2_with (go_at_call 44; refine (hi.out).mono ?_; rintro e w' ⟨rfl, rfl⟩)
  go_ret
  exact ⟨rfl, rfl⟩

set_option maxHeartbeats 400000 in
theorem oldest_nilO (b off : Nat) (v : Value) (w : World) (c0 : w.cell? ⟨b, off, none⟩ = some v) (hs : SlO w 9 1 v 0 []) :
    Calls Try.prog 35 #[.pointer (some ⟨b, off, none⟩)] w fun e w' => e = .returned (.tuple #[(.string ByteArray.empty), .bool false]) ∧ w = w' := by
  obtain ⟨A, cap, rfl, _⟩ := hs.isSlice
  clear hs
  go_enter Try.func35, Try.ntmps35
  go_wp2
  go_ret2
  exact ⟨rfl, rfl⟩

set_option maxHeartbeats 400000 in
theorem oldest_consO (b off : Nat) (v : Value) (x : ByteArray) (xs : List ByteArray) (w : World) (c0 : w.cell? ⟨b, off, none⟩ = some v) (hs : SlO w 9 1 v (x :: xs).length ((x :: xs).map Value.string)) :
    Calls Try.prog 35 #[.pointer (some ⟨b, off, none⟩)] w fun e w' => e = .returned (.tuple #[.string x, .bool true]) ∧ w = w' := by
  rcases hs.form with ⟨_, h0, _⟩ | ⟨g, cap, rfl, h2, h3, _, _, h4⟩
  · simp at h0
  have cg := h4 0 (.string x) rfl
  have hp : 0 < (x :: xs).length := by simp
  clear hs h4
  generalize (x :: xs).length = n at *
  have hz : ((n : Int) == 0) = false := by simp; omega
  go_enter Try.func35, Try.ntmps35
  go_wp2
  go_ret2
  exact ⟨rfl, rfl⟩
end Go.Proofs.Ytaccppchhljnkaa
