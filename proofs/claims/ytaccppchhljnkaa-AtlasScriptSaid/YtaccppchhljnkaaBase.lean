import Derived.WalkKit
import Derived.Lib.Hide
import Derived.Deep.RegionLaw
import Derived.Maps.AppendAt
import Derived.OneCell
import Derived.Deep.Draws
set_option linter.unusedVariables false
set_option linter.unusedSimpArgs false
namespace Go.Proofs.Ytaccppchhljnkaa
open Go.RowKit

/-- Blocks that were there and are not in S are as they were. -/
structure Kept (S : Nat → Prop) (w w' : World) : Prop where
  os : w'.os = w.os
  tape : w'.tape = w.tape
  output : w'.output = w.output
  size : w.heap.size ≤ w'.heap.size
  block : ∀ k, k < w.heap.size → ¬ S k → w'.heap[k]? = w.heap[k]?

theorem Kept.refl (S : Nat → Prop) (w : World) : Kept S w w := ⟨rfl, rfl, rfl, Nat.le_refl _, fun _ _ _ => rfl⟩
theorem Kept.trans {S : Nat → Prop} {a b c : World} (h : Kept S a b) (k : Kept S b c) : Kept S a c :=
  ⟨k.os.trans h.os, k.tape.trans h.tape, k.output.trans h.output, Nat.le_trans h.size k.size, fun i hi hs => (k.block i (Nat.lt_of_lt_of_le hi h.size) hs).trans (h.block i hi hs)⟩
theorem Kept.mono {S T : Nat → Prop} {a b : World} (h : Kept S a b) (hst : ∀ k, k < a.heap.size → S k → T k) : Kept T a b :=
  ⟨h.os, h.tape, h.output, h.size, fun i hi hs => h.block i hi (fun x => hs (hst i hi x))⟩
/-- Two steps, each with its own set. -/
theorem Kept.andThen {S T U : Nat → Prop} {a b c : World} (h : Kept S a b) (k : Kept T b c) (hs : ∀ k, k < a.heap.size → S k → U k) (ht : ∀ k, k < a.heap.size → T k → U k) : Kept U a c :=
  ⟨k.os.trans h.os, k.tape.trans h.tape, k.output.trans h.output, Nat.le_trans h.size k.size, fun i hi hn => (k.block i (Nat.lt_of_lt_of_le hi h.size) (fun x => hn (ht i hi x))).trans (h.block i hi (fun x => hn (hs i hi x)))⟩
theorem Kept.alloc (S : Nat → Prop) (w : World) (o : Obj) : Kept S w (w.alloc o) := ⟨rfl, rfl, rfl, by simp, fun k hk _ => (World.grownBy_alloc w o none).block k hk (by simp)⟩
theorem Kept.drew (S : Nat → Prop) (w : World) : Kept S w w.drew := ⟨rfl, rfl, rfl, Nat.le_refl _, fun _ _ _ => rfl⟩
theorem Kept.drewN (S : Nat → Prop) (w : World) (n : Nat) : Kept S w (w.drewN n) := ⟨rfl, rfl, rfl, Nat.le_refl _, fun _ _ _ => rfl⟩
theorem Kept.setCell (S : Nat → Prop) (w : World) (a : Addr) (v : Value) (h : S a.block) : Kept S w (w.setCell a v) :=
  ⟨rfl, rfl, rfl, by simp [World.setCell], fun k hk hs => Below.heap_setCell _ _ _ _ (fun e => hs (e ▸ h))⟩
theorem Kept.of_grownBy {w w' : World} {row : Option Nat} (h : w.grownBy w' row) : Kept (fun k => row = some k) w w' :=
  ⟨h.os, h.tape, h.output, h.size, fun k hk hs => h.block k hk (fun e => hs e.symm)⟩
theorem Kept.of_below {w w' : World} (S : Nat → Prop) (h : Below w.heap.size w w') : Kept S w w' := ⟨h.os, h.tape, h.output, h.size, fun k hk _ => h.block k hk⟩
theorem Kept.below {S : Nat → Prop} {w w' : World} {B : Nat} (h : Kept S w w') (hB : B ≤ w.heap.size) (hs : ∀ k, S k → B ≤ k) : Below B w w' :=
  ⟨h.os, h.tape, h.output, h.size, fun k hk => h.block k (by omega) (fun x => by have := hs k x; omega)⟩
theorem Kept.cell {S : Nat → Prop} {w w' : World} (h : Kept S w w') {a : Addr} {v : Value} (hc : w.cell? a = some v) (hs : ¬ S a.block) : w'.cell? a = some v :=
  (World.cell?_of_block (h.block a.block (World.block_lt_of_cell? w a hc) hs)).trans hc
theorem Kept.get {S : Nat → Prop} {w w' : World} (h : Kept S w w') {b : Nat} {o : Obj} (hc : w.heap[b]? = some o) (hs : ¬ S b) : w'.heap[b]? = some o :=
  (h.block b (Array.getElem?_eq_some_iff.1 hc).1 hs).trans hc

/-- A slice value of n elements of `size` cells each: nil, or the head of a row whose first cells are xs; its capacity may be less than the row. -/
def SlO (w : World) (e : TypeId) (size : Nat) (v : Value) (n : Nat) (xs : List Value) : Prop :=
  xs.length = n * size ∧ ((v = .slice none 0 0 ∧ n = 0) ∨
    ∃ g cap cur, v = .slice (some ⟨g, 0, none⟩) n cap ∧ w.heap[g]? = some (.cells cur e (0, 0)) ∧ n ≤ cap ∧ cap ≤ maxLen ∧ cap * size ≤ cur.size ∧ cur.toList.take (n * size) = xs)

theorem SlO.nil (w : World) (e : TypeId) (size : Nat) : SlO w e size (.slice none 0 0) 0 [] := ⟨by simp, .inl ⟨rfl, rfl⟩⟩
theorem SlO.of_own {w : World} {base : Nat} {e : TypeId} {size : Nat} {v : Value} {n : Nat} {xs : List Value} (h : w.ownsRow base e size v n xs) : SlO w e size v n xs :=
  ⟨h.1, h.2.imp id fun ⟨g, cap, cur, hv, _, hg, h1, h2, h3, h4⟩ => ⟨g, cap, cur, hv, hg, h1, h2, by omega, h4⟩⟩
theorem SlO.kept {S : Nat → Prop} {w w' : World} {e : TypeId} {size : Nat} {v : Value} {n : Nat} {xs : List Value} (h : SlO w e size v n xs) (hk : Kept S w w') (hs : ∀ g, v.ownBlock = some g → ¬ S g) : SlO w' e size v n xs := by
  refine ⟨h.1, h.2.imp id ?_⟩
  rintro ⟨g, cap, cur, rfl, hg, r⟩
  exact ⟨g, cap, cur, rfl, hk.get hg (hs g rfl), r⟩
theorem SlO.lt {w : World} {e : TypeId} {size : Nat} {v : Value} {n : Nat} {xs : List Value} (h : SlO w e size v n xs) {g : Nat} (hg : v.ownBlock = some g) : g < w.heap.size := by
  rcases h.2 with ⟨rfl, _⟩ | ⟨g', cap, cur, rfl, hh, _⟩
  · simp [Value.ownBlock] at hg
  · have : g' = g := by simpa [Value.ownBlock] using hg
    subst this
    exact (Array.getElem?_eq_some_iff.1 hh).1
/-- Its shape. -/
theorem SlO.form {w : World} {e : TypeId} {size : Nat} {v : Value} {n : Nat} {xs : List Value} (h : SlO w e size v n xs) :
    (v = .slice none 0 0 ∧ n = 0 ∧ xs = []) ∨ ∃ g cap, v = .slice (some ⟨g, 0, none⟩) n cap ∧ n ≤ cap ∧ cap ≤ 9223372036854775807 ∧ v.ownBlock = some g ∧ g < w.heap.size ∧ (∀ j u, xs[j]? = some u → w.cell? ⟨g, j, none⟩ = some u) := by
  rcases h.2 with ⟨rfl, rfl⟩ | ⟨g, cap, cur, rfl, hh, h1, h2, h3, h4⟩
  · exact .inl ⟨rfl, rfl, List.eq_nil_of_length_eq_zero (by simpa using h.1)⟩
  · refine .inr ⟨g, cap, rfl, h1, by simpa [maxLen] using h2, rfl, (Array.getElem?_eq_some_iff.1 hh).1, fun j u hu => ?_⟩
    rw [cell_of_row w g j cur e (0, 0) hh]
    rw [← h4, List.getElem?_take] at hu
    split at hu
    · simpa using hu
    · cases hu

section
variable {P : Program} (w : World)
/-- append: in place where there is room (the row's first cells stay), else a new row. `room`: whether it is in place. -/
theorem run_append_sl (t ty e : TypeId) (i : TypeInfo) (z : Value) (size bytes : Nat) (ht : P.underlying t = some (.slice e)) (hi : P.info? e = some i) (hz : i.zero = some z)
    (hsize : i.size = size) (hby : i.bytes = bytes) (hzs : z.cells.size = size) (hsz : 0 < size)
    (v : Value) (n : Nat) (xs : List Value) (hown : SlO w e size v n xs)
    (a : Addr) (m c : Nat) (news : List Value) (hl : news.length = m * size) (hnews : ∀ j u, news[j]? = some u → w.cell? (a.add j) = some u) (h1 : ∀ u ∈ news, u.oneCell' = true)
    (h63 : n + m ≤ maxLen) (hbytes : (n + m) * bytes ≤ 140737488355328) :
    ∃ v' w', (Builtin.append_ #[t, t] ty #[v, .slice (some a) m c]).run P w = .ok v' w' ∧ SlO w' e size v' (n + m) (xs ++ news) ∧ w.grownBy w' v.ownBlock ∧
      (v'.ownBlock = v.ownBlock ∨ v'.ownBlock = some w.heap.size) ∧ ((∀ A cap, v = .slice A n cap → cap < n + m) ∨ m = 0 → w.grownBy w' none) := by
  subst hsize
  subst hby
  have hsmall : n + m ≤ 9223372036854775807 := by simp only [maxLen] at h63; omega
  have hlen : (xs ++ news).length = (n + m) * i.size := by rw [List.length_append, hown.1, hl, Nat.add_mul]
  have grown : ∀ (old : Nat), old < n + m → ∀ (row : Option Nat),
      SlO (w.drew.alloc (.cells (xs.toArray ++ news.toArray ++ Builtin.zeroCells z.cells (grownCap w (n + m) old e - (n + m))) e)) e i.size
        (.slice (some ⟨w.heap.size, 0, none⟩) (n + m) (grownCap w (n + m) old e)) (n + m) (xs ++ news) ∧
      w.grownBy (w.drew.alloc (.cells (xs.toArray ++ news.toArray ++ Builtin.zeroCells z.cells (grownCap w (n + m) old e - (n + m))) e)) row := by
    intro old ho row
    have hge := grownCap_ge w (n + m) old e
    have hcm : grownCap w (n + m) old e ≤ maxLen := grownCap_le_maxLen w (n + m) old e h63
    refine ⟨⟨hlen, .inr ⟨w.heap.size, _, _, rfl, heap_alloc_new w.drew _, hge, hcm, ?_, ?_⟩⟩, ⟨rfl, rfl, rfl, by simp, fun k hk _ => (World.grownBy_alloc w.drew _ none).block k hk (by simp)⟩⟩
    · simp only [Array.size_append, List.size_toArray, size_zeroCells, hzs, hown.1, hl, ← Nat.add_mul]
      exact Nat.mul_le_mul_right _ (by omega)
    · simp only [Array.toList_append, List.append_assoc]
      rw [← List.append_assoc, ← hlen]
      exact List.take_left
  rcases hown.2 with ⟨rfl, rfl⟩ | ⟨g, cap, cur, rfl, hg, hnc, hcm, hcs, htake⟩
  · have hx : xs = [] := List.eq_nil_of_length_eq_zero (by simpa using hown.1)
    subst hx
    by_cases hm : m = 0
    · subst hm
      have hn : news = [] := List.eq_nil_of_length_eq_zero (by simpa using hl)
      subst hn
      refine ⟨.slice none 0 0, w, ?_, SlO.nil w e i.size, ⟨rfl, rfl, rfl, Nat.le_refl _, fun _ _ _ => rfl⟩, .inl rfl, fun _ => ⟨rfl, rfl, rfl, Nat.le_refl _, fun _ _ _ => rfl⟩⟩
      simp [Builtin.append_, run_underlying ht, sizeOf, typeInfo, hi, Builtin.lenOf, Builtin.firstCells, loadCells, loadCellsFrom]
    · have hr := run_append_nil (P := P) w t ty e i z ht hi hz a m c news hl hnews (by omega) (by omega) (by have hb := hbytes; simp only [Nat.zero_add] at hb; omega)
      have hgr := fun row => grown 0 (by omega) row
      simp only [Nat.zero_add, List.nil_append, Array.empty_append] at hgr ⊢
      exact ⟨_, _, hr, (hgr none).1, (hgr _).2, .inr rfl, fun _ => (hgr none).2⟩
  · by_cases hroom : n + m ≤ cap
    · have hfit : n * i.size + news.length ≤ cur.size := by rw [hl, ← Nat.add_mul]; exact Nat.le_trans (Nat.mul_le_mul_right _ hroom) hcs
      have hr := run_append_room (P := P) w t ty e i ht hi g n cap cur hg a m c news hl hnews h1 hroom hfit
      refine ⟨_, _, hr, ⟨hlen, .inr ⟨g, cap, _, rfl, setRow_heap w g cur _ e _ hg, hroom, hcm, ?_, ?_⟩⟩, ⟨rfl, rfl, rfl, by simp, fun k _ hk => setRow_other w g k _ (fun e => hk (by simp [Value.ownBlock, e]))⟩, .inl rfl, ?_⟩
      · simp only [List.size_toArray, List.length_append, List.length_take, List.length_drop, Array.length_toList]
        omega
      · rw [htake, ← hlen]
        exact List.take_left
      · intro h
        have hm0 : m = 0 := by
          rcases h with h | h
          · have := h _ _ rfl; omega
          · exact h
        subst hm0
        have hn : news = [] := List.eq_nil_of_length_eq_zero (by simpa using hl)
        subst hn
        refine ⟨rfl, rfl, rfl, by simp, fun k hk _ => ?_⟩
        by_cases hkg : k = g
        · subst hkg
          rw [setRow_heap w k cur _ e _ hg, hg]
          simp
        · exact setRow_other w g k _ hkg
    · have holds : ∀ j u, xs[j]? = some u → w.cell? ((⟨g, 0, none⟩ : Addr).add j) = some u := by
        intro j u hu
        have hadd : (⟨g, 0, none⟩ : Addr).add j = ⟨g, j, none⟩ := by unfold Addr.add; split <;> simp_all
        rw [hadd, cell_of_row w g j cur e (0, 0) hg]
        rw [← htake, List.getElem?_take] at hu
        split at hu
        · simpa using hu
        · cases hu
      have hr := run_append_grow (P := P) w t ty e i z ht hi hz ⟨g, 0, none⟩ n cap xs hown.1 holds a m c news hl hnews (by omega) (by omega) (growslice_fits (by omega) hbytes)
      have hgr := fun row => grown cap (by omega) row
      exact ⟨_, _, hr, (hgr none).1, (hgr _).2, .inr rfl, fun _ => (hgr none).2⟩
end

section
variable {P : Program} (w : World)
theorem SlO.isSlice {w : World} {e : TypeId} {size : Nat} {v : Value} {n : Nat} {xs : List Value} (h : SlO w e size v n xs) : ∃ A cap, v = .slice A n cap ∧ n ≤ cap := by
  rcases h.2 with ⟨rfl, rfl⟩ | ⟨g, cap, cur, rfl, _, hc, _⟩
  · exact ⟨none, 0, rfl, Nat.le_refl _⟩
  · exact ⟨_, cap, rfl, hc⟩

theorem wp_append_sl {o : Oper} {a : Act} {K : Act → World → Prop} {Q : Exit → Act → World → Prop} (s x : Operand) (t : TypeId)
    (ho : o.op = .call { callee := .builtin .append, args := #[s, x], argTypes := #[t, t] })
    (e : TypeId) (i : TypeInfo) (z : Value) (size bytes : Nat) (ht : P.underlying t = some (.slice e)) (hi : P.info? e = some i) (hz : i.zero = some z)
    (hsize : i.size = size) (hby : i.bytes = bytes) (hzs : z.cells.size = size) (hsz : 0 < size)
    (v : Value) (n : Nat) (xs : List Value) (hs : a.eval s = v) (hown : SlO w e size v n xs)
    (ad : Addr) (m c : Nat) (news : List Value) (hx : a.eval x = .slice (some ad) m c) (hl : news.length = m * size) (hnews : ∀ j u, news[j]? = some u → w.cell? (ad.add j) = some u) (h1 : ∀ u ∈ news, u.oneCell' = true)
    (h63 : n + m ≤ maxLen) (hbytes : (n + m) * bytes ≤ 140737488355328)
    (h : ∀ A cap w', SlO w' e size (.slice A (n + m) cap) (n + m) (xs ++ news) → w.grownBy w' v.ownBlock → (Value.ownBlock (.slice A (n + m) cap) = v.ownBlock ∨ Value.ownBlock (.slice A (n + m) cap) = some w.heap.size) →
      ((∀ A cap, v = .slice A n cap → cap < n + m) ∨ m = 0 → w.grownBy w' none) → K (a.put o.dst (.slice A (n + m) cap)) w') : o.wp P a w K Q := by
  obtain ⟨v', w', hr, h2, h3, h4, h5⟩ := run_append_sl (P := P) w t o.type e i z size bytes ht hi hz hsize hby hzs hsz v n xs hown ad m c news hl hnews h1 h63 hbytes
  obtain ⟨A, cap, rfl, _⟩ := h2.isSlice
  unfold Oper.wp execOp
  simp only [ho, resolve, invoke, builtin, Sem.run_bind, Sem.run_pure, Result.andThen_ok, List.map_toArray, List.map_cons, List.map_nil, hs, hx, hr]
  exact h A cap w' h2 h3 h4 h5

theorem wpList_append_sl {ops : Array Oper} {rest : List Oper} {o : Oper} {a : Act} {Q : Exit → Act → World → Prop} (hgd : o.guard = none) (s x : Operand) (t : TypeId)
    (ho : o.op = .call { callee := .builtin .append, args := #[s, x], argTypes := #[t, t] })
    (e : TypeId) (i : TypeInfo) (z : Value) (size bytes : Nat) (ht : P.underlying t = some (.slice e)) (hi : P.info? e = some i) (hz : i.zero = some z)
    (hsize : i.size = size) (hby : i.bytes = bytes) (hzs : z.cells.size = size) (hsz : 0 < size)
    (v : Value) (n : Nat) (xs : List Value) (hs : a.eval s = v) (hown : SlO w e size v n xs)
    (ad : Addr) (m c : Nat) (news : List Value) (hx : a.eval x = .slice (some ad) m c) (hl : news.length = m * size) (hnews : ∀ j u, news[j]? = some u → w.cell? (ad.add j) = some u) (h1 : ∀ u ∈ news, u.oneCell' = true)
    (h63 : n + m ≤ maxLen) (hbytes : (n + m) * bytes ≤ 140737488355328)
    (h : ∀ A cap w', SlO w' e size (.slice A (n + m) cap) (n + m) (xs ++ news) → w.grownBy w' v.ownBlock → (Value.ownBlock (.slice A (n + m) cap) = v.ownBlock ∨ Value.ownBlock (.slice A (n + m) cap) = some w.heap.size) →
      ((∀ A cap, v = .slice A n cap → cap < n + m) ∨ m = 0 → w.grownBy w' none) → wpList P ops Q rest (a.put o.dst (.slice A (n + m) cap)) w') : wpList P ops Q (o :: rest) a w :=
  wpList_plain hgd fun _ hK => wp_append_sl w s x t ho e i z size bytes ht hi hz hsize hby hzs hsz v n xs hs hown ad m c news hx hl hnews h1 h63 hbytes fun A cap w' h2 h3 h4 h5 => hK _ _ (h A cap w' h2 h3 h4 h5)

theorem step_append_sl {ops : Array Oper} {o : Oper} {a : Act} {K : Act → World → Prop} {Q : Exit → Act → World → Prop} {E : Prop} (hgd : o.guard = none) (s x : Operand) (t : TypeId)
    (ho : o.op = .call { callee := .builtin .append, args := #[s, x], argTypes := #[t, t] })
    (e : TypeId) (i : TypeInfo) (z : Value) (size bytes : Nat) (ht : P.underlying t = some (.slice e)) (hi : P.info? e = some i) (hz : i.zero = some z)
    (hsize : i.size = size) (hby : i.bytes = bytes) (hzs : z.cells.size = size) (hsz : 0 < size)
    (v : Value) (n : Nat) (xs : List Value) (hs : a.eval s = v) (hown : SlO w e size v n xs)
    (ad : Addr) (m c : Nat) (news : List Value) (hx : a.eval x = .slice (some ad) m c) (hl : news.length = m * size) (hnews : ∀ j u, news[j]? = some u → w.cell? (ad.add j) = some u) (h1 : ∀ u ∈ news, u.oneCell' = true)
    (h63 : n + m ≤ maxLen) (hbytes : (n + m) * bytes ≤ 140737488355328)
    (h : ∀ A cap w', SlO w' e size (.slice A (n + m) cap) (n + m) (xs ++ news) → w.grownBy w' v.ownBlock → (Value.ownBlock (.slice A (n + m) cap) = v.ownBlock ∨ Value.ownBlock (.slice A (n + m) cap) = some w.heap.size) →
      ((∀ A cap, v = .slice A n cap → cap < n + m) ∨ m = 0 → w.grownBy w' none) → K (a.put o.dst (.slice A (n + m) cap)) w') :
    if Region.wanted o (yielded ops a.tmps) = true then Oper.wp P o a w K Q else E := by
  have hw : Region.wanted o (yielded ops a.tmps) = true := by simp [Region.wanted, hgd]
  rw [if_pos hw]
  exact wp_append_sl w s x t ho e i z size bytes ht hi hz hsize hby hzs hsz v n xs hs hown ad m c news hx hl hnews h1 h63 hbytes h
end

/-- A slice cut to its first k elements, capacity k. -/
theorem SlO.cut {w : World} {e : TypeId} {size : Nat} {g n cap k : Nat} {xs : List Value} (h : SlO w e size (.slice (some ⟨g, 0, none⟩) n cap) n xs) (hk : k ≤ n) : SlO w e size (.slice (some ⟨g, 0, none⟩) k k) k (xs.take (k * size)) := by
  rcases h.2 with ⟨h0, _⟩ | ⟨g', cap', cur, he, hg, h1, h2, h3, h4⟩
  · cases h0
  · injection he with he1 he2 he3
    injection he1 with he1
    injection he1 with he1
    subst he1; subst he3
    refine ⟨by rw [List.length_take, h.1]; exact Nat.min_eq_left (Nat.mul_le_mul_right _ hk), .inr ⟨g, k, cur, rfl, hg, Nat.le_refl _, by omega, Nat.le_trans (Nat.mul_le_mul_right _ (by omega)) h3, ?_⟩⟩
    rw [← h4, List.take_take, Nat.min_eq_left (Nat.mul_le_mul_right _ hk)]

/-- A struct of one field, a slice, alone in its block. -/
def LAt (w : World) (t e : TypeId) (b : Nat) (v : Value) (cs : List Value) : Prop := w.heap[b]? = some (.cells #[v] t (0, 0)) ∧ SlO w e 1 v cs.length cs
theorem LAt.ne {w : World} {t e : TypeId} {b : Nat} {v : Value} {cs : List Value} (h : LAt w t e b v cs) (hte : t ≠ e) {g : Nat} (hg : v.ownBlock = some g) : g ≠ b := by
  rintro rfl
  rcases h.2.2 with ⟨h1, _⟩ | ⟨g', cap, cur, h1, h2, _⟩
  · rw [h1] at hg; cases hg
  · rw [h1] at hg
    injection hg with hg
    have : g' = g := hg
    subst this
    rw [h.1] at h2
    injection h2 with h2
    injection h2 with _ h2 _
    exact hte h2
theorem LAt.kept {S : Nat → Prop} {w w' : World} {t e : TypeId} {b : Nat} {v : Value} {cs : List Value} (h : LAt w t e b v cs) (hk : Kept S w w') (hb : ¬ S b) (hs : ∀ g, v.ownBlock = some g → ¬ S g) : LAt w' t e b v cs :=
  ⟨hk.get h.1 hb, h.2.kept hk hs⟩
/-- Where a slice's row lies behind a step: where it lay, or in a new block. -/
def Lies (w : World) (v v' : Value) : Prop := v'.ownBlock = v.ownBlock ∨ ∃ g, v'.ownBlock = some g ∧ w.heap.size ≤ g
theorem Lies.refl (w : World) (v : Value) : Lies w v v := .inl rfl
theorem Lies.trans {w w' : World} {a b c : Value} (hs : w.heap.size ≤ w'.heap.size) (h : Lies w a b) (k : Lies w' b c) : Lies w a c := by
  rcases k with k | ⟨g, hg, hl⟩
  · rcases h with h | ⟨g, hg, hl⟩
    · exact .inl (k.trans h)
    · exact .inr ⟨g, k.trans hg, hl⟩
  · exact .inr ⟨g, hg, by omega⟩


section
variable {P : Program} (w : World)
/-- append onto a slice that is full: the old row stays as it is. -/
theorem step_append_full {ops : Array Oper} {o : Oper} {a : Act} {K : Act → World → Prop} {Q : Exit → Act → World → Prop} {E : Prop} (hgd : o.guard = none) (s x : Operand) (t : TypeId)
    (ho : o.op = .call { callee := .builtin .append, args := #[s, x], argTypes := #[t, t] })
    (e : TypeId) (i : TypeInfo) (z : Value) (size bytes : Nat) (ht : P.underlying t = some (.slice e)) (hi : P.info? e = some i) (hz : i.zero = some z)
    (hsize : i.size = size) (hby : i.bytes = bytes) (hzs : z.cells.size = size) (hsz : 0 < size)
    (A : Option Addr) (n : Nat) (xs : List Value) (hs : a.eval s = .slice A n n) (hown : SlO w e size (.slice A n n) n xs)
    (ad : Addr) (m c : Nat) (news : List Value) (hx : a.eval x = .slice (some ad) m c) (hl : news.length = m * size) (hnews : ∀ j u, news[j]? = some u → w.cell? (ad.add j) = some u) (h1 : ∀ u ∈ news, u.oneCell' = true)
    (h63 : n + m ≤ maxLen) (hbytes : (n + m) * bytes ≤ 140737488355328)
    (h : ∀ A' cap w', SlO w' e size (.slice A' (n + m) cap) (n + m) (xs ++ news) → Kept (fun _ => False) w w' → Lies w (.slice A n n) (.slice A' (n + m) cap) → K (a.put o.dst (.slice A' (n + m) cap)) w') :
    if Region.wanted o (yielded ops a.tmps) = true then Oper.wp P o a w K Q else E :=
  step_append_sl w hgd s x t ho e i z size bytes ht hi hz hsize hby hzs hsz _ n xs hs hown ad m c news hx hl hnews h1 h63 hbytes fun A' cap w' h2 h3 h4 h5 => by
    refine h A' cap w' h2 ?_ (h4.imp id fun h => ⟨_, h, Nat.le_refl _⟩)
    refine (Kept.of_grownBy (h5 ?_)).mono (by simp)
    by_cases hm : m = 0
    · exact .inr hm
    · refine .inl fun A'' c'' h'' => ?_
      injection h'' with _ _ h''
      omega
end


/-- A new slice is stored into the struct's field. -/
theorem LAt.stored {S : Nat → Prop} {w w1 : World} {t e : TypeId} {b n : Nat} {v0 v v' : Value} {cs : List Value} (hb : w1.heap[b]? = some (.cells #[v0] t (0, 0))) (hbw : b < w.heap.size) (hk : Kept S w w1) (hs : SlO w1 e 1 v' n cs) (hl : Lies w v v') (hv : ∀ g, v.ownBlock = some g → g ≠ b) :
    LAt (w1.setCell ⟨b, 0, none⟩ v') t e b v' cs ∧ Kept (fun k => S k ∨ k = b) w (w1.setCell ⟨b, 0, none⟩ v') := by
  have hne : ∀ g, v'.ownBlock = some g → g ≠ b := by
    intro g hg
    rcases hl with hl | ⟨g', hg', hle⟩
    · exact hv g (hl ▸ hg)
    · rw [hg] at hg'; injection hg' with hg'; omega
  refine ⟨⟨one_setCell hb, ?_⟩, hk.andThen (Kept.setCell (· = b) w1 _ _ rfl) (fun _ _ h => .inl h) (fun _ _ h => .inr h)⟩
  have : n = cs.length := by have := hs.1; omega
  subst this
  exact hs.kept (Kept.setCell (· = b) w1 _ _ rfl) hne


theorem ba_ext {a b : ByteArray} (h : a.data = b.data) : a = b := by cases a; cases b; simp_all
instance baDec : DecidableEq ByteArray := fun a b => if h : a.data = b.data then isTrue (ba_ext h) else isFalse (fun e => h (by rw [e]))
theorem ba_beq (a b : ByteArray) : (a == b) = (a.data == b.data) := by cases a; cases b; rfl
instance baLaw : LawfulBEq ByteArray where
  eq_of_beq := fun {a b} h => by
    rw [ba_beq] at h
    exact ba_ext (by simpa using h)
  rfl := fun {a} => by rw [ba_beq]; simp

section
variable {α : Type} [BEq α] [LawfulBEq α]
/-- The first index, or -1. -/
def ixOf (xs : List α) (k : α) : Int := if k ∈ xs then (xs.idxOf k : Int) else -1
theorem ixOf_not {xs : List α} {k : α} (h : k ∉ xs) : ixOf xs k = -1 := by unfold ixOf; rw [if_neg h]
theorem ixOf_nonneg {xs : List α} {k : α} (h : k ∈ xs) : 0 ≤ ixOf xs k := by unfold ixOf; rw [if_pos h]; omega
theorem ixOf_split {pre post : List α} {k : α} (h : k ∉ pre) : ixOf (pre ++ k :: post) k = pre.length := by
  unfold ixOf
  rw [if_pos (by simp), List.idxOf_append, if_neg h]
  simp
theorem ixOf_miss {xs : List α} {k : α} (h : ∀ t (ht : t < xs.length), xs[t] ≠ k) : ixOf xs k = -1 := by
  apply ixOf_not
  intro hm
  obtain ⟨j, hj, e⟩ := List.getElem_of_mem hm
  exact h j hj e
theorem ixOf_hit {xs : List α} {k : α} {j : Nat} (hj : j < xs.length) (he : xs[j] = k) (hn : ∀ t (ht : t < j), xs[t] ≠ k) : ixOf xs k = j := by
  have hs : xs = xs.take j ++ k :: xs.drop (j + 1) := by
    rw [← he, List.getElem_cons_drop, List.take_append_drop]
  rw [hs, ixOf_split]
  · simp; omega
  · intro hm
    obtain ⟨t, ht, e⟩ := List.getElem_of_mem hm
    rw [List.length_take] at ht
    rw [List.getElem_take] at e
    exact hn t (by omega) e
theorem erase_split {pre post : List α} {k : α} (h : k ∉ pre) : (pre ++ k :: post).erase k = pre ++ post := by
  rw [List.erase_append_right _ h, List.erase_cons_head]
omit [BEq α] [LawfulBEq α] in
theorem append_of_mem_first {xs : List α} {k : α} (h : k ∈ xs) : ∃ pre post, xs = pre ++ k :: post ∧ k ∉ pre := by
  induction xs with
  | nil => cases h
  | cons x xs ih =>
    by_cases hx : x = k
    · exact ⟨[], xs, by simp [hx], by simp⟩
    · have : k ∈ xs := by
        rcases List.mem_cons.1 h with h | h
        · exact absurd h.symm hx
        · exact h
      obtain ⟨pre, post, rfl, hp⟩ := ih this
      exact ⟨x :: pre, post, by simp, by simp [hp]; exact fun h => hx h.symm⟩
end


theorem LAt.made (w : World) (t e : TypeId) : LAt (w.alloc (.cells #[.slice none 0 0] t)) t e w.heap.size (.slice none 0 0) [] :=
  ⟨heap_alloc_new w _, SlO.nil _ _ _⟩

/-- The list's own blocks are all behind B. -/
def Past (B b : Nat) (v : Value) : Prop := B ≤ b ∧ ∀ g, v.ownBlock = some g → B ≤ g
theorem Past.step {S : Nat → Prop} {B b : Nat} {v v' : Value} {w0 w w' : World} (hB : w0.heap.size = B) (h : Past B b v) (h0 : Kept (fun _ => False) w0 w) (hk : Kept S w w') (hS : ∀ x, S x → x = b ∨ v.ownBlock = some x) (hl : Lies w v v') : Past B b v' ∧ Kept (fun _ => False) w0 w' := by
  refine ⟨⟨h.1, fun g hg => ?_⟩, h0.andThen hk (fun _ _ h => h) (fun k hk' hs => ?_)⟩
  · rcases hl with hl | ⟨g', hg', hle⟩
    · exact h.2 g (hl ▸ hg)
    · rw [hg'] at hg; injection hg with hg; have := h0.size; omega
  · rcases hS k hs with rfl | hv
    · have := h.1; omega
    · have := h.2 k hv; omega

end Go.Proofs.Ytaccppchhljnkaa
