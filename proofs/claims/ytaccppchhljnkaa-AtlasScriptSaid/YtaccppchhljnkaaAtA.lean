/- Atlases: an atlas over deeds: its own blocks, and those that stay. -/
import Derived.Test.YtaccppchhljnkaaAtO
import Derived.Test.YtaccppchhljnkaaAtV
set_option linter.unusedVariables false
set_option linter.unusedSimpArgs false
namespace Go.Proofs.Ytaccppchhljnkaa
open Go.RowKit Go.Shelf Go.Proofs.YtaccppchhljnkaaW.PrintWords Go.Proofs.YtaccppchhljnkaaW.PrintLast Go.Proofs.YtaccppchhljnkaaW.PrintMore
/-- An atlas at b holds s; the blocks P are none of its own, and are as they were at W0. -/
def AtOn (P : Nat → Prop) (W0 w : World) (b W H pad : Nat) (s : AtS) : Prop :=
  ∃ c, AtAt w b W H pad s c ∧ (∀ q, P q → ¬ c.own b q) ∧ (∀ q, P q → q < W0.heap.size) ∧ Kept (fun q => ¬ P q) W0 w
section
variable {P : Nat → Prop} {W0 w w' : World} {b W H pad : Nat} {s s' : AtS}
theorem AtOn.below (h : AtOn P W0 w b W H pad s) (hb : Below w.heap.size w w') : AtOn P W0 w' b W H pad s := by
  obtain ⟨c, h1, h2, h3, h4⟩ := h
  exact ⟨c, h1.below hb, h2, h3, h4.trans (Kept.of_below _ hb)⟩
theorem AtOn.alloc (h : AtOn P W0 w b W H pad s) (o : Obj) : AtOn P W0 (w.alloc o) b W H pad s := h.below (below_alloc (Below.refl _ _) o)
theorem AtOn.drew (h : AtOn P W0 w b W H pad s) : AtOn P W0 w.drew b W H pad s := h.below (below_drew (Below.refl _ _))
theorem AtOn.post (h : ∃ c, AtAt w b W H pad s c ∧ (∀ q, P q → ¬ c.own b q) ∧ (∀ q, P q → q < W0.heap.size) ∧ Kept (fun q => ¬ P q) W0 w ∧ AtPost w w' b W H pad c s') : AtOn P W0 w' b W H pad s' := by
  obtain ⟨c, h1, h2, h3, h4, c', k1, k2, k3⟩ := h
  exact ⟨c', k1, fun q hq e => (k3 q e).elim (h2 q hq) (fun e => by have := h3 q hq; have := h4.size; omega), h3, h4.trans (k2.mono (fun q _ hq hP => h2 q hP hq))⟩
theorem AtOn.get (h : AtOn P W0 w b W H pad s) {q : Nat} {o : Obj} (hq : P q) (ho : W0.heap[q]? = some o) : w.heap[q]? = some o := by
  obtain ⟨c, h1, h2, h3, h4⟩ := h
  exact h4.get ho (fun e => e hq)
theorem AtOn.out (h : AtOn P W0 w b W H pad s) {B : Nat} (hB : ∀ q, q < B → P q) (hs : B ≤ W0.heap.size) : Below B W0 w := by
  obtain ⟨c, h1, h2, h3, h4⟩ := h
  exact h4.below hs (fun q hq => Classical.byContradiction fun e => hq (hB q (by omega)))
theorem AtOn.inv (h : AtOn P W0 w b W H pad s) : AtI W H pad s := by
  obtain ⟨c, h1, _⟩ := h; exact h1.inv
theorem AtOn.kl (h : AtOn P W0 w b W H pad s) : ∀ k ∈ s.keys, k.size ≤ maxLen := by
  obtain ⟨c, h1, _⟩ := h; exact h1.kl
/-- More blocks that stay: those that were laid since. -/
theorem AtOn.add (h : AtOn P W0 w b W H pad s) (hb : Below w.heap.size w w') {Q : Nat → Prop} (hQ : ∀ q, Q q → q < w'.heap.size ∧ (P q ∨ w.heap.size ≤ q)) : AtOn Q w' w' b W H pad s := by
  obtain ⟨c, h1, h2, h3, h4⟩ := h
  exact ⟨c, h1.below hb, fun q hq e => (hQ q hq).2.elim (fun hp => h2 q hp e) (fun hl => by have := h1.lt e; omega), fun q hq => (hQ q hq).1, Kept.refl _ _⟩
theorem load_on (h : AtOn P W0 w b W H pad s) (k : ByteArray) (hkl : k.size ≤ maxLen) (fw fh : Int) (h1 : -1000000 ≤ fw ∧ fw ≤ 1000000) (h2 : -1000000 ≤ fh ∧ fh ≤ 1000000) (A : Option Addr) (n cap : Nat) (t : List Int) (hn : t.length = n) (hn47 : n ≤ 140737488351232)
    (hT : SlO w 5 1 (.slice A n cap) n (t.map (Value.int .u8))) (hap : ∀ q, (Value.slice A n cap).ownBlock = some q → P q) (h8 : ∀ x ∈ t, 0 ≤ x ∧ x ≤ 255) (hgl : s.gone.length ≤ 100000) :
    Calls Try.prog 15 #[.pointer (some ⟨b, 0, none⟩), .string k, Ef fw fh (.slice A n cap)] w fun e w' => e = .returned (.int .i64 (loadV W H pad s k fw fh t).1) ∧ AtOn P W0 w' b W H pad (loadV W H pad s k fw fh t).2 := by
  obtain ⟨c, g1, g2, g3, g4⟩ := h
  refine (load_c w b W H pad s c g1 k hkl fw fh h1 h2 A n cap t hn hn47 hT (fun q hq => g2 q (hap q hq)) h8 hgl).mono ?_
  rintro e w' ⟨rfl, hp⟩
  exact ⟨rfl, AtOn.post ⟨c, g1, g2, g3, g4, hp⟩⟩
/-- Load of a text that was laid since. -/
theorem load_new (h : AtOn P W0 w b W H pad s) (hb : Below w.heap.size w w') (k : ByteArray) (hkl : k.size ≤ maxLen) (fw fh : Int) (h1 : -1000000 ≤ fw ∧ fw ≤ 1000000) (h2 : -1000000 ≤ fh ∧ fh ≤ 1000000) (A : Option Addr) (n cap : Nat) (t : List Int) (hn : t.length = n) (hn47 : n ≤ 140737488351232)
    (hT : SlO w' 5 1 (.slice A n cap) n (t.map (Value.int .u8))) (hap : ∀ q, (Value.slice A n cap).ownBlock = some q → w.heap.size ≤ q) (h8 : ∀ x ∈ t, 0 ≤ x ∧ x ≤ 255) (hgl : s.gone.length ≤ 100000) :
    Calls Try.prog 15 #[.pointer (some ⟨b, 0, none⟩), .string k, Ef fw fh (.slice A n cap)] w' fun e w'' => e = .returned (.int .i64 (loadV W H pad s k fw fh t).1) ∧ AtOn P W0 w'' b W H pad (loadV W H pad s k fw fh t).2 := by
  obtain ⟨c, g1, g2, g3, g4⟩ := h
  refine (load_c w' b W H pad s c (g1.below hb) k hkl fw fh h1 h2 A n cap t hn hn47 hT (fun q hq e => by have := g1.lt e; have := hap q hq; omega) h8 hgl).mono ?_
  rintro e w'' ⟨rfl, hp⟩
  exact ⟨rfl, AtOn.post ⟨c, g1.below hb, g2, g3, g4.trans (Kept.of_below _ hb), hp⟩⟩
theorem keys_on (h : AtOn P W0 w b W H pad s) :
    Calls Try.prog 12 #[.pointer (some ⟨b, 0, none⟩)] w fun e w' => ∃ vo, e = .returned vo ∧ SlO w' 9 1 vo s.keys.length (s.keys.map Value.string) ∧ Below w.heap.size w w' ∧ (∀ g', vo.ownBlock = some g' → w.heap.size ≤ g') ∧ AtOn P W0 w' b W H pad s := by
  have h0 := h
  obtain ⟨c, g1, g2, g3, g4⟩ := h
  refine (keys_c w b W H pad s c g1).mono ?_
  rintro e w' ⟨vo, rfl, h1, h2, h3⟩
  have hb := h2.below (Nat.le_refl _) (fun _ h => h.elim)
  exact ⟨vo, rfl, h1, hb, h3, h0.below hb⟩
theorem gone_on (h : AtOn P W0 w b W H pad s) (hn : s.gone.length ≤ 1000000) :
    Calls Try.prog 17 #[.pointer (some ⟨b, 0, none⟩)] w fun e w' => ∃ vo, e = .returned vo ∧ SlO w' 9 1 vo s.gone.length (s.gone.map Value.string) ∧ Below w.heap.size w w' ∧ (∀ g', vo.ownBlock = some g' → w.heap.size ≤ g') ∧ AtOn P W0 w' b W H pad s := by
  have h0 := h
  obtain ⟨c, g1, g2, g3, g4⟩ := h
  refine (gone_c w b W H pad s c g1 hn).mono ?_
  rintro e w' ⟨vo, rfl, h1, h2, h3⟩
  have hb := h2.below (Nat.le_refl _) (fun _ h => h.elim)
  exact ⟨vo, rfl, h1, hb, h3, h0.below hb⟩
theorem page_on (h : AtOn P W0 w b W H pad s) :
    Calls Try.prog 21 #[.pointer (some ⟨b, 0, none⟩)] w fun e w' => ∃ A cap, e = .returned (Ef W H (.slice A (W * H) cap)) ∧ SlO w' 5 1 (.slice A (W * H) cap) (W * H) ((pgL W H pad s).map (Value.int .u8)) ∧ Below w.heap.size w w' ∧ (∀ g', (Value.slice A (W * H) cap).ownBlock = some g' → w.heap.size ≤ g') ∧ AtOn P W0 w' b W H pad s := by
  have h0 := h
  obtain ⟨c, g1, g2, g3, g4⟩ := h
  refine (page_c w b W H pad s c g1).mono ?_
  rintro e w' ⟨A, cap, rfl, h1, h2, h3⟩
  have hb := h2.below (Nat.le_refl _) (fun _ h => h.elim)
  exact ⟨A, cap, rfl, h1, hb, h3, h0.below hb⟩
theorem rect_on (h : AtOn P W0 w b W H pad s) (k : ByteArray) (hk : k.size ≤ maxLen) :
    Calls Try.prog 13 #[.pointer (some ⟨b, 0, none⟩), .string k] w fun e w' => e = .returned (.tuple #[Er (rectV pad (s.pl k)), .bool (s.pl k).isSome]) ∧ Below w.heap.size w w' ∧ AtOn P W0 w' b W H pad s := by
  have h0 := h
  obtain ⟨c, g1, g2, g3, g4⟩ := h
  refine (rect_c w b W H pad s c g1 k hk).mono ?_
  rintro e w' ⟨rfl, hb⟩
  exact ⟨rfl, hb, h0.below hb⟩
theorem touch_on (h : AtOn P W0 w b W H pad s) (k : ByteArray) :
    Calls Try.prog 20 #[.pointer (some ⟨b, 0, none⟩), .string k] w fun e w' => e = .returned (.bool (decide (k ∈ s.keys))) ∧ AtOn P W0 w' b W H pad (touchV s k) := by
  obtain ⟨c, g1, g2, g3, g4⟩ := h
  refine (touch_c w b W H pad s c g1 k).mono ?_
  rintro e w' ⟨rfl, hp⟩
  exact ⟨rfl, AtOn.post ⟨c, g1, g2, g3, g4, hp⟩⟩
theorem evict_on (h : AtOn P W0 w b W H pad s) (k : ByteArray) (hk : k.size ≤ maxLen) :
    Calls Try.prog 19 #[.pointer (some ⟨b, 0, none⟩), .string k] w fun e w' => e = .returned (.bool (decide (k ∈ s.keys))) ∧ AtOn P W0 w' b W H pad (evictV W H s k) := by
  obtain ⟨c, g1, g2, g3, g4⟩ := h
  refine (evict_c w b W H pad s c g1 k hk).mono ?_
  rintro e w' ⟨rfl, hp⟩
  exact ⟨rfl, AtOn.post ⟨c, g1, g2, g3, g4, hp⟩⟩
theorem field_on (h : AtOn P W0 w b W H pad s) (k : ByteArray) (hk : k.size ≤ maxLen) (hy : k ∈ s.keys) :
    Calls Try.prog 14 #[.pointer (some ⟨b, 0, none⟩), .string k] w fun e w' => ∃ (m n : Nat) (A : Option Addr) (cap : Nat), (s.at k).2.2.1 = (m : Int) + 2 * pad ∧ (s.at k).2.2.2 = (n : Int) + 2 * pad ∧ (s.fd k).length = m * n ∧ m ≤ 64 ∧ n ≤ 64 ∧ e = .returned (.tuple #[Ef m n (.slice A (m * n) cap), .bool true]) ∧ SlO w' 5 1 (.slice A (m * n) cap) (m * n) ((s.fd k).map (Value.int .u8)) ∧ Below w.heap.size w w' ∧ (∀ g', (Value.slice A (m * n) cap).ownBlock = some g' → w.heap.size ≤ g') ∧ AtOn P W0 w' b W H pad s := by
  have h0 := h
  obtain ⟨c, g1, g2, g3, g4⟩ := h
  have := g1.inv.nat hy
  obtain ⟨X, Y, m, n, hr, q1, q2, q3, q4, q5⟩ := this
  obtain ⟨w1, w2⟩ := g1.w1
  obtain ⟨w3, w4⟩ := g1.h1
  refine (field_yes w b W H pad s c g1 k hk hy X Y m n hr (by omega) (by omega) (by omega) (by omega) q5).mono ?_
  rintro e w' ⟨A, cap, rfl, e1, e2, e3⟩
  exact ⟨m, n, A, cap, by rw [hr], by rw [hr], q5, by omega, by omega, rfl, e1, e2, e3, h0.below e2⟩
theorem AtOn.keptP (h : AtOn P W0 w b W H pad s) : Kept (fun q => ¬ P q) W0 w := by
  obtain ⟨c, h1, h2, h3, h4⟩ := h; exact h4
theorem AtOn.base (h : AtOn P W0 w b W H pad s) {Q : Nat → Prop} (hQ : ∀ q, Q q → P q) : AtOn Q w w b W H pad s := by
  obtain ⟨c, h1, h2, h3, h4⟩ := h
  exact ⟨c, h1, fun q hq => h2 q (hQ q hq), fun q hq => Nat.lt_of_lt_of_le (h3 q (hQ q hq)) h4.size, Kept.refl _ _⟩
/-- Blocks of P are written, or new ones laid: none of the atlas's. -/
theorem AtOn.wrote (h : AtOn P w w b W H pad s) {S Q : Nat → Prop} (hk : Kept S w w') (hS : ∀ q, S q → q < w.heap.size → P q) (hn : ∀ q, S q → ∀ cells, w.heap[q]? ≠ some (.cells cells 84 (0, 0))) (hQ : ∀ q, Q q → q < w'.heap.size ∧ (P q ∨ w.heap.size ≤ q)) : AtOn Q w' w' b W H pad s := by
  obtain ⟨c, h1, h2, h3, h4⟩ := h
  exact ⟨c, h1.kept hk (fun q hq hs => h2 q (hS q hs (h1.lt hq)) hq) hn, fun q hq e => (hQ q hq).2.elim (fun hp => h2 q hp e) (fun hl => by have := h1.lt e; omega), fun q hq => (hQ q hq).1, Kept.refl _ _⟩
end
/-- An element of a slice. -/
theorem SlO.elem {w : World} {e : TypeId} {A : Option Addr} {n cap : Nat} {xs : List Value} (h : SlO w e 1 (.slice A n cap) n xs) {i : Nat} {x : Value} (hi : i < n) (hx : xs[i]? = some x) : ∃ g, A = some ⟨g, 0, none⟩ ∧ w.cell? ⟨g, i, none⟩ = some x ∧ (Value.slice A n cap).ownBlock = some g := by
  rcases h.2 with ⟨_, h0⟩ | ⟨g, cap', cur, e1, hg, h3, h4, h5, h6⟩
  · omega
  · injection e1 with e1 e2 e3
    refine ⟨g, e1, ?_, by rw [e1]; rfl⟩
    rw [blk_cell hg i]
    have h7 : (cur.toList.take (n * 1))[i]? = xs[i]? := by rw [h6]
    rw [List.getElem?_take_of_lt (by omega), hx] at h7
    simpa using h7
/-- A slice of bytes reads. -/
theorem slO_C8 {W : World} {A : Option Addr} {n cap : Nat} {t : List Int} (hl' : n ≤ 140737488351232) (h : SlO W 5 1 (.slice A n cap) n (t.map (Value.int .u8))) : Kd.C (Kd.int .u8) W A n t ∧ n ≤ cap := by
  have hl : t.length = n := by have := h.1; simpa using this
  rcases h.2 with ⟨e, h0⟩ | ⟨g, cap', cur, e, hg, hc, h4, h5, h6⟩
  · injection e with e1 e2 e3
    subst e1 e3 h0
    have ht : t = [] := List.eq_nil_of_length_eq_zero hl
    subst ht
    exact ⟨⟨rfl, by omega, fun h => by omega⟩, Nat.le_refl _⟩
  · injection e with e1 e2 e3
    subst e1 e3
    refine ⟨⟨hl, by omega, fun _ => ⟨_, rfl, fun j p hj => ⟨_, rfl, rfl, fun i u hu => ?_⟩⟩⟩, hc⟩
    have hi : i = 0 := by
      match i, hu with
      | 0, _ => rfl
      | i + 1, hu => simp at hu
    subst hi
    have hs : ((⟨g, 0, none⟩ : Addr).add (j * (Kd.int .u8).sz + 0)) = ⟨g, j, none⟩ := by
      have : (Kd.int .u8).sz = 1 := rfl
      rw [this]; simp [Addr.add]; exact fun h => h.symm
    rw [hs, blk_cell hg j]
    simp at hu
    subst hu
    have hjn : j < n := by rw [← hl]; exact (List.getElem?_eq_some_iff.1 hj).1
    have h7 : (cur.toList.take (n * 1))[j]? = (t.map (Value.int .u8))[j]? := by rw [h6]
    rw [List.getElem?_take_of_lt (by omega), List.getElem?_map, hj] at h7
    simpa using h7
/-- A row of bytes that was laid. -/
theorem slO_lit {W : World} {g n : Nat} {t : List Int} (hg : W.heap[g]? = some (.cells (t.map (Value.int .u8)).toArray 5 (0, 0))) (hn : t.length = n) (hn' : n ≤ 1000000) : SlO W 5 1 (.slice (some ⟨g, 0, none⟩) n n) n (t.map (Value.int .u8)) := by
  refine ⟨by simp [hn], .inr ⟨g, n, _, rfl, hg, Nat.le_refl _, by unfold maxLen; omega, by simp [hn], ?_⟩⟩
  rw [List.toList_toArray]
  exact List.take_of_length_le (by simp [hn])
end Go.Proofs.Ytaccppchhljnkaa
