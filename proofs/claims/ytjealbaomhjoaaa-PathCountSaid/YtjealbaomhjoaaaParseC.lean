/- The contract of glyf.Parse (under way). -/
import Derived.Test.YtjealbaomhjoaaaReader
import Derived.Test.YtjealbaomhjoaaaParseF
import Derived.Deep.DeepCutAuto
import Derived.Deep.CutBlock
import Derived.Deep.CutRange
import Derived.Outline
import Derived.WalkMore
import Derived.OpenShut
set_option linter.unusedVariables false
set_option linter.unusedSimpArgs false
namespace Go.Proofs.Ytjealbaomhjoaaa
open Go.RowKit Go.Proofs.Ytjealbaomhjoaaa.G Go.Proofs.YtjealbaomhjoaaaW.PrintWords

/-- Parse's variables. -/
structure Pw (w W : World) (A : Option Addr) (cap : Nat) (r : Rs) (u : Value) : Prop where
  res : W.heap[w.heap.size]? = some (.cells #[.slice none 0 0] 26 (0, 0))
  rd : Rd w.heap.size W (w.heap.size + 1) A cap r.bs r.bad
  out : W.heap[w.heap.size + 1 + 1]? = some (.cells #[u] 26 (0, 0))
  bel : Below w.heap.size w W
theorem Pw.keptR {w W W' : World} {A A' : Option Addr} {cap cap' : Nat} {r r' : Rs} {u : Value} (h : Pw w W A cap r u) (hk : Kept (· = w.heap.size + 1) W W') (hr : Rd w.heap.size W' (w.heap.size + 1) A' cap' r'.bs r'.bad) : Pw w W' A' cap' r' u :=
  ⟨hk.get h.res (by omega), hr, hk.get h.out (by omega), h.bel.trans (hk.below (B := w.heap.size) h.bel.size (fun k hk => by omega))⟩
theorem Pw.byte {w W : World} {A : Option Addr} {cap : Nat} {r : Rs} {u : Value} (h : Pw w W A cap r u) :
    Calls Try.prog 40 #[.pointer (some ⟨w.heap.size + 1, 0, none⟩)] W fun e w' => e = .returned (.int .i64 r.hd) ∧ (∃ A' cap', Pw w w' A' cap' r.nx u) ∧ Kept (· = w.heap.size + 1) W w' :=
  (byte_c w.heap.size (w.heap.size + 1) A cap r.bs r.bad W h.rd).mono fun e w' ⟨he, ⟨A', cap', hr⟩, hk⟩ => ⟨he, ⟨A', cap', h.keptR hk hr⟩, hk⟩
theorem Pw.step {w W : World} {A : Option Addr} {cap : Nat} {r : Rs} {u : Value} (h : Pw w W A cap r u) (wide : Bool) :
    Calls Try.prog 41 #[.pointer (some ⟨w.heap.size + 1, 0, none⟩), .bool wide] W fun e w' => e = .returned (.int .i64 (r.step wide)) ∧ (∃ A' cap', Pw w w' A' cap' (r.past wide) u) ∧ Kept (· = w.heap.size + 1) W w' := by
  refine (step_c w.heap.size (w.heap.size + 1) A cap r.bs r.bad wide W h.rd).mono fun e w' ⟨he, ⟨A', cap', hr⟩, hk⟩ => ⟨?_, ⟨A', cap', h.keptR hk ?_⟩, hk⟩
  · cases wide <;> exact he
  · cases wide
    · exact hr
    · have : (r.past true).bad = (r.bad || stepB true r.bs) := by simp [Rs.past, Rs.nx, stepB, Bool.or_assoc]
      rw [this]; exact hr
theorem Kd.R_kept {α : Type} {d : Kd α} {e base br : Nat} {W W' : World} {v : Value} {xs : List α} {t : TypeId} {cells : Array Value} (h : d.R e W base (fun _ => True) v xs) (hk : Kept (· = br) W W') (hb : W.heap[br]? = some (.cells cells t (0, 0))) (ht : ∀ q, q ∈ e :: d.E → q ≠ t) : d.R e W' base (fun _ => True) v xs :=
  Kd.R_mono (Kd.R_step (Kd.R_types h hb ht) (fun k hk' hlt => hk.block k hlt hk'.2)) (fun _ _ => trivial)

theorem Kd.S_kept {α : Type} {d : Kd α} {e base br : Nat} {ok : Nat → Prop} {W W' : World} {v : Value} {xs : List α} {t : TypeId} {cells : Array Value} (h : Kd.S d e W base ok v xs) (hk : Kept (· = br) W W') (hb : W.heap[br]? = some (.cells cells t (0, 0))) (ht : ∀ q, q ∈ e :: d.E → q ≠ t) : Kd.S d e W' base ok v xs :=
  Kd.S_mono (Kd.S_step (Kd.S_types h hb ht) (fun k hk' hlt => hk.block k hlt hk'.2)) (fun _ hk => hk.1)
/-- The shape of a row of numbers. -/
theorem ints_form {k : IntKind} {e base : Nat} {W : World} {ok : Nat → Prop} {v : Value} {xs : List Int} (h : (Kd.int k).R e W base ok v xs) :
    (v = .slice none 0 0 ∧ xs = []) ∨ ∃ g c, v = .slice (some ⟨g, 0, none⟩) xs.length c ∧ xs.length ≤ c ∧ base ≤ g ∧ g < W.heap.size ∧ (∃ cur, W.heap[g]? = some (.cells cur e (0, 0))) ∧ ∀ j, j < xs.length → W.cell? ⟨g, j, none⟩ = some (.int k (xs.getD j 0)) := by
  have ho := Kd.own_of_R h
  obtain ⟨hl, ⟨rfl, hn⟩ | ⟨g, cap, cur, rfl, hg, hh, h1, h2, h3, h4⟩⟩ := ho
  · exact .inl ⟨rfl, List.eq_nil_of_length_eq_zero hn⟩
  · refine .inr ⟨g, cap, rfl, h1, hg, (Array.getElem?_eq_some_iff.1 hh).1, ⟨cur, hh⟩, fun j hj => ?_⟩
    rw [cell_of_row W g j cur e (0, 0) hh]
    have hj2 : (encs (Value.int k) xs)[j]? = some (.int k (xs.getD j 0)) := by
      simp [encs, List.getD_eq_getElem?_getD, List.getElem?_eq_getElem hj]
    rw [← h4, List.getElem?_take] at hj2
    split at hj2
    · simpa using hj2
    · cases hj2
/-- An own row's block is below, and no other's. -/
theorem Pw.grown {w W W' : World} {A : Option Addr} {cap : Nat} {r : Rs} {u : Value} {row : Option Nat} (h : Pw w W A cap r u) (hg : W.grownBy W' row) (hrow : ∀ g, row = some g → w.heap.size ≤ g ∧ g ≠ w.heap.size ∧ g ≠ w.heap.size + 1 ∧ g ≠ w.heap.size + 1 + 1) : Pw w W' A cap r u := by
  have hk := Kept.of_grownBy hg
  refine ⟨hk.get h.res ?_, ⟨hk.get h.rd.blk ?_, h.rd.le, ?_, h.rd.ne, h.rd.hN, h.rd.wf⟩, hk.get h.out ?_, h.bel.trans (hk.below (B := w.heap.size) h.bel.size (fun k hk => (hrow k hk).1))⟩
  · intro e; have := hrow _ e; omega
  · intro e; have := hrow _ e; omega
  · by_cases hn : r.bs = []
    · exact .inl hn
    · exact h.rd.row.kept hk (fun g off e hS => by have := h.rd.ne g off hn e; have := hrow _ hS; omega)
  · intro e; have := hrow _ e; omega
theorem Pw.rowOk {w W : World} {A : Option Addr} {cap : Nat} {r : Rs} {u : Value} (h : Pw w W A cap r u) {α : Type} {d : Kd α} {e : Nat} {ok : Nat → Prop} {v : Value} {xs : List α} (ho : d.R e W w.heap.size ok v xs) (h1 : e ≠ 26) (h2 : e ≠ 80) :
    ∀ g, v.ownBlock = some g → w.heap.size ≤ g ∧ g ≠ w.heap.size ∧ g ≠ w.heap.size + 1 ∧ g ≠ w.heap.size + 1 + 1 := by
  intro g hg
  obtain ⟨inner, hown⟩ := Kd.R_own ho
  refine ⟨own_base hown g hg, ?_, ?_, ?_⟩
  · rintro rfl; exact Kd.R_ne ho h.res h1 hg.symm
  · rintro rfl; exact Kd.R_ne ho h.rd.blk h2 hg.symm
  · rintro rfl; exact Kd.R_ne ho h.out h1 hg.symm
theorem Pw.setOut {w W : World} {A : Option Addr} {cap : Nat} {r : Rs} {u : Value} (h : Pw w W A cap r u) (u' : Value) : Pw w (W.setCell ⟨w.heap.size + 1 + 1, 0, none⟩ u') A cap r u' := by
  have hk := Kept.setCell (· = w.heap.size + 1 + 1) W ⟨w.heap.size + 1 + 1, 0, none⟩ u' rfl
  refine ⟨hk.get h.res (by omega), ⟨hk.get h.rd.blk (by omega), h.rd.le, ?_, h.rd.ne, h.rd.hN, h.rd.wf⟩, by simpa using heap_setCell_same W _ 0 _ _ u' h.out, h.bel.setCell (by show w.heap.size ≤ w.heap.size + 1 + 1; omega) _⟩
  by_cases hn : r.bs = []
  · exact .inl hn
  · exact h.rd.row.kept hk (fun g off e hS => by have := h.rd.ne g off hn e; omega)
theorem Pw.hd {w W : World} {A : Option Addr} {cap : Nat} {r : Rs} {u : Value} (h : Pw w W A cap r u) : 0 ≤ r.hd ∧ r.hd ≤ 255 := by
  have := h.rd.wf
  cases hb : r.bs with
  | nil => simp [Rs.hd, hb]
  | cons x l => rw [hb] at this; simpa [Rs.hd, hb] using this x (by simp)
theorem getD_last (s : List Int) (x : Int) (k : Nat) (h : s.length = k) : (s ++ [x]).getD k 0 = x := by
  subst h; simp [List.getD_eq_getElem?_getD]
theorem and_bit_nat (b : Nat) (hb : b = 1 ∨ b = 2 ∨ b = 4 ∨ b = 8) : ∀ n, n < 256 → bits .and .i64 ((n : Nat) : Int) (b : Int) = if bitSet (n : Int) b then (b : Int) else 0 := by
  rcases hb with rfl | rfl | rfl | rfl <;> decide +kernel
theorem and_bit (b : Nat) (hb : b = 1 ∨ b = 2 ∨ b = 4 ∨ b = 8) (f : Int) (h0 : 0 ≤ f) (h1 : f ≤ 255) : bits .and .i64 f (b : Int) = if bitSet f b then (b : Int) else 0 := by
  obtain ⟨n, rfl⟩ := Int.eq_ofNat_of_zero_le h0
  exact and_bit_nat b hb n (by omega)
theorem and_yes (b : Nat) (hb : b = 1 ∨ b = 2 ∨ b = 4 ∨ b = 8) (f : Int) (h0 : 0 ≤ f) (h1 : f ≤ 255) (h : bitSet f b = true) : bits .and .i64 f (b : Int) = b := by rw [and_bit b hb f h0 h1, if_pos h]
theorem and_no (b : Nat) (hb : b = 1 ∨ b = 2 ∨ b = 4 ∨ b = 8) (f : Int) (h0 : 0 ≤ f) (h1 : f ≤ 255) (h : bitSet f b = false) : bits .and .i64 f (b : Int) = 0 := by rw [and_bit b hb f h0 h1, h]; rfl
theorem Kd.R_baseOf {α : Type} {d : Kd α} {e base : Nat} {W : World} {ok : Nat → Prop} {v : Value} {xs : List α} (h : d.R e W base ok v xs) {g : Nat} (hg : v.ownBlock = some g) : base ≤ g := by
  obtain ⟨inner, hown⟩ := Kd.R_own h
  exact own_base hown g hg
/-- Numbers that are read; their block is none of S. -/
def Ins (S : Nat → Prop) (W : World) (A : Option Addr) (xs : List Int) : Prop :=
  xs = [] ∨ ∃ g off, A = some ⟨g, off, none⟩ ∧ g < W.heap.size ∧ ¬ S g ∧ ∀ j, j < xs.length → W.cell? ⟨g, off + j, none⟩ = some (.int .i64 (xs.getD j 0))
theorem Ins.kept {S : Nat → Prop} {W W' : World} {A : Option Addr} {xs : List Int} (h : Ins S W A xs) (hk : Kept S W W') : Ins S W' A xs := by
  rcases h with h | ⟨g, off, rfl, hg, hS, hc⟩
  · exact .inl h
  · exact .inr ⟨g, off, rfl, Nat.lt_of_lt_of_le hg hk.size, hS, fun j hj => hk.cell (hc j hj) hS⟩
theorem Ins.take {S : Nat → Prop} {W : World} {A : Option Addr} {xs : List Int} (h : Ins S W A xs) (m : Nat) : Ins S W A (xs.take m) := by
  rcases h with h | ⟨g, off, rfl, hg, hS, hc⟩
  · exact .inl (by rw [h]; simp)
  · refine .inr ⟨g, off, rfl, hg, hS, fun j hj => ?_⟩
    rw [List.length_take] at hj
    rw [hc j (by omega)]
    simp [List.getD_eq_getElem?_getD, List.getElem?_take, show j < m by omega]
theorem Ins.drop {S : Nat → Prop} {W : World} {g off : Nat} {xs : List Int} (h : Ins S W (some ⟨g, off, none⟩) xs) (m : Nat) : Ins S W (some ⟨g, off + m, none⟩) (xs.drop m) := by
  rcases h with h | ⟨g, off, he, hg, hS, hc⟩
  · exact .inl (by rw [h]; simp)
  · injection he with he
    injection he with h1 h2
    subst h1; subst h2
    refine .inr ⟨_, _, rfl, hg, hS, fun j hj => ?_⟩
    rw [List.length_drop] at hj
    rw [show off + m + j = off + (m + j) by omega, hc (m + j) (by omega)]
    simp [List.getD_eq_getElem?_getD]
theorem Ins.ofRow {S : Nat → Prop} {W : World} {A : Option Addr} {n c e base : Nat} {ok : Nat → Prop} {xs : List Int} (h : (Kd.int .i64).R e W base ok (.slice A n c) xs) (hS : ∀ g, (Value.slice A n c).ownBlock = some g → ¬ S g) : Ins S W A xs := by
  rcases ints_form h with ⟨_, h⟩ | ⟨g, c', e, _, _, hg, _, hc⟩
  · exact .inl h
  · injection e with e1 e2 e3
    subst e1
    exact .inr ⟨g, 0, rfl, hg, hS g (by simp [Value.ownBlock]), fun j hj => by rw [Nat.zero_add]; exact hc j hj⟩
theorem sum_drop (s : List Int) (i : Nat) (h : i < s.length) : (s.drop i).sum = s.getD i 0 + (s.drop (i + 1)).sum := by
  rw [List.drop_eq_getElem_cons h, List.sum_cons]
  simp [List.getD_eq_getElem?_getD, List.getElem?_eq_getElem h]
theorem sum_nn (s : List Int) (h : ∀ x ∈ s, 0 ≤ x) : 0 ≤ s.sum := by
  induction s with
  | nil => simp
  | cons a s ih => rw [List.sum_cons]; have := ih (fun x hx => h x (List.mem_cons_of_mem _ hx)); have := h a (by simp); omega
theorem bne_bit (b : Nat) (hb : b = 1 ∨ b = 2 ∨ b = 4 ∨ b = 8) (f : Int) (h0 : 0 ≤ f) (h1 : f ≤ 255) : (bits .and .i64 f (b : Int) != 0) = bitSet f b := by
  rw [and_bit b hb f h0 h1]
  cases bitSet f b
  · rfl
  · rw [if_pos rfl]; simp; omega
theorem Pw.stepB {w W : World} {A : Option Addr} {cap : Nat} {r : Rs} {u : Value} (h : Pw w W A cap r u) (b : Bool) : -40000 ≤ r.step b ∧ r.step b ≤ 40000 := by
  obtain ⟨h0, h1⟩ := h.hd
  have h2 : 0 ≤ r.nx.hd ∧ r.nx.hd ≤ 255 := by
    have := h.rd.wf
    match hb : r.bs with
    | [] => simp [Rs.hd, Rs.nx, hb]
    | [x] => simp [Rs.hd, Rs.nx, hb]
    | x :: y :: l => rw [hb] at this; simpa [Rs.hd, Rs.nx, hb] using this y (by simp)
  unfold Rs.step p8
  cases b <;> simp <;> split <;> omega
theorem info_v : (Try.prog.info? 34).map (fun i => (i.zero, i.size, i.bytes)) = some (some (.agg #[.int .i64 0, .int .i64 0, .bool false]), 3, 24) := by kernel_rfl
theorem info_vs : (Try.prog.info? 28).map (fun i => (i.zero, i.size, i.bytes)) = some (some (.slice none 0 0), 1, 24) := by kernel_rfl
theorem ct_step (s fs : List Int) (i Z c : Nat) (hi : i < s.length) (hZ : s.getD i 0 = (Z : Int)) (P : List Int) (hP : P = (fs.drop c).take Z) (x y xb yb : Int) (r7 r8 : Rs) (pts : List S34) (R5) (h5 : ptL P x y r7 [] = R5) (h6 : R5 = (pts, xb, yb, r8))
    (cs : List (List S34)) (R4) (h : ctL (s.drop i) (fs.drop c) x y r7 cs = R4) : ctL (s.drop (i + 1)) (fs.drop (c + Z)) xb yb r8 (cs ++ [pts]) = R4 := by
  have hg : s[i] = (Z : Int) := by rw [List.getD_eq_getElem?_getD, List.getElem?_eq_getElem hi] at hZ; exact hZ
  rw [List.drop_eq_getElem_cons hi, ctL, hg, Int.toNat_natCast, ← hP, h5, h6, List.drop_drop] at h
  exact h
theorem drop_none (fs : List Int) (n : Nat) (h : fs.length ≤ n) (S : Nat → Prop) (W : World) (A : Option Addr) : Ins S W A (fs.drop n) := .inl (List.drop_eq_nil_of_le h)
theorem Ins.more {S : Nat → Prop} {W : World} {A : Option Addr} {fs : List Int} {c : Nat} (h : Ins S W A (fs.drop c)) (j : Nat) : Ins S W (Option.map (fun x => x.add j) A) (fs.drop (c + j)) := by
  rcases h with h | ⟨g, off, rfl, hg, hS, hc⟩
  · refine .inl ?_
    rw [← List.drop_drop, h]; simp
  · have := Ins.drop (S := S) (W := W) (g := g) (off := off) (xs := fs.drop c) (.inr ⟨g, off, rfl, hg, hS, hc⟩) j
    rw [List.drop_drop] at this
    have e : (⟨g, off, none⟩ : Addr).add j = ⟨g, off + j, none⟩ := by unfold Addr.add; split <;> simp_all
    show Ins S W (some ((⟨g, off, none⟩ : Addr).add j)) _
    rw [e]; exact this
theorem ptL_len : ∀ (fs : List Int) (x y : Int) (r : Rs) (c : List S34), (ptL fs x y r c).1.length = c.length + fs.length
  | [], x, y, r, c => rfl
  | f :: fs, x, y, r, c => by rw [ptL, ptL_len fs]; simp; omega
theorem ctL_len : ∀ (ss fs : List Int) (x y : Int) (r : Rs) (cs : List (List S34)), ∀ c ∈ (ctL ss fs x y r cs).1, c ∈ cs ∨ c.length ≤ fs.length
  | [], fs, x, y, r, cs, c, hc => .inl hc
  | s :: ss, fs, x, y, r, cs, c, hc => by
    rw [ctL] at hc
    rcases ctL_len ss _ _ _ _ _ c hc with h | h
    · rcases List.mem_append.1 h with h | h
      · exact .inl h
      · simp at h
        subst h
        refine .inr ?_
        rw [ptL_len, List.length_take]; simp; omega
    · refine .inr ?_
      rw [List.length_drop] at h; omega
theorem Pw.below {w W W' : World} {A : Option Addr} {cap : Nat} {r : Rs} {u : Value} (h : Pw w W A cap r u) (hb : Below W.heap.size W W') : Pw w W' A cap r u := by
  have hk := Kept.of_below (fun _ => False) hb
  refine ⟨hk.get h.res (by simp), ⟨hk.get h.rd.blk (by simp), h.rd.le, ?_, h.rd.ne, h.rd.hN, h.rd.wf⟩, hk.get h.out (by simp), h.bel.trans (hb.mono h.bel.size)⟩
  by_cases hn : r.bs = []
  · exact .inl hn
  · exact h.rd.row.kept hk (fun g off e hS => hS)
/-- What Parse hands back. -/
def PostP (w : World) (q : List (List S34) × Int) (e : Ending) (w' : World) : Prop :=
  ∃ v0 : Value, e = .returned (.tuple #[.agg #[v0], .int .i64 q.2]) ∧ Kd.S (Kd.slice 34 k34) 28 w' w.heap.size (fun _ => True) v0 q.1 ∧ Below w.heap.size w w'
theorem PostP.err {w W : World} {A : Option Addr} {cap : Nat} {r : Rs} {u : Value} (h : Pw w W A cap r u) (c : Int) :
    (W.setCell ⟨w.heap.size, 0, none⟩ (.slice none 0 0)).heap[w.heap.size]? = some (.cells #[.slice none 0 0] 26 (0, 0)) ∧
    PostP w ([], c) (.returned (.tuple #[.agg #[.slice none 0 0], .int .i64 c])) (W.setCell ⟨w.heap.size, 0, none⟩ (.slice none 0 0)) :=
  ⟨by simpa using heap_setCell_same W w.heap.size 0 _ _ (.slice none 0 0) h.res, _, rfl, Kd.S_nil _ _ _ _ _, h.bel.setCell (Nat.le_refl _) _⟩
theorem PostP.ok {w W W2 : World} {A : Option Addr} {cap c n : Nat} {r : Rs} {A1 : Option Addr} {cs : List (List S34)} (h : Pw w W A cap r (.slice A1 n c)) (hb : w.heap.size ≤ W2.heap.size) (hs : Kd.S (Kd.slice 34 k34) 28 W W2.heap.size (fun _ => True) (.slice A1 n c) cs) :
    (W.setCell ⟨w.heap.size, 0, none⟩ (.slice A1 n c)).heap[w.heap.size]? = some (.cells #[.slice A1 n c] 26 (0, 0)) ∧
    PostP w (cs, 0) (.returned (.tuple #[.agg #[.slice A1 n c], .int .i64 0])) (W.setCell ⟨w.heap.size, 0, none⟩ (.slice A1 n c)) :=
  ⟨by simpa using heap_setCell_same W w.heap.size 0 _ _ (.slice A1 n c) h.res, _, rfl,
   Kd.S_lower (Kd.S_mono (Kd.S_far (p := ⟨w.heap.size, 0, none⟩) (Kd.S_types hs h.res (by decide)) (fun _ hk => hk.2) _) (fun _ _ => trivial)) hb, h.bel.setCell (Nat.le_refl _) _⟩
theorem info_int : (Try.prog.info? 3).map (fun i => (i.zero, i.size, i.bytes)) = some (some (.int .i64 0), 1, 8) := by kernel_rfl
set_option maxHeartbeats 2000000 in
set_option maxRecDepth 100000 in
theorem parse_c (A : Option Addr) (cap : Nat) (l : List Int) (w : World) (hb : Bys w A l) (hlc : l.length ≤ cap) (hold : ∀ g off, l ≠ [] → A = some ⟨g, off, none⟩ → g < w.heap.size) (hwf : ∀ x ∈ l, 0 ≤ x ∧ x ≤ 255) :
    Calls Try.prog 27 #[.slice A l.length cap] w fun e w' => PostP w (prF l) e w' := by
  have hp : Pw w (((w.alloc (.cells #[.slice none 0 0] 26)).alloc (.cells #[.slice A l.length cap, .bool false] 80)).alloc (.cells #[.slice none 0 0] 26)) A cap ⟨l, false⟩ (.slice none 0 0) := by
    have k1 := Kept.alloc (fun _ => False) w (.cells #[.slice none 0 0] 26)
    have k2 := Kept.alloc (fun _ => False) (w.alloc (.cells #[.slice none 0 0] 26)) (.cells #[.slice A l.length cap, .bool false] 80)
    have k3 := Kept.alloc (fun _ => False) ((w.alloc (.cells #[.slice none 0 0] 26)).alloc (.cells #[.slice A l.length cap, .bool false] 80)) (.cells #[.slice none 0 0] 26)
    have n1 := heap_alloc_new w (.cells #[.slice none 0 0] 26)
    have n2 := heap_alloc_new (w.alloc (.cells #[.slice none 0 0] 26)) (.cells #[.slice A l.length cap, .bool false] 80)
    have n3 := heap_alloc_new ((w.alloc (.cells #[.slice none 0 0] 26)).alloc (.cells #[.slice A l.length cap, .bool false] 80)) (.cells #[.slice none 0 0] 26)
    rw [World.size_alloc] at n2
    rw [World.size_alloc, World.size_alloc] at n3
    refine ⟨(k2.trans k3).get n1 (by simp), ⟨k3.get n2 (by simp), hlc, hb.kept ((k1.trans k2).trans k3) (by simp), hold, by omega, hwf⟩, n3, ((Below.refl _ _).alloc (Nat.le_refl _) _).alloc (by simp) _ |>.alloc (by simp; omega) _⟩
  have HP := Lib.hid hp; clear hp
  have HL := Lib.hid (And.intro hb (And.intro hold hwf)); clear hb hold hwf
  obtain ⟨m, hm⟩ : ∃ m : Nat, (⟨l, false⟩ : Rs).hd = m := by
    have : 0 ≤ (⟨l, false⟩ : Rs).hd := by
      cases l with
      | nil => simp [Rs.hd]
      | cons x l => exact (HL.out.2.2 x (by simp)).1
    exact ⟨_, (Int.toNat_of_nonneg this).symm⟩
  have HM := Lib.hid hm; clear hm
  go_enter Try.func27, Try.ntmps27
  go_wp2
  go_step3
  go_wp2_with fail
  refine HP.out.byte.mono ?_
  rintro e w1 ⟨rfl, ⟨A1, cap1, h1⟩, -⟩
  have H1 := Lib.hid h1; clear h1
  go_wp2_with fail
  rw [HM.out]
  have HF : Hid (prF l = prS (szL m [] 0 (⟨l, false⟩ : Rs).nx).1 (szL m [] 0 (⟨l, false⟩ : Rs).nx).2.1 (szL m [] 0 (⟨l, false⟩ : Rs).nx).2.2) := by
    have h : (⟨l, false⟩ : Rs).hd.toNat = m := by rw [HM.out]; rfl
    unfold prF; rw [h]; exact Lib.hid rfl
  obtain ⟨R1, hR1⟩ : ∃ R1, szL m [] 0 (⟨l, false⟩ : Rs).nx = R1 := ⟨_, rfl⟩
  rw [hR1] at HF
  have HR1 := Lib.hid hR1; clear hR1
  have hm255 : m ≤ 255 := by
    have h := HM.out
    cases l with
    | nil => simp [Rs.hd] at h; omega
    | cons x l =>
      have := (HL.out.2.2 x (by simp)).2
      simp [Rs.hd] at h; omega
  go_loopw [6, 7, 24] (fun vn vs vi W => ∃ (k : Nat) (A : Option Addr) (cap : Nat) (r : Rs) (s : List Int) (n : Int) (u : Value), vi = .int .i64 k ∧ k ≤ m ∧ vn = .int .i64 n ∧ vs = u ∧ Hid (szL (m - k) s n r = R1) ∧
      0 ≤ n ∧ n ≤ 255 * k ∧ Hid ((∀ x ∈ s, 0 ≤ x ∧ x ≤ 255) ∧ s.length = k ∧ s.sum = n) ∧ Hid (Pw w W A cap r (.slice none 0 0)) ∧ Hid (Kd.R (Kd.int .i64) 3 W w.heap.size (fun _ => True) u s)) (fun _ _ vi _ => m - (intOf vi).toNat)
  case atStart => exact ⟨0, A1, cap1, _, [], 0, .slice none 0 0, rfl, Nat.zero_le _, rfl, rfl, HR1, Int.le_refl _, by omega, Lib.hid ⟨by simp, rfl, rfl⟩, H1, Lib.hid (Kd.R_nil _ _ _ _ _)⟩
  case round =>
    obtain ⟨k, A2, cap2, r, s, n, u, rfl, hk, rfl, rfl, HS, hn0, hn1, HI, HPr, HO⟩ := hrel
    by_cases hlt : k < m
    · have hkm : (k : Int) < (m : Int) := by omega
      obtain ⟨hh0, hh1⟩ := HPr.out.hd
      obtain ⟨A0, c0, e0⟩ := Kd.R_slice HO.out
      rw [HI.out.2.1] at e0
      subst e0
      go_wp2_with fail
      refine HPr.out.byte.mono ?_
      rintro e w2 ⟨rfl, ⟨A3, cap3, h2⟩, hk2⟩
      have HO2 := Lib.hid (Kd.R_kept (t := 80) HO.out hk2 HPr.out.rd.blk (by decide))
      have H2 := Lib.hid h2; clear h2 hk2
      go_wp2_with (at_builtin; refine Kd.R_append (Kd.int .i64) (w0 := w) w.heap.size rfl (.tmp 26) (.tmp 29) 75 3 (.int .i64 0) 8 rfl Try.underlying75 info_int rfl (by decide) (by omega) (.slice A0 k c0) s r.hd [.int .i64 r.hd] (fun _ => True) (fun _ => False) rfl rfl ?aP (fun _ hk => hk.elim) (fun _ _ => trivial) HO2.out H2.out.bel H2.out.bel.size ?aL ?_; (case aP => exact rfl); (case aL => have := HI.out.2.1; omega); intro v1 w3 ho hb hg hat; have n1 := Lib.hid (H2.out.grown hg (H2.out.rowOk HO2.out (by decide) (by decide))); have n2 := Lib.hid (ints_form ho); have n3 := Lib.hid ho; clear ho hb hg hat; obtain ⟨g5, c5, e5, l5, _, _, _, hc5⟩ := n2.out.resolve_left (fun h => by simp at h); rw [List.length_append, List.length_singleton, HI.out.2.1] at e5 l5; subst e5; have hcx := hc5 k (by rw [List.length_append, List.length_singleton, HI.out.2.1]; omega); rw [getD_last s _ k HI.out.2.1] at hcx; clear hc5 n2)
      go_roundw
      case rel =>
        refine ⟨k + 1, A3, cap3, r.nx, s ++ [r.hd], n + r.hd, _, by go_num, by omega, rfl, rfl, ?_, by omega, by omega, ?_, n1, n3⟩
        · have h := HS.out
          obtain ⟨d, hd⟩ : ∃ d, m - k = d + 1 := ⟨m - k - 1, by omega⟩
          rw [hd, szL] at h
          rw [show m - (k + 1) = d by omega]
          exact h
        · refine ⟨fun x hx => ?_, by simpa using HI.out.2.1, by rw [List.sum_append, HI.out.2.2]; simp⟩
          rcases List.mem_append.1 hx with hx | hx
          · exact HI.out.1 x hx
          · simp at hx; subst hx; exact ⟨hh0, hh1⟩
      case measure => simp [intOf]; omega
    · have hkm : k = m := by omega
      subst hkm
      have hs := HS.out
      rw [Nat.sub_self, szL] at hs
      have hf := HF.out
      rw [← hs] at hf
      clear hs
      obtain ⟨A0, c0, e0⟩ := Kd.R_slice HO.out
      rw [HI.out.2.1] at e0
      subst e0
      have cb1 : wr.cell? ⟨w.heap.size + 1, 1, none⟩ = some (.bool r.bad) := (blk_cell HPr.out.rd.blk 1).trans rfl
      have fr0 : wr.frozen? ⟨w.heap.size, 0, none⟩ = false := blk_frozen HPr.out.res 0
      have c00 : wr.cell? ⟨w.heap.size, 0, none⟩ = some (.slice none 0 0) := (blk_cell HPr.out.res 0).trans rfl
      by_cases hbad : r.bad = true
      · have hf1 : prF l = ([], 1) := by rw [hf]; simp [prS, hbad]
        have HF1 := Lib.hid hf1; clear hf1 hf
        rw [hbad] at cb1
        have HBAD := Lib.hid hbad; clear hbad
        go_wp2_with fail
        obtain ⟨q1, q2⟩ := PostP.err HPr.out 1
        refine bodyPost_ret (results_ct rfl _ _ w.heap.size 26 #[.slice none 0 0] (0, 0) _ rfl q1 Try.underlying26 rfl (by kernel_rfl)) rfl ?_
        rw [HF1.out]
        exact q2
      · have hbad : r.bad = false := by simpa using hbad
        rw [hbad] at cb1
        obtain ⟨N, rfl⟩ := Int.eq_ofNat_of_zero_le hn0
        have HBAD := Lib.hid hbad; clear hbad
        have HF1 := Lib.hid hf; clear hf
        have hck : (k : Int) ≤ 255 := by omega
        by_cases hn64 : 64 < N
        · have HF2 : Hid (prF l = ([], 3)) := Lib.hid (by rw [HF1.out]; unfold prS; simp only [HBAD.out]; rw [if_neg (by simp), if_pos (by omega)])
          have hd1 : decide (64 < (N : Int)) = true := decide_eq_true (by omega)
          go_wp2_with fail
          obtain ⟨q1, q2⟩ := PostP.err HPr.out 3
          refine bodyPost_ret (results_ct rfl _ _ w.heap.size 26 #[.slice none 0 0] (0, 0) _ rfl q1 Try.underlying26 rfl (by kernel_rfl)) rfl ?_
          rw [HF2.out]
          exact q2
        · have hd1 : decide (64 < (N : Int)) = false := decide_eq_false (by omega)
          by_cases hk8 : 8 < k
          · have HF2 : Hid (prF l = ([], 3)) := Lib.hid (by rw [HF1.out]; unfold prS; simp only [HBAD.out]; rw [if_neg (by simp), if_neg (by omega), if_pos (by rw [HI.out.2.1]; exact hk8)])
            have hd2 : decide (8 < (k : Int)) = true := decide_eq_true (by omega)
            go_wp2_with fail
            obtain ⟨q1, q2⟩ := PostP.err HPr.out 3
            refine bodyPost_ret (results_ct rfl _ _ w.heap.size 26 #[.slice none 0 0] (0, 0) _ rfl q1 Try.underlying26 rfl (by kernel_rfl)) rfl ?_
            rw [HF2.out]
            exact q2
          · have hd2 : decide (8 < (k : Int)) = false := decide_eq_false (by omega)
            have HF2 : Hid (prF l = match flL N (N + 1) [] r with | .inl e => ([], e) | .inr (fs, r2) => prT s fs r2) := Lib.hid (by rw [HF1.out]; unfold prS; simp only [HBAD.out]; rw [if_neg (by simp), if_neg (by omega), if_neg (by rw [HI.out.2.1]; exact hk8)]; rfl)
            go_wp2_with fail
            go_step3
            go_wp2_with fail
            obtain ⟨R2, hR2⟩ : ∃ R2, flL N (N + 1) [] r = R2 := ⟨_, rfl⟩
            rw [hR2] at HF2
            have HR2 := Lib.hid hR2; clear hR2
            obtain ⟨W1, rfl⟩ : ∃ W1 : World, W1 = wr := ⟨_, rfl⟩
            clear cb1 fr0 c00
            go_loopg [8] (N + 1) (fun kq v8 W => ∃ (A : Option Addr) (cap : Nat) (r : Rs) (fs : List Int) (u : Value), v8 = u ∧ Hid (flL N kq fs r = R2) ∧ Hid (N < kq + fs.length) ∧ Hid (fs.length ≤ N ∧ ∀ x ∈ fs, 0 ≤ x ∧ x ≤ 255) ∧
              Hid (Pw w W A cap r (.slice none 0 0)) ∧ Hid (Kd.R (Kd.int .i64) 3 W W1.heap.size (fun _ => True) u fs) ∧ Hid (Kept (· = w.heap.size + 1) W1 W))
            case atStart => exact ⟨A2, cap2, r, [], .slice none 0 0, rfl, HR2, Lib.hid (by simp), Lib.hid ⟨by simp, by simp⟩, HPr, Lib.hid (Kd.R_nil _ _ _ _ _), Lib.hid (Kept.refl _ _)⟩
            case round =>
              obtain ⟨A5, cap5, r5, fs, u, rfl, HE, HD, HFS, HP5, HO5, HK5⟩ := hrel
              obtain ⟨A6, c6, e6⟩ := Kd.R_slice HO5.out
              obtain ⟨F, hF⟩ : ∃ F, fs.length = F := ⟨_, rfl⟩
              rw [hF] at e6
              subst e6
              have hFN : F ≤ N := hF ▸ HFS.out.1
              have HFL := Lib.hid hF; clear hF
              by_cases hlt : F < N
              · have hd3 : decide ((F : Int) < (N : Int)) = true := decide_eq_true (by omega)
                obtain ⟨D, hD⟩ : ∃ D, gk = D + 1 := ⟨gk - 1, by have := HD.out; have := HFL.out; omega⟩
                subst hD
                obtain ⟨hf0, hf1⟩ := HP5.out.hd
                go_wp2_with fail
                refine HP5.out.byte.mono ?_
                rintro e w6 ⟨rfl, ⟨A7, cap7, h7⟩, hk7⟩
                have H7 := Lib.hid h7
                have HO7 := Lib.hid (Kd.R_kept (t := 80) HO5.out hk7 HP5.out.rd.blk (by decide))
                have HK7 := Lib.hid (HK5.out.trans hk7); clear h7 hk7
                by_cases hb8 : bitSet r5.hd 8 = true
                · have ha8 : bits .and .i64 r5.hd 8 = 8 := and_yes 8 (by simp) r5.hd hf0 hf1 hb8
                  have HB8 := Lib.hid hb8; clear hb8
                  obtain ⟨hg0, hg1⟩ := H7.out.hd
                  go_wp2_with fail
                  refine H7.out.byte.mono ?_
                  rintro e w8 ⟨rfl, ⟨A9, cap9, h9⟩, hk9⟩
                  have HO9 := Lib.hid (Kd.R_kept (t := 80) HO7.out hk9 H7.out.rd.blk (by decide))
                  have HK9 := Lib.hid (HK7.out.trans hk9)
                  obtain ⟨T, hT⟩ : ∃ T : Nat, 1 + r5.nx.hd = (T : Int) := ⟨(1 + r5.nx.hd).toNat, by omega⟩
                  have HT : Hid (flT r5 = T ∧ 1 ≤ T) := Lib.hid ⟨by unfold flT; rw [if_pos HB8.out]; omega, by omega⟩
                  have H9 : Hid (Pw w w8 A9 cap9 (flR r5) (.slice none 0 0)) := Lib.hid (by unfold flR; rw [if_pos HB8.out]; exact h9)
                  clear h9 hk9
                  have cb9 : w8.cell? ⟨w.heap.size + 1, 1, none⟩ = some (.bool (flR r5).bad) := (blk_cell H9.out.rd.blk 1).trans rfl
                  have fr9 : w8.frozen? ⟨w.heap.size, 0, none⟩ = false := blk_frozen H9.out.res 0
                  have c09 : w8.cell? ⟨w.heap.size, 0, none⟩ = some (.slice none 0 0) := (blk_cell H9.out.res 0).trans rfl
                  by_cases hbad5 : (flR r5).bad = true
                  · rw [hbad5] at cb9
                    have HF3 : Hid (prF l = ([], 1)) := Lib.hid (by
                      have h := HE.out; rw [flL, if_pos (by rw [HFL.out]; exact hlt), if_pos hbad5] at h
                      rw [HF2.out, ← h])
                    clear hbad5
                    go_wp2_with fail
                    obtain ⟨q1, q2⟩ := PostP.err H9.out 1
                    rw [Exit.noGoto_ret]
                    refine bodyPost_ret (results_ct rfl _ _ w.heap.size 26 #[.slice none 0 0] (0, 0) _ rfl q1 Try.underlying26 rfl (by kernel_rfl)) rfl ?_
                    rw [HF3.out]
                    exact q2
                  · have hbad6 : (flR r5).bad = false := by simpa using hbad5
                    rw [hbad6] at cb9
                    have HE6 : Hid ((if 15 < r5.hd ∨ N < F + T then Sum.inl 2 else flL N D (fs ++ List.replicate T r5.hd) (flR r5)) = R2) := Lib.hid (by
                      have h := HE.out; rw [flL, if_pos (by rw [HFL.out]; exact hlt), if_neg (by simp [hbad6]), HFL.out, HT.out.1] at h
                      exact h)
                    clear hbad5 hbad6
                    go_wp2_with fail
                    clear cb9 fr9 c09
                    obtain ⟨W8, rfl⟩ : ∃ W8 : World, W8 = w8 := ⟨_, rfl⟩
                    go_loopw [8, 74] (fun v8 v74 W => ∃ (j : Nat) (u : Value), v74 = .int .i64 j ∧ v8 = u ∧ j ≤ T ∧ Hid (j = 0 ∨ r5.hd ≤ 15) ∧ Hid (F + j ≤ N) ∧ Hid (Pw w W A9 cap9 (flR r5) (.slice none 0 0)) ∧
                      Hid (Kd.R (Kd.int .i64) 3 W W1.heap.size (fun _ => True) u (fs ++ List.replicate j r5.hd)) ∧ Hid (Kept (· = w.heap.size + 1) W1 W)) (fun _ v74 _ => T - (intOf v74).toNat)
                    case atStart => exact ⟨0, _, rfl, rfl, Nat.zero_le _, Lib.hid (.inl rfl), Lib.hid hFN, H9, Lib.hid (by simpa using HO9.out), HK9⟩
                    case round =>
                      obtain ⟨j, u, rfl, rfl, hj, HJ, HJN, HPj, HOj, HKj⟩ := hrel
                      obtain ⟨Aj, cj, ej⟩ := Kd.R_slice HOj.out
                      rw [List.length_append, List.length_replicate, HFL.out] at ej
                      subst ej
                      have c09 : wr.cell? ⟨w.heap.size, 0, none⟩ = some (.slice none 0 0) := (blk_cell HPj.out.res 0).trans rfl
                      have fr9 : wr.frozen? ⟨w.heap.size, 0, none⟩ = false := blk_frozen HPj.out.res 0
                      by_cases hjT : j < T
                      · have hj1 : decide ((j : Int) < (T : Int)) = true := decide_eq_true (by omega)
                        by_cases h15 : 15 < r5.hd
                        · have HF3 : Hid (prF l = ([], 2)) := Lib.hid (by
                            have h := HE6.out; rw [if_pos (.inl h15)] at h
                            rw [HF2.out, ← h])
                          have h15d : decide (15 < r5.hd) = true := decide_eq_true h15
                          have hN0 : decide ((0 : Int) < (N : Int)) = true := decide_eq_true (by omega)
                          have hN1 : 0 < N := by omega
                          go_wp2_with fail
                          obtain ⟨q1, q2⟩ := PostP.err HPj.out 2
                          refine bodyPost_ret (results_ct rfl _ _ w.heap.size 26 #[.slice none 0 0] (0, 0) _ rfl q1 Try.underlying26 rfl (by kernel_rfl)) rfl ?_
                          rw [HF3.out]
                          exact q2
                        · have h15d : decide (15 < r5.hd) = false := decide_eq_false h15
                          by_cases hFj : F + j = N
                          · have HF3 : Hid (prF l = ([], 2)) := Lib.hid (by
                              have h := HE6.out; rw [if_pos (.inr (by omega))] at h
                              rw [HF2.out, ← h])
                            have hN0 : decide ((0 : Int) < (N : Int)) = true := decide_eq_true (by omega)
                            have hN1 : 0 < N := by omega
                            have e1 : (((F + j : Nat) : Int) == (N : Int)) = true := by simp; omega
                            have e2 : decide (((F + j : Nat) : Int) = (N : Int)) = true := by simp; omega
                            have e3 : ((F : Int) + (j : Int) == (N : Int)) = true := by simp; omega
                            have HFJ := Lib.hid hFj; clear hFj
                            go_wp2_with fail
                            obtain ⟨q1, q2⟩ := PostP.err HPj.out 2
                            refine bodyPost_ret (results_ct rfl _ _ w.heap.size 26 #[.slice none 0 0] (0, 0) _ rfl q1 Try.underlying26 rfl (by kernel_rfl)) rfl ?_
                            rw [HF3.out]
                            exact q2
                          · have e1 : (((F + j : Nat) : Int) == (N : Int)) = false := by simp; omega
                            have e2 : decide (((F + j : Nat) : Int) = (N : Int)) = false := by simp; omega
                            have e3 : ((F : Int) + (j : Int) == (N : Int)) = false := by simp; omega
                            have HFJ := Lib.hid hFj; clear hFj
                            go_wp2_with (at_builtin; refine Kd.R_append (Kd.int .i64) (w0 := wr) W1.heap.size rfl (.tmp 84) (.tmp 86) 75 3 (.int .i64 0) 8 rfl Try.underlying75 info_int rfl (by decide) (by omega) (.slice Aj (F + j) cj) (fs ++ List.replicate j r5.hd) r5.hd [.int .i64 r5.hd] (fun _ => True) (fun _ => False) rfl rfl ?aP (fun _ hk => hk.elim) (fun _ _ => trivial) HOj.out (Below.refl _ _) HKj.out.size ?aL ?_; (case aP => exact rfl); (case aL => (rw [List.length_append, List.length_replicate, HFL.out]; have := HJN.out; omega)); intro v1 w9 ho hb hg hat; have n1 := Lib.hid (HPj.out.grown hg (HPj.out.rowOk (Kd.R_lower HOj.out HPr.out.bel.size) (by decide) (by decide))); have n2 := Lib.hid (HKj.out.andThen (Kept.of_grownBy hg) (fun _ _ h => h) (fun k hk h => absurd hk (by have := Kd.R_baseOf HOj.out h; omega))); have n3 := Lib.hid ho; clear ho hb hg hat; obtain ⟨A10, c10, e10⟩ := Kd.R_slice n3.out; rw [List.length_append, List.length_append, List.length_replicate, HFL.out, List.length_singleton] at e10; subst e10)
                            go_roundw
                            case rel =>
                              refine ⟨j + 1, _, by go_num, rfl, by omega, Lib.hid (.inr (by have := of_decide_eq_false h15d; omega)), Lib.hid (by have := HJN.out; have := HFJ.out; omega), n1, ?_, n2⟩
                              rw [List.replicate_succ', ← List.append_assoc]
                              exact n3
                            case measure => simp [intOf]; omega
                      · have hjT2 : j = T := by omega
                        have hj1 : decide ((j : Int) < (T : Int)) = false := decide_eq_false (by omega)
                        have HJT := Lib.hid hjT2; clear hjT2
                        go_wp2_with fail
                        have h15 : r5.hd ≤ 15 := by have := HJ.out; have := HJT.out; have := HT.out.2; omega
                        go_roundg D
                        case measure => omega
                        case rel =>
                          refine ⟨A9, cap9, flR r5, fs ++ List.replicate T r5.hd, _, rfl, ?_, ?_, ?_, HPj, ?_, HKj⟩
                          · have h := HE6.out
                            rw [if_neg (by have := HJN.out; have := HJT.out; omega)] at h
                            exact h
                          · have h := HD.out; have h2 := HT.out.2; have h3 := HFL.out
                            exact Lib.hid (by rw [List.length_append, List.length_replicate]; omega)
                          · have h := HFS.out
                            refine Lib.hid ⟨by have := HJN.out; have := HJT.out; have := HFL.out; rw [List.length_append, List.length_replicate]; omega, fun x hx => ?_⟩
                            rcases List.mem_append.1 hx with hx | hx
                            · exact h.2 x hx
                            · obtain rfl := (List.mem_replicate.1 hx).2
                              exact ⟨hf0, hf1⟩
                          · have e : List.replicate T r5.hd = List.replicate j r5.hd := by rw [HJT.out]
                            rw [e]; exact HOj
                · have hb80 : bitSet r5.hd 8 = false := by simpa using hb8
                  have ha8 : bits .and .i64 r5.hd 8 = 0 := and_no 8 (by simp) r5.hd hf0 hf1 hb80
                  have HB8 := Lib.hid hb80; clear hb8 hb80
                  have HT : Hid (flT r5 = 1 ∧ 1 ≤ 1) := Lib.hid ⟨by unfold flT; rw [if_neg (by simp [HB8.out])], by omega⟩
                  obtain ⟨w8, rfl⟩ : ∃ w8 : World, w8 = w6 := ⟨_, rfl⟩
                  have H9 : Hid (Pw w w8 A7 cap7 (flR r5) (.slice none 0 0)) := Lib.hid (by unfold flR; rw [if_neg (by simp [HB8.out])]; exact H7.out)
                  have HO9 := HO7
                  have HK9 := HK7
                  obtain ⟨A9, rfl⟩ : ∃ A9 : Option Addr, A9 = A7 := ⟨_, rfl⟩
                  obtain ⟨cap9, rfl⟩ : ∃ cap9 : Nat, cap9 = cap7 := ⟨_, rfl⟩
                  have cb9 : w8.cell? ⟨w.heap.size + 1, 1, none⟩ = some (.bool (flR r5).bad) := (blk_cell H9.out.rd.blk 1).trans rfl
                  have fr9 : w8.frozen? ⟨w.heap.size, 0, none⟩ = false := blk_frozen H9.out.res 0
                  have c09 : w8.cell? ⟨w.heap.size, 0, none⟩ = some (.slice none 0 0) := (blk_cell H9.out.res 0).trans rfl
                  by_cases hbad5 : (flR r5).bad = true
                  · rw [hbad5] at cb9
                    have HF3 : Hid (prF l = ([], 1)) := Lib.hid (by
                      have h := HE.out; rw [flL, if_pos (by rw [HFL.out]; exact hlt), if_pos hbad5] at h
                      rw [HF2.out, ← h])
                    clear hbad5
                    go_wp2_with fail
                    obtain ⟨q1, q2⟩ := PostP.err H9.out 1
                    rw [Exit.noGoto_ret]
                    refine bodyPost_ret (results_ct rfl _ _ w.heap.size 26 #[.slice none 0 0] (0, 0) _ rfl q1 Try.underlying26 rfl (by kernel_rfl)) rfl ?_
                    rw [HF3.out]
                    exact q2
                  · have hbad6 : (flR r5).bad = false := by simpa using hbad5
                    rw [hbad6] at cb9
                    have HE6 : Hid ((if 15 < r5.hd ∨ N < F + 1 then Sum.inl 2 else flL N D (fs ++ List.replicate 1 r5.hd) (flR r5)) = R2) := Lib.hid (by
                      have h := HE.out; rw [flL, if_pos (by rw [HFL.out]; exact hlt), if_neg (by simp [hbad6]), HFL.out, HT.out.1] at h
                      exact h)
                    clear hbad5 hbad6
                    go_wp2_with fail
                    clear cb9 fr9 c09
                    obtain ⟨W8, rfl⟩ : ∃ W8 : World, W8 = w8 := ⟨_, rfl⟩
                    go_loopw [8, 74] (fun v8 v74 W => ∃ (j : Nat) (u : Value), v74 = .int .i64 j ∧ v8 = u ∧ j ≤ 1 ∧ Hid (j = 0 ∨ r5.hd ≤ 15) ∧ Hid (F + j ≤ N) ∧ Hid (Pw w W A9 cap9 (flR r5) (.slice none 0 0)) ∧
                      Hid (Kd.R (Kd.int .i64) 3 W W1.heap.size (fun _ => True) u (fs ++ List.replicate j r5.hd)) ∧ Hid (Kept (· = w.heap.size + 1) W1 W)) (fun _ v74 _ => 1 - (intOf v74).toNat)
                    case atStart => exact ⟨0, _, rfl, rfl, Nat.zero_le _, Lib.hid (.inl rfl), Lib.hid hFN, H9, Lib.hid (by simpa using HO9.out), HK9⟩
                    case round =>
                      obtain ⟨j, u, rfl, rfl, hj, HJ, HJN, HPj, HOj, HKj⟩ := hrel
                      obtain ⟨Aj, cj, ej⟩ := Kd.R_slice HOj.out
                      rw [List.length_append, List.length_replicate, HFL.out] at ej
                      subst ej
                      have c09 : wr.cell? ⟨w.heap.size, 0, none⟩ = some (.slice none 0 0) := (blk_cell HPj.out.res 0).trans rfl
                      have fr9 : wr.frozen? ⟨w.heap.size, 0, none⟩ = false := blk_frozen HPj.out.res 0
                      by_cases hjT : j < 1
                      · have hj1 : decide ((j : Int) < (1 : Int)) = true := decide_eq_true (by omega)
                        by_cases h15 : 15 < r5.hd
                        · have HF3 : Hid (prF l = ([], 2)) := Lib.hid (by
                            have h := HE6.out; rw [if_pos (.inl h15)] at h
                            rw [HF2.out, ← h])
                          have h15d : decide (15 < r5.hd) = true := decide_eq_true h15
                          have hN0 : decide ((0 : Int) < (N : Int)) = true := decide_eq_true (by omega)
                          have hN1 : 0 < N := by omega
                          go_wp2_with fail
                          obtain ⟨q1, q2⟩ := PostP.err HPj.out 2
                          refine bodyPost_ret (results_ct rfl _ _ w.heap.size 26 #[.slice none 0 0] (0, 0) _ rfl q1 Try.underlying26 rfl (by kernel_rfl)) rfl ?_
                          rw [HF3.out]
                          exact q2
                        · have h15d : decide (15 < r5.hd) = false := decide_eq_false h15
                          by_cases hFj : F + j = N
                          · have HF3 : Hid (prF l = ([], 2)) := Lib.hid (by
                              have h := HE6.out; rw [if_pos (.inr (by omega))] at h
                              rw [HF2.out, ← h])
                            have hN0 : decide ((0 : Int) < (N : Int)) = true := decide_eq_true (by omega)
                            have hN1 : 0 < N := by omega
                            have e1 : (((F + j : Nat) : Int) == (N : Int)) = true := by simp; omega
                            have e2 : decide (((F + j : Nat) : Int) = (N : Int)) = true := by simp; omega
                            have e3 : ((F : Int) + (j : Int) == (N : Int)) = true := by simp; omega
                            have HFJ := Lib.hid hFj; clear hFj
                            go_wp2_with fail
                            obtain ⟨q1, q2⟩ := PostP.err HPj.out 2
                            refine bodyPost_ret (results_ct rfl _ _ w.heap.size 26 #[.slice none 0 0] (0, 0) _ rfl q1 Try.underlying26 rfl (by kernel_rfl)) rfl ?_
                            rw [HF3.out]
                            exact q2
                          · have e1 : (((F + j : Nat) : Int) == (N : Int)) = false := by simp; omega
                            have e2 : decide (((F + j : Nat) : Int) = (N : Int)) = false := by simp; omega
                            have e3 : ((F : Int) + (j : Int) == (N : Int)) = false := by simp; omega
                            have HFJ := Lib.hid hFj; clear hFj
                            go_wp2_with (at_builtin; refine Kd.R_append (Kd.int .i64) (w0 := wr) W1.heap.size rfl (.tmp 84) (.tmp 86) 75 3 (.int .i64 0) 8 rfl Try.underlying75 info_int rfl (by decide) (by omega) (.slice Aj (F + j) cj) (fs ++ List.replicate j r5.hd) r5.hd [.int .i64 r5.hd] (fun _ => True) (fun _ => False) rfl rfl ?aP (fun _ hk => hk.elim) (fun _ _ => trivial) HOj.out (Below.refl _ _) HKj.out.size ?aL ?_; (case aP => exact rfl); (case aL => (rw [List.length_append, List.length_replicate, HFL.out]; have := HJN.out; omega)); intro v1 w9 ho hb hg hat; have n1 := Lib.hid (HPj.out.grown hg (HPj.out.rowOk (Kd.R_lower HOj.out HPr.out.bel.size) (by decide) (by decide))); have n2 := Lib.hid (HKj.out.andThen (Kept.of_grownBy hg) (fun _ _ h => h) (fun k hk h => absurd hk (by have := Kd.R_baseOf HOj.out h; omega))); have n3 := Lib.hid ho; clear ho hb hg hat; obtain ⟨A10, c10, e10⟩ := Kd.R_slice n3.out; rw [List.length_append, List.length_append, List.length_replicate, HFL.out, List.length_singleton] at e10; subst e10)
                            go_roundw
                            case rel =>
                              refine ⟨j + 1, _, by go_num, rfl, by omega, Lib.hid (.inr (by have := of_decide_eq_false h15d; omega)), Lib.hid (by have := HJN.out; have := HFJ.out; omega), n1, ?_, n2⟩
                              rw [List.replicate_succ', ← List.append_assoc]
                              exact n3
                            case measure => simp [intOf]; omega
                      · have hjT2 : j = 1 := by omega
                        have hj1 : decide ((j : Int) < (1 : Int)) = false := decide_eq_false (by omega)
                        have HJT := Lib.hid hjT2; clear hjT2
                        go_wp2_with fail
                        have h15 : r5.hd ≤ 15 := by have := HJ.out; have := HJT.out; have := HT.out.2; omega
                        go_roundg D
                        case measure => omega
                        case rel =>
                          refine ⟨A9, cap9, flR r5, fs ++ List.replicate 1 r5.hd, _, rfl, ?_, ?_, ?_, HPj, ?_, HKj⟩
                          · have h := HE6.out
                            rw [if_neg (by have := HJN.out; have := HJT.out; omega)] at h
                            exact h
                          · have h := HD.out; have h2 := HT.out.2; have h3 := HFL.out
                            exact Lib.hid (by rw [List.length_append, List.length_replicate]; omega)
                          · have h := HFS.out
                            refine Lib.hid ⟨by have := HJN.out; have := HJT.out; have := HFL.out; rw [List.length_append, List.length_replicate]; omega, fun x hx => ?_⟩
                            rcases List.mem_append.1 hx with hx | hx
                            · exact h.2 x hx
                            · obtain rfl := (List.mem_replicate.1 hx).2
                              exact ⟨hf0, hf1⟩
                          · have e : List.replicate 1 r5.hd = List.replicate j r5.hd := by rw [HJT.out]
                            rw [e]; exact HOj
              · have hFN2 : F = N := by omega
                subst hFN2
                have hd3 : decide ((F : Int) < (F : Int)) = false := decide_eq_false (by omega)
                have HF4 : Hid (prF l = prT s fs r5) := Lib.hid (by
                  have h := HE.out
                  have h2 : flL F gk fs r5 = .inr (fs, r5) := by
                    cases gk with
                    | zero => rfl
                    | succ g => rw [flL, if_neg (by rw [HFL.out]; omega)]
                  rw [h2] at h
                  rw [HF2.out, ← h])
                clear HF2 HE
                go_wp2_with fail
                obtain ⟨W2, rfl⟩ : ∃ W2 : World, W2 = wr := ⟨_, rfl⟩
                have hSr : ∀ {u : Value} {xs : List Int} {base : Nat}, (Kd.int .i64).R 3 W2 base (fun _ => True) u xs → ∀ g, u.ownBlock = some g → ¬ (g = w.heap.size + 1 ∨ g = w.heap.size + 1 + 1) := by
                  intro u xs base ho g hg hS
                  rcases hS with rfl | rfl
                  · exact Kd.R_ne ho HP5.out.rd.blk (by decide) hg.symm
                  · exact Kd.R_ne ho HP5.out.out (by decide) hg.symm
                have HOs := Kd.R_kept (t := 80) HO.out HK5.out HPr.out.rd.blk (by decide)
                have HIs := Lib.hid (Ins.ofRow (S := fun g => g = w.heap.size + 1 ∨ g = w.heap.size + 1 + 1) HOs (hSr HOs))
                have HIf := Lib.hid (Ins.ofRow (S := fun g => g = w.heap.size + 1 ∨ g = w.heap.size + 1 + 1) HO5.out (hSr HO5.out))
                have hFc : F ≤ c6 := HFL.out ▸ (Kd.R_reads' HO5.out).2.1
                have hHF := HFL.out
                have HSL := Lib.hid HI.out.2.1
                have HSS := Lib.hid HI.out.2.2
                have HSW := Lib.hid HI.out.1
                clear hHF hSr HOs
                obtain ⟨R4, hR4⟩ : ∃ R4, ctL s fs 0 0 r5 [] = R4 := ⟨_, rfl⟩
                have HR4 := Lib.hid hR4; clear hR4
                have hF64 : F ≤ 64 := by omega
                go_loopw [8, 11, 12, 96] (fun v8 v11 v12 v96 W => ∃ (i c : Nat) (Af : Option Addr) (capf : Nat) (x y : Int) (r : Rs) (cs : List (List S34)) (A : Option Addr) (cap : Nat) (u : Value),
                  v96 = .int .i64 i ∧ i ≤ k ∧ v8 = .slice Af (F - c : Nat) capf ∧ c ≤ F ∧ F - c ≤ capf ∧ v11 = .int .i64 x ∧ v12 = .int .i64 y ∧
                  -(40000 * (c : Int)) ≤ x ∧ x ≤ 40000 * (c : Int) ∧ -(40000 * (c : Int)) ≤ y ∧ y ≤ 40000 * (c : Int) ∧
                  Hid (Ins (fun g => g = w.heap.size + 1 ∨ g = w.heap.size + 1 + 1) W2 Af (fs.drop c)) ∧ Hid ((c : Int) + (s.drop i).sum = F) ∧ Hid (cs.length = i) ∧
                  Hid (ctL (s.drop i) (fs.drop c) x y r cs = R4) ∧ Hid (Pw w W A cap r u) ∧ Hid (Kd.S (Kd.slice 34 k34) 28 W W2.heap.size (fun _ => True) u cs) ∧
                  Hid (Kept (fun g => g = w.heap.size + 1 ∨ g = w.heap.size + 1 + 1) W2 W)) (fun _ _ _ v96 _ => k - (intOf v96).toNat)
                case atStart => exact ⟨0, 0, A6, c6, 0, 0, r5, [], A5, cap5, _, rfl, Nat.zero_le _, rfl, Nat.zero_le _, hFc, rfl, rfl, by omega, by omega, by omega, by omega, HIf, Lib.hid (by rw [List.drop_zero, HSS.out]; simp), Lib.hid rfl, HR4, HP5, Lib.hid (Kd.S_nil _ _ _ _ _), Lib.hid (Kept.refl _ _)⟩
                case round =>
                  obtain ⟨i, c, Af, capf, x, y, r7, cs, A7, cap7, uo, rfl, hi, rfl, hcF, hcap7, rfl, rfl, hx0, hx1, hy0, hy1, HIf7, HC7, HL7, HR7, HP7, HS7, HK7⟩ := hrel
                  by_cases hik : i < k
                  · have hik1 : decide ((i : Int) < (k : Int)) = true := decide_eq_true (by omega)
                    obtain ⟨Z, hZ⟩ := Int.eq_ofNat_of_zero_le (HSW.out (s.getD i 0) (by rw [List.getD_eq_getElem?_getD, List.getElem?_eq_getElem (by rw [HSL.out]; exact hik)]; simp)).1
                    have hcZ : c + Z ≤ F := by
                      have h := HC7.out
                      rw [sum_drop s i (by rw [HSL.out]; exact hik), hZ] at h
                      have := sum_nn (s.drop (i + 1)) (fun x hx => (HSW.out x (List.mem_of_mem_drop hx)).1)
                      omega
                    have hZc : (Z : Int) ≤ (capf : Int) := by omega
                    obtain ⟨gs, os, eA0, _, hgS, hcs⟩ := (HIs.out.kept HK7.out).resolve_left (by intro h; have h2 := HSL.out; rw [h] at h2; simp at h2; omega)
                    have hcsi := hcs i (by rw [HSL.out]; exact hik)
                    rw [hZ] at hcsi
                    subst eA0
                    have HZ := Lib.hid hZ; clear hZ hcs
                    go_wp2_with fail
                    obtain ⟨W7, rfl⟩ : ∃ W7 : World, W7 = wr := ⟨_, rfl⟩
                    clear hcsi hZc hik1
                    obtain ⟨P, hP⟩ : ∃ P, P = (fs.drop c).take Z := ⟨_, rfl⟩
                    have hPl : P.length = Z := by rw [hP, List.length_take, List.length_drop, HFL.out]; omega
                    have HIP := Lib.hid (HIf7.out.take Z)
                    rw [← hP] at HIP
                    have HPW : Hid (∀ x ∈ P, 0 ≤ x ∧ x ≤ 255) := Lib.hid (fun x hx => HFS.out.2 x (List.mem_of_mem_drop (List.mem_of_mem_take (hP ▸ hx))))
                    obtain ⟨R5, hR5⟩ : ∃ R5, ptL P x y r7 [] = R5 := ⟨_, rfl⟩
                    have HR5 := Lib.hid hR5; have HPd := Lib.hid hP; have HPL := Lib.hid hPl; clear hR5 hP hPl
                    obtain ⟨xa, hxa⟩ : ∃ xa, xa = x := ⟨_, rfl⟩
                    obtain ⟨ya, hya⟩ : ∃ ya, ya = y := ⟨_, rfl⟩
                    have HXY := Lib.hid (And.intro hxa hya)
                    clear hxa hya
                    go_loopw [11, 12, 15, 104] (fun v11 v12 v15 v104 W => ∃ (j : Nat) (x y : Int) (r : Rs) (pts : List S34) (A : Option Addr) (cap : Nat) (u15 : Value),
                      v104 = .int .i64 j ∧ j ≤ Z ∧ v11 = .int .i64 x ∧ v12 = .int .i64 y ∧ v15 = u15 ∧
                      -(40000 * ((c : Int) + j)) ≤ x ∧ x ≤ 40000 * ((c : Int) + j) ∧ -(40000 * ((c : Int) + j)) ≤ y ∧ y ≤ 40000 * ((c : Int) + j) ∧
                      Hid (ptL (P.drop j) x y r pts = R5) ∧ Hid (pts.length = j) ∧ Hid (Pw w W A cap r uo) ∧
                      Hid (Kd.S (Kd.slice 34 k34) 28 W W2.heap.size (fun q => True ∧ some q ≠ u15.ownBlock) uo cs) ∧
                      Hid (Kd.R k34 34 W W2.heap.size (fun _ => True) u15 pts) ∧
                      Hid (Kept (fun g => g = w.heap.size + 1 ∨ g = w.heap.size + 1 + 1) W2 W)) (fun _ _ _ v104 _ => Z - (intOf v104).toNat)
                    case atStart =>
                      obtain ⟨h1, h2⟩ := HXY.out
                      subst h1; subst h2
                      exact ⟨0, _, _, r7, [], A7, cap7, .slice none 0 0, rfl, Nat.zero_le _, rfl, rfl, rfl, by omega, by omega, by omega, by omega, HR5, Lib.hid rfl, HP7, Lib.hid (Kd.S_apart_nil HS7.out), Lib.hid (Kd.R_nil _ _ _ _ _), HK7⟩
                    case round =>
                      obtain ⟨j, xb, yb, r8, pts, A8, cap8, u15, rfl, hj, rfl, rfl, rfl, hxb0, hxb1, hyb0, hyb1, HR8, HPT, HP8, HS8, HO8, HK8⟩ := hrel
                      by_cases hjZ : j < Z
                      · have hjZ1 : decide ((j : Int) < (Z : Int)) = true := decide_eq_true (by omega)
                        obtain ⟨f, hf⟩ : ∃ f, P.getD j 0 = f := ⟨_, rfl⟩
                        have hfw : 0 ≤ f ∧ f ≤ 255 := by
                          rw [← hf, List.getD_eq_getElem?_getD, List.getElem?_eq_getElem (by rw [HPL.out]; exact hjZ)]
                          exact HPW.out _ (List.getElem_mem _)
                        obtain ⟨hf0, hf1⟩ := hfw
                        obtain ⟨gf, of, eAf, _, hgS2, hcf⟩ := (HIP.out.kept HK8.out).resolve_left (by intro h; have h2 := HPL.out; rw [h] at h2; simp at h2; omega)
                        have hcfj := hcf j (by rw [HPL.out]; exact hjZ)
                        rw [hf] at hcfj
                        subst eAf
                        have HF9 := Lib.hid hf; clear hf hcf
                        go_wp2_with fail
                        have e2 : (bits .and .i64 f 2 != 0) = bitSet f 2 := bne_bit 2 (by simp) f hf0 hf1
                        have e4 : (bits .and .i64 f 4 != 0) = bitSet f 4 := bne_bit 4 (by simp) f hf0 hf1
                        have e1 : (bits .and .i64 f 1 != 0) = bitSet f 1 := bne_bit 1 (by simp) f hf0 hf1
                        rw [e2]
                        have HE4 := Lib.hid e4; have HE1 := Lib.hid e1; clear e2 e4 e1
                        obtain ⟨sb0, sb1⟩ := HP8.out.stepB (bitSet f 2)
                        refine (HP8.out.step _).mono ?_
                        rintro e w9 ⟨rfl, ⟨A9, cap9, h9⟩, hk9⟩
                        have HS9 := Lib.hid (Kd.S_kept (t := 80) HS8.out hk9 HP8.out.rd.blk (by decide))
                        have HO9 := Lib.hid (Kd.R_kept (t := 80) HO8.out hk9 HP8.out.rd.blk (by decide))
                        have HK9 := Lib.hid (HK8.out.trans (hk9.mono (fun _ _ h => .inl h)))
                        have H9 := Lib.hid h9; clear h9 hk9
                        go_wp2_with fail
                        rw [HE4.out]
                        obtain ⟨sb2, sb3⟩ := H9.out.stepB (bitSet f 4)
                        refine (H9.out.step _).mono ?_
                        rintro e w10 ⟨rfl, ⟨A10, cap10, h10⟩, hk10⟩
                        have HS10 := Lib.hid (Kd.S_kept (t := 80) HS9.out hk10 H9.out.rd.blk (by decide))
                        have HO10 := Lib.hid (Kd.R_kept (t := 80) HO9.out hk10 H9.out.rd.blk (by decide))
                        have HK10 := Lib.hid (HK9.out.trans (hk10.mono (fun _ _ h => .inl h)))
                        have H10 := Lib.hid h10; clear h10 hk10
                        have e1 := HE1.out
                        have hj64 : (j : Int) + c ≤ 64 := by omega
                        go_wp2_with (at_builtin; refine Kd.R_append k34 (w0 := w10) W2.heap.size rfl (.tmp 122) (.tmp 129) 28 34 (.agg #[.int .i64 0, .int .i64 0, .bool false]) 24 rfl Try.underlying28 info_v rfl (by decide) (by omega) u15 pts ⟨xb + r8.step (bitSet f 2), yb + (r8.past (bitSet f 2)).step (bitSet f 4), bitSet f 1⟩ [.int .i64 (xb + r8.step (bitSet f 2)), .int .i64 (yb + (r8.past (bitSet f 2)).step (bitSet f 4)), .bool (bitSet f 1)] (fun _ => True) (fun _ => False) rfl rfl ?aP (fun _ hk => hk.elim) (fun _ _ => trivial) HO10.out (Below.refl _ _) HK10.out.size ?aL ?_; (case aP => exact k34_mkM _ _ _ _); (case aL => have := HPT.out; omega); intro v1 w11 ho hb hg hat; have n1 := Lib.hid (H10.out.grown hg (H10.out.rowOk (Kd.R_lower HO10.out HP5.out.bel.size) (by decide) (by decide))); have n2 := Lib.hid (HK10.out.andThen (Kept.of_grownBy hg) (fun _ _ h => h) (fun k hk h => absurd hk (by have := Kd.R_baseOf HO10.out h; omega))); have n3 := Lib.hid ho; have n4 := Lib.hid (Kd.S_after (ok := fun _ => True) HS10.out hg hat); clear ho hb hg hat)
                        go_roundw
                        case rel =>
                          refine ⟨j + 1, _, _, _, _, A10, cap10, _, by go_num, by omega, rfl, rfl, rfl, by omega, by omega, by omega, by omega, ?_, ?_, n1, n4, n3, n2⟩
                          · have h := HR8.out
                            rw [List.drop_eq_getElem_cons (by rw [HPL.out]; exact hjZ), ptL] at h
                            have h2 : P[j]'(by rw [HPL.out]; exact hjZ) = f := by
                              have := HF9.out
                              rw [List.getD_eq_getElem?_getD, List.getElem?_eq_getElem (by rw [HPL.out]; exact hjZ)] at this
                              exact this
                            rw [h2] at h
                            exact h
                          · have := HPT.out
                            exact Lib.hid (by simp; omega)
                        case measure => simp [intOf]; omega
                      · have hjZ2 : j = Z := by omega
                        subst hjZ2
                        have hjZ1 : decide ((j : Int) < (j : Int)) = false := decide_eq_false (by omega)
                        have HR9 : Hid (R5 = (pts, xb, yb, r8)) := Lib.hid (by
                          have h := HR8.out
                          rw [List.drop_eq_nil_of_le (by rw [HPL.out]; omega), ptL] at h
                          exact h.symm)
                        obtain ⟨A15, c15, e15⟩ := Kd.R_slice HO8.out
                        rw [HPT.out] at e15
                        subst e15
                        have c05 : wr.cell? ⟨w.heap.size + 1 + 1, 0, none⟩ = some uo := (blk_cell HP8.out.out 0).trans rfl
                        have f05 : wr.frozen? ⟨w.heap.size + 1 + 1, 0, none⟩ = false := blk_frozen HP8.out.out 0
                        have hjF : (j : Int) ≤ ((F - c : Nat) : Int) := by omega
                        have hjc : (j : Int) ≤ (capf : Int) := by omega
                        by_cases hcj : capf = j
                        · subst hcj
                          go_wp2_with (at_builtin; refine Kd.S_append (Kd.slice 34 k34) (w0 := wr) W2.heap.size rfl (.tmp 136) (.tmp 138) 24 28 (.slice none 0 0) 24 rfl Try.underlying24 info_vs rfl (by decide) (by omega) uo cs pts [.slice A15 capf c15] (fun _ => True) (fun k_ => some k_ = (.slice A15 capf c15 : Value).ownBlock) rfl rfl ?aP (fun k_ hk_ => ((Kd.R_mono (ok' := fun k_ => ((fun _ => True)) k_ ∧ some k_ ≠ (uo : Value).ownBlock) (Kd.R_apart' (HO8.out) (Kd.S_typed HS8.out) (by decide)) (fun k_ hk => ⟨trivial, hk.2⟩))).1 k_ hk_.symm) (fun _ _ => trivial) ?aO (Below.refl _ _) HK8.out.size ?aL ?_; (case aP => (have h_ := Kd.M_row (Kd.R_mono (Kd.R_tight rfl (Kd.R_mono (ok' := fun k_ => ((fun _ => True)) k_ ∧ some k_ ≠ (uo : Value).ownBlock) (Kd.R_apart' (HO8.out) (Kd.S_typed HS8.out) (by decide)) (fun k_ hk => ⟨trivial, hk.2⟩))) (fun _ h_ => h_)); exact h_)); (case aO => exact Kd.S_mono HS8.out (fun k_ hk => ⟨trivial, fun e_ => hk.2 e_⟩)); (case aL => have := HL7.out; omega); intro v1 w11 ho hb hg hat; have n1 := Lib.hid (HP8.out.grown hg (HP8.out.rowOk (Kd.R_lower (Kd.S_R HS8.out) HP5.out.bel.size) (by decide) (by decide))); have n2 := Lib.hid (HK8.out.andThen (Kept.of_grownBy hg) (fun _ _ h => h) (fun k hk h => absurd hk (by have := Kd.R_baseOf (Kd.S_R HS8.out) h; omega))); have n3 := Lib.hid ho; clear ho hb hg hat; have c11 : w11.cell? ⟨w.heap.size + 1 + 1, 0, none⟩ = some uo := (blk_cell n1.out.out 0).trans rfl; have f11 : w11.frozen? ⟨w.heap.size + 1 + 1, 0, none⟩ = false := blk_frozen n1.out.out 0; obtain ⟨A16, c16, e16⟩ := Kd.S_slice n3.out; rw [List.length_append, List.length_singleton, HL7.out] at e16; subst e16)
                          go_roundw
                          case rel =>
                            refine ⟨i + 1, c + capf, Af, _, xb, yb, r8, cs ++ [pts], A8, cap8, _, by go_num, by omega, by rw [show F - (c + capf) = 0 by omega], by omega, by omega, rfl, rfl, by omega, by omega, by omega, by omega, ?_, ?_, ?_, ?_, n1.out.setOut _, Lib.hid (Kd.S_mono (Kd.S_far (p := ⟨w.heap.size + 1 + 1, 0, none⟩) (Kd.S_types n3.out n1.out.out (by decide)) (fun _ hk => hk.2) _) (fun _ _ => trivial)), Lib.hid (n2.out.trans (Kept.setCell _ _ _ _ (.inr rfl)))⟩
                            · exact Lib.hid (drop_none fs _ (by rw [HFL.out]; omega) _ _ _)
                            · have h := HC7.out
                              rw [sum_drop s i (by rw [HSL.out]; exact hik), HZ.out] at h
                              exact Lib.hid (by omega)
                            · have := HL7.out
                              exact Lib.hid (by simp; omega)
                            · exact Lib.hid (ct_step s fs i capf c (by rw [HSL.out]; exact hik) HZ.out P HPd.out x y xb yb r7 r8 pts R5 HR5.out HR9.out cs R4 HR7.out)
                          case measure => simp [intOf]; omega
                        · have hcj1 : decide ((capf : Int) = (j : Int)) = false := decide_eq_false (by omega)
                          go_wp2_with (at_builtin; refine Kd.S_append (Kd.slice 34 k34) (w0 := wr) W2.heap.size rfl (.tmp 136) (.tmp 138) 24 28 (.slice none 0 0) 24 rfl Try.underlying24 info_vs rfl (by decide) (by omega) uo cs pts [.slice A15 j c15] (fun _ => True) (fun k_ => some k_ = (.slice A15 j c15 : Value).ownBlock) rfl rfl ?aP (fun k_ hk_ => ((Kd.R_mono (ok' := fun k_ => ((fun _ => True)) k_ ∧ some k_ ≠ (uo : Value).ownBlock) (Kd.R_apart' (HO8.out) (Kd.S_typed HS8.out) (by decide)) (fun k_ hk => ⟨trivial, hk.2⟩))).1 k_ hk_.symm) (fun _ _ => trivial) ?aO (Below.refl _ _) HK8.out.size ?aL ?_; (case aP => (have h_ := Kd.M_row (Kd.R_mono (Kd.R_tight rfl (Kd.R_mono (ok' := fun k_ => ((fun _ => True)) k_ ∧ some k_ ≠ (uo : Value).ownBlock) (Kd.R_apart' (HO8.out) (Kd.S_typed HS8.out) (by decide)) (fun k_ hk => ⟨trivial, hk.2⟩))) (fun _ h_ => h_)); exact h_)); (case aO => exact Kd.S_mono HS8.out (fun k_ hk => ⟨trivial, fun e_ => hk.2 e_⟩)); (case aL => have := HL7.out; omega); intro v1 w11 ho hb hg hat; have n1 := Lib.hid (HP8.out.grown hg (HP8.out.rowOk (Kd.R_lower (Kd.S_R HS8.out) HP5.out.bel.size) (by decide) (by decide))); have n2 := Lib.hid (HK8.out.andThen (Kept.of_grownBy hg) (fun _ _ h => h) (fun k hk h => absurd hk (by have := Kd.R_baseOf (Kd.S_R HS8.out) h; omega))); have n3 := Lib.hid ho; clear ho hb hg hat; have c11 : w11.cell? ⟨w.heap.size + 1 + 1, 0, none⟩ = some uo := (blk_cell n1.out.out 0).trans rfl; have f11 : w11.frozen? ⟨w.heap.size + 1 + 1, 0, none⟩ = false := blk_frozen n1.out.out 0; obtain ⟨A16, c16, e16⟩ := Kd.S_slice n3.out; rw [List.length_append, List.length_singleton, HL7.out] at e16; subst e16)
                          go_roundw
                          case rel =>
                            refine ⟨i + 1, c + j, Option.map (fun x => x.add j) Af, capf - j, xb, yb, r8, cs ++ [pts], A8, cap8, _, by go_num, by omega, by rw [show F - (c + j) = F - c - j by omega], by omega, by omega, rfl, rfl, by omega, by omega, by omega, by omega, ?_, ?_, ?_, ?_, n1.out.setOut _, Lib.hid (Kd.S_mono (Kd.S_far (p := ⟨w.heap.size + 1 + 1, 0, none⟩) (Kd.S_types n3.out n1.out.out (by decide)) (fun _ hk => hk.2) _) (fun _ _ => trivial)), Lib.hid (n2.out.trans (Kept.setCell _ _ _ _ (.inr rfl)))⟩
                            · exact Lib.hid (HIf7.out.more j)
                            · have h := HC7.out
                              rw [sum_drop s i (by rw [HSL.out]; exact hik), HZ.out] at h
                              exact Lib.hid (by omega)
                            · have := HL7.out
                              exact Lib.hid (by simp; omega)
                            · exact Lib.hid (ct_step s fs i j c (by rw [HSL.out]; exact hik) HZ.out P HPd.out x y xb yb r7 r8 pts R5 HR5.out HR9.out cs R4 HR7.out)
                          case measure => simp [intOf]; omega
                  · have hik2 : i = k := by omega
                    subst hik2
                    have hik1 : decide ((i : Int) < (i : Int)) = false := decide_eq_false (by omega)
                    have HR9 : Hid (ctL s fs 0 0 r5 [] = (cs, r7)) := Lib.hid (by
                      have h := HR7.out
                      rw [List.drop_eq_nil_of_le (by rw [HSL.out]; omega), ctL] at h
                      rw [HR4.out, ← h])
                    have HF5 : Hid (prF l = if r7.bad then ([], 1) else if r7.bs.length > 0 then ([], 2) else if ckO cs ≠ 0 then ([], ckO cs) else (cs, 0)) := Lib.hid (by
                      rw [HF4.out]; unfold prT; rw [HR9.out])
                    have cb1 : wr.cell? ⟨w.heap.size + 1, 1, none⟩ = some (.bool r7.bad) := (blk_cell HP7.out.rd.blk 1).trans rfl
                    have cb0 : wr.cell? ⟨w.heap.size + 1, 0, none⟩ = some (.slice A7 r7.bs.length cap7) := (blk_cell HP7.out.rd.blk 0).trans rfl
                    have fr0 : wr.frozen? ⟨w.heap.size, 0, none⟩ = false := blk_frozen HP7.out.res 0
                    have c00 : wr.cell? ⟨w.heap.size, 0, none⟩ = some (.slice none 0 0) := (blk_cell HP7.out.res 0).trans rfl
                    by_cases hbad7 : r7.bad = true
                    · rw [hbad7] at cb1
                      have HF6 : Hid (prF l = ([], 1)) := Lib.hid (by rw [HF5.out, if_pos hbad7])
                      clear hbad7
                      go_wp2_with fail
                      obtain ⟨q1, q2⟩ := PostP.err HP7.out 1
                      refine bodyPost_ret (results_ct rfl _ _ w.heap.size 26 #[.slice none 0 0] (0, 0) _ rfl q1 Try.underlying26 rfl (by kernel_rfl)) rfl ?_
                      rw [HF6.out]
                      exact q2
                    · have hbad8 : r7.bad = false := by simpa using hbad7
                      rw [hbad8] at cb1
                      have HB8 := Lib.hid hbad8; clear hbad7 hbad8
                      obtain ⟨L, hL⟩ : ∃ L, r7.bs.length = L := ⟨_, rfl⟩
                      rw [hL] at cb0
                      have HLL := Lib.hid hL; clear hL
                      by_cases hL0 : 0 < L
                      · have hL1 : decide (0 < (L : Int)) = true := decide_eq_true (by omega)
                        have hL2 : decide (0 < L) = true := decide_eq_true (by omega)
                        have HF6 : Hid (prF l = ([], 2)) := Lib.hid (by rw [HF5.out, if_neg (by simp [HB8.out]), if_pos (by rw [HLL.out]; exact hL0)])
                        go_wp2_with fail
                        obtain ⟨q1, q2⟩ := PostP.err HP7.out 2
                        refine bodyPost_ret (results_ct rfl _ _ w.heap.size 26 #[.slice none 0 0] (0, 0) _ rfl q1 Try.underlying26 rfl (by kernel_rfl)) rfl ?_
                        rw [HF6.out]
                        exact q2
                      · have hL1 : decide (0 < (L : Int)) = false := decide_eq_false (by omega)
                        have hL2 : decide (0 < L) = false := decide_eq_false (by omega)
                        have HF6 : Hid (prF l = if ckO cs ≠ 0 then ([], ckO cs) else (cs, 0)) := Lib.hid (by rw [HF5.out, if_neg (by simp [HB8.out]), if_neg (by rw [HLL.out]; exact hL0)])
                        obtain ⟨Ao, co, euo⟩ := Kd.S_slice HS7.out
                        subst euo
                        have hrd := Lib.hid (Kd.S_reads' HS7.out)
                        have c05 : wr.cell? ⟨w.heap.size + 1 + 1, 0, none⟩ = some (.slice Ao cs.length co) := (blk_cell HP7.out.out 0).trans rfl
                        have hbl : wr.heap[w.heap.size + 1 + 1]? = some (.cells #[.slice Ao cs.length co] 26 (0, 0)) := HP7.out.out
                        have hu26 := Try.underlying26
                        obtain ⟨K, hK⟩ := ck_f cs (fun c hc => by
                          have h := ctL_len s fs 0 0 r5 [] c (by rw [HR9.out]; exact hc)
                          have := HFL.out
                          rcases h with h | h
                          · simp at h
                          · omega)
                        have HCK := Lib.hid (hK K (Nat.le_refl _)); clear hK
                        go_wp2_with fail
                        refine (glyf_Check.calls K Ao co cs (ckO cs) wr hrd.out.2.2 hrd.out.2.1 HCK.out).mono ?_
                        rintro e w12 ⟨rfl, hb12⟩
                        have HP12 := Lib.hid (HP7.out.below hb12)
                        have HS12 := Lib.hid (Kd.S_below HS7.out hb12)
                        clear hb12 c05 hbl fr0 c00 cb0 cb1
                        have c05 : w12.cell? ⟨w.heap.size + 1 + 1, 0, none⟩ = some (.slice Ao cs.length co) := (blk_cell HP12.out.out 0).trans rfl
                        have fr0 : w12.frozen? ⟨w.heap.size, 0, none⟩ = false := blk_frozen HP12.out.res 0
                        have c00 : w12.cell? ⟨w.heap.size, 0, none⟩ = some (.slice none 0 0) := (blk_cell HP12.out.res 0).trans rfl
                        by_cases hck0 : ckO cs = 0
                        · have HF7 : Hid (prF l = (cs, 0)) := Lib.hid (by rw [HF6.out, if_neg (by simp [hck0])])
                          rw [hck0]
                          clear hck0
                          go_wp2_with fail
                          obtain ⟨q1, q2⟩ := PostP.ok HP12.out HP5.out.bel.size HS12.out
                          refine bodyPost_ret (results_ct rfl _ _ w.heap.size 26 #[.slice Ao cs.length co] (0, 0) _ rfl q1 Try.underlying26 rfl (by kernel_rfl)) rfl ?_
                          rw [HF7.out]
                          exact q2
                        · have e1 : (ckO cs != 0) = true := by simpa using hck0
                          have e2 : (ckO cs == 0) = false := by simpa using hck0
                          have HF7 : Hid (prF l = ([], ckO cs)) := Lib.hid (by rw [HF6.out, if_pos hck0])
                          clear hck0
                          go_wp2_with fail
                          obtain ⟨q1, q2⟩ := PostP.err HP12.out (ckO cs)
                          refine bodyPost_ret (results_ct rfl _ _ w.heap.size 26 #[.slice none 0 0] (0, 0) _ rfl q1 Try.underlying26 rfl (by kernel_rfl)) rfl ?_
                          rw [HF7.out]
                          exact q2

/-- Parse, as the printed texts have it. -/
def parseO (l : List Int) : Option (List (List S34) × Int) := if l.all (fun x => decide (0 ≤ x) && decide (x ≤ 255)) = true then some (prF l) else none
theorem parse_calls (A0 : Option Addr) (c0 : Nat) (l0 : List Int) (r1 : List (List S34)) (r2 : Int) (w : World) (hr0 : Kd.C (Kd.int .u8) w A0 l0.length l0) (hc0 : l0.length ≤ c0) (h : parseO l0 = some (r1, r2)) :
    Calls Try.prog 27 #[.slice A0 l0.length c0] w fun e w' => ∃ v0_ : Value, e = .returned (.tuple #[.agg #[v0_], .int .i64 r2]) ∧ Kd.S (Kd.slice 34 k34) 28 w' w.heap.size (fun _ => True) v0_ r1 ∧ Below w.heap.size w w' := by
  unfold parseO at h
  split at h
  · rename_i hw
    have hw' : ∀ x ∈ l0, 0 ≤ x ∧ x ≤ 255 := fun x hx => by have := List.all_eq_true.1 hw x hx; simpa using this
    have hb : l0 = [] ∨ ∃ g off, A0 = some ⟨g, off, none⟩ ∧ g < w.heap.size ∧ ∀ j, j < l0.length → w.cell? ⟨g, off + j, none⟩ = some (.int .u8 (l0.getD j 0)) := by
      by_cases hl : 0 < l0.length
      · obtain ⟨ad, rfl, hc⟩ := hr0.2.2 hl
        have hcell : ∀ j, j < l0.length → w.cell? (ad.add j) = some (.int .u8 (l0.getD j 0)) := by
          intro j hj
          obtain ⟨c, hcl, hK, hcc⟩ := hc j _ (List.getElem?_eq_getElem hj)
          have hK' : c = [.int .u8 l0[j]] := hK
          subst hK'
          have h1 := hcc 0 _ rfl
          have hsz : (Kd.int .u8).sz = 1 := rfl
          rw [hsz, Nat.mul_one, Nat.add_zero] at h1
          rw [h1, List.getD_eq_getElem?_getD, List.getElem?_eq_getElem hj]; rfl
        obtain ⟨b, off, rfl, hcb⟩ := Go.ints_at hcell hl
        exact .inr ⟨b, off, rfl, World.block_lt_of_cell? w _ (hcb 0 hl), hcb⟩
      · exact .inl (List.eq_nil_of_length_eq_zero (by omega))
    injection h with h
    refine (parse_c A0 c0 l0 w hb hc0 (fun g off hne e => ?_) hw').mono fun e w' hp => ?_
    · rcases hb with hb | ⟨g', off', e', hg, _⟩
      · exact absurd hb hne
      · rw [e] at e'; injection e' with e'; injection e' with e1 e2; subst e1; exact hg
    · rw [h] at hp
      exact hp
  · cases h

end Go.Proofs.Ytjealbaomhjoaaa
