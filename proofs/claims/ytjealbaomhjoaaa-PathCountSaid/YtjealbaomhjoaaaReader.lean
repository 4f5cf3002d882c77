/- Contracts of glyf's reader. -/
import Derived.Test.YtjealbaomhjoaaaProg
import Derived.Test.YtjealbaomhjoaaaBase
import Derived.WalkLawsBesides
import Derived.Laws.StructEq
import Derived.WalkSpells
set_option linter.unusedVariables false
set_option linter.unusedSimpArgs false
namespace Go.Proofs.Ytjealbaomhjoaaa
open Go.RowKit

/-- A row of bytes, from some place of a block on. -/
def Bys (W : World) (A : Option Addr) (bs : List Int) : Prop :=
  bs = [] ∨ ∃ g off, A = some ⟨g, off, none⟩ ∧ g < W.heap.size ∧ ∀ j, j < bs.length → W.cell? ⟨g, off + j, none⟩ = some (.int .u8 (bs.getD j 0))
theorem Bys.kept {S : Nat → Prop} {W W' : World} {A : Option Addr} {bs : List Int} (h : Bys W A bs) (hk : Kept S W W') (hS : ∀ g off, A = some ⟨g, off, none⟩ → ¬ S g) : Bys W' A bs := by
  rcases h with h | ⟨g, off, rfl, hg, hc⟩
  · exact .inl h
  · exact .inr ⟨g, off, rfl, Nat.lt_of_lt_of_le hg hk.size, fun j hj => hk.cell (hc j hj) (hS g off rfl)⟩
/-- A reader: what is left to read (it lies below block N), and whether some was missing. -/
structure Rd (N : Nat) (W : World) (br : Nat) (A : Option Addr) (cap : Nat) (bs : List Int) (bad : Bool) : Prop where
  blk : W.heap[br]? = some (.cells #[.slice A bs.length cap, .bool bad] 80 (0, 0))
  le : bs.length ≤ cap
  row : Bys W A bs
  ne : ∀ g off, bs ≠ [] → A = some ⟨g, off, none⟩ → g < N
  hN : N ≤ br
  wf : ∀ x ∈ bs, 0 ≤ x ∧ x ≤ 255

set_option maxHeartbeats 1000000 in
theorem byte_c (N br : Nat) (A : Option Addr) (cap : Nat) (bs : List Int) (bad : Bool) (w : World) (h : Rd N w br A cap bs bad) :
    Calls Try.prog 40 #[.pointer (some ⟨br, 0, none⟩)] w fun e w' => e = .returned (.int .i64 (bs.headD 0)) ∧ (∃ A' cap', Rd N w' br A' cap' bs.tail (bad || bs.isEmpty)) ∧ Kept (· = br) w w' := by
  have c0 : w.cell? ⟨br, 0, none⟩ = some (.slice A bs.length cap) := by simp [World.cell?, h.blk]
  have c1 : w.cell? ⟨br, 1, none⟩ = some (.bool bad) := by simp [World.cell?, h.blk]
  have f0 : w.frozen? ⟨br, 0, none⟩ = false := by simp [World.frozen?, h.blk]
  have f1 : w.frozen? ⟨br, 1, none⟩ = false := by simp [World.frozen?, h.blk]
  have H := Lib.hid h; clear h
  cases bs with
  | nil =>
    rw [show ([] : List Int).length = 0 from rfl] at c0
    go_enter Try.func40, Try.ntmps40
    go_wp2
    go_ret
    have hs := heap_setCell_same w br 1 _ _ (.bool true) H.out.blk
    have hk := Kept.setCell (· = br) w ⟨br, 1, none⟩ (.bool true) rfl
    exact ⟨rfl, ⟨A, cap, by simpa using hs, H.out.le, .inl rfl, H.out.ne, H.out.hN, H.out.wf⟩, hk⟩
  | cons x bs =>
    obtain ⟨g, off, hA, hg, hc⟩ : ∃ g off, A = some ⟨g, off, none⟩ ∧ g < w.heap.size ∧ ∀ j, j < (x :: bs).length → w.cell? ⟨g, off + j, none⟩ = some (.int .u8 ((x :: bs).getD j 0)) := by
      rcases H.out.row with h | h
      · cases h
      · exact h
    subst hA
    have cx : w.cell? ⟨g, off, none⟩ = some (.int .u8 x) := hc 0 (by simp)
    have hx := H.out.wf x (by simp)
    obtain ⟨x0, x1⟩ := hx
    obtain ⟨n, hn⟩ : ∃ n, (x :: bs).length = n + 1 := ⟨bs.length, rfl⟩
    have hle := H.out.le
    have hne : g ≠ br := by have := H.out.ne g off (by simp) rfl; have := H.out.hN; omega
    rw [hn] at c0 hle
    have HC := Lib.hid hc; have HN := Lib.hid hn
    clear hc hn
    go_enter Try.func40, Try.ntmps40
    have hlen : bs.length = n := by have := HN.out; simpa using this
    have HLEN := Lib.hid hlen; clear hlen
    by_cases hcap1 : cap = 1
    · subst hcap1
      go_wp2
      go_ret
      have hk := Kept.setCell (· = br) w ⟨br, 0, none⟩ (.slice (some ⟨g, off, none⟩) n 0) rfl
      have hs := heap_setCell_same w br 0 _ _ (.slice (some ⟨g, off, none⟩) n 0) H.out.blk
      have hb : bs = [] := List.eq_nil_of_length_eq_zero (by have := HLEN.out; omega)
      subst hb
      have hn0 : n = 0 := HLEN.out.symm
      subst hn0
      exact ⟨rfl, ⟨some ⟨g, off, none⟩, 0, by simpa using hs, Nat.le_refl _, .inl rfl, fun _ _ h => absurd rfl h, H.out.hN, by simp⟩, hk⟩
    · go_wp2
      go_ret
      have hk := Kept.setCell (· = br) w ⟨br, 0, none⟩ (.slice (some ⟨g, off + 1, none⟩) n (cap - 1)) rfl
      have hs := heap_setCell_same w br 0 _ _ (.slice (some ⟨g, off + 1, none⟩) n (cap - 1)) H.out.blk
      refine ⟨rfl, ⟨some ⟨g, off + 1, none⟩, cap - 1, ?_, ?_, ?_, ?_, H.out.hN, fun y hy => H.out.wf y (List.mem_cons_of_mem _ hy)⟩, hk⟩
      · rw [show (x :: bs).tail = bs from rfl, HLEN.out]
        simpa using hs
      · rw [show (x :: bs).tail = bs from rfl, HLEN.out]; omega
      · refine .inr ⟨g, off + 1, rfl, Nat.lt_of_lt_of_le hg hk.size, fun j hj => ?_⟩
        have h1 := hk.cell (HC.out (j + 1) (by simpa using hj)) hne
        rw [show off + 1 + j = off + (j + 1) by omega]
        simpa using h1
      · intro g' off' _ he
        injection he with he
        injection he with he
        subst he
        exact H.out.ne g off (by simp) rfl

theorem or_low (a y : Int) (ha0 : -1000000 ≤ a) (ha1 : a ≤ 1000000) (hy0 : 0 ≤ y) (hy1 : y < 256) : bits .or .i64 (a * 256) y = a * 256 + y := by
  obtain ⟨m, hm⟩ : ∃ m : Nat, (m : Int) = a % 72057594037927936 := ⟨(a % 72057594037927936).toNat, by omega⟩
  obtain ⟨n, rfl⟩ := Int.eq_ofNat_of_zero_le hy0
  have h1 : (BitVec.ofInt 64 (a * 256)).toNat = m * 256 := by
    rw [BitVec.toNat_ofInt]
    omega
  have h2 : (BitVec.ofInt 64 (n : Int)).toNat = n := by
    rw [BitVec.ofInt_natCast, BitVec.toNat_ofNat]; exact Nat.mod_eq_of_lt (by omega)
  show IntKind.i64.wrap ((BitVec.ofInt 64 (a * 256) ||| BitVec.ofInt 64 (n : Int)).toNat : Int) = _
  rw [BitVec.toNat_or, h1, h2]
  have h3 : m * 256 ||| n = m * 256 + n := by
    have := Nat.shiftLeft_add_eq_or_of_lt (b := n) (i := 8) (by omega) m
    rw [Nat.shiftLeft_eq] at this
    exact this.symm
  rw [h3, Go.IntWalk.i64_left]
  unfold wrap64
  omega

/-- A byte as a step of one byte. -/
def s8 (x : Int) : Int := if x < 128 then x else x - 256
theorem s8_is (x : Int) (h0 : 0 ≤ x) (h1 : x ≤ 255) : wrap64 (IntKind.i8.wrap x) = s8 x := by
  unfold s8 wrap64
  split <;> simp [IntKind.wrap, IntKind.bits, IntKind.signed] <;> omega
/-- The step that is read. -/
def stepV (wide : Bool) (bs : List Int) : Int := if wide then 256 * s8 (bs.headD 0) + bs.tail.headD 0 else s8 (bs.headD 0)
def stepL (wide : Bool) (bs : List Int) : List Int := if wide then bs.tail.tail else bs.tail
def stepB (wide : Bool) (bs : List Int) : Bool := if wide then bs.isEmpty || bs.tail.isEmpty else bs.isEmpty

set_option maxHeartbeats 1000000 in
theorem step_c (N br : Nat) (A : Option Addr) (cap : Nat) (bs : List Int) (bad wide : Bool) (w : World) (h : Rd N w br A cap bs bad) :
    Calls Try.prog 41 #[.pointer (some ⟨br, 0, none⟩), .bool wide] w fun e w' => e = .returned (.int .i64 (stepV wide bs)) ∧ (∃ A' cap', Rd N w' br A' cap' (stepL wide bs) (bad || stepB wide bs)) ∧ Kept (· = br) w w' := by
  have hx : 0 ≤ bs.headD 0 ∧ bs.headD 0 ≤ 255 := by
    cases bs with
    | nil => simp
    | cons x bs => exact h.wf x (by simp)
  have hy : 0 ≤ bs.tail.headD 0 ∧ bs.tail.headD 0 ≤ 255 := by
    match bs, h.wf with
    | [], _ => simp
    | [x], _ => simp
    | x :: y :: bs, hw => exact hw y (by simp)
  have H := Lib.hid h; clear h
  obtain ⟨x0, x1⟩ := hx
  obtain ⟨y0, y1⟩ := hy
  cases wide
  · go_enter Try.func41, Try.ntmps41
    go_wp2_with fail
    refine (byte_c N br A cap bs bad w H.out).mono ?_
    rintro e w1 ⟨rfl, ⟨A', cap', h1⟩, hk⟩
    have H1 := Lib.hid h1; have HK := Lib.hid hk; clear h1 hk
    go_wp2_with fail
    go_ret
    refine ⟨?_, ⟨A', cap', H1.out⟩, HK.out⟩
    have e1 := s8_is (bs.headD 0) x0 x1
    rw [List.headD_eq_head?_getD] at e1
    simp [stepV, e1]
  · go_enter Try.func41, Try.ntmps41
    go_wp2_with fail
    refine (byte_c N br A cap bs bad w H.out).mono ?_
    rintro e w1 ⟨rfl, ⟨A', cap', h1⟩, hk⟩
    have H1 := Lib.hid h1; have HK := Lib.hid hk; clear h1 hk
    go_wp2_with fail
    refine (byte_c N br A' cap' bs.tail _ w1 H1.out).mono ?_
    rintro e w2 ⟨rfl, ⟨A'', cap'', h2⟩, hk2⟩
    have H2 := Lib.hid h2; have HK2 := Lib.hid hk2; clear h2 hk2
    go_wp2_with fail
    go_ret
    refine ⟨?_, ⟨A'', cap'', by have h := H2.out; rwa [Bool.or_assoc] at h⟩, HK.out.trans HK2.out⟩
    have e1 := s8_is (bs.headD 0) x0 x1
    have e2 := or_low (s8 (bs.headD 0)) (bs.tail.headD 0) (by unfold s8; split <;> omega) (by unfold s8; split <;> omega) y0 (by omega)
    have e3 : wrap64 (s8 (bs.headD 0) * 256) = s8 (bs.headD 0) * 256 := by unfold wrap64 s8; split <;> omega
    have e4 : bs.tail.headD 0 = bs[1]?.getD 0 := by match bs with
      | [] => rfl
      | [_] => rfl
      | _ :: _ :: _ => rfl
    rw [e4] at e2
    rw [List.headD_eq_head?_getD] at e1 e2 e3
    simp [stepV, e1, e2, e3, e4]
    omega

end Go.Proofs.Ytjealbaomhjoaaa
