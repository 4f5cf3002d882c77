/- The law's own parse: what is plain, and the walk (under way). -/
import Derived.Test.YtjealbaomhjoaaaParseC
import Derived.Test.YtjealbaomhjoaaaFew
set_option linter.unusedVariables false
set_option linter.unusedSimpArgs false
namespace Go.Proofs.Ytjealbaomhjoaaa
open Go.RowKit Go.Proofs.Ytjealbaomhjoaaa.G Go.Proofs.YtjealbaomhjoaaaW.PrintWords
theorem q_nx_bad {r : Rs} (h : r.bad = true) : r.nx.bad = true := by simp [Rs.nx, h]
theorem q_past_bad {r : Rs} (b : Bool) (h : r.bad = true) : (r.past b).bad = true := by
  unfold Rs.past; cases b
  · exact q_nx_bad h
  · exact q_nx_bad (q_nx_bad h)
theorem q_szL_sticky : ∀ (d : Nat) (s : List Int) (n : Int) (r : Rs), r.bad = true → (szL d s n r).2.2.bad = true
  | 0, _, _, _, h => h
  | d + 1, s, n, r, h => q_szL_sticky d _ _ _ (q_nx_bad h)
theorem q_szL_bad : ∀ (d : Nat) (s : List Int) (n : Int) (bs : List Int) (b : Bool), bs.length < d → (szL d s n ⟨bs, b⟩).2.2.bad = true
  | 0, _, _, bs, _, h => by omega
  | d + 1, s, n, [], b, h => q_szL_sticky d _ _ _ (by simp [Rs.nx])
  | d + 1, s, n, x :: bs, b, h => q_szL_bad d _ _ bs _ (by simpa using h)
theorem q_szL_ok : ∀ (d : Nat) (s : List Int) (n : Int) (bs : List Int), d ≤ bs.length → szL d s n ⟨bs, false⟩ = (s ++ bs.take d, n + (bs.take d).sum, ⟨bs.drop d, false⟩)
  | 0, s, n, bs, h => by simp [szL]
  | d + 1, s, n, [], h => by simp at h
  | d + 1, s, n, x :: bs, h => by
    have := q_szL_ok d (s ++ [x]) (n + x) bs (by simpa using h)
    simp only [szL, Rs.hd, Rs.nx, List.headD_cons, List.tail_cons, List.isEmpty_cons, Bool.or_false]
    rw [this]
    simp [Int.add_assoc]
theorem q_ptL_bad : ∀ (fs : List Int) (x y : Int) (r : Rs) (c : List S34), r.bad = true → (ptL fs x y r c).2.2.2.bad = true
  | [], _, _, _, _, h => h
  | f :: fs, x, y, r, c, h => q_ptL_bad fs _ _ _ _ (q_past_bad _ (q_past_bad _ h))
theorem q_ctL_bad : ∀ (ss fs : List Int) (x y : Int) (r : Rs) (cs : List (List S34)), r.bad = true → (ctL ss fs x y r cs).2.bad = true
  | [], _, _, _, _, _, h => h
  | s :: ss, fs, x, y, r, cs, h => q_ctL_bad ss _ _ _ _ _ (q_ptL_bad _ _ _ _ _ h)
theorem prF_nil : prF [] = ([], 1) := by simp [prF, prS, szL, Rs.hd, Rs.nx]
theorem prF_short (m : Nat) (rest : List Int) (h : rest.length < m) : prF ((m : Int) :: rest) = ([], 1) := by
  have hb := q_szL_bad m [] 0 rest false h
  unfold prF prS
  simp only [Rs.hd, Rs.nx, List.headD_cons, List.tail_cons, List.isEmpty_cons, Bool.or_false, Int.toNat_natCast]
  rw [hb]; rfl
theorem prF_go (m : Nat) (rest : List Int) (h : m ≤ rest.length) : prF ((m : Int) :: rest) = prS (rest.take m) (rest.take m).sum ⟨rest.drop m, false⟩ := by
  unfold prF
  simp only [Rs.hd, Rs.nx, List.headD_cons, List.tail_cons, List.isEmpty_cons, Bool.or_false, Int.toNat_natCast]
  rw [q_szL_ok m [] 0 rest h]
  simp
/-- The two outlines that are empty, and what lies below. -/
structure Er (w W : World) : Prop where
  res : W.heap[w.heap.size]? = some (.cells #[.slice none 0 0] 26 (0, 0))
  non : W.heap[w.heap.size + 1]? = some (.cells #[.slice none 0 0] 26 (0, 0))
  bel : Below w.heap.size w W
theorem Er.below {w W W' : World} (h : Er w W) (hb : Below W.heap.size W W') : Er w W' := ⟨blk_below h.res hb, blk_below h.non hb, below_step h.bel hb⟩
theorem Er.err {w W : World} (h : Er w W) (c : Int) :
    (W.setCell ⟨w.heap.size, 0, none⟩ (.slice none 0 0)).heap[w.heap.size]? = some (.cells #[.slice none 0 0] 26 (0, 0)) ∧
    PostP w ([], c) (.returned (.tuple #[.agg #[.slice none 0 0], .int .i64 c])) (W.setCell ⟨w.heap.size, 0, none⟩ (.slice none 0 0)) :=
  ⟨by simpa using heap_setCell_same W w.heap.size 0 _ _ (.slice none 0 0) h.res, _, rfl, Kd.S_nil _ _ _ _ _, h.bel.setCell (Nat.le_refl _) _⟩
theorem Er.ok {w W W2 : World} {c n : Nat} {A1 : Option Addr} {cs : List (List S34)} (h : Er w W) (hb : w.heap.size ≤ W2.heap.size) (hs : Kd.S (Kd.slice 34 k34) 28 W W2.heap.size (fun _ => True) (.slice A1 n c) cs) :
    (W.setCell ⟨w.heap.size, 0, none⟩ (.slice A1 n c)).heap[w.heap.size]? = some (.cells #[.slice A1 n c] 26 (0, 0)) ∧
    PostP w (cs, 0) (.returned (.tuple #[.agg #[.slice A1 n c], .int .i64 0])) (W.setCell ⟨w.heap.size, 0, none⟩ (.slice A1 n c)) :=
  ⟨by simpa using heap_setCell_same W w.heap.size 0 _ _ (.slice A1 n c) h.res, _, rfl,
   Kd.S_lower (Kd.S_mono (Kd.S_far (p := ⟨w.heap.size, 0, none⟩) (Kd.S_types hs h.res (by decide)) (fun _ hk => hk.2) _) (fun _ _ => trivial)) hb, h.bel.setCell (Nat.le_refl _) _⟩
theorem Bys.below {w W : World} {A : Option Addr} {bs : List Int} (h : Bys w A bs) (hb : Below w.heap.size w W) : Bys W A bs := by
  rcases h with h | ⟨g, off, rfl, hg, hc⟩
  · exact .inl h
  · exact .inr ⟨g, off, rfl, Nat.lt_of_lt_of_le hg hb.size, fun j hj => pw_cell_below hb (hc j hj)⟩
theorem Bys.at {w : World} {A : Option Addr} {bs : List Int} (h : Bys w A bs) (hn : 0 < bs.length) : ∃ g off, A = some ⟨g, off, none⟩ ∧ g < w.heap.size ∧ ∀ j, j < bs.length → w.cell? ⟨g, off + j, none⟩ = some (.int .u8 (bs.getD j 0)) := by
  rcases h with h | h
  · subst h; simp at hn
  · exact h
theorem Bys.take {w : World} {A : Option Addr} {bs : List Int} (h : Bys w A bs) (m : Nat) : Bys w A (bs.take m) := by
  rcases h with h | ⟨g, off, rfl, hg, hc⟩
  · exact .inl (by rw [h]; simp)
  · refine .inr ⟨g, off, rfl, hg, fun j hj => ?_⟩
    rw [List.length_take] at hj
    rw [hc j (by omega)]
    simp [List.getD_eq_getElem?_getD, List.getElem?_take, show j < m by omega]
theorem Bys.drop {w : World} {g off : Nat} {bs : List Int} (h : Bys w (some ⟨g, off, none⟩) bs) (m : Nat) : Bys w (some ⟨g, off + m, none⟩) (bs.drop m) := by
  rcases h with h | ⟨g', off', he, hg, hc⟩
  · exact .inl (by rw [h]; simp)
  · injection he with he
    injection he with h1 h2
    subst h1; subst h2
    refine .inr ⟨_, _, rfl, hg, fun j hj => ?_⟩
    rw [List.length_drop] at hj
    rw [show off + m + j = off + (m + j) by omega, hc (m + j) (by omega)]
    simp [List.getD_eq_getElem?_getD]
theorem Bys.more {W : World} {A : Option Addr} {fs : List Int} {c : Nat} (h : Bys W A (fs.drop c)) (j : Nat) : Bys W (Option.map (fun x => x.add j) A) (fs.drop (c + j)) := by
  rcases h with h | ⟨g, off, rfl, hg, hc⟩
  · refine .inl ?_
    rw [← List.drop_drop, h]; simp
  · have := Bys.drop (w := W) (g := g) (off := off) (bs := fs.drop c) (.inr ⟨g, off, rfl, hg, hc⟩) j
    rw [List.drop_drop] at this
    have e : (⟨g, off, none⟩ : Addr).add j = ⟨g, off + j, none⟩ := by unfold Addr.add; split <;> simp_all
    show Bys W (some ((⟨g, off, none⟩ : Addr).add j)) _
    rw [e]; exact this
theorem info_u8r : (Try.prog.info? 5).map (fun i => (i.zero, i.size, i.bytes)) = some (some (.int .u8 0), 1, 1) := by kernel_rfl
theorem and8_nat (b : Nat) (hb : b = 1 ∨ b = 2 ∨ b = 4 ∨ b = 8) : ∀ n, n < 256 → bits .and .u8 ((n : Nat) : Int) (b : Int) = if bitSet (n : Int) b then (b : Int) else 0 := by
  rcases hb with rfl | rfl | rfl | rfl <;> decide +kernel
theorem and8 (b : Nat) (hb : b = 1 ∨ b = 2 ∨ b = 4 ∨ b = 8) (f : Int) (h0 : 0 ≤ f) (h1 : f ≤ 255) : bits .and .u8 f (b : Int) = if bitSet f b then (b : Int) else 0 := by
  obtain ⟨n, rfl⟩ := Int.eq_ofNat_of_zero_le h0
  exact and8_nat b hb n (by omega)
theorem and8_yes (b : Nat) (hb : b = 1 ∨ b = 2 ∨ b = 4 ∨ b = 8) (f : Int) (h0 : 0 ≤ f) (h1 : f ≤ 255) (h : bitSet f b = true) : bits .and .u8 f (b : Int) = b := by rw [and8 b hb f h0 h1, if_pos h]
theorem and8_no (b : Nat) (hb : b = 1 ∨ b = 2 ∨ b = 4 ∨ b = 8) (f : Int) (h0 : 0 ≤ f) (h1 : f ≤ 255) (h : bitSet f b = false) : bits .and .u8 f (b : Int) = 0 := by rw [and8 b hb f h0 h1, h]; rfl
theorem flR_nil : flR ⟨[], false⟩ = ⟨[], true⟩ := by simp [flR, Rs.hd, Rs.nx, bitSet]
theorem flR_no (x : Int) (bs : List Int) (h : bitSet x 8 = false) : flR ⟨x :: bs, false⟩ = ⟨bs, false⟩ := by simp [flR, Rs.hd, Rs.nx, h]
theorem flR_end (x : Int) (h : bitSet x 8 = true) : (flR ⟨[x], false⟩).bad = true := by simp [flR, Rs.hd, Rs.nx, h]
theorem flR_two (x y : Int) (bs : List Int) (h : bitSet x 8 = true) : flR ⟨x :: y :: bs, false⟩ = ⟨bs, false⟩ := by simp [flR, Rs.hd, Rs.nx, h]
theorem flT_no (x : Int) (bs : List Int) (h : bitSet x 8 = false) : flT ⟨x :: bs, false⟩ = 1 := by simp [flT, Rs.hd, h]
theorem flT_two (x y : Int) (bs : List Int) (h : bitSet x 8 = true) : flT ⟨x :: y :: bs, false⟩ = 1 + y.toNat := by simp [flT, Rs.hd, Rs.nx, h]
theorem past_nil (b : Bool) : ((⟨[], false⟩ : Rs).past b).bad = true := by cases b <;> simp [Rs.past, Rs.nx]
theorem past_no (z : Int) (bs : List Int) : (⟨z :: bs, false⟩ : Rs).past false = ⟨bs, false⟩ := by simp [Rs.past, Rs.nx]
theorem past_end (z : Int) : ((⟨[z], false⟩ : Rs).past true).bad = true := by simp [Rs.past, Rs.nx]
theorem past_two (z y : Int) (bs : List Int) : (⟨z :: y :: bs, false⟩ : Rs).past true = ⟨bs, false⟩ := by simp [Rs.past, Rs.nx]
theorem step_no (z : Int) (bs : List Int) : (⟨z :: bs, false⟩ : Rs).step false = p8 z := by simp [Rs.step, Rs.hd]
theorem step_two (z y : Int) (bs : List Int) : (⟨z :: y :: bs, false⟩ : Rs).step true = 256 * p8 z + y := by simp [Rs.step, Rs.hd, Rs.nx]
theorem i8_p8 (z : Int) (h0 : 0 ≤ z) (h1 : z ≤ 255) : IntKind.i8.wrap z = p8 z ∧ -128 ≤ p8 z ∧ p8 z ≤ 127 := by
  unfold p8
  refine ⟨?_, ?_, ?_⟩
  · split <;> simp [IntKind.wrap, IntKind.bits, IntKind.signed] <;> omega
  · split <;> omega
  · split <;> omega
/-- Between a point's two steps. -/
def Kq (f : Int) (P : List Int) (R5 : List S34 × Int × Int × Rs) : Nat → Int → Int → Rs → List S34 → Prop
  | 0, x, y, r, c => ptL (f :: P) x y r c = R5
  | 1, x, y, r, c => ptL P x (y + r.step (bitSet f 4)) (r.past (bitSet f 4)) (c ++ [⟨x, y + r.step (bitSet f 4), bitSet f 1⟩]) = R5
  | _ + 2, x, y, r, c => ptL P x y r (c ++ [⟨x, y, bitSet f 1⟩]) = R5
theorem Kq.zero {f : Int} {P : List Int} {R5} {x y : Int} {r : Rs} {c : List S34} (h : Kq f P R5 0 x y r c) : Kq f P R5 1 (x + r.step (bitSet f 2)) y (r.past (bitSet f 2)) c := h
theorem Kq.one {f : Int} {P : List Int} {R5} {x y : Int} {r : Rs} {c : List S34} (h : Kq f P R5 1 x y r c) : Kq f P R5 2 x (y + r.step (bitSet f 4)) (r.past (bitSet f 4)) c := h
theorem Kq.bad0 {f : Int} {P : List Int} {R5} {x y : Int} {r : Rs} {c : List S34} (h : Kq f P R5 0 x y r c) (hb : (r.past (bitSet f 2)).bad = true) : R5.2.2.2.bad = true := by
  have h2 : ptL (f :: P) x y r c = R5 := h
  rw [← h2, ptL]; exact q_ptL_bad _ _ _ _ _ (q_past_bad _ hb)
theorem Kq.bad1 {f : Int} {P : List Int} {R5} {x y : Int} {r : Rs} {c : List S34} (h : Kq f P R5 1 x y r c) (hb : (r.past (bitSet f 4)).bad = true) : R5.2.2.2.bad = true := by
  have h2 : ptL P x (y + r.step (bitSet f 4)) (r.past (bitSet f 4)) (c ++ [⟨x, y + r.step (bitSet f 4), bitSet f 1⟩]) = R5 := h
  rw [← h2]; exact q_ptL_bad _ _ _ _ _ hb
theorem Bys.cut {w : World} {g off : Nat} {bs : List Int} {cap : Nat} (k : Nat) (h : Bys w (some ⟨g, off, none⟩) bs) (hl : bs.length ≤ cap) : Bys w (if cap = k then some ⟨g, off, none⟩ else some ⟨g, off + k, none⟩) (bs.drop k) := by
  by_cases hk : cap = k
  · exact .inl (List.drop_eq_nil_of_le (by omega))
  · rw [if_neg hk]; exact h.drop k
set_option maxHeartbeats 2000000 in
set_option maxRecDepth 100000 in
theorem rparse_c (A : Option Addr) (cap : Nat) (l : List Int) (w : World) (hb : Bys w A l) (hlc : l.length ≤ cap) (hwf : ∀ x ∈ l, 0 ≤ x ∧ x ≤ 255) :
    Calls Try.prog 28 #[.slice A l.length cap] w fun e w' => PostP w (prF l) e w' := by
  have hE : Er w ((w.alloc (.cells #[.slice none 0 0] 26)).alloc (.cells #[.slice none 0 0] 26)) := by
    have b1 := below_alloc (Below.refl _ w) (.cells #[.slice none 0 0] 26)
    have n2 := heap_alloc_new (w.alloc (.cells #[.slice none 0 0] 26)) (.cells #[.slice none 0 0] 26)
    rw [World.size_alloc] at n2
    exact ⟨blk_below (heap_alloc_new w _) (below_alloc (Below.refl _ _) _), n2, below_alloc b1 _⟩
  have HE := Lib.hid hE; clear hE
  go_enter Try.func28, Try.ntmps28
  go_upto_region 2 with (fail)
  generalize (w.alloc (.cells #[.slice none 0 0] 26)).alloc (.cells #[.slice none 0 0] 26) = W4 at *
  have e2 : W4.cell? ⟨w.heap.size, 0, none⟩ = some (.slice none 0 0) := (blk_cell HE.out.res 0).trans rfl
  have e4 : W4.cell? ⟨w.heap.size + 1, 0, none⟩ = some (.slice none 0 0) := (blk_cell HE.out.non 0).trans rfl
  have ef := blk_frozen HE.out.res 0
  cases l with
  | nil =>
    rw [show ([] : List Int).length = 0 from rfl]
    go_wp2_with fail
    obtain ⟨q1, q2⟩ := HE.out.err 1
    refine bodyPost_ret (results_ct rfl _ _ w.heap.size 26 #[.slice none 0 0] (0, 0) _ rfl q1 Try.underlying26 rfl (by kernel_rfl)) rfl ?_
    rw [prF_nil]
    exact q2
  | cons b0 rest =>
    obtain ⟨g, off, rfl, hg, hc⟩ := hb.at (by simp)
    have c0 : W4.cell? ⟨g, off, none⟩ = some (.int .u8 b0) := pw_cell_below HE.out.bel (hc 0 (by simp))
    obtain ⟨hb0, hb1⟩ := hwf b0 (by simp)
    obtain ⟨m, rfl⟩ := Int.eq_ofNat_of_zero_le hb0
    obtain ⟨L, hL⟩ : ∃ L, rest.length = L := ⟨_, rfl⟩
    have hlen : ((m : Int) :: rest).length = L + 1 := by simp [hL]
    have hlc' := hlc
    rw [hlen] at hlc ⊢
    have HBY := Lib.hid hb; have HW := Lib.hid (fun x hx => hwf x (List.mem_cons_of_mem _ hx)); have HL := Lib.hid hL
    clear hb hc hwf hL hlen
    have hz : (((L + 1 : Nat) : Int) == 0) = false := by simp; omega
    have hz2 : (((L : Int) + 1) == 0) = false := by simp; omega
    by_cases hs : L < m
    · have HF : Hid (prF ((m : Int) :: rest) = ([], 1)) := Lib.hid (prF_short m rest (by rw [HL.out]; exact hs))
      go_wp2_with fail
      obtain ⟨q1, q2⟩ := HE.out.err 1
      refine bodyPost_ret (results_ct rfl _ _ w.heap.size 26 #[.slice none 0 0] (0, 0) _ rfl q1 Try.underlying26 rfl (by kernel_rfl)) rfl ?_
      rw [HF.out]
      exact q2
    · have HF := Lib.hid (prF_go m rest (by rw [HL.out]; omega))
      clear e2 e4 ef
      go_upto_region 7 with (fail)
      have hA5 : Bys w (if cap = 1 then some ⟨g, off, none⟩ else some ⟨g, off + 1, none⟩) (rest.take m) := (HBY.out.cut 1 hlc').take m
      have hA0 : Bys w (if cap = 1 + m then some ⟨g, off, none⟩ else some ⟨g, off + (1 + m), none⟩) (rest.drop m) := by
        have := HBY.out.cut (1 + m) hlc'
        rw [show 1 + m = m + 1 by omega, List.drop_succ_cons] at this
        rw [show 1 + m = m + 1 by omega]; exact this
      generalize (if cap = 1 then some (⟨g, off, none⟩ : Addr) else some ⟨g, off + 1, none⟩) = A5 at *
      generalize (if cap = 1 + m then some (⟨g, off, none⟩ : Addr) else some ⟨g, off + (1 + m), none⟩) = A0 at *
      rw [show 1 + m - 1 = m by omega]
      obtain ⟨N0, hN0⟩ : ∃ N0, L + 1 - (1 + m) = N0 := ⟨_, rfl⟩
      obtain ⟨C0, hC0⟩ : ∃ C0, cap - (1 + m) = C0 := ⟨_, rfl⟩
      rw [hN0, hC0]
      have hNC : N0 ≤ C0 := by omega
      obtain ⟨S, hS⟩ : ∃ S, rest.take m = S := ⟨_, rfl⟩
      obtain ⟨B, hB⟩ : ∃ B, rest.drop m = B := ⟨_, rfl⟩
      have hSl : S.length = m := by rw [← hS, List.length_take, HL.out]; omega
      have hBl : B.length = N0 := by rw [← hB, List.length_drop, HL.out]; omega
      have hSw : ∀ x ∈ S, 0 ≤ x ∧ x ≤ 255 := fun x hx => HW.out x (List.mem_of_mem_take (hS ▸ hx))
      have hBw : ∀ x ∈ B, 0 ≤ x ∧ x ≤ 255 := fun x hx => HW.out x (List.mem_of_mem_drop (hB ▸ hx))
      rw [hS] at hA5 HF
      rw [hB] at hA0 HF
      have HA5 := Lib.hid hA5; have HA0 := Lib.hid hA0; have HSL := Lib.hid hSl; have HBL := Lib.hid hBl; have HSW := Lib.hid hSw; have HBW := Lib.hid hBw
      clear hA5 hA0 hSl hBl hSw hBw hS hB hN0 hC0 HW HL HBY c0 hz hz2 hs hlc' hlc
      go_wp2_with fail
      go_loopw [6, 53] (fun v6 v53 W => ∃ (j : Nat) (acc : Int), v53 = .int .i64 j ∧ v6 = .int .i64 acc ∧ j ≤ m ∧ 0 ≤ acc ∧ acc ≤ 255 * j ∧ Hid (acc + (S.drop j).sum = S.sum) ∧ W = W4) (fun _ v53 _ => m - (intOf v53).toNat)
      case atStart => exact ⟨0, 0, rfl, rfl, Nat.zero_le _, by omega, by omega, Lib.hid (by simp), by trivial⟩
      case round =>
        obtain ⟨j, acc, rfl, rfl, hj, ha0, ha1, HACC, rfl⟩ := hrel
        by_cases hjm : j < m
        · have hji : (j : Int) < (m : Int) := by omega
          obtain ⟨gs, os, eA, _, hcs⟩ := (HA5.out.below HE.out.bel).at (by rw [HSL.out]; omega)
          subst eA
          have cj := hcs j (by rw [HSL.out]; exact hjm)
          obtain ⟨z, hz⟩ : ∃ z, S.getD j 0 = z := ⟨_, rfl⟩
          rw [hz] at cj
          have hzb : 0 ≤ z ∧ z ≤ 255 := by
            rw [← hz, List.getD_eq_getElem?_getD, List.getElem?_eq_getElem (by rw [HSL.out]; exact hjm)]
            exact HSW.out _ (List.getElem_mem _)
          obtain ⟨hz0, hz1⟩ := hzb
          have HAC2 : Hid (acc + z + (S.drop (j + 1)).sum = S.sum) := Lib.hid (by
            have h := HACC.out
            rw [sum_drop S j (by rw [HSL.out]; exact hjm), hz] at h
            omega)
          clear hcs hz HACC
          go_wp2_with fail
          go_roundw
          case rel => exact ⟨j + 1, acc + z, by go_num, rfl, by omega, by omega, by omega, HAC2, by trivial⟩
          case measure => simp [intOf]; omega
        · obtain rfl : j = m := by omega
          have hji : ¬ (j : Int) < (j : Int) := by omega
          have hsum := HACC.out
          rw [List.drop_eq_nil_of_le (by rw [HSL.out]; omega)] at hsum
          obtain ⟨N, rfl⟩ := Int.eq_ofNat_of_zero_le ha0
          have HSS : Hid (S.sum = N) := Lib.hid (by simpa using hsum.symm)
          clear hsum HACC
          have e2 : wr.cell? ⟨w.heap.size, 0, none⟩ = some (.slice none 0 0) := (blk_cell HE.out.res 0).trans rfl
          have e4 : wr.cell? ⟨w.heap.size + 1, 0, none⟩ = some (.slice none 0 0) := (blk_cell HE.out.non 0).trans rfl
          have ef := blk_frozen HE.out.res 0
          by_cases hlim : 64 < N ∨ 8 < j
          · have HF2 : Hid (prF ((j : Int) :: rest) = ([], 3)) := Lib.hid (by
              rw [HF.out]; unfold prS
              simp only [Bool.false_eq_true, if_false]
              rw [HSS.out, HSL.out]
              by_cases h : (64 : Int) < (N : Int)
              · rw [if_pos h]
              · rw [if_neg h, if_pos (by omega)])
            by_cases h64 : 64 < N
            · have hd1 : decide (64 < (N : Int)) = true := decide_eq_true (by omega)
              go_wp2_with fail
              obtain ⟨q1, q2⟩ := HE.out.err 3
              refine bodyPost_ret (results_ct rfl _ _ w.heap.size 26 #[.slice none 0 0] (0, 0) _ rfl q1 Try.underlying26 rfl (by kernel_rfl)) rfl ?_
              rw [HF2.out]
              exact q2
            · have hd1 : decide (64 < (N : Int)) = false := decide_eq_false (by omega)
              have hd2 : decide (8 < (j : Int)) = true := decide_eq_true (by omega)
              go_wp2_with fail
              obtain ⟨q1, q2⟩ := HE.out.err 3
              refine bodyPost_ret (results_ct rfl _ _ w.heap.size 26 #[.slice none 0 0] (0, 0) _ rfl q1 Try.underlying26 rfl (by kernel_rfl)) rfl ?_
              rw [HF2.out]
              exact q2
          · have hN64 : N ≤ 64 := by omega
            have hj8 : j ≤ 8 := by omega
            have hd1 : decide (64 < (N : Int)) = false := decide_eq_false (by omega)
            have hd2 : decide (8 < (j : Int)) = false := decide_eq_false (by omega)
            have HF2 : Hid (prF ((j : Int) :: rest) = match flL N (N + 1) [] ⟨B, false⟩ with | .inl e => ([], e) | .inr (fs, r2) => prT S fs r2) := Lib.hid (by
              rw [HF.out]; unfold prS
              simp only [Bool.false_eq_true, if_false]
              rw [HSS.out, HSL.out, if_neg (by omega), if_neg (by omega)]
              rfl)
            clear hlim HF
            go_wp2_with fail
            clear hd1 hd2 e2 e4 ef
            obtain ⟨W4, rfl⟩ : ∃ W4 : World, W4 = wr := ⟨_, rfl⟩
            obtain ⟨R2, hR2⟩ : ∃ R2, flL N (N + 1) [] ⟨B, false⟩ = R2 := ⟨_, rfl⟩
            rw [hR2] at HF2
            have HR2 := Lib.hid hR2; clear hR2
            have hw4 : w.heap.size + 1 < W4.heap.size := blk_lt HE.out.non
            go_loopg [0, 9] (N + 1) (fun kq v0 v9 W => ∃ (A : Option Addr) (nb cb : Nat) (bs fs : List Int) (u : Value), v0 = .slice A nb cb ∧ v9 = u ∧ nb ≤ cb ∧ Hid (Bys w A bs) ∧ Hid (bs.length = nb) ∧ Hid (∀ x ∈ bs, 0 ≤ x ∧ x ≤ 255) ∧ Hid (flL N kq fs ⟨bs, false⟩ = R2) ∧ Hid (N < kq + fs.length) ∧ Hid (fs.length ≤ N ∧ ∀ x ∈ fs, 0 ≤ x ∧ x ≤ 255) ∧ Hid (Kd.R (Kd.int .u8) 5 W W4.heap.size (fun _ => True) u fs) ∧ Hid (Below W4.heap.size W4 W))
            case atStart => exact ⟨A0, N0, C0, B, [], _, rfl, rfl, hNC, HA0, HBL, HBW, HR2, Lib.hid (by simp), Lib.hid ⟨by simp, by simp⟩, Lib.hid (Kd.R_nil _ _ _ _ _), Lib.hid (Below.refl _ _)⟩
            case round =>
              obtain ⟨A1, nb, cb, bs, fs, u, rfl, rfl, hnc, HY, HYL, HYW, HEq, HD, HFS, HO, HB⟩ := hrel
              obtain ⟨A6, c6, e6⟩ := Kd.R_slice HO.out
              obtain ⟨F, hF⟩ : ∃ F, fs.length = F := ⟨_, rfl⟩
              rw [hF] at e6
              subst e6
              have hFN : F ≤ N := hF ▸ HFS.out.1
              have HFL := Lib.hid hF; clear hF
              have HEr := Lib.hid (HE.out.below HB.out)
              by_cases hlt : F < N
              · have hd3 : decide ((F : Int) < (N : Int)) = true := decide_eq_true (by omega)
                obtain ⟨D, hD⟩ : ∃ D, gk = D + 1 := ⟨gk - 1, by have := HD.out; have := HFL.out; omega⟩
                subst hD
                have HE5 : Hid ((if (flR ⟨bs, false⟩).bad then Sum.inl 1 else if 15 < (⟨bs, false⟩ : Rs).hd ∨ N < F + flT ⟨bs, false⟩ then .inl 2 else flL N D (fs ++ List.replicate (flT ⟨bs, false⟩) (⟨bs, false⟩ : Rs).hd) (flR ⟨bs, false⟩)) = R2) := Lib.hid (by
                  have h := HEq.out; rw [flL, if_pos (by rw [HFL.out]; exact hlt), HFL.out] at h; exact h)
                clear HEq
                go_upto_region 16 with (fail)
                go_cut [88] (fun v88 W => v88 = .bool (flR ⟨bs, false⟩).bad ∧ W = wr)
                case first =>
                  cases bs with
                  | nil =>
                    have hn0 : nb = 0 := by have := HYL.out; simpa using this.symm
                    subst hn0
                    go_wp2_with fail
                    go_meet
                    case rel => exact ⟨by rw [flR_nil], rfl⟩
                  | cons x bs1 =>
                    obtain ⟨n1, hn1⟩ : ∃ n1, bs1.length = n1 := ⟨_, rfl⟩
                    have hnb : nb = n1 + 1 := by have := HYL.out; simp at this; omega
                    subst hnb
                    obtain ⟨g1, o1, rfl, hg1, hc1⟩ := HY.out.at (by simp)
                    have cx : wr.cell? ⟨g1, o1, none⟩ = some (.int .u8 x) := pw_cell_below HEr.out.bel (hc1 0 (by simp))
                    obtain ⟨x0, x1⟩ := HYW.out x (by simp)
                    have hz : (((n1 + 1 : Nat) : Int) == 0) = false := by simp; omega
                    have hz2 : ((n1 : Int) + 1 == 0) = false := by simp; omega
                    have HN1 := Lib.hid hn1
                    clear hc1 hn1
                    by_cases hbit : bitSet x 8 = true
                    · have ha8 : bits .and .u8 x 8 = 8 := and8_yes 8 (by simp) x x0 x1 hbit
                      have HBIT := Lib.hid hbit; clear hbit
                      cases bs1 with
                      | nil =>
                        have hn0 : n1 = 0 := by have := HN1.out; simpa using this.symm
                        subst hn0
                        go_wp2_with fail
                        go_meet
                        case rel => exact ⟨by rw [flR_end x HBIT.out], rfl⟩
                      | cons y bs2 =>
                        obtain ⟨n2, hn2⟩ : ∃ n2, n1 = n2 + 1 := ⟨bs2.length, by have := HN1.out; simpa using this.symm⟩
                        subst hn2
                        go_wp2_with fail
                        go_meet
                        case rel => exact ⟨by rw [flR_two x y bs2 HBIT.out]; simp; omega, rfl⟩
                    · have hbit : bitSet x 8 = false := by simpa using hbit
                      have ha8 : bits .and .u8 x 8 = 0 := and8_no 8 (by simp) x x0 x1 hbit
                      have HBIT := Lib.hid hbit; clear hbit
                      go_wp2_with fail
                      go_meet
                      case rel => exact ⟨by rw [flR_no x bs1 HBIT.out], rfl⟩
                case rest =>
                  obtain ⟨rfl, rfl⟩ := hcut
                  have e2 : wc.cell? ⟨w.heap.size, 0, none⟩ = some (.slice none 0 0) := (blk_cell HEr.out.res 0).trans rfl
                  have e4 : wc.cell? ⟨w.heap.size + 1, 0, none⟩ = some (.slice none 0 0) := (blk_cell HEr.out.non 0).trans rfl
                  have ef := blk_frozen HEr.out.res 0
                  by_cases hbad : (flR ⟨bs, false⟩).bad = true
                  · have HF3 : Hid (prF ((j : Int) :: rest) = ([], 1)) := Lib.hid (by
                      have h := HE5.out; rw [if_pos hbad] at h
                      rw [HF2.out, ← h])
                    rw [hbad]
                    clear hbad
                    go_wp2_with fail
                    obtain ⟨q1, q2⟩ := HEr.out.err 1
                    refine bodyPost_ret (results_ct rfl _ _ w.heap.size 26 #[.slice none 0 0] (0, 0) _ rfl q1 Try.underlying26 rfl (by kernel_rfl)) rfl ?_
                    rw [HF3.out]
                    exact q2
                  · have hbad2 : (flR ⟨bs, false⟩).bad = false := by simpa using hbad
                    rw [hbad2]
                    have HE6 := HE5.out
                    rw [if_neg hbad] at HE6
                    have HE7 := Lib.hid HE6
                    have HBD := Lib.hid hbad2
                    clear hbad hbad2 HE6 HE5
                    cases bs with
                    | nil => exact absurd HBD.out (by rw [flR_nil]; simp)
                    | cons x bs1 =>
                      obtain ⟨n1, hn1⟩ : ∃ n1, bs1.length = n1 := ⟨_, rfl⟩
                      have hnb : nb = n1 + 1 := by have := HYL.out; simp at this; omega
                      subst hnb
                      obtain ⟨g1, o1, rfl, hg1, hc1⟩ := HY.out.at (by simp)
                      have cx : wc.cell? ⟨g1, o1, none⟩ = some (.int .u8 x) := pw_cell_below HEr.out.bel (hc1 0 (by simp))
                      obtain ⟨x0, x1⟩ := HYW.out x (by simp)
                      obtain ⟨bt, hbt⟩ : ∃ bt, bitSet x 8 = bt := ⟨_, rfl⟩
                      have hdb : decide (0 < bits .and .u8 x 8) = bt := by
                        rw [← hbt]
                        have := and8 8 (by simp) x x0 x1
                        rw [show ((8 : Nat) : Int) = 8 from rfl] at this
                        rw [this]
                        cases bitSet x 8 <;> simp
                      have HBT := Lib.hid hbt
                      have HN1 := Lib.hid hn1
                      have HC1 := Lib.hid hc1
                      have hY1 := HY.out.cut (cap := cb) 1 (by rw [HYL.out]; exact hnc)
                      have HY1 := Lib.hid hY1
                      clear hbt hn1 hc1 hY1
                      go_upto_if 97 with (fail)
                      go_cut [0, 11] (fun v0 v11 W => ∃ (A : Option Addr) (nb cb : Nat) (bs' : List Int) (T : Nat), v0 = .slice A nb cb ∧ v11 = .int .i64 T ∧ nb ≤ cb ∧ 1 ≤ T ∧ T ≤ 256 ∧ Hid (Bys w A bs') ∧ Hid (bs'.length = nb) ∧ Hid (∀ x ∈ bs', 0 ≤ x ∧ x ≤ 255) ∧ Hid (flT ⟨x :: bs1, false⟩ = T) ∧ Hid (flR ⟨x :: bs1, false⟩ = ⟨bs', false⟩) ∧ W = wc)
                      case first =>
                        cases bt with
                        | false =>
                          generalize (if cb = 1 then some (⟨g1, o1, none⟩ : Addr) else some ⟨g1, o1 + 1, none⟩) = Aq at *
                          go_wp2_with fail
                          go_meet
                          case rel => exact ⟨Aq, n1, cb - 1, bs1, 1, rfl, rfl, by omega, by omega, by omega, HY1, HN1, Lib.hid (fun x hx => HYW.out x (List.mem_cons_of_mem _ hx)), Lib.hid (flT_no x bs1 HBT.out), Lib.hid (flR_no x bs1 HBT.out), rfl⟩
                        | true =>
                          cases bs1 with
                          | nil => exact absurd HBD.out (by rw [flR_end x HBT.out]; simp)
                          | cons y bs2 =>
                            obtain ⟨n2, hn2⟩ : ∃ n2, n1 = n2 + 1 := ⟨bs2.length, by have := HN1.out; simpa using this.symm⟩
                            subst hn2
                            have hcb1 : ¬ cb = 1 := by omega
                            rw [if_neg hcb1]
                            have cy : wc.cell? ⟨g1, o1 + 1, none⟩ = some (.int .u8 y) := pw_cell_below HEr.out.bel (HC1.out 1 (by simp))
                            obtain ⟨y0, y1⟩ := HYW.out y (by simp)
                            have hY2 := HY1.out
                            rw [if_neg hcb1] at hY2
                            have hY3 := Bys.cut (cap := cb - 1) 1 hY2 (by have := HN1.out; simp at this ⊢; omega)
                            obtain ⟨Y, rfl⟩ := Int.eq_ofNat_of_zero_le y0
                            clear hY2
                            by_cases hcb2 : cb - 1 = 1
                            · rw [if_pos hcb2] at hY3
                              have HY3 := Lib.hid hY3
                              clear hY3
                              go_wp2_with fail
                              go_meet
                              case rel => exact ⟨_, n2, _, bs2, 1 + Y, rfl, by go_num, by omega, by omega, by omega, HY3, Lib.hid (by have := HN1.out; simpa using this), Lib.hid (fun x hx => HYW.out x (List.mem_cons_of_mem _ (List.mem_cons_of_mem _ hx))), Lib.hid (by rw [flT_two x _ bs2 HBT.out]; rfl), Lib.hid (flR_two x _ bs2 HBT.out), rfl⟩
                            · rw [if_neg hcb2] at hY3
                              have HY3 := Lib.hid hY3
                              clear hY3
                              go_wp2_with fail
                              go_meet
                              case rel => exact ⟨_, n2, _, bs2, 1 + Y, rfl, by go_num, by omega, by omega, by omega, HY3, Lib.hid (by have := HN1.out; simpa using this), Lib.hid (fun x hx => HYW.out x (List.mem_cons_of_mem _ (List.mem_cons_of_mem _ hx))), Lib.hid (by rw [flT_two x _ bs2 HBT.out]; rfl), Lib.hid (flR_two x _ bs2 HBT.out), rfl⟩
                      case rest =>
                        obtain ⟨A2, nb2, cb2, bs2, T, rfl, rfl, hnc2, hT1, hT2, HY2, HYL2, HYW2, HT, HR, rfl⟩ := hcut
                        have HE8 : Hid ((if 15 < x ∨ N < F + T then Sum.inl 2 else flL N D (fs ++ List.replicate T x) ⟨bs2, false⟩) = R2) := Lib.hid (by
                          have h := HE7.out; rw [HT.out, HR.out] at h; exact h)
                        clear HE7 hdb cx HY HYL HYW HBT HN1 HC1 HY1 HBD HT HR
                        by_cases h15 : 15 < x
                        · have HF3 : Hid (prF ((j : Int) :: rest) = ([], 2)) := Lib.hid (by
                            have h := HE8.out; rw [if_pos (.inl h15)] at h
                            rw [HF2.out, ← h])
                          have h15d : decide (15 < x) = true := decide_eq_true h15
                          go_wp2_with fail
                          obtain ⟨q1, q2⟩ := HEr.out.err 2
                          refine bodyPost_ret (results_ct rfl _ _ w.heap.size 26 #[.slice none 0 0] (0, 0) _ rfl q1 Try.underlying26 rfl (by kernel_rfl)) rfl ?_
                          rw [HF3.out]
                          exact q2
                        · have h15d : decide (15 < x) = false := decide_eq_false h15
                          by_cases hFT : N < F + T
                          · have HF3 : Hid (prF ((j : Int) :: rest) = ([], 2)) := Lib.hid (by
                              have h := HE8.out; rw [if_pos (.inr hFT)] at h
                              rw [HF2.out, ← h])
                            have hd6 : decide ((N : Int) < (F : Int) + (T : Int)) = true := decide_eq_true (by omega)
                            go_wp2_with fail
                            obtain ⟨q1, q2⟩ := HEr.out.err 2
                            refine bodyPost_ret (results_ct rfl _ _ w.heap.size 26 #[.slice none 0 0] (0, 0) _ rfl q1 Try.underlying26 rfl (by kernel_rfl)) rfl ?_
                            rw [HF3.out]
                            exact q2
                          · have hd6 : decide ((N : Int) < (F : Int) + (T : Int)) = false := decide_eq_false (by omega)
                            have HE9 : Hid (flL N D (fs ++ List.replicate T x) ⟨bs2, false⟩ = R2) := Lib.hid (by
                              have h := HE8.out; rw [if_neg (by omega)] at h; exact h)
                            clear HE8
                            go_wp2_with fail
                            clear h15d hd6 e2 e4 ef
                            go_loopw [9, 12] (fun v9 v12 W => ∃ (i : Nat) (u : Value), v12 = .int .i64 i ∧ v9 = u ∧ i ≤ T ∧ Hid (Kd.R (Kd.int .u8) 5 W W4.heap.size (fun _ => True) u (fs ++ List.replicate i x)) ∧ Hid (Below W4.heap.size W4 W)) (fun _ v12 _ => T - (intOf v12).toNat)
                            case atStart => exact ⟨0, _, rfl, rfl, Nat.zero_le _, Lib.hid (by simpa using HO.out), HB⟩
                            case round =>
                              obtain ⟨i, u, rfl, rfl, hi, HOi, HBi⟩ := hrel
                              obtain ⟨Ai, ci, ei⟩ := Kd.R_slice HOi.out
                              rw [List.length_append, List.length_replicate, HFL.out] at ei
                              subst ei
                              by_cases hiT : i < T
                              · have hi1 : decide ((i : Int) < (T : Int)) = true := decide_eq_true (by omega)
                                go_wp2_with (at_builtin; refine Kd.R_append (Kd.int .u8) (w0 := W4) W4.heap.size rfl (.tmp 121) (.tmp 123) 48 5 (.int .u8 0) 1 rfl Try.underlying48 info_u8r rfl (by decide) (by omega) (.slice Ai (F + i) ci) (fs ++ List.replicate i x) x [.int .u8 x] (fun _ => True) (fun _ => False) rfl rfl ?aP (fun _ hk => hk.elim) (fun _ _ => trivial) HOi.out HBi.out HBi.out.size ?aL ?_; (case aP => exact rfl); (case aL => (rw [List.length_append, List.length_replicate, HFL.out]; omega)); intro v1 w9 ho hb hg hat; have n1 := Lib.hid ho; have n2 := Lib.hid hb; clear ho hb hg hat)
                                go_roundw
                                case rel => exact ⟨i + 1, v1, by go_num, rfl, by omega, Lib.hid (by rw [List.replicate_succ', ← List.append_assoc]; exact n1.out), n2⟩
                                case measure => simp [intOf]; omega
                              · obtain rfl : i = T := by omega
                                have hi1 : decide ((i : Int) < (i : Int)) = false := decide_eq_false (by omega)
                                go_wp2_with fail
                                go_roundg D
                                case measure => omega
                                case rel =>
                                  refine ⟨A2, nb2, cb2, bs2, fs ++ List.replicate i x, _, rfl, rfl, hnc2, HY2, HYL2, HYW2, HE9, ?_, ?_, HOi, HBi⟩
                                  · have := HD.out; have := HFL.out
                                    exact Lib.hid (by simp; omega)
                                  · refine Lib.hid ⟨by rw [List.length_append, List.length_replicate, HFL.out]; omega, fun q hq => ?_⟩
                                    rcases List.mem_append.1 hq with hq | hq
                                    · exact HFS.out.2 q hq
                                    · obtain rfl := (List.mem_replicate.1 hq).2
                                      exact ⟨x0, x1⟩
              · have hFN2 : F = N := by omega
                subst hFN2
                have hd3 : decide ((F : Int) < (F : Int)) = false := decide_eq_false (by omega)
                have HF4 : Hid (prF ((j : Int) :: rest) = prT S fs ⟨bs, false⟩) := Lib.hid (by
                  have h := HEq.out
                  have h2 : flL F gk fs ⟨bs, false⟩ = .inr (fs, ⟨bs, false⟩) := by
                    cases gk with
                    | zero => rfl
                    | succ g => rw [flL, if_neg (by rw [HFL.out]; omega)]
                  rw [h2] at h
                  rw [HF2.out, ← h])
                clear HF2 HEq
                have HFB : Hid (Bys wr A6 fs) := Lib.hid (by
                  rcases ints_form HO.out with ⟨_, h⟩ | ⟨g, c', e, _, _, hg, _, hc⟩
                  · exact .inl h
                  · injection e with e1 e2 e3
                    subst e1
                    exact .inr ⟨g, 0, rfl, hg, fun j hj => by rw [Nat.zero_add]; exact hc j hj⟩)
                have hFc : F ≤ c6 := HFL.out ▸ (Kd.R_reads' HO.out).2.1
                have hF64 : F ≤ 64 := by omega
                have HYr := Lib.hid (HY.out.below HEr.out.bel)
                have HSr := Lib.hid (HA5.out.below HEr.out.bel)
                obtain ⟨W2, rfl⟩ : ∃ W2 : World, W2 = wr := ⟨_, rfl⟩
                have al1 := below_alloc (Below.refl _ W2) (.cells #[.int .i64 0, .int .i64 0] 83)
                have HB3 := Lib.hid (below_alloc al1 (.cells #[.slice none 0 0] 26))
                have H13 := Lib.hid (blk_below (heap_alloc_new W2 (.cells #[.int .i64 0, .int .i64 0] 83)) (below_alloc (Below.refl _ _) (.cells #[.slice none 0 0] 26)))
                have H14 := Lib.hid (heap_alloc_new (W2.alloc (.cells #[.int .i64 0, .int .i64 0] 83)) (.cells #[.slice none 0 0] 26))
                rw [World.size_alloc] at H14
                clear al1
                go_upto_region 31 with (fail)
                generalize (W2.alloc (.cells #[.int .i64 0, .int .i64 0] 83)).alloc (.cells #[.slice none 0 0] 26) = W3 at *
                obtain ⟨b13, hb13⟩ : ∃ b13, W2.heap.size = b13 := ⟨_, rfl⟩
                have HB13 : Hid (W2.heap.size = b13) := Lib.hid hb13
                rw [hb13] at H13 H14 HB3 ⊢
                clear hb13 hd3
                obtain ⟨R4, hR4⟩ : ∃ R4, ctL S fs 0 0 ⟨bs, false⟩ [] = R4 := ⟨_, rfl⟩
                have HR4 := Lib.hid hR4; clear hR4
                have HSS2 : Hid (S.sum = F) := Lib.hid HSS.out
                have HBF : Hid (R4.2.bad = true → prF ((j : Int) :: rest) = ([], 1)) := Lib.hid (fun h => by
                  rw [HF4.out]; unfold prT; rw [HR4.out, if_pos h])
                clear HSS HO HB
                go_wp2_with fail
                go_loopw [0, 9, 128] (fun v0 v9 v128 W => ∃ (i c : Nat) (Af : Option Addr) (capf : Nat) (x y : Int) (A : Option Addr) (nb cb : Nat) (bs : List Int) (cs : List (List S34)) (uo : Value),
                  v128 = .int .i64 i ∧ i ≤ j ∧ v9 = .slice Af (F - c : Nat) capf ∧ c ≤ F ∧ F - c ≤ capf ∧ v0 = .slice A nb cb ∧ nb ≤ cb ∧
                  -(80000 * (c : Int)) ≤ x ∧ x ≤ 80000 * (c : Int) ∧ -(80000 * (c : Int)) ≤ y ∧ y ≤ 80000 * (c : Int) ∧
                  Hid (Bys W2 Af (fs.drop c)) ∧ Hid ((c : Int) + (S.drop i).sum = F) ∧ Hid (cs.length = i) ∧
                  Hid (Bys W2 A bs) ∧ Hid (bs.length = nb) ∧ Hid (∀ x ∈ bs, 0 ≤ x ∧ x ≤ 255) ∧
                  Hid (ctL (S.drop i) (fs.drop c) x y ⟨bs, false⟩ cs = R4) ∧
                  Hid (W.heap[b13]? = some (.cells #[.int .i64 x, .int .i64 y] 83 (0, 0))) ∧ Hid (W.heap[b13 + 1]? = some (.cells #[uo] 26 (0, 0))) ∧
                  Hid (Kd.S (Kd.slice 34 k34) 28 W W2.heap.size (fun _ => True) uo cs) ∧
                  Hid (Below W2.heap.size W2 W)) (fun _ _ v128 _ => j - (intOf v128).toNat)
                case atStart => exact ⟨0, 0, A6, c6, 0, 0, A1, nb, cb, bs, [], _, rfl, Nat.zero_le _, rfl, Nat.zero_le _, hFc, rfl, hnc, by omega, by omega, by omega, by omega, Lib.hid (by simpa using HFB.out), Lib.hid (by rw [List.drop_zero, HSS2.out]; simp), Lib.hid rfl, HYr, HYL, HYW, HR4, H13, H14, Lib.hid (Kd.S_nil _ _ _ _ _), Lib.hid (by rw [HB13.out]; exact HB3.out)⟩
                clear HB3 H13 H14 HYr HYL HYW HY hnc HFB
                case round =>
                  obtain ⟨i, c, Af, capf, x, y, A, nb, cb, bs, cs, uo, rfl, hi, rfl, hcF, hcap, rfl, hnc, hx0, hx1, hy0, hy1, HFc, HCS, HCL, HY, HYL, HYW, HR, H13, H14, HS, HB⟩ := hrel
                  by_cases hij : i < j
                  · have hij1 : decide ((i : Int) < (j : Int)) = true := decide_eq_true (by omega)
                    obtain ⟨Z, hZ⟩ := Int.eq_ofNat_of_zero_le (HSW.out (S.getD i 0) (by rw [List.getD_eq_getElem?_getD, List.getElem?_eq_getElem (by rw [HSL.out]; exact hij)]; simp)).1
                    have hcZ : c + Z ≤ F := by
                      have h := HCS.out
                      rw [sum_drop S i (by rw [HSL.out]; exact hij), hZ] at h
                      have := sum_nn (S.drop (i + 1)) (fun x hx => (HSW.out x (List.mem_of_mem_drop hx)).1)
                      omega
                    have hZc : (Z : Int) ≤ (capf : Int) := by omega
                    obtain ⟨gs, os, eA, _, hcs⟩ := (HSr.out.below HB.out).at (by rw [HSL.out]; omega)
                    subst eA
                    have csi := hcs i (by rw [HSL.out]; exact hij)
                    rw [hZ] at csi
                    have HZ := Lib.hid hZ; clear hZ hcs
                    go_wp2_with fail
                    obtain ⟨W7, rfl⟩ : ∃ W7 : World, W7 = wr := ⟨_, rfl⟩
                    clear csi hZc hij1
                    obtain ⟨P, hP⟩ : ∃ P, P = (fs.drop c).take Z := ⟨_, rfl⟩
                    have hPl : P.length = Z := by rw [hP, List.length_take, List.length_drop, HFL.out]; omega
                    have HPB := Lib.hid (HFc.out.take Z)
                    rw [← hP] at HPB
                    have HPW : Hid (∀ x ∈ P, 0 ≤ x ∧ x ≤ 255) := Lib.hid (fun x hx => HFS.out.2 x (List.mem_of_mem_drop (List.mem_of_mem_take (hP ▸ hx))))
                    obtain ⟨R5, hR5⟩ : ∃ R5, ptL P x y ⟨bs, false⟩ [] = R5 := ⟨_, rfl⟩
                    have HB5 : Hid (R5.2.2.2.bad = true → prF ((j : Int) :: rest) = ([], 1)) := Lib.hid (fun h => HBF.out (by
                      have h2 := HR.out
                      have hg : S[i]'(by rw [HSL.out]; exact hij) = (Z : Int) := by have := HZ.out; rw [List.getD_eq_getElem?_getD, List.getElem?_eq_getElem (by rw [HSL.out]; exact hij)] at this; exact this
                      rw [List.drop_eq_getElem_cons (by rw [HSL.out]; exact hij), ctL, hg, Int.toNat_natCast, ← hP, hR5] at h2
                      rw [← h2]
                      exact q_ctL_bad _ _ _ _ _ _ h))
                    have HR5 := Lib.hid hR5; have HPd := Lib.hid hP; have HPL := Lib.hid hPl; clear hR5 hP hPl
                    go_loopw [0, 17, 136] (fun v0 v17 v136 W => ∃ (t : Nat) (xb yb : Int) (A : Option Addr) (nb cb : Nat) (bs : List Int) (pts : List S34) (u17 : Value),
                      v136 = .int .i64 t ∧ t ≤ Z ∧ v17 = u17 ∧ v0 = .slice A nb cb ∧ nb ≤ cb ∧
                      -(80000 * ((c : Int) + t)) ≤ xb ∧ xb ≤ 80000 * ((c : Int) + t) ∧ -(80000 * ((c : Int) + t)) ≤ yb ∧ yb ≤ 80000 * ((c : Int) + t) ∧
                      Hid (ptL (P.drop t) xb yb ⟨bs, false⟩ pts = R5) ∧ Hid (pts.length = t) ∧
                      Hid (Bys W2 A bs) ∧ Hid (bs.length = nb) ∧ Hid (∀ x ∈ bs, 0 ≤ x ∧ x ≤ 255) ∧
                      Hid (W.heap[b13]? = some (.cells #[.int .i64 xb, .int .i64 yb] 83 (0, 0))) ∧ Hid (W.heap[b13 + 1]? = some (.cells #[uo] 26 (0, 0))) ∧
                      Hid (Kd.S (Kd.slice 34 k34) 28 W W2.heap.size (fun q => True ∧ some q ≠ u17.ownBlock) uo cs) ∧
                      Hid (Kd.R k34 34 W W2.heap.size (fun _ => True) u17 pts) ∧
                      Hid (Below W2.heap.size W2 W)) (fun _ _ v136 _ => Z - (intOf v136).toNat)
                    case atStart => exact ⟨0, x, y, A, nb, cb, bs, [], .slice none 0 0, rfl, Nat.zero_le _, rfl, rfl, hnc, by omega, by omega, by omega, by omega, HR5, Lib.hid rfl, HY, HYL, HYW, H13, H14, Lib.hid (Kd.S_apart_nil HS.out), Lib.hid (Kd.R_nil _ _ _ _ _), HB⟩
                    clear HY HYL HYW hnc H13 H14 HS HB
                    case round =>
                      obtain ⟨t, xb, yb, A, nb, cb, bs, pts, u17, rfl, ht, rfl, rfl, hnc, hxb0, hxb1, hyb0, hyb1, HRp, HPT, HY, HYL, HYW, H13, H14, HS, HO, HB⟩ := hrel
                      by_cases htZ : t < Z
                      · have htZ1 : decide ((t : Int) < (Z : Int)) = true := decide_eq_true (by omega)
                        obtain ⟨f, hf⟩ : ∃ f, P.getD t 0 = f := ⟨_, rfl⟩
                        obtain ⟨hf0, hf1⟩ : 0 ≤ f ∧ f ≤ 255 := by
                          rw [← hf, List.getD_eq_getElem?_getD, List.getElem?_eq_getElem (by rw [HPL.out]; exact htZ)]
                          exact HPW.out _ (List.getElem_mem _)
                        obtain ⟨gf, of, eAf, _, hcf⟩ := (HPB.out.below HB.out).at (by rw [HPL.out]; omega)
                        have cft := hcf t (by rw [HPL.out]; exact htZ)
                        rw [hf] at cft
                        subst eAf
                        have HRq : Hid (ptL (f :: P.drop (t + 1)) xb yb ⟨bs, false⟩ pts = R5) := Lib.hid (by
                          have h := HRp.out
                          have h2 : P[t]'(by rw [HPL.out]; exact htZ) = f := by
                            rw [List.getD_eq_getElem?_getD, List.getElem?_eq_getElem (by rw [HPL.out]; exact htZ)] at hf
                            exact hf
                          rw [List.drop_eq_getElem_cons (by rw [HPL.out]; exact htZ), h2] at h
                          exact h)
                        clear hf hcf HRp
                        go_wp2_with fail
                        clear cft htZ1
                        go_loopw [0, 20] (fun v0 v20 W => ∃ (k : Nat) (kk xk yk : Int) (A : Option Addr) (nb cb : Nat) (bs : List Int),
                          v20 = .int .i64 kk ∧ ((k = 0 ∧ kk = 0) ∨ (k = 1 ∧ kk = 1) ∨ (k = 2 ∧ kk = 2)) ∧ v0 = .slice A nb cb ∧ nb ≤ cb ∧
                          -(80000 * ((c : Int) + t)) - 40000 * kk ≤ xk ∧ xk ≤ 80000 * ((c : Int) + t) + 40000 * kk ∧ -(80000 * ((c : Int) + t)) - 40000 * kk ≤ yk ∧ yk ≤ 80000 * ((c : Int) + t) + 40000 * kk ∧
                          Hid (Kq f (P.drop (t + 1)) R5 k xk yk ⟨bs, false⟩ pts) ∧
                          Hid (Bys W2 A bs) ∧ Hid (bs.length = nb) ∧ Hid (∀ x ∈ bs, 0 ≤ x ∧ x ≤ 255) ∧
                          Hid (W.heap[b13]? = some (.cells #[.int .i64 xk, .int .i64 yk] 83 (0, 0))) ∧ Hid (W.heap[b13 + 1]? = some (.cells #[uo] 26 (0, 0))) ∧
                          Hid (Kd.S (Kd.slice 34 k34) 28 W W2.heap.size (fun q => True ∧ some q ≠ u17.ownBlock) uo cs) ∧
                          Hid (Kd.R k34 34 W W2.heap.size (fun _ => True) u17 pts) ∧
                          Hid (Below W2.heap.size W2 W)) (fun _ v20 _ => 2 - (intOf v20).toNat)
                        case atStart => exact ⟨0, 0, xb, yb, A, nb, cb, bs, rfl, .inl ⟨rfl, rfl⟩, rfl, hnc, by omega, by omega, by omega, by omega, HRq, HY, HYL, HYW, H13, H14, HS, HO, HB⟩
                        clear HY HYL HYW hnc H13 H14 HS HO HB HRq hxb0 hxb1 hyb0 hyb1
                        case round =>
                          obtain ⟨k, kk, xk, yk, A, nb, cb, bs, rfl, hkk, rfl, hnc, hxk0, hxk1, hyk0, hyk1, HK, HY, HYL, HYW, H13, H14, HS, HO, HB⟩ := hrel
                          have htF : (c : Int) + t ≤ 63 := by omega
                          have HEw := Lib.hid (HEr.out.below HB.out)
                          have hle13 : W2.heap.size ≤ b13 := by rw [HB13.out]; exact Nat.le_refl _
                          rcases hkk with ⟨rfl, rfl⟩ | ⟨rfl, rfl⟩ | ⟨rfl, rfl⟩
                          · -- step 0
                            -- DEVCUT
                            go_upto_region 41 with (fail)
                            go_cut [158] (fun v158 W => v158 = .bool ((⟨bs, false⟩ : Rs).past (bitSet f 2)).bad ∧ W = wr)
                            case first =>
                              cases bs with
                              | nil =>
                                have hn0 : nb = 0 := by have := HYL.out; simpa using this.symm
                                subst hn0
                                go_wp2_with fail
                                go_meet
                                case rel => exact ⟨by rw [past_nil], rfl⟩
                              | cons z bs1 =>
                                obtain ⟨n1, hn1⟩ : ∃ n1, bs1.length = n1 := ⟨_, rfl⟩
                                have hnb : nb = n1 + 1 := by have := HYL.out; simp at this; omega
                                subst hnb
                                have hz : (((n1 + 1 : Nat) : Int) == 0) = false := by simp; omega
                                have hz2 : ((n1 : Int) + 1 == 0) = false := by simp; omega
                                have HN1 := Lib.hid hn1
                                clear hn1
                                by_cases hbit : bitSet f 2 = true
                                · have ha8 : bits .and .u8 f 2 = 2 := and8_yes 2 (by simp) f hf0 hf1 hbit
                                  have HBIT := Lib.hid hbit; clear hbit
                                  cases bs1 with
                                  | nil =>
                                    have hn0 : n1 = 0 := by have := HN1.out; simpa using this.symm
                                    subst hn0
                                    go_wp2_with fail
                                    go_meet
                                    case rel => exact ⟨by rw [HBIT.out, past_end z], rfl⟩
                                  | cons y bs2 =>
                                    obtain ⟨n2, hn2⟩ : ∃ n2, n1 = n2 + 1 := ⟨bs2.length, by have := HN1.out; simpa using this.symm⟩
                                    subst hn2
                                    go_wp2_with fail
                                    go_meet
                                    case rel => exact ⟨by rw [HBIT.out, past_two z y bs2]; simp; omega, rfl⟩
                                · have hbit : bitSet f 2 = false := by simpa using hbit
                                  have ha8 : bits .and .u8 f 2 = 0 := and8_no 2 (by simp) f hf0 hf1 hbit
                                  have HBIT := Lib.hid hbit; clear hbit
                                  go_wp2_with fail
                                  go_meet
                                  case rel => exact ⟨by rw [HBIT.out, past_no z bs1], rfl⟩
                            case rest =>
                              obtain ⟨rfl, rfl⟩ := hcut
                              by_cases hbad : ((⟨bs, false⟩ : Rs).past (bitSet f 2)).bad = true
                              · have HF3 : Hid (prF ((j : Int) :: rest) = ([], 1)) := Lib.hid (HB5.out (HK.out.bad0 hbad))
                                have e2 : wc.cell? ⟨w.heap.size, 0, none⟩ = some (.slice none 0 0) := (blk_cell HEw.out.res 0).trans rfl
                                have e4 : wc.cell? ⟨w.heap.size + 1, 0, none⟩ = some (.slice none 0 0) := (blk_cell HEw.out.non 0).trans rfl
                                have ef := blk_frozen HEw.out.res 0
                                rw [hbad]
                                clear hbad
                                go_wp2_with fail
                                obtain ⟨q1, q2⟩ := HEw.out.err 1
                                refine bodyPost_ret (results_ct rfl _ _ w.heap.size 26 #[.slice none 0 0] (0, 0) _ rfl q1 Try.underlying26 rfl (by kernel_rfl)) rfl ?_
                                rw [HF3.out]
                                exact q2
                              · have hbad2 : ((⟨bs, false⟩ : Rs).past (bitSet f 2)).bad = false := by simpa using hbad
                                rw [hbad2]
                                have HBD := Lib.hid hbad2
                                clear hbad hbad2
                                cases bs with
                                | nil => exact absurd HBD.out (by rw [past_nil]; simp)
                                | cons z bs1 =>
                                  obtain ⟨n1, hn1⟩ : ∃ n1, bs1.length = n1 := ⟨_, rfl⟩
                                  have hnb : nb = n1 + 1 := by have := HYL.out; simp at this; omega
                                  subst hnb
                                  obtain ⟨g1, o1, rfl, hg1, hc1⟩ := HY.out.at (by simp)
                                  have cz : wc.cell? ⟨g1, o1, none⟩ = some (.int .u8 z) := pw_cell_below HB.out (hc1 0 (by simp))
                                  obtain ⟨z0, z1⟩ := HYW.out z (by simp)
                                  obtain ⟨hp, hp0, hp1⟩ := i8_p8 z z0 z1
                                  obtain ⟨q, hq⟩ : ∃ q, p8 z = q := ⟨_, rfl⟩
                                  rw [hq] at hp hp0 hp1
                                  have HQ := Lib.hid hq
                                  have HN1 := Lib.hid hn1
                                  have HC1 := Lib.hid hc1
                                  have c13 : wc.cell? ⟨b13, 0, none⟩ = some (.int .i64 xk) := (blk_cell H13.out 0).trans rfl
                                  have f13 := blk_frozen H13.out 0
                                  have hY1 := HY.out.cut (cap := cb) 1 (by rw [HYL.out]; exact hnc)
                                  clear hq hn1 hc1
                                  by_cases hbit : bitSet f 2 = true
                                  · have ha8 : bits .and .u8 f 2 = 2 := and8_yes 2 (by simp) f hf0 hf1 hbit
                                    have HBIT := Lib.hid hbit; clear hbit
                                    cases bs1 with
                                    | nil => exact absurd HBD.out (by rw [HBIT.out, past_end z]; simp)
                                    | cons y2 bs2 =>
                                      obtain ⟨n2, hn2⟩ : ∃ n2, n1 = n2 + 1 := ⟨bs2.length, by have := HN1.out; simpa using this.symm⟩
                                      subst hn2
                                      have hcb1 : ¬ cb = 1 := by omega
                                      have cy : wc.cell? ⟨g1, o1 + 1, none⟩ = some (.int .u8 y2) := pw_cell_below HB.out (HC1.out 1 (by simp))
                                      obtain ⟨y0, y1⟩ := HYW.out y2 (by simp)
                                      rw [if_neg hcb1] at hY1
                                      have hY3 := Bys.cut (cap := cb - 1) 1 hY1 (by have := HN1.out; simp at this ⊢; omega)
                                      have HK2 : Hid (Kq f (P.drop (t + 1)) R5 1 (xk + (256 * q + y2)) yk ⟨bs2, false⟩ pts) := Lib.hid (by
                                        have h := HK.out.zero
                                        rw [HBIT.out, past_two, step_two, HQ.out] at h
                                        exact h)
                                      have hl2 : bs2.length = n2 := by have := HN1.out; simpa using this
                                      have HL2 := Lib.hid hl2
                                      have HW2 := Lib.hid (fun q (hq : q ∈ bs2) => HYW.out q (List.mem_cons_of_mem _ (List.mem_cons_of_mem _ hq)))
                                      have t1 : Hid ((wc.setCell ⟨b13, 0, none⟩ (.int .i64 (xk + (256 * q + y2)))).heap[b13]? = some (.cells #[.int .i64 (xk + (256 * q + y2)), .int .i64 yk] 83 (0, 0))) := Lib.hid (by simpa using blk_set H13.out 0 (.int .i64 (xk + (256 * q + y2))))
                                      have t2 := Lib.hid (blk_far H14.out (p := ⟨b13, 0, none⟩) (by show b13 + 1 ≠ b13; omega) (.int .i64 (xk + (256 * q + y2))))
                                      have t3 := Lib.hid (Kd.S_mono (Kd.S_far (p := ⟨b13, 0, none⟩) (Kd.S_types HS.out H13.out (by decide)) (fun _ hk => hk.2) (.int .i64 (xk + (256 * q + y2)))) (fun _ hk => hk.1))
                                      have t4 := Lib.hid (Kd.R_set HO.out H13.out (by decide) 0 (.int .i64 (xk + (256 * q + y2))))
                                      have t5 := Lib.hid (HB.out.setCell (p := ⟨b13, 0, none⟩) hle13 (.int .i64 (xk + (256 * q + y2))))
                                      clear hl2 hY1
                                      by_cases hcb2 : cb - 1 = 1
                                      · rw [if_pos hcb2] at hY3
                                        have HY3 := Lib.hid hY3
                                        clear hY3
                                        go_wp2_with fail
                                        go_roundw
                                        case rel => exact ⟨1, 1, _, _, _, n2, _, bs2, by go_num, .inr (.inl ⟨rfl, rfl⟩), rfl, by omega, by omega, by omega, by omega, by omega, HK2, HY3, HL2, HW2, t1, t2, t3, t4, t5⟩
                                        case measure => simp [intOf]
                                      · rw [if_neg hcb2] at hY3
                                        have HY3 := Lib.hid hY3
                                        clear hY3
                                        go_wp2_with fail
                                        go_roundw
                                        case rel => exact ⟨1, 1, _, _, _, n2, _, bs2, by go_num, .inr (.inl ⟨rfl, rfl⟩), rfl, by omega, by omega, by omega, by omega, by omega, HK2, HY3, HL2, HW2, t1, t2, t3, t4, t5⟩
                                        case measure => simp [intOf]
                                  · have hbit : bitSet f 2 = false := by simpa using hbit
                                    have ha8 : bits .and .u8 f 2 = 0 := and8_no 2 (by simp) f hf0 hf1 hbit
                                    have HBIT := Lib.hid hbit; clear hbit
                                    have HK2 : Hid (Kq f (P.drop (t + 1)) R5 1 (xk + q) yk ⟨bs1, false⟩ pts) := Lib.hid (by
                                      have h := HK.out.zero
                                      rw [HBIT.out, past_no, step_no, HQ.out] at h
                                      exact h)
                                    have HW2 := Lib.hid (fun q (hq : q ∈ bs1) => HYW.out q (List.mem_cons_of_mem _ hq))
                                    have t1 : Hid ((wc.setCell ⟨b13, 0, none⟩ (.int .i64 (xk + q))).heap[b13]? = some (.cells #[.int .i64 (xk + q), .int .i64 yk] 83 (0, 0))) := Lib.hid (by simpa using blk_set H13.out 0 (.int .i64 (xk + q)))
                                    have t2 := Lib.hid (blk_far H14.out (p := ⟨b13, 0, none⟩) (by show b13 + 1 ≠ b13; omega) (.int .i64 (xk + q)))
                                    have t3 := Lib.hid (Kd.S_mono (Kd.S_far (p := ⟨b13, 0, none⟩) (Kd.S_types HS.out H13.out (by decide)) (fun _ hk => hk.2) (.int .i64 (xk + q))) (fun _ hk => hk.1))
                                    have t4 := Lib.hid (Kd.R_set HO.out H13.out (by decide) 0 (.int .i64 (xk + q)))
                                    have t5 := Lib.hid (HB.out.setCell (p := ⟨b13, 0, none⟩) hle13 (.int .i64 (xk + q)))
                                    by_cases hcb1 : cb = 1
                                    · rw [if_pos hcb1] at hY1
                                      have HY3 := Lib.hid hY1
                                      clear hY1
                                      go_wp2_with fail
                                      go_roundw
                                      case rel => exact ⟨1, 1, _, _, _, n1, _, bs1, by go_num, .inr (.inl ⟨rfl, rfl⟩), rfl, by omega, by omega, by omega, by omega, by omega, HK2, HY3, HN1, HW2, t1, t2, t3, t4, t5⟩
                                      case measure => simp [intOf]
                                    · rw [if_neg hcb1] at hY1
                                      have HY3 := Lib.hid hY1
                                      clear hY1
                                      go_wp2_with fail
                                      go_roundw
                                      case rel => exact ⟨1, 1, _, _, _, n1, _, bs1, by go_num, .inr (.inl ⟨rfl, rfl⟩), rfl, by omega, by omega, by omega, by omega, by omega, HK2, HY3, HN1, HW2, t1, t2, t3, t4, t5⟩
                                      case measure => simp [intOf]
                            -- DEVEND
                          · -- step 1
                            -- DEVCUT
                            go_upto_region 41 with (fail)
                            go_cut [158] (fun v158 W => v158 = .bool ((⟨bs, false⟩ : Rs).past (bitSet f 4)).bad ∧ W = wr)
                            case first =>
                              cases bs with
                              | nil =>
                                have hn0 : nb = 0 := by have := HYL.out; simpa using this.symm
                                subst hn0
                                go_wp2_with fail
                                go_meet
                                case rel => exact ⟨by rw [past_nil], rfl⟩
                              | cons z bs1 =>
                                obtain ⟨n1, hn1⟩ : ∃ n1, bs1.length = n1 := ⟨_, rfl⟩
                                have hnb : nb = n1 + 1 := by have := HYL.out; simp at this; omega
                                subst hnb
                                have hz : (((n1 + 1 : Nat) : Int) == 0) = false := by simp; omega
                                have hz2 : ((n1 : Int) + 1 == 0) = false := by simp; omega
                                have HN1 := Lib.hid hn1
                                clear hn1
                                by_cases hbit : bitSet f 4 = true
                                · have ha8 : bits .and .u8 f 4 = 4 := and8_yes 4 (by simp) f hf0 hf1 hbit
                                  have HBIT := Lib.hid hbit; clear hbit
                                  cases bs1 with
                                  | nil =>
                                    have hn0 : n1 = 0 := by have := HN1.out; simpa using this.symm
                                    subst hn0
                                    go_wp2_with fail
                                    go_meet
                                    case rel => exact ⟨by rw [HBIT.out, past_end z], rfl⟩
                                  | cons y bs2 =>
                                    obtain ⟨n2, hn2⟩ : ∃ n2, n1 = n2 + 1 := ⟨bs2.length, by have := HN1.out; simpa using this.symm⟩
                                    subst hn2
                                    go_wp2_with fail
                                    go_meet
                                    case rel => exact ⟨by rw [HBIT.out, past_two z y bs2]; simp; omega, rfl⟩
                                · have hbit : bitSet f 4 = false := by simpa using hbit
                                  have ha8 : bits .and .u8 f 4 = 0 := and8_no 4 (by simp) f hf0 hf1 hbit
                                  have HBIT := Lib.hid hbit; clear hbit
                                  go_wp2_with fail
                                  go_meet
                                  case rel => exact ⟨by rw [HBIT.out, past_no z bs1], rfl⟩
                            case rest =>
                              obtain ⟨rfl, rfl⟩ := hcut
                              by_cases hbad : ((⟨bs, false⟩ : Rs).past (bitSet f 4)).bad = true
                              · have HF3 : Hid (prF ((j : Int) :: rest) = ([], 1)) := Lib.hid (HB5.out (HK.out.bad1 hbad))
                                have e2 : wc.cell? ⟨w.heap.size, 0, none⟩ = some (.slice none 0 0) := (blk_cell HEw.out.res 0).trans rfl
                                have e4 : wc.cell? ⟨w.heap.size + 1, 0, none⟩ = some (.slice none 0 0) := (blk_cell HEw.out.non 0).trans rfl
                                have ef := blk_frozen HEw.out.res 0
                                rw [hbad]
                                clear hbad
                                go_wp2_with fail
                                obtain ⟨q1, q2⟩ := HEw.out.err 1
                                refine bodyPost_ret (results_ct rfl _ _ w.heap.size 26 #[.slice none 0 0] (0, 0) _ rfl q1 Try.underlying26 rfl (by kernel_rfl)) rfl ?_
                                rw [HF3.out]
                                exact q2
                              · have hbad2 : ((⟨bs, false⟩ : Rs).past (bitSet f 4)).bad = false := by simpa using hbad
                                rw [hbad2]
                                have HBD := Lib.hid hbad2
                                clear hbad hbad2
                                cases bs with
                                | nil => exact absurd HBD.out (by rw [past_nil]; simp)
                                | cons z bs1 =>
                                  obtain ⟨n1, hn1⟩ : ∃ n1, bs1.length = n1 := ⟨_, rfl⟩
                                  have hnb : nb = n1 + 1 := by have := HYL.out; simp at this; omega
                                  subst hnb
                                  obtain ⟨g1, o1, rfl, hg1, hc1⟩ := HY.out.at (by simp)
                                  have cz : wc.cell? ⟨g1, o1, none⟩ = some (.int .u8 z) := pw_cell_below HB.out (hc1 0 (by simp))
                                  obtain ⟨z0, z1⟩ := HYW.out z (by simp)
                                  obtain ⟨hp, hp0, hp1⟩ := i8_p8 z z0 z1
                                  obtain ⟨q, hq⟩ : ∃ q, p8 z = q := ⟨_, rfl⟩
                                  rw [hq] at hp hp0 hp1
                                  have HQ := Lib.hid hq
                                  have HN1 := Lib.hid hn1
                                  have HC1 := Lib.hid hc1
                                  have c13 : wc.cell? ⟨b13, 1, none⟩ = some (.int .i64 yk) := (blk_cell H13.out 1).trans rfl
                                  have f13 := blk_frozen H13.out 1
                                  have hY1 := HY.out.cut (cap := cb) 1 (by rw [HYL.out]; exact hnc)
                                  clear hq hn1 hc1
                                  by_cases hbit : bitSet f 4 = true
                                  · have ha8 : bits .and .u8 f 4 = 4 := and8_yes 4 (by simp) f hf0 hf1 hbit
                                    have HBIT := Lib.hid hbit; clear hbit
                                    cases bs1 with
                                    | nil => exact absurd HBD.out (by rw [HBIT.out, past_end z]; simp)
                                    | cons y2 bs2 =>
                                      obtain ⟨n2, hn2⟩ : ∃ n2, n1 = n2 + 1 := ⟨bs2.length, by have := HN1.out; simpa using this.symm⟩
                                      subst hn2
                                      have hcb1 : ¬ cb = 1 := by omega
                                      have cy : wc.cell? ⟨g1, o1 + 1, none⟩ = some (.int .u8 y2) := pw_cell_below HB.out (HC1.out 1 (by simp))
                                      obtain ⟨y0, y1⟩ := HYW.out y2 (by simp)
                                      rw [if_neg hcb1] at hY1
                                      have hY3 := Bys.cut (cap := cb - 1) 1 hY1 (by have := HN1.out; simp at this ⊢; omega)
                                      have HK2 : Hid (Kq f (P.drop (t + 1)) R5 2 xk (yk + (256 * q + y2)) ⟨bs2, false⟩ pts) := Lib.hid (by
                                        have h := HK.out.one
                                        rw [HBIT.out, past_two, step_two, HQ.out] at h
                                        exact h)
                                      have hl2 : bs2.length = n2 := by have := HN1.out; simpa using this
                                      have HL2 := Lib.hid hl2
                                      have HW2 := Lib.hid (fun q (hq : q ∈ bs2) => HYW.out q (List.mem_cons_of_mem _ (List.mem_cons_of_mem _ hq)))
                                      have t1 : Hid ((wc.setCell ⟨b13, 1, none⟩ (.int .i64 (yk + (256 * q + y2)))).heap[b13]? = some (.cells #[.int .i64 xk, .int .i64 (yk + (256 * q + y2))] 83 (0, 0))) := Lib.hid (by simpa using blk_set H13.out 1 (.int .i64 (yk + (256 * q + y2))))
                                      have t2 := Lib.hid (blk_far H14.out (p := ⟨b13, 1, none⟩) (by show b13 + 1 ≠ b13; omega) (.int .i64 (yk + (256 * q + y2))))
                                      have t3 := Lib.hid (Kd.S_mono (Kd.S_far (p := ⟨b13, 1, none⟩) (Kd.S_types HS.out H13.out (by decide)) (fun _ hk => hk.2) (.int .i64 (yk + (256 * q + y2)))) (fun _ hk => hk.1))
                                      have t4 := Lib.hid (Kd.R_set HO.out H13.out (by decide) 1 (.int .i64 (yk + (256 * q + y2))))
                                      have t5 := Lib.hid (HB.out.setCell (p := ⟨b13, 1, none⟩) hle13 (.int .i64 (yk + (256 * q + y2))))
                                      clear hl2 hY1
                                      by_cases hcb2 : cb - 1 = 1
                                      · rw [if_pos hcb2] at hY3
                                        have HY3 := Lib.hid hY3
                                        clear hY3
                                        go_wp2_with fail
                                        go_roundw
                                        case rel => exact ⟨2, 2, _, _, _, n2, _, bs2, by go_num, .inr (.inr ⟨rfl, rfl⟩), rfl, by omega, by omega, by omega, by omega, by omega, HK2, HY3, HL2, HW2, t1, t2, t3, t4, t5⟩
                                        case measure => simp [intOf]
                                      · rw [if_neg hcb2] at hY3
                                        have HY3 := Lib.hid hY3
                                        clear hY3
                                        go_wp2_with fail
                                        go_roundw
                                        case rel => exact ⟨2, 2, _, _, _, n2, _, bs2, by go_num, .inr (.inr ⟨rfl, rfl⟩), rfl, by omega, by omega, by omega, by omega, by omega, HK2, HY3, HL2, HW2, t1, t2, t3, t4, t5⟩
                                        case measure => simp [intOf]
                                  · have hbit : bitSet f 4 = false := by simpa using hbit
                                    have ha8 : bits .and .u8 f 4 = 0 := and8_no 4 (by simp) f hf0 hf1 hbit
                                    have HBIT := Lib.hid hbit; clear hbit
                                    have HK2 : Hid (Kq f (P.drop (t + 1)) R5 2 xk (yk + q) ⟨bs1, false⟩ pts) := Lib.hid (by
                                      have h := HK.out.one
                                      rw [HBIT.out, past_no, step_no, HQ.out] at h
                                      exact h)
                                    have HW2 := Lib.hid (fun q (hq : q ∈ bs1) => HYW.out q (List.mem_cons_of_mem _ hq))
                                    have t1 : Hid ((wc.setCell ⟨b13, 1, none⟩ (.int .i64 (yk + q))).heap[b13]? = some (.cells #[.int .i64 xk, .int .i64 (yk + q)] 83 (0, 0))) := Lib.hid (by simpa using blk_set H13.out 1 (.int .i64 (yk + q)))
                                    have t2 := Lib.hid (blk_far H14.out (p := ⟨b13, 1, none⟩) (by show b13 + 1 ≠ b13; omega) (.int .i64 (yk + q)))
                                    have t3 := Lib.hid (Kd.S_mono (Kd.S_far (p := ⟨b13, 1, none⟩) (Kd.S_types HS.out H13.out (by decide)) (fun _ hk => hk.2) (.int .i64 (yk + q))) (fun _ hk => hk.1))
                                    have t4 := Lib.hid (Kd.R_set HO.out H13.out (by decide) 1 (.int .i64 (yk + q)))
                                    have t5 := Lib.hid (HB.out.setCell (p := ⟨b13, 1, none⟩) hle13 (.int .i64 (yk + q)))
                                    by_cases hcb1 : cb = 1
                                    · rw [if_pos hcb1] at hY1
                                      have HY3 := Lib.hid hY1
                                      clear hY1
                                      go_wp2_with fail
                                      go_roundw
                                      case rel => exact ⟨2, 2, _, _, _, n1, _, bs1, by go_num, .inr (.inr ⟨rfl, rfl⟩), rfl, by omega, by omega, by omega, by omega, by omega, HK2, HY3, HN1, HW2, t1, t2, t3, t4, t5⟩
                                      case measure => simp [intOf]
                                    · rw [if_neg hcb1] at hY1
                                      have HY3 := Lib.hid hY1
                                      clear hY1
                                      go_wp2_with fail
                                      go_roundw
                                      case rel => exact ⟨2, 2, _, _, _, n1, _, bs1, by go_num, .inr (.inr ⟨rfl, rfl⟩), rfl, by omega, by omega, by omega, by omega, by omega, HK2, HY3, HN1, HW2, t1, t2, t3, t4, t5⟩
                                      case measure => simp [intOf]
                            -- DEVEND
                          · obtain ⟨bo, hbo⟩ : ∃ bo, bitSet f 1 = bo := ⟨_, rfl⟩
                            have hdo : decide (0 < bits .and .u8 f 1) = bo := by
                              rw [← hbo]
                              have := and8 1 (by simp) f hf0 hf1
                              rw [show ((1 : Nat) : Int) = 1 from rfl] at this
                              rw [this]
                              cases bitSet f 1 <;> simp
                            have HKs : Hid (ptL (P.drop (t + 1)) xk yk ⟨bs, false⟩ (pts ++ [⟨xk, yk, bo⟩]) = R5) := Lib.hid (by rw [← hbo]; exact HK.out)
                            have c130 : wr.cell? ⟨b13, 0, none⟩ = some (.int .i64 xk) := (blk_cell H13.out 0).trans rfl
                            have c131 : wr.cell? ⟨b13, 1, none⟩ = some (.int .i64 yk) := (blk_cell H13.out 1).trans rfl
                            clear hbo HK
                            go_wp2_with (at_builtin; refine Kd.R_append k34 (w0 := W2) W2.heap.size rfl (.tmp 187) (.tmp 196) 28 34 (.agg #[.int .i64 0, .int .i64 0, .bool false]) 24 rfl Try.underlying28 info_v rfl (by decide) (by omega) u17 pts ⟨xk, yk, bo⟩ [.int .i64 xk, .int .i64 yk, .bool bo] (fun _ => True) (fun _ => False) rfl rfl ?aP (fun _ hk => hk.elim) (fun _ _ => trivial) HO.out HB.out HB.out.size ?aL ?_; (case aP => exact k34_mkM _ _ _ _); (case aL => have := HPT.out; omega); intro v1 w11 ho hb hg hat; have n1 := Lib.hid (blk_grown H13.out hg (Kd.R_ne HO.out H13.out (by decide))); have n2 := Lib.hid (blk_grown H14.out hg (Kd.R_ne HO.out H14.out (by decide))); have n3 := Lib.hid ho; have n4 := Lib.hid (Kd.S_after (ok := fun _ => True) HS.out hg hat); have n5 := Lib.hid hb; clear ho hb hg hat)
                            go_roundw
                            case rel => exact ⟨t + 1, xk, yk, A, nb, cb, bs, pts ++ [⟨xk, yk, bo⟩], v1, by go_num, by omega, rfl, rfl, hnc, by omega, by omega, by omega, by omega, HKs, Lib.hid (by have := HPT.out; simp; omega), HY, HYL, HYW, n1, n2, n4, n3, n5⟩
                            case measure => simp [intOf]; omega
                      · have htZ2 : t = Z := by omega
                        subst htZ2
                        have htZ1 : decide ((t : Int) < (t : Int)) = false := decide_eq_false (by omega)
                        have HR9 : Hid (R5 = (pts, xb, yb, ⟨bs, false⟩)) := Lib.hid (by
                          have h := HRp.out
                          rw [List.drop_eq_nil_of_le (by rw [HPL.out]; omega), ptL] at h
                          exact h.symm)
                        obtain ⟨A15, c15, e15⟩ := Kd.R_slice HO.out
                        rw [HPT.out] at e15
                        subst e15
                        have c14 : wr.cell? ⟨b13 + 1, 0, none⟩ = some uo := (blk_cell H14.out 0).trans rfl
                        have f14 : wr.frozen? ⟨b13 + 1, 0, none⟩ = false := blk_frozen H14.out 0
                        have hjF : (t : Int) ≤ ((F - c : Nat) : Int) := by omega
                        have hjc : (t : Int) ≤ (capf : Int) := by omega
                        by_cases hcj : capf = t
                        · subst hcj
                          go_wp2_with (at_builtin; refine Kd.S_append (Kd.slice 34 k34) (w0 := W2) W2.heap.size rfl (.tmp 203) (.tmp 205) 24 28 (.slice none 0 0) 24 rfl Try.underlying24 info_vs rfl (by decide) (by omega) uo cs pts [.slice A15 capf c15] (fun _ => True) (fun k_ => some k_ = (.slice A15 capf c15 : Value).ownBlock) rfl rfl ?aP (fun k_ hk_ => ((Kd.R_mono (ok' := fun k_ => ((fun _ => True)) k_ ∧ some k_ ≠ (uo : Value).ownBlock) (Kd.R_apart' (HO.out) (Kd.S_typed HS.out) (by decide)) (fun k_ hk => ⟨trivial, hk.2⟩))).1 k_ hk_.symm) (fun _ _ => trivial) ?aO HB.out HB.out.size ?aL ?_; (case aP => (have h_ := Kd.M_row (Kd.R_mono (Kd.R_tight rfl (Kd.R_mono (ok' := fun k_ => ((fun _ => True)) k_ ∧ some k_ ≠ (uo : Value).ownBlock) (Kd.R_apart' (HO.out) (Kd.S_typed HS.out) (by decide)) (fun k_ hk => ⟨trivial, hk.2⟩))) (fun _ h_ => h_)); exact h_)); (case aO => exact Kd.S_mono HS.out (fun k_ hk => ⟨trivial, fun e_ => hk.2 e_⟩)); (case aL => have := HCL.out; omega); intro v1 w11 ho hb hg hat; have n1 := Lib.hid (blk_grown H13.out hg (Kd.R_ne (Kd.S_R HS.out) H13.out (by decide))); have n2 := Lib.hid (blk_grown H14.out hg (Kd.R_ne (Kd.S_R HS.out) H14.out (by decide))); have n3 := Lib.hid ho; have n5 := Lib.hid hb; clear ho hb hg hat; have c11 : w11.cell? ⟨b13 + 1, 0, none⟩ = some uo := (blk_cell n2.out 0).trans rfl; have f11 : w11.frozen? ⟨b13 + 1, 0, none⟩ = false := blk_frozen n2.out 0; obtain ⟨A16, c16, e16⟩ := Kd.S_slice n3.out; rw [List.length_append, List.length_singleton, HCL.out] at e16; subst e16)
                          go_roundw
                          case rel =>
                            refine ⟨i + 1, c + capf, Af, _, xb, yb, A, nb, cb, bs, cs ++ [pts], _, by go_num, by omega, by rw [show F - (c + capf) = 0 by omega], by omega, by omega, rfl, hnc, by omega, by omega, by omega, by omega, ?_, ?_, ?_, HY, HYL, HYW, ?_, Lib.hid (blk_far n1.out (p := ⟨b13 + 1, 0, none⟩) (by show b13 ≠ b13 + 1; omega) _), Lib.hid (by simpa using blk_set n2.out 0 (.slice A16 (i + 1) c16)), Lib.hid (Kd.S_mono (Kd.S_far (p := ⟨b13 + 1, 0, none⟩) (Kd.S_types n3.out n2.out (by decide)) (fun _ hk => hk.2) _) (fun _ _ => trivial)), Lib.hid (n5.out.setCell (p := ⟨b13 + 1, 0, none⟩) (by show W2.heap.size ≤ b13 + 1; rw [HB13.out]; omega) _)⟩
                            · exact Lib.hid (.inl (List.drop_eq_nil_of_le (by rw [HFL.out]; omega)))
                            · have h := HCS.out
                              rw [sum_drop S i (by rw [HSL.out]; exact hij), HZ.out] at h
                              exact Lib.hid (by omega)
                            · have := HCL.out
                              exact Lib.hid (by simp; omega)
                            · exact Lib.hid (ct_step S fs i capf c (by rw [HSL.out]; exact hij) HZ.out P HPd.out x y xb yb _ _ pts R5 HR5.out HR9.out cs R4 HR.out)
                          case measure => simp [intOf]; omega
                        · have hcj1 : decide ((capf : Int) = (t : Int)) = false := decide_eq_false (by omega)
                          go_wp2_with (at_builtin; refine Kd.S_append (Kd.slice 34 k34) (w0 := W2) W2.heap.size rfl (.tmp 203) (.tmp 205) 24 28 (.slice none 0 0) 24 rfl Try.underlying24 info_vs rfl (by decide) (by omega) uo cs pts [.slice A15 t c15] (fun _ => True) (fun k_ => some k_ = (.slice A15 t c15 : Value).ownBlock) rfl rfl ?aP (fun k_ hk_ => ((Kd.R_mono (ok' := fun k_ => ((fun _ => True)) k_ ∧ some k_ ≠ (uo : Value).ownBlock) (Kd.R_apart' (HO.out) (Kd.S_typed HS.out) (by decide)) (fun k_ hk => ⟨trivial, hk.2⟩))).1 k_ hk_.symm) (fun _ _ => trivial) ?aO HB.out HB.out.size ?aL ?_; (case aP => (have h_ := Kd.M_row (Kd.R_mono (Kd.R_tight rfl (Kd.R_mono (ok' := fun k_ => ((fun _ => True)) k_ ∧ some k_ ≠ (uo : Value).ownBlock) (Kd.R_apart' (HO.out) (Kd.S_typed HS.out) (by decide)) (fun k_ hk => ⟨trivial, hk.2⟩))) (fun _ h_ => h_)); exact h_)); (case aO => exact Kd.S_mono HS.out (fun k_ hk => ⟨trivial, fun e_ => hk.2 e_⟩)); (case aL => have := HCL.out; omega); intro v1 w11 ho hb hg hat; have n1 := Lib.hid (blk_grown H13.out hg (Kd.R_ne (Kd.S_R HS.out) H13.out (by decide))); have n2 := Lib.hid (blk_grown H14.out hg (Kd.R_ne (Kd.S_R HS.out) H14.out (by decide))); have n3 := Lib.hid ho; have n5 := Lib.hid hb; clear ho hb hg hat; have c11 : w11.cell? ⟨b13 + 1, 0, none⟩ = some uo := (blk_cell n2.out 0).trans rfl; have f11 : w11.frozen? ⟨b13 + 1, 0, none⟩ = false := blk_frozen n2.out 0; obtain ⟨A16, c16, e16⟩ := Kd.S_slice n3.out; rw [List.length_append, List.length_singleton, HCL.out] at e16; subst e16)
                          go_roundw
                          case rel =>
                            refine ⟨i + 1, c + t, Option.map (fun x => x.add t) Af, _, xb, yb, A, nb, cb, bs, cs ++ [pts], _, by go_num, by omega, by rw [show F - (c + t) = F - c - t by omega], by omega, by omega, rfl, hnc, by omega, by omega, by omega, by omega, ?_, ?_, ?_, HY, HYL, HYW, ?_, Lib.hid (blk_far n1.out (p := ⟨b13 + 1, 0, none⟩) (by show b13 ≠ b13 + 1; omega) _), Lib.hid (by simpa using blk_set n2.out 0 (.slice A16 (i + 1) c16)), Lib.hid (Kd.S_mono (Kd.S_far (p := ⟨b13 + 1, 0, none⟩) (Kd.S_types n3.out n2.out (by decide)) (fun _ hk => hk.2) _) (fun _ _ => trivial)), Lib.hid (n5.out.setCell (p := ⟨b13 + 1, 0, none⟩) (by show W2.heap.size ≤ b13 + 1; rw [HB13.out]; omega) _)⟩
                            · exact Lib.hid (HFc.out.more t)
                            · have h := HCS.out
                              rw [sum_drop S i (by rw [HSL.out]; exact hij), HZ.out] at h
                              exact Lib.hid (by omega)
                            · have := HCL.out
                              exact Lib.hid (by simp; omega)
                            · exact Lib.hid (ct_step S fs i t c (by rw [HSL.out]; exact hij) HZ.out P HPd.out x y xb yb _ _ pts R5 HR5.out HR9.out cs R4 HR.out)
                          case measure => simp [intOf]; omega
                  · have hij2 : i = j := by omega
                    subst hij2
                    have hij1 : decide ((i : Int) < (i : Int)) = false := decide_eq_false (by omega)
                    have HR9 : Hid (R4 = (cs, ⟨bs, false⟩)) := Lib.hid (by
                      have h := HR.out
                      rw [List.drop_eq_nil_of_le (by rw [HSL.out]; omega), ctL] at h
                      exact h.symm)
                    have HF5 : Hid (prF ((i : Int) :: rest) = if bs.length > 0 then ([], 2) else if ckO cs ≠ 0 then ([], ckO cs) else (cs, 0)) := Lib.hid (by
                      rw [HF4.out]; unfold prT; rw [HR4.out, HR9.out]; rfl)
                    have HCB : Hid (∀ q ∈ cs, q.length ≤ 140737488355328) := Lib.hid (fun q hq => by
                      have h4 := HR4.out
                      have h := ctL_len S fs 0 0 _ [] q (by rw [h4, HR9.out]; exact hq)
                      have := HFL.out
                      rcases h with h | h
                      · simp at h
                      · omega)
                    have HEw := Lib.hid (HEr.out.below HB.out)
                    have e2 : wr.cell? ⟨w.heap.size, 0, none⟩ = some (.slice none 0 0) := (blk_cell HEw.out.res 0).trans rfl
                    have e4 : wr.cell? ⟨w.heap.size + 1, 0, none⟩ = some (.slice none 0 0) := (blk_cell HEw.out.non 0).trans rfl
                    have ef := blk_frozen HEw.out.res 0
                    by_cases hL0 : 0 < nb
                    · have hL1 : decide (0 < (nb : Int)) = true := decide_eq_true (by omega)
                      have HF6 : Hid (prF ((i : Int) :: rest) = ([], 2)) := Lib.hid (by rw [HF5.out, if_pos (by rw [HYL.out]; exact hL0)])
                      go_wp2_with fail
                      obtain ⟨q1, q2⟩ := HEw.out.err 2
                      refine bodyPost_ret (results_ct rfl _ _ w.heap.size 26 #[.slice none 0 0] (0, 0) _ rfl q1 Try.underlying26 rfl (by kernel_rfl)) rfl ?_
                      rw [HF6.out]
                      exact q2
                    · have hL1 : decide (0 < (nb : Int)) = false := decide_eq_false (by omega)
                      have HF6' : Hid (prF ((i : Int) :: rest) = if ckO cs ≠ 0 then ([], ckO cs) else (cs, 0)) := Lib.hid (by rw [HF5.out, if_neg (by rw [HYL.out]; exact hL0)])
                      obtain ⟨Ao, co, euo⟩ := Kd.S_slice HS.out
                      subst euo
                      have hrd := Lib.hid (Kd.S_reads' HS.out)
                      have c05 : wr.cell? ⟨b13 + 1, 0, none⟩ = some (.slice Ao cs.length co) := (blk_cell H14.out 0).trans rfl
                      have hu26 := Try.underlying26
                      go_wp2_with fail
                      refine (rcheck_any cs HCB.out Ao co cs.length wr rfl hrd.out.2.2 hrd.out.2.1).mono ?_
                      rintro e w12 ⟨rfl, hb12⟩
                      have HE12 := Lib.hid (HEw.out.below hb12)
                      have HS12 := Lib.hid (Kd.S_below HS.out hb12)
                      have H142 := Lib.hid (blk_below H14.out hb12)
                      have hww : w.heap.size ≤ W2.heap.size := HEr.out.bel.size
                      clear hb12 c05 e2 e4 ef
                      have c05 : w12.cell? ⟨b13 + 1, 0, none⟩ = some (.slice Ao cs.length co) := (blk_cell H142.out 0).trans rfl
                      have e2 : w12.cell? ⟨w.heap.size, 0, none⟩ = some (.slice none 0 0) := (blk_cell HE12.out.res 0).trans rfl
                      have e4 : w12.cell? ⟨w.heap.size + 1, 0, none⟩ = some (.slice none 0 0) := (blk_cell HE12.out.non 0).trans rfl
                      have ef := blk_frozen HE12.out.res 0
                      by_cases hck0 : ckO cs = 0
                      · have HF7 : Hid (prF ((i : Int) :: rest) = (cs, 0)) := Lib.hid (by rw [HF6'.out, if_neg (by simp [hck0])])
                        rw [hck0]
                        clear hck0
                        go_wp2_with fail
                        obtain ⟨q1, q2⟩ := HE12.out.ok hww HS12.out
                        refine bodyPost_ret (results_ct rfl _ _ w.heap.size 26 #[.slice Ao cs.length co] (0, 0) _ rfl q1 Try.underlying26 rfl (by kernel_rfl)) rfl ?_
                        rw [HF7.out]
                        exact q2
                      · have g1 : (ckO cs != 0) = true := by simpa using hck0
                        have g2 : (ckO cs == 0) = false := by simpa using hck0
                        have HF6 : Hid (prF ((i : Int) :: rest) = ([], ckO cs)) := Lib.hid (by rw [HF6'.out, if_pos hck0])
                        clear hck0
                        go_wp2_with fail
                        obtain ⟨q1, q2⟩ := HE12.out.err (ckO cs)
                        refine bodyPost_ret (results_ct rfl _ _ w.heap.size 26 #[.slice none 0 0] (0, 0) _ rfl q1 Try.underlying26 rfl (by kernel_rfl)) rfl ?_
                        rw [HF6.out]
                        exact q2
end Go.Proofs.Ytjealbaomhjoaaa
