/- The document's examples of layer 16 hold. -/
import Derived.Test.YtaccppchhljnkaaAtA
import Derived.Test.YtaccppchhljnkaaWEqStruct
set_option linter.unusedVariables false
set_option linter.unusedSimpArgs false
namespace Go.Proofs.Ytaccppchhljnkaa
open Go.RowKit Go.Shelf Go.Proofs.YtaccppchhljnkaaW.PrintWords Go.Proofs.YtaccppchhljnkaaW.PrintLast Go.Proofs.YtaccppchhljnkaaW.PrintMore
theorem eqRect (d : Nat) (w : World) (x0 y0 : Int) (x1 y1 : Int) (x2 y2 : Int) (x3 y3 : Int) :
    (Op.equalIn (d + 2) 39 (.agg #[.int .i64 x0, .int .i64 x1, .int .i64 x2, .int .i64 x3]) (.agg #[.int .i64 y0, .int .i64 y1, .int .i64 y2, .int .i64 y3])).run Try.prog w = .ok (x0 == y0 && (x1 == y1 && (x2 == y2 && (x3 == y3)))) w := by
  refine eqA_of Try.underlying39 (by kernel_rfl) ?_
  refine eqf_cons (by rfl) (by go_simp; rfl) (by go_simp; rfl) (by go_simp) ?_
  refine eqf_cons (by rfl) (by go_simp; rfl) (by go_simp; rfl) (by go_simp) ?_
  refine eqf_cons (by rfl) (by go_simp; rfl) (by go_simp; rfl) (by go_simp) ?_
  exact eqf_last (by rfl) (by go_simp; rfl) (by go_simp; rfl) (by go_simp)
set_option maxHeartbeats 1000000 in
set_option maxRecDepth 100000 in
/-- Two fields that hold the same are the same. -/
theorem same_yes (W : World) (m n : Int) (A B : Option Addr) (N ca cb : Nat) (t : List Int) (hN : N ≤ 140737488351232) (ha : SlO W 5 1 (.slice A N ca) N (t.map (Value.int .u8))) (hb : SlO W 5 1 (.slice B N cb) N (t.map (Value.int .u8))) :
    Calls Try.prog 23 #[Ef m n (.slice A N ca), Ef m n (.slice B N cb)] W fun e w' => e = .returned (.bool true) ∧ Below W.heap.size W w' := by
  have b1 := below_alloc (below_alloc (Below.refl W.heap.size W) (.cells #[.int .i64 m, .int .i64 n, .slice A N ca] 44)) (.cells #[.int .i64 m, .int .i64 n, .slice B N cb] 44)
  have hA := (slO_C8 hN (ha.kept (Kept.of_below (fun _ => False) b1) (fun _ _ h => h))).1
  have hB := (slO_C8 hN (hb.kept (Kept.of_below (fun _ => False) b1) (fun _ _ h => h))).1
  have q1 := fun W' (h : Kd.C (Kd.int .u8) W' A N t) => Kd.C_string (P := Try.prog) (c := ca) Try.underlying42 Try.underlying5 Try.underlying9 h
  have q2 := fun W' (h : Kd.C (Kd.int .u8) W' B N t) => Kd.C_string (P := Try.prog) (c := cb) Try.underlying42 Try.underlying5 Try.underlying9 h
  have e1 := q1 _ hA
  have e2 := q2 _ hB
  have k1 := heap_alloc_new W (.cells #[.int .i64 m, .int .i64 n, .slice A N ca] 44)
  have k2 := heap_alloc_new (W.alloc (.cells #[.int .i64 m, .int .i64 n, .slice A N ca] 44)) (.cells #[.int .i64 m, .int .i64 n, .slice B N cb] 44)
  have k1' := blk_below k1 (below_alloc (Below.refl _ _) (.cells #[.int .i64 m, .int .i64 n, .slice B N cb] 44))
  rw [World.size_alloc] at k2
  have HB1 := Lib.hid b1
  clear ha hb q1 q2 hA hB k1 b1
  unfold Ef
  obtain ⟨s, hs⟩ : ∃ s, strOfNums t = s := ⟨_, rfl⟩
  rw [hs] at e1 e2
  go_enter Try.func23, Try.ntmps23
  go_upto_region 1 with (fail)
  generalize ((W.alloc (.cells #[.int .i64 m, .int .i64 n, .slice A N ca] 44)).alloc (.cells #[.int .i64 m, .int .i64 n, .slice B N cb] 44)) = w2 at *
  have c0 : w2.cell? ⟨W.heap.size, 0, none⟩ = some (.int .i64 m) := (blk_cell k1' 0).trans rfl
  have c1 : w2.cell? ⟨W.heap.size, 1, none⟩ = some (.int .i64 n) := (blk_cell k1' 1).trans rfl
  have c2 : w2.cell? ⟨W.heap.size, 2, none⟩ = some (.slice A N ca) := (blk_cell k1' 2).trans rfl
  have d0 : w2.cell? ⟨W.heap.size + 1, 0, none⟩ = some (.int .i64 m) := (blk_cell k2 0).trans rfl
  have d1 : w2.cell? ⟨W.heap.size + 1, 1, none⟩ = some (.int .i64 n) := (blk_cell k2 1).trans rfl
  have d2 : w2.cell? ⟨W.heap.size + 1, 2, none⟩ = some (.slice B N cb) := (blk_cell k2 2).trans rfl
  clear k1' k2
  go_wp2_with fail
  go_ret
  exact ⟨rfl, HB1.out⟩
attribute [local go_sem high] eqRect
theorem aw0 (k : ByteArray) : loadV 8 8 1 (zeroS 8) k 2 1 [5, 6] = (0, putS (zeroS 8) k (0, 0, 4, 3) [5, 6]) := by
  have hf : fitS 8 8 (zeroS 8) 4 3 = some (0, 0) := by
    unfold fitS zeroS
    rw [if_pos (by simp)]
    exact fit_zeros 8 8 4 3 (by omega) (by omega) (by omega) (by omega)
  have hr := room_fit hf
  unfold loadV
  rw [if_neg (by simp [zeroS]), if_neg (by decide), if_neg (by decide)]
  rw [show (2 : Int) + 2 * ((1 : Nat) : Int) = 4 from rfl, show (1 : Int) + 2 * ((1 : Nat) : Int) = 3 from rfl, hr]
theorem aw1 (k : ByteArray) (r : Rc) (t u : List Int) (m n : Int) : loadV 8 8 1 (putS (zeroS 8) k r t) k m n u = (7, putS (zeroS 8) k r t) := by
  unfold loadV
  rw [if_pos (by simp [putS, zeroS])]
theorem aw2 (k l : ByteArray) (hkl : l ≠ k) (r : Rc) (t : List Int) : loadV 8 8 1 (putS (zeroS 8) k r t) l 7 1 [0, 0, 0, 0, 0, 0, 0] = (6, putS (zeroS 8) k r t) := by
  unfold loadV
  rw [if_neg (by simp [putS, zeroS]; exact hkl), if_neg (by decide), if_pos (by decide)]
set_option maxHeartbeats 4000000 in
set_option maxRecDepth 100000 in
theorem awake16 (W : World) : Calls Try.prog 9 #[] W fun e w' => e = .returned (.bool true) ∧ Below W.heap.size W w' := by
  have HOF := Lib.hid (ofA_c W 8 8 1)
  go_enter Try.func9, Try.ntmps9
  go_wp2_with fail
  refine HOF.out.mono ?_
  rintro e w1 ⟨b, c, rfl, (hA : AtAt w1 b 8 8 1 (zeroS 8) c), ho, hb⟩
  have HA1 : Hid (AtOn (fun q => q < W.heap.size) W w1 b 8 8 1 (zeroS 8)) := Lib.hid ⟨c, hA, fun q hq e => by have := ho q e; omega, fun q hq => hq, Kept.of_below _ hb⟩
  have HS1 : Hid (W.heap.size ≤ w1.heap.size) := Lib.hid hb.size
  have HB1 : Hid (Below W.heap.size W w1) := Lib.hid hb
  clear hA ho hb c HOF
  go_upto_region 5 with (fail)
  have bb := below_alloc (below_alloc (Below.refl w1.heap.size w1) (.cells #[.int .u8 5, .int .u8 6] 5)) (.cells #[.int .i64 2, .int .i64 1, .slice (some ⟨w1.heap.size, 0, none⟩) 2 2] 44)
  have g1 := blk_below (heap_alloc_new w1 (.cells #[.int .u8 5, .int .u8 6] 5)) (below_alloc (Below.refl _ _) (.cells #[.int .i64 2, .int .i64 1, .slice (some ⟨w1.heap.size, 0, none⟩) 2 2] 44))
  have g2 := heap_alloc_new (w1.alloc (.cells #[.int .u8 5, .int .u8 6] 5)) (.cells #[.int .i64 2, .int .i64 1, .slice (some ⟨w1.heap.size, 0, none⟩) 2 2] 44)
  rw [World.size_alloc] at g2
  have HB2 := Lib.hid (HB1.out.trans (bb.mono HS1.out))
  have hs2 : ((w1.alloc (.cells #[.int .u8 5, .int .u8 6] 5)).alloc (.cells #[.int .i64 2, .int .i64 1, .slice (some ⟨w1.heap.size, 0, none⟩) 2 2] 44)).heap.size = w1.heap.size + 2 := by rw [World.size_alloc, World.size_alloc]
  have HA2 := Lib.hid (HA1.out.add (Q := fun q => q < W.heap.size ∨ q = w1.heap.size ∨ q = w1.heap.size + 1) bb (fun q hq => by have := HS1.out; rw [hs2]; omega))
  have HS2 : Hid (W.heap.size ≤ ((w1.alloc (.cells #[.int .u8 5, .int .u8 6] 5)).alloc (.cells #[.int .i64 2, .int .i64 1, .slice (some ⟨w1.heap.size, 0, none⟩) 2 2] 44)).heap.size) := Lib.hid (by rw [hs2]; have := HS1.out; omega)
  have HG1 := Lib.hid g1
  have HG2 := Lib.hid g2
  clear bb g1 g2 hs2 HA1 HS1 HB1
  generalize (w1.alloc (.cells #[.int .u8 5, .int .u8 6] 5)).alloc (.cells #[.int .i64 2, .int .i64 1, .slice (some ⟨w1.heap.size, 0, none⟩) 2 2] 44) = w2 at *
  generalize hgt : w1.heap.size = gt at *
  clear hgt
  have HX1 : Hid (∀ w', AtOn (fun q => q < W.heap.size ∨ q = gt ∨ q = gt + 1) w2 w' b 8 8 1 (zeroS 8) → Calls Try.prog 15 #[.pointer (some ⟨b, 0, none⟩), .string ⟨#[107]⟩, .agg #[.int .i64 2, .int .i64 1, .slice (some ⟨gt, 0, none⟩) 2 2]] w' fun e w'' => e = .returned (.int .i64 0) ∧ AtOn (fun q => q < W.heap.size ∨ q = gt ∨ q = gt + 1) w2 w'' b 8 8 1 (putS (zeroS 8) ⟨#[107]⟩ (0, 0, 4, 3) [5, 6])) := Lib.hid (fun w' h => by
    have := load_on h ⟨#[107]⟩ (by decide) 2 1 (by omega) (by omega) (some ⟨gt, 0, none⟩) 2 2 [5, 6] rfl (by omega) (slO_lit (h.get (.inr (.inl rfl)) HG1.out) rfl (by omega)) (fun q hq => .inr (.inl (by simpa [Value.ownBlock] using hq.symm))) (by decide) (by simp [zeroS])
    rw [aw0] at this
    exact this)
  have HX2 : Hid (∀ w', AtOn (fun q => q < W.heap.size ∨ q = gt ∨ q = gt + 1) w2 w' b 8 8 1 (putS (zeroS 8) ⟨#[107]⟩ (0, 0, 4, 3) [5, 6]) → Calls Try.prog 15 #[.pointer (some ⟨b, 0, none⟩), .string ⟨#[107]⟩, .agg #[.int .i64 2, .int .i64 1, .slice (some ⟨gt, 0, none⟩) 2 2]] w' fun e w'' => e = .returned (.int .i64 7) ∧ AtOn (fun q => q < W.heap.size ∨ q = gt ∨ q = gt + 1) w2 w'' b 8 8 1 (putS (zeroS 8) ⟨#[107]⟩ (0, 0, 4, 3) [5, 6])) := Lib.hid (fun w' h => by
    have := load_on h ⟨#[107]⟩ (by decide) 2 1 (by omega) (by omega) (some ⟨gt, 0, none⟩) 2 2 [5, 6] rfl (by omega) (slO_lit (h.get (.inr (.inl rfl)) HG1.out) rfl (by omega)) (fun q hq => .inr (.inl (by simpa [Value.ownBlock] using hq.symm))) (by decide) (by simp [zeroS, putS])
    rw [aw1] at this
    exact this)
  have HX3 : Hid (∀ w' w'', AtOn (fun q => q < W.heap.size ∨ q = gt ∨ q = gt + 1) w2 w' b 8 8 1 (putS (zeroS 8) ⟨#[107]⟩ (0, 0, 4, 3) [5, 6]) → w'' = w'.alloc (.cells (Array.replicate 7 (.int .u8 0)) 5) → Calls Try.prog 15 #[.pointer (some ⟨b, 0, none⟩), .string ⟨#[108]⟩, .agg #[.int .i64 7, .int .i64 1, .slice (some ⟨w'.heap.size, 0, none⟩) 7 7]] w'' fun e w'' => e = .returned (.int .i64 6) ∧ AtOn (fun q => q < W.heap.size ∨ q = gt ∨ q = gt + 1) w2 w'' b 8 8 1 (putS (zeroS 8) ⟨#[107]⟩ (0, 0, 4, 3) [5, 6])) := Lib.hid (fun w' w'' h he => by
    subst he
    have := load_new h (below_alloc (Below.refl _ _) (.cells (Array.replicate 7 (.int .u8 0)) 5)) ⟨#[108]⟩ (by decide) 7 1 (by omega) (by omega) (some ⟨w'.heap.size, 0, none⟩) 7 7 [0, 0, 0, 0, 0, 0, 0] rfl (by omega) (slO_lit (heap_alloc_new w' _) rfl (by omega)) (fun q hq => Nat.le_of_eq (by simpa [Value.ownBlock] using hq)) (by decide) (by simp [zeroS, putS])
    rw [aw2 _ _ (by decide)] at this
    exact this)
  have HX4 : Hid (∀ w', AtOn (fun q => q < W.heap.size ∨ q = gt ∨ q = gt + 1) w2 w' b 8 8 1 (putS (zeroS 8) ⟨#[107]⟩ (0, 0, 4, 3) [5, 6]) → Calls Try.prog 13 #[.pointer (some ⟨b, 0, none⟩), .string ⟨#[107]⟩] w' fun e w'' => e = .returned (.tuple #[.agg #[.int .i64 1, .int .i64 1, .int .i64 2, .int .i64 1], .bool true]) ∧ AtOn (fun q => q < W.heap.size ∨ q = gt ∨ q = gt + 1) w2 w'' b 8 8 1 (putS (zeroS 8) ⟨#[107]⟩ (0, 0, 4, 3) [5, 6])) := Lib.hid (fun w' h => (rect_on h ⟨#[107]⟩ (by decide)).mono (by
    rintro e w'' ⟨rfl, _, h2⟩
    exact ⟨rfl, h2⟩))
  have HX5 : Hid (∀ w', AtOn (fun q => q < W.heap.size ∨ q = gt ∨ q = gt + 1) w2 w' b 8 8 1 (putS (zeroS 8) ⟨#[107]⟩ (0, 0, 4, 3) [5, 6]) → Calls Try.prog 14 #[.pointer (some ⟨b, 0, none⟩), .string ⟨#[107]⟩] w' fun e w'' => ∃ A cap, e = .returned (.tuple #[.agg #[.int .i64 2, .int .i64 1, .slice A 2 cap], .bool true]) ∧ SlO w'' 5 1 (.slice A 2 cap) 2 ([5, 6].map (Value.int .u8)) ∧ Below w'.heap.size w' w'' ∧ AtOn (fun q => q < W.heap.size ∨ q = gt ∨ q = gt + 1) w2 w'' b 8 8 1 (putS (zeroS 8) ⟨#[107]⟩ (0, 0, 4, 3) [5, 6])) := Lib.hid (fun w' h => (field_on h ⟨#[107]⟩ (by decide) (by simp [putS])).mono (by
    rintro e w'' ⟨m, n, A, cap, h1, h2, h3, h4, h5, rfl, h6, hb, _, h7⟩
    have e1 : (4 : Int) = (m : Int) + 2 * ((1 : Nat) : Int) := h1
    have e2 : (3 : Int) = (n : Int) + 2 * ((1 : Nat) : Int) := h2
    obtain rfl : m = 2 := by omega
    obtain rfl : n = 1 := by omega
    exact ⟨A, cap, rfl, h6, hb, h7⟩))
  have HX6 : Hid (∀ w', AtOn (fun q => q < W.heap.size ∨ q = gt ∨ q = gt + 1) w2 w' b 8 8 1 (putS (zeroS 8) ⟨#[107]⟩ (0, 0, 4, 3) [5, 6]) → Calls Try.prog 19 #[.pointer (some ⟨b, 0, none⟩), .string ⟨#[107]⟩] w' fun e w'' => e = .returned (.bool true) ∧ AtOn (fun q => q < W.heap.size ∨ q = gt ∨ q = gt + 1) w2 w'' b 8 8 1 (evictV 8 8 (putS (zeroS 8) ⟨#[107]⟩ (0, 0, 4, 3) [5, 6]) ⟨#[107]⟩)) := Lib.hid (fun w' h => (evict_on h ⟨#[107]⟩ (by decide)).mono (by
    rintro e w'' ⟨rfl, h2⟩
    exact ⟨by rw [decide_eq_true (by simp [putS])], h2⟩))
  have HX7 : Hid (∀ w', AtOn (fun q => q < W.heap.size ∨ q = gt ∨ q = gt + 1) w2 w' b 8 8 1 (evictV 8 8 (putS (zeroS 8) ⟨#[107]⟩ (0, 0, 4, 3) [5, 6]) ⟨#[107]⟩) → Calls Try.prog 12 #[.pointer (some ⟨b, 0, none⟩)] w' fun e w'' => ∃ A cap, e = .returned (.slice A 0 cap) ∧ AtOn (fun q => q < W.heap.size ∨ q = gt ∨ q = gt + 1) w2 w'' b 8 8 1 (evictV 8 8 (putS (zeroS 8) ⟨#[107]⟩ (0, 0, 4, 3) [5, 6]) ⟨#[107]⟩)) := Lib.hid (fun w' h => (keys_on h).mono (by
    rintro e w'' ⟨vo, rfl, h2, _, _, h3⟩
    have h2' : SlO w'' 9 1 vo 0 [] := h2
    obtain ⟨A, cap, rfl, _⟩ := h2'.isSlice
    exact ⟨A, cap, rfl, h3⟩))
  obtain ⟨s1, hs1⟩ : ∃ s1, putS (zeroS 8) ⟨#[107]⟩ (0, 0, 4, 3) [5, 6] = s1 := ⟨_, rfl⟩
  obtain ⟨s2, hs2⟩ : ∃ s2, evictV 8 8 s1 ⟨#[107]⟩ = s2 := ⟨_, rfl⟩
  rw [hs1] at HX1 HX2 HX3 HX4 HX5 HX6 HX7
  rw [hs2] at HX6 HX7
  clear hs2
  obtain ⟨P, hP⟩ : ∃ P : Nat → Prop, (fun q => q < W.heap.size ∨ q = gt ∨ q = gt + 1) = P := ⟨_, rfl⟩
  have HP0 : Hid (∀ q, q < W.heap.size → P q) := Lib.hid (fun q hq => by rw [← hP]; exact .inl hq)
  have HP1 : Hid (P gt) := Lib.hid (by rw [← hP]; exact .inr (.inl rfl))
  have HP2 : Hid (P (gt + 1)) := Lib.hid (by rw [← hP]; exact .inr (.inr rfl))
  rw [hP] at HX1 HX2 HX3 HX4 HX5 HX6 HX7 HA2
  clear hP
  have cell2 : Hid (∀ w' s, AtOn P w2 w' b 8 8 1 s → w'.cell? ⟨gt + 1, 0, none⟩ = some (.int .i64 2) ∧ w'.cell? ⟨gt + 1, 1, none⟩ = some (.int .i64 1) ∧ w'.cell? ⟨gt + 1, 2, none⟩ = some (.slice (some ⟨gt, 0, none⟩) 2 2)) := Lib.hid (fun w' s h => by
    have := h.get HP2.out HG2.out
    exact ⟨(blk_cell this 0).trans rfl, (blk_cell this 1).trans rfl, (blk_cell this 2).trans rfl⟩)
  obtain ⟨d0, d1, d2⟩ := cell2.out _ _ HA2.out
  have HS1 := Lib.hid hs1; clear hs1
  go_region_held3 (fun w' => w'.cell? ⟨gt + 1, 0, none⟩ = some (.int .i64 2) ∧ w'.cell? ⟨gt + 1, 1, none⟩ = some (.int .i64 1) ∧ w'.cell? ⟨gt + 1, 2, none⟩ = some (.slice (some ⟨gt, 0, none⟩) 2 2)) (first | assumption | exact ⟨d0, d1, d2⟩)
    ((go_at_call 15; first
      | (refine (HX1.out _ (by first | exact HA2.out | exact HA2.out.drew)).mono ?_; rintro e w3 ⟨rfl, h3⟩; have HA3 := Lib.hid h3; obtain ⟨d0, d1, d2⟩ := cell2.out _ _ HA3.out; clear h3)
      | (refine (HX2.out _ HA3.out).mono ?_; rintro e w4 ⟨rfl, h4⟩; have HA4 := Lib.hid h4; obtain ⟨d0, d1, d2⟩ := cell2.out _ _ HA4.out; clear h4)))
  have hmk : ∀ W', (Instr.makeSlice 42 (.int .i64 7) (.int .i64 7)).run Try.prog W' = .ok (.slice (some ⟨W'.heap.size, 0, none⟩) 7 7) (W'.alloc (.cells (Array.replicate 7 (.int .u8 0)) 5)) := fun W' => make8 7 (by omega) W'
  clear HX1 HX2 HA2 HA3
  try clear d0 d1 d2
  go_wp2_with fail
  refine (HX3.out w4 _ HA4.out rfl).mono ?_
  rintro e w5 ⟨rfl, h5⟩
  have HA5 := Lib.hid h5
  clear h5 hmk HX3 HA4
  go_wp2_with fail
  refine (HX4.out _ HA5.out).mono ?_
  rintro e w6 ⟨rfl, h6⟩
  have HA6 := Lib.hid h6
  clear h6 HX4 HA5
  go_upto_region 8 with (fail)
  have HA7 := Lib.hid (HA6.out.alloc (.cells #[.int .i64 1, .int .i64 1, .int .i64 2, .int .i64 1] 39))
  have HG7 := Lib.hid (heap_alloc_new w6 (.cells #[.int .i64 1, .int .i64 1, .int .i64 2, .int .i64 1] 39))
  clear HA6
  generalize w6.alloc (.cells #[.int .i64 1, .int .i64 1, .int .i64 2, .int .i64 1] 39) = w7 at *
  generalize w6.heap.size = b7 at *
  go_wp2_with fail
  refine (HX5.out _ HA7.out).mono ?_
  rintro e w8 ⟨A8, cap8, rfl, h8, hb8, hA8⟩
  have HA8 := Lib.hid (hA8.alloc (.cells #[.int .i64 2, .int .i64 1, .slice A8 2 cap8] 44))
  have HG8 := Lib.hid (blk_below HG7.out (below_step hb8 (below_alloc (Below.refl _ w8) (.cells #[.int .i64 2, .int .i64 1, .slice A8 2 cap8] 44))))
  have HF8 := Lib.hid (heap_alloc_new w8 (.cells #[.int .i64 2, .int .i64 1, .slice A8 2 cap8] 44))
  have HT8 := Lib.hid (h8.kept (Kept.alloc (fun _ => False) w8 (.cells #[.int .i64 2, .int .i64 1, .slice A8 2 cap8] 44)) (fun _ _ h => h))
  clear h8 hb8 hA8 HX5 HA7 HG7
  go_upto_region 9 with (fail)
  generalize w8.alloc (.cells #[.int .i64 2, .int .i64 1, .slice A8 2 cap8] 44) = w9 at *
  generalize w8.heap.size = b9 at *
  have r0 : w9.cell? ⟨b7, 0, none⟩ = some (.int .i64 1) := (blk_cell HG8.out 0).trans rfl
  have r1 : w9.cell? ⟨b7, 1, none⟩ = some (.int .i64 1) := (blk_cell HG8.out 1).trans rfl
  have r2 : w9.cell? ⟨b7, 2, none⟩ = some (.int .i64 2) := (blk_cell HG8.out 2).trans rfl
  have r3 : w9.cell? ⟨b7, 3, none⟩ = some (.int .i64 1) := (blk_cell HG8.out 3).trans rfl
  have f0 : w9.cell? ⟨b9, 0, none⟩ = some (.int .i64 2) := (blk_cell HF8.out 0).trans rfl
  have f1 : w9.cell? ⟨b9, 1, none⟩ = some (.int .i64 1) := (blk_cell HF8.out 1).trans rfl
  have f2 : w9.cell? ⟨b9, 2, none⟩ = some (.slice A8 2 cap8) := (blk_cell HF8.out 2).trans rfl
  obtain ⟨e0, e1, e2⟩ := cell2.out _ _ HA8.out
  have HT2 := Lib.hid (slO_lit (HA8.out.get HP1.out HG1.out) (t := [5, 6]) (n := 2) rfl (by omega))
  go_wp2_with fail
  refine (same_yes w9 2 1 (some ⟨gt, 0, none⟩) A8 2 2 cap8 [5, 6] (by omega) HT2.out HT8.out).mono ?_
  rintro e w10 ⟨rfl, hb10⟩
  have HA10 := Lib.hid (HA8.out.below hb10)
  clear hb10 HT2 HT8 HF8 HG8 HA8
  go_wp2_with fail
  refine (HX6.out _ HA10.out).mono ?_
  rintro e w11 ⟨rfl, h11⟩
  have HA11 := Lib.hid h11
  clear h11 HA10 HX6
  go_wp2_with fail
  refine (HX7.out _ HA11.out).mono ?_
  rintro e w12 ⟨A12, cap12, rfl, h12⟩
  have HA12 := Lib.hid h12
  clear h12 HA11 HX7
  go_wp2_with fail
  go_ret
  exact ⟨rfl, HB2.out.trans (HA12.out.out HP0.out HS2.out)⟩
end Go.Proofs.Ytaccppchhljnkaa
