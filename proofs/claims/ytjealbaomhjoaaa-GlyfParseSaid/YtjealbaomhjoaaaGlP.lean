/- What layer 4's functions compute, in plain Lean: bytes read of an outline's, whole and cut. -/
import Derived.Test.YtjealbaomhjoaaaGlE
import Derived.Test.YtjealbaomhjoaaaParseC
set_option linter.unusedVariables false
set_option linter.unusedSimpArgs false
namespace Go.Proofs.Ytjealbaomhjoaaa
open Go.RowKit Go.Proofs.Ytjealbaomhjoaaa.G Go.Proofs.YtjealbaomhjoaaaW.PrintWords Go.Proofs.YtjealbaomhjoaaaW.PrintMore

/-- Reading from whole bytes, and from what is cut of them: as long as nothing is missing it goes alike. -/
def Cut (t : List Int) (r q : Rs) : Prop := r.bad = false ∧ q.bad = false ∧ r.bs = q.bs ++ t
theorem Cut.nx {t : List Int} {r q : Rs} (h : Cut t r q) (hb : q.nx.bad = false) : r.hd = q.hd ∧ Cut t r.nx q.nx := by
  obtain ⟨h1, h2, h3⟩ := h
  cases hq : q.bs with
  | nil => simp [Rs.nx, hq] at hb
  | cons x l =>
    rw [hq] at h3
    refine ⟨by simp [Rs.hd, hq, h3], by simp [Rs.nx, h1, h3], by simp [Rs.nx, h2, hq], by simp [Rs.nx, hq, h3]⟩
theorem nx_bad {q : Rs} (h : q.bad = true) : q.nx.bad = true := by simp [Rs.nx, h]
theorem past_bad {q : Rs} (b : Bool) (h : q.bad = true) : (q.past b).bad = true := by cases b <;> simp [Rs.past, Rs.nx, h]
theorem nx_ok {q : Rs} (h : q.nx.bad = false) : q.bad = false := by
  cases hb : q.bad with
  | false => rfl
  | true => rw [nx_bad hb] at h; cases h
theorem past_ok {q : Rs} {b : Bool} (h : (q.past b).bad = false) : q.bad = false := by
  cases hb : q.bad with
  | false => rfl
  | true => rw [past_bad b hb] at h; cases h
theorem Cut.past {t : List Int} {r q : Rs} (h : Cut t r q) (b : Bool) (hb : (q.past b).bad = false) : r.step b = q.step b ∧ Cut t (r.past b) (q.past b) := by
  cases b with
  | false =>
    obtain ⟨h1, h2⟩ := h.nx hb
    exact ⟨by simp [Rs.step, h1], h2⟩
  | true =>
    obtain ⟨h1, h2⟩ := h.nx (nx_ok hb)
    obtain ⟨h3, h4⟩ := h2.nx hb
    exact ⟨by simp [Rs.step, h1, h3], h4⟩
theorem szL_bad : ∀ (d : Nat) (s : List Int) (n : Int) (q : Rs), q.bad = true → (szL d s n q).2.2.bad = true
  | 0, s, n, q, h => h
  | d + 1, s, n, q, h => szL_bad d _ _ _ (nx_bad h)
theorem szL_ok {d : Nat} {s : List Int} {n : Int} {q : Rs} (h : (szL d s n q).2.2.bad = false) : q.bad = false := by
  cases hb : q.bad with
  | false => rfl
  | true => rw [szL_bad d s n q hb] at h; cases h
theorem Cut.sz {t : List Int} : ∀ (d : Nat) (s : List Int) (n : Int) (r q : Rs), Cut t r q → (szL d s n q).2.2.bad = false → (szL d s n r).1 = (szL d s n q).1 ∧ (szL d s n r).2.1 = (szL d s n q).2.1 ∧ Cut t (szL d s n r).2.2 (szL d s n q).2.2
  | 0, s, n, r, q, h, hb => ⟨rfl, rfl, h⟩
  | d + 1, s, n, r, q, h, hb => by
    rw [szL] at hb
    obtain ⟨h1, h2⟩ := h.nx (szL_ok hb)
    rw [szL, szL, h1]
    exact Cut.sz d _ _ _ _ h2 hb
theorem Cut.fl {t : List Int} (N : Nat) : ∀ (d : Nat) (fs : List Int) (r q : Rs), Cut t r q → flL N d fs q = .inl 1 ∨
    (∃ e, flL N d fs q = .inl e ∧ flL N d fs r = .inl e) ∨ ∃ fs' r' q', flL N d fs q = .inr (fs', q') ∧ flL N d fs r = .inr (fs', r') ∧ Cut t r' q'
  | 0, fs, r, q, h => .inr (.inr ⟨fs, r, q, rfl, rfl, h⟩)
  | d + 1, fs, r, q, h => by
    rw [flL, flL]
    by_cases h1 : fs.length < N
    · rw [if_pos h1, if_pos h1]
      by_cases hb : (flR q).bad = true
      · rw [if_pos hb]; exact .inl rfl
      · have hb' : (flR q).bad = false := by simpa using hb
        have h2 : r.hd = q.hd ∧ flT r = flT q ∧ Cut t (flR r) (flR q) := by
          unfold flR at hb' ⊢
          unfold flT
          by_cases h8 : bitSet q.hd 8 = true
          · rw [if_pos h8] at hb'
            obtain ⟨e1, c1⟩ := h.nx (nx_ok hb')
            obtain ⟨e2, c2⟩ := c1.nx hb'
            rw [e1, if_pos h8, if_pos h8, if_pos h8, if_pos h8, e2]
            exact ⟨rfl, rfl, c2⟩
          · rw [if_neg h8] at hb'
            obtain ⟨e1, c1⟩ := h.nx hb'
            rw [e1, if_neg h8, if_neg h8, if_neg h8, if_neg h8]
            exact ⟨rfl, rfl, c1⟩
        obtain ⟨e1, e2, c⟩ := h2
        rw [if_neg hb, if_neg (show ¬ (flR r).bad = true by simp [c.1]), e1, e2]
        split
        · exact .inr (.inl ⟨2, rfl, rfl⟩)
        · exact Cut.fl N d _ _ _ c
    · rw [if_neg h1, if_neg h1]
      exact .inr (.inr ⟨fs, r, q, rfl, rfl, h⟩)
theorem ptL_bad : ∀ (fs : List Int) (x y : Int) (q : Rs) (c : List S34), q.bad = true → (ptL fs x y q c).2.2.2.bad = true
  | [], _, _, q, c, h => h
  | f :: fs, x, y, q, c, h => by rw [ptL]; exact ptL_bad fs _ _ _ _ (past_bad _ (past_bad _ h))
theorem ptL_ok {fs : List Int} {x y : Int} {q : Rs} {c : List S34} (h : (ptL fs x y q c).2.2.2.bad = false) : q.bad = false := by
  cases hb : q.bad with
  | false => rfl
  | true => rw [ptL_bad fs x y q c hb] at h; cases h
theorem Cut.pt {t : List Int} : ∀ (fs : List Int) (x y : Int) (r q : Rs) (c : List S34), Cut t r q → (ptL fs x y q c).2.2.2.bad = false →
    (ptL fs x y r c).1 = (ptL fs x y q c).1 ∧ (ptL fs x y r c).2.1 = (ptL fs x y q c).2.1 ∧ (ptL fs x y r c).2.2.1 = (ptL fs x y q c).2.2.1 ∧ Cut t (ptL fs x y r c).2.2.2 (ptL fs x y q c).2.2.2
  | [], x, y, r, q, c, h, hb => ⟨rfl, rfl, rfl, h⟩
  | f :: fs, x, y, r, q, c, h, hb => by
    rw [ptL] at hb
    have hb2 := ptL_ok hb
    obtain ⟨e1, c1⟩ := h.past (bitSet f 2) (past_ok hb2)
    obtain ⟨e2, c2⟩ := c1.past (bitSet f 4) hb2
    rw [ptL, ptL, e1, e2]
    exact Cut.pt fs _ _ _ _ _ c2 hb
theorem ctL_bad : ∀ (ss fs : List Int) (x y : Int) (q : Rs) (cs : List (List S34)), q.bad = true → (ctL ss fs x y q cs).2.bad = true
  | [], _, _, _, q, cs, h => h
  | s :: ss, fs, x, y, q, cs, h => by rw [ctL]; exact ctL_bad ss _ _ _ _ _ (ptL_bad _ _ _ _ _ h)
theorem ctL_ok {ss fs : List Int} {x y : Int} {q : Rs} {cs : List (List S34)} (h : (ctL ss fs x y q cs).2.bad = false) : q.bad = false := by
  cases hb : q.bad with
  | false => rfl
  | true => rw [ctL_bad ss fs x y q cs hb] at h; cases h
theorem Cut.ct {t : List Int} : ∀ (ss fs : List Int) (x y : Int) (r q : Rs) (cs : List (List S34)), Cut t r q → (ctL ss fs x y q cs).2.bad = false →
    (ctL ss fs x y r cs).1 = (ctL ss fs x y q cs).1 ∧ Cut t (ctL ss fs x y r cs).2 (ctL ss fs x y q cs).2
  | [], fs, x, y, r, q, cs, h, hb => ⟨rfl, h⟩
  | s :: ss, fs, x, y, r, q, cs, h, hb => by
    rw [ctL] at hb
    obtain ⟨e1, e2, e3, c⟩ := Cut.pt (fs.take s.toNat) x y r q [] h (ctL_ok hb)
    rw [ctL, ctL, e1, e2, e3]
    exact Cut.ct ss _ _ _ _ _ _ c hb
/-- What is cut of bytes that were read whole is too short. -/
theorem cut_short (l : List Int) (m : Nat) (hm : m < l.length) (o : List (List S34)) (h : prF l = (o, 0)) : prF (l.take m) = ([], 1) := by
  have h0 : Cut (l.drop m) ⟨l, false⟩ ⟨l.take m, false⟩ := ⟨rfl, rfl, (List.take_append_drop m l).symm⟩
  unfold prF at h ⊢
  have key : ∀ (d : Nat) (q : Rs), prS (szL d [] 0 q).1 (szL d [] 0 q).2.1 (szL d [] 0 q).2.2 = ([], 1) ∨ (szL d [] 0 q).2.2.bad = false := by
    intro d q
    cases hb : (szL d [] 0 q).2.2.bad with
    | true => left; unfold prS; rw [if_pos hb]
    | false => exact .inr rfl
  rcases key ((⟨l.take m, false⟩ : Rs).hd.toNat) (⟨l.take m, false⟩ : Rs).nx with hk | hb
  · exact hk
  · obtain ⟨e1, c1⟩ := h0.nx (szL_ok hb)
    obtain ⟨e2, e3, c2⟩ := Cut.sz _ [] 0 _ _ c1 hb
    rw [e1, e2, e3] at h
    generalize hS : (szL ((⟨l.take m, false⟩ : Rs).hd.toNat) [] 0 (⟨l.take m, false⟩ : Rs).nx) = S at *
    generalize hT : (szL ((⟨l.take m, false⟩ : Rs).hd.toNat) [] 0 (⟨l, false⟩ : Rs).nx) = T at *
    unfold prS at h ⊢
    rw [if_neg (by simp [c2.1])] at h
    rw [if_neg (by simp [hb])]
    split at h
    · cases h
    · rename_i h64
      rw [if_neg h64]
      split at h
      · cases h
      · rename_i h8
        rw [if_neg h8]
        rcases Cut.fl S.2.1.toNat (S.2.1.toNat + 1) [] T.2.2 S.2.2 c2 with hf | ⟨e, hf, hf2⟩ | ⟨fs, r', q', hf, hf2, c3⟩
        · rw [hf]
        · rw [hf2] at h; rw [hf]
          simp only [Prod.mk.injEq] at h
          obtain ⟨_, he⟩ := h
          -- a code that is no nought
          exfalso
          have : ∀ (N d : Nat) (fs : List Int) (r : Rs) (e : Int), flL N d fs r = .inl e → e = 1 ∨ e = 2 := by
            intro N d
            induction d with
            | zero => intro fs r e h; cases h
            | succ d ih =>
              intro fs r e h
              rw [flL] at h
              split at h
              · split at h
                · injection h with h; exact .inl h.symm
                · split at h
                  · injection h with h; exact .inr h.symm
                  · exact ih _ _ _ h
              · cases h
          rcases this _ _ _ _ _ hf2 with h | h <;> omega
        · rw [hf2] at h; rw [hf]
          simp only at h ⊢
          unfold prT at h ⊢
          cases hb2 : (ctL S.1 fs 0 0 q' []).2.bad with
          | true => rfl
          | false =>
            exfalso
            obtain ⟨e4, c4⟩ := Cut.ct S.1 fs 0 0 r' q' [] c3 hb2
            rw [if_neg (by simp [c4.1])] at h
            split at h
            · cases h
            · rename_i hl
              have h5 := c4.2.2
              have h6 : (l.drop m).length ≤ 0 := by
                have := congrArg List.length h5
                rw [List.length_append] at this
                omega
              rw [List.length_drop] at h6
              omega

/-- Bytes that are flags and steps. -/
theorem bit_add8 : ∀ a : Nat, a < 8 → bitSet ((a : Int) + 8) 8 = true ∧ bitSet (a : Int) 8 = false := by decide +kernel
theorem flg_bits (v : S34) (dx dy : Int) : bitSet (flg v dx dy) 1 = v.f2 ∧ bitSet (flg v dx dy) 2 = !(sh dx) ∧ bitSet (flg v dx dy) 4 = !(sh dy) := by
  unfold flg
  cases v.f2 <;> cases sh dx <;> cases sh dy <;> decide
theorem stp_read (n : Int) (h0 : -510 ≤ n) (h1 : n ≤ 510) (t : List Int) (bad : Bool) :
    (⟨stp n ++ t, bad⟩ : Rs).step (!(sh n)) = n ∧ (⟨stp n ++ t, bad⟩ : Rs).past (!(sh n)) = ⟨t, bad⟩ := by
  unfold stp
  cases hs : sh n with
  | true =>
    have : -128 ≤ n ∧ n < 128 := by simpa [sh] using hs
    simp only [if_true, Bool.not_true, Rs.step, Rs.past, Rs.hd, Rs.nx]
    refine ⟨?_, by simp⟩
    simp [p8]; split <;> omega
  | false =>
    simp only [Bool.not_false, Rs.step, Rs.past, Rs.hd, Rs.nx]
    refine ⟨?_, by simp⟩
    simp [p8]; split <;> omega
theorem pt_read : ∀ (c : List S34) (x y : Int) (t : List Int) (out : List S34), (∀ v ∈ c, okV v = true) → -255 ≤ x ∧ x ≤ 255 ∧ -255 ≤ y ∧ y ≤ 255 →
    ptL (fsL x y c) x y ⟨stL x y c ++ t, false⟩ out = (out ++ c, (exy x y c).1, (exy x y c).2, ⟨t, false⟩)
  | [], x, y, t, out, _, _ => by simp [fsL, stL, ptL, exy]
  | v :: vs, x, y, t, out, hv, hxy => by
    obtain ⟨v0, v1, v2, v3⟩ := okV_in (hv v (by simp))
    obtain ⟨b1, b2, b4⟩ := flg_bits v (v.f0 - x) (v.f1 - y)
    rw [fsL, stL, ptL, exy, b1, b2, b4, List.append_assoc, List.append_assoc]
    obtain ⟨s1, s2⟩ := stp_read (v.f0 - x) (by omega) (by omega) (stp (v.f1 - y) ++ (stL v.f0 v.f1 vs ++ t)) false
    rw [s1, s2]
    obtain ⟨s3, s4⟩ := stp_read (v.f1 - y) (by omega) (by omega) (stL v.f0 v.f1 vs ++ t) false
    rw [s3, s4, show x + (v.f0 - x) = v.f0 by omega, show y + (v.f1 - y) = v.f1 by omega]
    rw [pt_read vs v.f0 v.f1 t _ (fun u hu => hv u (List.mem_cons_of_mem _ hu)) ⟨v0, v1, v2, v3⟩]
    simp
theorem ct_read : ∀ (cs : List (List S34)) (x y : Int) (t : List Int) (out : List (List S34)), (∀ c ∈ cs, ∀ v ∈ c, okV v = true) → -255 ≤ x ∧ x ≤ 255 ∧ -255 ≤ y ∧ y ≤ 255 →
    ctL (cs.map (fun c => (c.length : Int))) (fsL x y cs.flatten) x y ⟨stL x y cs.flatten ++ t, false⟩ out = (out ++ cs, ⟨t, false⟩)
  | [], x, y, t, out, _, _ => by simp [ctL, stL]
  | c :: cs, x, y, t, out, hv, hxy => by
    rw [List.map_cons, ctL, List.flatten_cons, fsL_app, stL_app, Int.toNat_natCast]
    have e1 : (fsL x y c ++ fsL (exy x y c).1 (exy x y c).2 cs.flatten).take c.length = fsL x y c := by
      rw [← fsL_len x y c]; exact List.take_left
    have e2 : (fsL x y c ++ fsL (exy x y c).1 (exy x y c).2 cs.flatten).drop c.length = fsL (exy x y c).1 (exy x y c).2 cs.flatten := by
      rw [← fsL_len x y c]; exact List.drop_left
    rw [e1, e2, List.append_assoc, pt_read c x y _ _ (hv c (by simp)) hxy]
    simp only [List.nil_append]
    rw [ct_read cs _ _ t _ (fun c' hc => hv c' (List.mem_cons_of_mem _ hc)) (exy_in c x y (hv c (by simp)) hxy)]
    simp
theorem sz_read : ∀ (l : List Int) (s : List Int) (n : Int) (t : List Int), szL l.length s n ⟨l ++ t, false⟩ = (s ++ l, n + l.sum, ⟨t, false⟩)
  | [], s, n, t => by simp [szL]
  | x :: l, s, n, t => by
    rw [List.length_cons, szL]
    simp only [List.cons_append, Rs.hd, Rs.nx, List.headD_cons, List.tail_cons, Bool.false_or, List.isEmpty_cons]
    rw [sz_read l (s ++ [x]) (n + x) t]
    simp; omega
theorem runL_take (f : Int) : ∀ fs : List Int, fs.take (runL f fs) = List.replicate (runL f fs) f
  | [] => by simp [runL]
  | a :: fs => by
    by_cases e : a == f
    · have e1 : runL f (a :: fs) = runL f fs + 1 := by unfold runL; rw [List.takeWhile_cons]; simp [e]
      rw [e1, List.take_succ_cons, runL_take f fs, List.replicate_succ]
      have : a = f := by simpa using e
      rw [this]
    · have e1 : runL f (a :: fs) = 0 := by unfold runL; rw [List.takeWhile_cons]; simp [e]
      rw [e1]; rfl
/-- What of a flag counts behind the flags. -/
def low (f : Int) : Bool × Bool × Bool := (bitSet f 1, bitSet f 2, bitSet f 4)
theorem low_add8 : ∀ a : Nat, a < 8 → low ((a : Int) + 8) = low (a : Int) := by decide +kernel
theorem ptL_low : ∀ (fs gs : List Int) (x y : Int) (r : Rs) (c : List S34), fs.map low = gs.map low → ptL fs x y r c = ptL gs x y r c
  | [], [], _, _, _, _, _ => rfl
  | [], _ :: _, _, _, _, _, h => by simp at h
  | _ :: _, [], _, _, _, _, h => by simp at h
  | f :: fs, g :: gs, x, y, r, c, h => by
    simp only [List.map_cons, List.cons.injEq] at h
    obtain ⟨h1, h2⟩ := h
    simp only [low, Prod.mk.injEq] at h1
    rw [ptL, ptL, h1.1, h1.2.1, h1.2.2]
    exact ptL_low fs gs _ _ _ _ h2
theorem ctL_low : ∀ (ss fs gs : List Int) (x y : Int) (r : Rs) (cs : List (List S34)), fs.map low = gs.map low → ctL ss fs x y r cs = ctL ss gs x y r cs
  | [], _, _, _, _, _, _, _ => rfl
  | s :: ss, fs, gs, x, y, r, cs, h => by
    rw [ctL, ctL, ptL_low (fs.take s.toNat) (gs.take s.toNat) x y r [] (by rw [List.map_take, List.map_take, h])]
    exact ctL_low ss _ _ _ _ _ _ (by rw [List.map_drop, List.map_drop, h])
theorem fl_read (N : Nat) : ∀ (d : Nat) (F out : List Int) (t : List Int) (e : Nat), F.length ≤ d → out.length + F.length = N → F.length < e → F.length ≤ 64 → (∀ f ∈ F, 0 ≤ f ∧ f ≤ 7) →
    ∃ F', F'.map low = F.map low ∧ flL N e out ⟨rle d F ++ t, false⟩ = .inr (out ++ F', ⟨t, false⟩) := by
  intro d
  induction d with
  | zero =>
    intro F out t e hd hN he h64 hf
    have : F = [] := List.eq_nil_of_length_eq_zero (by omega)
    subst this
    obtain ⟨e, rfl⟩ : ∃ q, e = q + 1 := ⟨e - 1, by simp at he; omega⟩
    refine ⟨[], rfl, ?_⟩
    rw [flL, if_neg (by simp at hN; omega)]
    simp [rle]
  | succ d ih =>
    intro F out t e hd hN he h64 hf
    obtain ⟨e, rfl⟩ : ∃ q, e = q + 1 := ⟨e - 1, by omega⟩
    match F, hd, hN, he, h64, hf with
    | [], hd, hN, he, h64, hf =>
      refine ⟨[], rfl, ?_⟩
      rw [flL, if_neg (by simp at hN; omega)]
      simp [rle]
    | f :: fs, hd, hN, he, h64, hf =>
      obtain ⟨f0, f1⟩ := hf f (by simp)
      obtain ⟨a, rfl⟩ := Int.eq_ofNat_of_zero_le f0
      obtain ⟨b1, b2⟩ := bit_add8 a (by omega)
      have hrl := runL_le (a : Int) fs
      have hrt := runL_take (a : Int) fs
      have hmem : ∀ x ∈ fs, 0 ≤ x ∧ x ≤ 7 := fun x hx => hf x (List.mem_cons_of_mem _ hx)
      simp only [List.length_cons] at hd hN he h64
      rw [flL, if_pos (by omega), rle]
      by_cases h2 : 2 < runL (a : Int) fs + 1
      · rw [if_pos h2]
        have hR : flR ⟨((a : Int) + 8) :: (runL (a : Int) fs : Int) :: rle d (fs.drop (runL (a : Int) fs)) ++ t, false⟩ = ⟨rle d (fs.drop (runL (a : Int) fs)) ++ t, false⟩ := by
          unfold flR
          simp [Rs.hd, Rs.nx, b1]
        have hT : flT ⟨((a : Int) + 8) :: (runL (a : Int) fs : Int) :: rle d (fs.drop (runL (a : Int) fs)) ++ t, false⟩ = runL (a : Int) fs + 1 := by
          unfold flT
          simp [Rs.hd, Rs.nx, b1]; omega
        have hH : (⟨((a : Int) + 8) :: (runL (a : Int) fs : Int) :: rle d (fs.drop (runL (a : Int) fs)) ++ t, false⟩ : Rs).hd = (a : Int) + 8 := rfl
        rw [hR, hT, hH, if_neg (by simp), if_neg (by omega)]
        obtain ⟨F', hF1, hF2⟩ := ih (fs.drop (runL (a : Int) fs)) (out ++ List.replicate (runL (a : Int) fs + 1) ((a : Int) + 8)) t e (by rw [List.length_drop]; omega) (by rw [List.length_append, List.length_replicate, List.length_drop]; omega) (by rw [List.length_drop]; omega) (by rw [List.length_drop]; omega)
          (fun x hx => hmem x (List.mem_of_mem_drop hx))
        refine ⟨List.replicate (runL (a : Int) fs + 1) ((a : Int) + 8) ++ F', ?_, by rw [hF2, List.append_assoc]⟩
        have e1 : fs = List.replicate (runL (a : Int) fs) (a : Int) ++ fs.drop (runL (a : Int) fs) := by rw [← hrt, List.take_append_drop]
        rw [List.map_append, hF1, List.map_replicate, low_add8 a (by omega), List.replicate_succ, List.map_cons]
        conv => rhs; rw [e1]
        rw [List.map_append, List.map_replicate]; rfl
      · rw [if_neg h2]
        have hR : flR ⟨(a : Int) :: rle d fs ++ t, false⟩ = ⟨rle d fs ++ t, false⟩ := by
          unfold flR
          simp [Rs.hd, Rs.nx, b2]
        have hT : flT ⟨(a : Int) :: rle d fs ++ t, false⟩ = 1 := by
          unfold flT
          simp [Rs.hd, b2]
        have hH : (⟨(a : Int) :: rle d fs ++ t, false⟩ : Rs).hd = (a : Int) := rfl
        rw [hR, hT, hH, if_neg (by simp), if_neg (by omega)]
        obtain ⟨F', hF1, hF2⟩ := ih fs (out ++ List.replicate 1 (a : Int)) t e (by omega) (by rw [List.length_append, List.length_replicate]; omega) (by omega) (by omega) hmem
        exact ⟨(a : Int) :: F', by rw [List.map_cons, List.map_cons, hF1], by rw [hF2]; simp⟩
theorem sum_map_len (cs : List (List S34)) : (cs.map (fun c => (c.length : Int))).sum = (cs.flatten.length : Int) := by
  induction cs with
  | nil => rfl
  | cons c cs ih => rw [List.map_cons, List.sum_cons, ih, List.flatten_cons, List.length_append]; omega
/-- AN OUTLINE IS READ OF ITS BYTES AS IT WAS. -/
theorem prF_encL {cs : List (List S34)} (hg : Good cs) : prF (encL cs) = (cs, 0) := by
  have h8 := hg.eight
  have h64 := hg.sum
  have hfl := fsL_len 0 0 cs.flatten
  obtain ⟨F', hF1, hF2⟩ := fl_read cs.flatten.length cs.flatten.length (fsL 0 0 cs.flatten) [] (stL 0 0 cs.flatten) (cs.flatten.length + 1) (by omega) (by rw [List.length_nil]; omega) (by omega) (by omega) (fsL_in _ _ _)
  have hc := ct_read cs 0 0 [] [] hg.ok (by omega)
  rw [List.append_nil] at hc
  unfold prF
  have e0 : (⟨encL cs, false⟩ : Rs).hd = (cs.length : Int) := rfl
  have e1 : (⟨encL cs, false⟩ : Rs).nx = ⟨cs.map (fun c => (c.length : Int)) ++ (rle cs.flatten.length (fsL 0 0 cs.flatten) ++ stL 0 0 cs.flatten), false⟩ := by
    simp [Rs.nx, encL]
  have e2 := sz_read (cs.map (fun c => (c.length : Int))) [] 0 (rle cs.flatten.length (fsL 0 0 cs.flatten) ++ stL 0 0 cs.flatten)
  rw [List.length_map] at e2
  rw [e0, e1, Int.toNat_natCast, e2]
  simp only [List.nil_append, Int.zero_add, sum_map_len]
  unfold prS
  rw [if_neg (by simp), if_neg (by omega), if_neg (by rw [List.length_map]; omega), Int.toNat_natCast, hF2]
  simp only [List.nil_append]
  unfold prT
  rw [ctL_low _ F' (fsL 0 0 cs.flatten) _ _ _ _ hF1, hc, if_neg (by simp), if_neg (by simp)]
  simp only [List.nil_append]
  rw [hg.ck]
  simp

/-- Bytes are bytes. -/
theorem stp_in (n : Int) : ∀ x ∈ stp n, 0 ≤ x ∧ x ≤ 255 := by
  unfold stp
  intro x hx
  split at hx <;> simp at hx
  · omega
  · rcases hx with rfl | rfl <;> omega
theorem stL_in : ∀ (x y : Int) (c : List S34), ∀ q ∈ stL x y c, 0 ≤ q ∧ q ≤ 255
  | _, _, [], q, hq => by simp [stL] at hq
  | x, y, v :: vs, q, hq => by
    rw [stL] at hq
    rcases List.mem_append.1 hq with hq | hq
    · rcases List.mem_append.1 hq with hq | hq
      · exact stp_in _ q hq
      · exact stp_in _ q hq
    · exact stL_in _ _ vs q hq
theorem rle_in : ∀ (d : Nat) (F : List Int), F.length ≤ 200 → (∀ f ∈ F, 0 ≤ f ∧ f ≤ 7) → ∀ q ∈ rle d F, 0 ≤ q ∧ q ≤ 255
  | 0, F, _, _, q, hq => by simp [rle] at hq
  | d + 1, [], _, _, q, hq => by simp [rle] at hq
  | d + 1, f :: fs, hl, hf, q, hq => by
    rw [rle] at hq
    have h1 := hf f (by simp)
    have hr := runL_le f fs
    simp only [List.length_cons] at hl
    split at hq
    · rcases List.mem_cons.1 hq with rfl | hq
      · omega
      · rcases List.mem_cons.1 hq with rfl | hq
        · omega
        · exact rle_in d _ (by rw [List.length_drop]; omega) (fun x hx => hf x (List.mem_cons_of_mem _ (List.mem_of_mem_drop hx))) q hq
    · rcases List.mem_cons.1 hq with rfl | hq
      · omega
      · exact rle_in d _ (by omega) (fun x hx => hf x (List.mem_cons_of_mem _ hx)) q hq
theorem encL_in {cs : List (List S34)} (hg : Good cs) : ∀ q ∈ encL cs, 0 ≤ q ∧ q ≤ 255 := by
  intro q hq
  have h8 := hg.eight
  have h64 := hg.sum
  unfold encL at hq
  rcases List.mem_append.1 hq with hq | hq
  · rcases List.mem_append.1 hq with hq | hq
    · rcases List.mem_cons.1 hq with rfl | hq
      · omega
      · obtain ⟨c, hc, rfl⟩ := List.mem_map.1 hq
        have := (List.sublist_flatten_of_mem hc).length_le
        omega
    · exact rle_in _ _ (by rw [fsL_len]; omega) (fsL_in _ _ _) q hq
  · exact stL_in _ _ _ q hq
theorem parseO_eq {l : List Int} (h : ∀ x ∈ l, 0 ≤ x ∧ x ≤ 255) : parseO l = some (prF l) := by
  unfold parseO
  rw [if_pos]
  rw [List.all_eq_true]
  intro x hx
  have := h x hx
  simp; omega
end Go.Proofs.Ytjealbaomhjoaaa
