/- What is read of any bytes, in plain Lean: it is right, and its own bytes are no more than twice as many. -/
import Derived.Test.YtjealbaomhjoaaaGlP
set_option linter.unusedVariables false
set_option linter.unusedSimpArgs false
namespace Go.Proofs.Ytjealbaomhjoaaa
open Go.RowKit Go.Proofs.Ytjealbaomhjoaaa.G Go.Proofs.YtjealbaomhjoaaaW.PrintWords Go.Proofs.YtjealbaomhjoaaaW.PrintMore

def Rs.wf (r : Rs) : Prop := ∀ b ∈ r.bs, 0 ≤ b ∧ b ≤ 255
theorem Rs.wf.nx {r : Rs} (h : r.wf) : r.nx.wf := fun b hb => h b (List.mem_of_mem_tail hb)
theorem Rs.wf.past {r : Rs} (h : r.wf) (b : Bool) : (r.past b).wf := by cases b; exact h.nx; exact h.nx.nx
theorem Rs.wf.hd {r : Rs} (h : r.wf) : 0 ≤ r.hd ∧ r.hd ≤ 255 := by
  cases hb : r.bs with
  | nil => simp [Rs.hd, hb]
  | cons x l => simpa [Rs.hd, hb] using h x (by rw [hb]; simp)
theorem nx_len {r : Rs} (h : r.nx.bad = false) : r.bs.length = r.nx.bs.length + 1 := by
  cases hb : r.bs with
  | nil => simp [Rs.nx, hb] at h
  | cons x l => simp [Rs.nx, hb]
theorem step_len {r : Rs} (hw : r.wf) (b : Bool) (h : (r.past b).bad = false) : (r.past b).bs.length + (stp (r.step b)).length ≤ r.bs.length ∧ (r.past b).bs.length + 1 ≤ r.bs.length := by
  cases b with
  | false =>
    have h1 := nx_len (show r.nx.bad = false from h)
    have hd := hw.hd
    have hs : sh (r.step false) = true := by simp [Rs.step, p8, sh]; split <;> omega
    have : (r.past false) = r.nx := rfl
    rw [this]
    refine ⟨?_, by omega⟩
    unfold stp; rw [hs]; simp; omega
  | true =>
    have h2 := nx_len (show r.nx.nx.bad = false from h)
    have h1 := nx_len (nx_ok (show r.nx.nx.bad = false from h))
    have : (r.past true) = r.nx.nx := rfl
    rw [this]
    have := stp_len (r.step true)
    exact ⟨by omega, by omega⟩
theorem pt_cons : ∀ (fs : List Int) (x y : Int) (r : Rs) (c : List S34), r.wf → (ptL fs x y r c).2.2.2.bad = false →
    ∃ pts, (ptL fs x y r c).1 = c ++ pts ∧ pts.length = fs.length ∧ ((ptL fs x y r c).2.1, (ptL fs x y r c).2.2.1) = exy x y pts ∧ (ptL fs x y r c).2.2.2.wf ∧
      (ptL fs x y r c).2.2.2.bs.length + (stL x y pts).length ≤ r.bs.length ∧ (ptL fs x y r c).2.2.2.bs.length + pts.length ≤ r.bs.length
  | [], x, y, r, c, hw, hb => ⟨[], by simp [ptL], rfl, rfl, hw, by simp [ptL, stL], by simp [ptL]⟩
  | f :: fs, x, y, r, c, hw, hb => by
    rw [ptL] at hb ⊢
    have hb2 := ptL_ok hb
    obtain ⟨a1, a2⟩ := step_len hw (bitSet f 2) (past_ok hb2)
    obtain ⟨a3, a4⟩ := step_len (hw.past (bitSet f 2)) (bitSet f 4) hb2
    obtain ⟨pts, e1, e2, e3, e4, e5, e6⟩ := pt_cons fs _ _ _ _ ((hw.past _).past _) hb
    refine ⟨_ :: pts, by rw [e1, List.append_assoc]; rfl, by simp [e2], by rw [e3]; rfl, e4, ?_, ?_⟩
    · rw [stL, List.length_append, List.length_append]
      simp only [show x + r.step (bitSet f 2) - x = r.step (bitSet f 2) by omega, show y + (r.past (bitSet f 2)).step (bitSet f 4) - y = (r.past (bitSet f 2)).step (bitSet f 4) by omega]
      omega
    · rw [List.length_cons]; omega
theorem ct_cons : ∀ (ss fs : List Int) (x y : Int) (r : Rs) (cs : List (List S34)), r.wf → (ctL ss fs x y r cs).2.bad = false →
    ∃ ps, (ctL ss fs x y r cs).1 = cs ++ ps ∧ ps.length = ss.length ∧ (ctL ss fs x y r cs).2.bs.length + (stL x y ps.flatten).length ≤ r.bs.length ∧ (ctL ss fs x y r cs).2.bs.length + ps.flatten.length ≤ r.bs.length
  | [], fs, x, y, r, cs, hw, hb => ⟨[], by simp [ctL], rfl, by simp [ctL, stL], by simp [ctL]⟩
  | s :: ss, fs, x, y, r, cs, hw, hb => by
    rw [ctL] at hb ⊢
    obtain ⟨pts, e1, e2, e3, e4, e5, e6⟩ := pt_cons (fs.take s.toNat) x y r [] hw (ctL_ok hb)
    obtain ⟨ps, q1, q2, q3, q4⟩ := ct_cons ss _ _ _ _ _ e4 hb
    have e3' := Prod.mk.inj e3
    refine ⟨pts :: ps, by rw [q1, e1]; simp, by simp [q2], ?_, ?_⟩
    · rw [List.flatten_cons, stL_app, List.length_append, ← e3'.1, ← e3'.2]; omega
    · rw [List.flatten_cons, List.length_append]; omega
theorem sz_cons : ∀ (d : Nat) (s : List Int) (n : Int) (r : Rs), r.wf → (szL d s n r).2.2.bad = false → (szL d s n r).1.length = s.length + d ∧ r.bs.length = (szL d s n r).2.2.bs.length + d ∧ (szL d s n r).2.2.wf
  | 0, s, n, r, hw, hb => ⟨by simp [szL], by simp [szL], hw⟩
  | d + 1, s, n, r, hw, hb => by
    rw [szL] at hb ⊢
    have h1 := nx_len (szL_ok hb)
    obtain ⟨q1, q2, q3⟩ := sz_cons d _ _ _ hw.nx hb
    exact ⟨by rw [q1]; simp; omega, by omega, q3⟩
theorem fl_cons (N : Nat) : ∀ (d : Nat) (fs : List Int) (r : Rs) (fs' : List Int) (r' : Rs), r.wf → flL N d fs r = .inr (fs', r') → r'.bs.length ≤ r.bs.length ∧ r'.wf
  | 0, fs, r, fs', r', hw, h => by
    rw [flL] at h; injection h with h; injection h with h1 h2; subst h2; exact ⟨Nat.le_refl _, hw⟩
  | d + 1, fs, r, fs', r', hw, h => by
    rw [flL] at h
    split at h
    · split at h
      · cases h
      · rename_i hbad
        split at h
        · cases h
        · have hwr : (flR r).wf := by unfold flR; split; exact hw.nx.nx; exact hw.nx
          have hl : (flR r).bs.length ≤ r.bs.length := by unfold flR; split <;> simp [Rs.nx] <;> omega
          obtain ⟨q1, q2⟩ := fl_cons N d _ _ _ _ hwr h
          exact ⟨by omega, q2⟩
    · injection h with h; injection h with h1 h2; subst h2; exact ⟨Nat.le_refl _, hw⟩
/-- Bytes that are no outline's leave none. -/
theorem prF_bad {l : List Int} {o : List (List S34)} {e : Int} (h : prF l = (o, e)) (he : e ≠ 0) : o = [] := by
  unfold prF prS at h
  split at h
  · injection h with h1 _; exact h1.symm
  · split at h
    · injection h with h1 _; exact h1.symm
    · split at h
      · injection h with h1 _; exact h1.symm
      · split at h
        · injection h with h1 _; exact h1.symm
        · unfold prT at h
          split at h
          · injection h with h1 _; exact h1.symm
          · split at h
            · injection h with h1 _; exact h1.symm
            · split at h
              · injection h with h1 _; exact h1.symm
              · injection h with _ h2; exact absurd h2.symm he
theorem prF_good {l : List Int} {o : List (List S34)} (hw : ∀ x ∈ l, 0 ≤ x ∧ x ≤ 255) (h : prF l = (o, 0)) : Good o ∧ (encL o).length ≤ l.length + l.length := by
  have hw0 : (⟨l, false⟩ : Rs).wf := hw
  unfold prF prS at h
  split at h
  · injection h with _ h2; cases h2
  · rename_i hb
    have hb' : (szL (⟨l, false⟩ : Rs).hd.toNat [] 0 (⟨l, false⟩ : Rs).nx).2.2.bad = false := by simpa using hb
    have h0 := nx_len (szL_ok hb')
    obtain ⟨s1, s2, s3⟩ := sz_cons _ _ _ _ hw0.nx hb'
    split at h
    · injection h with _ h2; cases h2
    · split at h
      · injection h with _ h2; cases h2
      · split at h
        · rename_i e hf
          injection h with h1 h2
          subst h2
          exfalso
          have : ∀ (N d : Nat) (fs : List Int) (r : Rs) (e : Int), flL N d fs r = .inl e → e = 1 ∨ e = 2 := by
            intro N d
            induction d with
            | zero => intro fs r e h; cases h
            | succ d ih =>
              intro fs r e h
              rw [flL] at h
              split at h
              · split at h
                · injection h with h; exact .inl h.symm
                · split at h
                  · injection h with h; exact .inr h.symm
                  · exact ih _ _ _ h
              · cases h
          rcases this _ _ _ _ _ hf with h | h <;> omega
        · rename_i fs r2 hf
          obtain ⟨f1, f2⟩ := fl_cons _ _ _ _ _ _ s3 hf
          unfold prT at h
          split at h
          · injection h with _ h2; cases h2
          · rename_i hb2
            split at h
            · injection h with _ h2; cases h2
            · split at h
              · injection h with h1 h2; rename_i hne; exact absurd h2 hne
              · rename_i hck
                injection h with h1 _
                obtain ⟨ps, c1, c2, c3, c4⟩ := ct_cons _ fs 0 0 r2 [] f2 (by simpa using hb2)
                rw [List.nil_append] at c1
                have ho : o = ps := h1.symm.trans c1
                have hck' : ckO o = 0 := by rw [← h1]; simpa using hck
                have hg := ckO_only hck'
                refine ⟨hg, ?_⟩
                subst ho
                have hrl := rle_len o.flatten.length (fsL 0 0 o.flatten)
                rw [fsL_len] at hrl
                unfold encL
                rw [List.length_append, List.length_append, List.length_cons, List.length_map]
                have hl : (⟨l, false⟩ : Rs).bs.length = l.length := rfl
                rw [s1] at c2
                simp only [List.length_nil] at c2
                omega
theorem wrap_u8 (n : Int) : 0 ≤ IntKind.u8.wrap n ∧ IntKind.u8.wrap n ≤ 255 := by
  simp [IntKind.wrap, IntKind.bits, IntKind.signed]; omega
theorem xor_u8 (a b : Int) : 0 ≤ bits .xor .u8 a b ∧ bits .xor .u8 a b ≤ 255 := wrap_u8 _
end Go.Proofs.Ytjealbaomhjoaaa
