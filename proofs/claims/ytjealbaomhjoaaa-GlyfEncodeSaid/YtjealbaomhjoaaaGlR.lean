/- What the law's own encode computes, in plain Lean. -/
import Derived.Test.YtjealbaomhjoaaaG6
import Derived.Test.YtjealbaomhjoaaaGlE
set_option linter.unusedVariables false
set_option linter.unusedSimpArgs false
namespace Go.Proofs.Ytjealbaomhjoaaa
open Go.RowKit Go.Proofs.Ytjealbaomhjoaaa.G Go.Proofs.YtjealbaomhjoaaaW.PrintWords Go.Proofs.YtjealbaomhjoaaaW.PrintMore

theorem far_f (n : Int) : punchcutlaw04_far.f n = some (!(sh n)) := by
  unfold punchcutlaw04_far.f sh
  by_cases h : n < -128
  · rw [if_pos h, decide_eq_false (show ¬ -128 ≤ n by omega)]; rfl
  · rw [if_neg h, decide_eq_true (show -128 ≤ n by omega)]
    by_cases h2 : n > 127
    · rw [decide_eq_true h2, decide_eq_false (show ¬ n < 128 by omega)]; rfl
    · rw [decide_eq_false h2, decide_eq_true (show n < 128 by omega)]; rfl

theorem rn_l4 (F : List Int) (f : Int) (fs : List Int) (hF : F = f :: fs) (hF64 : F.length ≤ 64) (hw : ∀ q ∈ F, 0 ≤ q ∧ q ≤ 7) (out steps : List Int) (ho : out.length ≤ 300) (K : Nat) (R : ByteArray)
    (H : ∀ k, K ≤ k → punchcutlaw04_encode.l3 k (if 2 < runL f fs + 1 then out ++ [f + 8, (runL f fs : Int)] else out ++ [f]) (if 2 < runL f fs + 1 then fs.drop (runL f fs) else fs) steps = some R) :
    ∀ (d n : Nat), 1 ≤ n → runL f fs + 1 = n + d → ∀ k, K + d + 1 ≤ k → punchcutlaw04_encode.l4 k out F steps (n : Int) = some R := by
  have hrl := runL_le f fs
  have hl : F.length = fs.length + 1 := by rw [hF]; rfl
  have hf := hw f (by rw [hF]; simp)
  have hr0 : rd F 0 = f := by rw [hF]; rfl
  have hd1 : F.drop 1 = fs := by rw [hF]; rfl
  intro d
  induction d with
  | zero =>
    intro n hn hd k hk
    obtain ⟨k, rfl⟩ : ∃ m, k = m + 1 := ⟨k - 1, by omega⟩
    have hK := H k (by omega)
    have hr : runL f fs = n - 1 := by omega
    rw [hr] at hK
    have hb : (wrap64 ((n : Int) - 1)) % 256 = ((n - 1 : Nat) : Int) := by rw [wrap64_small _ (by omega) (by omega)]; omega
    have hf8 : (f + 8) % 256 = f + 8 := by omega
    have hdn : F.drop n = fs.drop (n - 1) := by rw [hF]; obtain ⟨m, rfl⟩ : ∃ m, n = m + 1 := ⟨n - 1, by omega⟩; rfl
    have e1 : (1 : Int).toNat = 1 := rfl
    by_cases h2 : n < 3
    · rw [if_neg (by omega), if_neg (by omega)] at hK
      have fin : (if 0 < (F.length : Int) then (if out.length < 140737488355328 then (if 1 ≤ (F.length : Int) then (punchcutlaw04_encode.l3 k (out ++ [rd F 0]) (F.drop (1 : Int).toNat) steps) else (none)) else (none)) else (none)) = some R := by
        rw [if_pos (by omega), if_pos (by omega), if_pos (by omega), hr0, e1, hd1]; exact hK
      simp only [punchcutlaw04_encode.l4]
      by_cases hlt : n < F.length
      · have hne : F[n] ≠ f := by
          have h := runL_end f fs (by omega)
          have e : F[n] = fs[runL f fs]'(by omega) := by simp only [hF]; rw [List.getElem_cons]; rw [dif_neg (by omega)]; congr 1; omega
          rw [e]; exact h
        rw [if_pos (by omega), if_pos (by omega), if_pos (by omega), rd_at F n hlt, hr0, if_neg hne, if_pos (by omega)]
        rw [if_pos (by omega), hr0] at fin
        exact fin
      · rw [if_neg (by omega), if_pos (by omega)]; exact fin
    · rw [if_pos (by omega), if_pos (by omega)] at hK
      simp only [punchcutlaw04_encode.l4]
      by_cases hlt : n < F.length
      · have hne : F[n] ≠ f := by
          have h := runL_end f fs (by omega)
          have e : F[n] = fs[runL f fs]'(by omega) := by simp only [hF]; rw [List.getElem_cons]; rw [dif_neg (by omega)]; congr 1; omega
          rw [e]; exact h
        rw [if_pos (by omega), if_pos (by omega), if_pos (by omega), rd_at F n hlt, hr0, if_neg hne, if_neg (by omega), Option.bind_some, if_pos (by simp; omega), if_pos (by omega), hf8, hb, Int.toNat_natCast, hdn]
        exact hK
      · rw [if_neg (by omega), if_neg (by omega), if_pos (by omega), Option.bind_some, if_pos (by simp; omega), if_pos (by omega), if_pos (by omega), hr0, hf8, hb, Int.toNat_natCast, hdn]
        exact hK
  | succ d ih =>
    intro n hn hd k hk
    obtain ⟨k, rfl⟩ : ∃ m, k = m + 1 := ⟨k - 1, by omega⟩
    have hlt : n < F.length := by omega
    have he : F[n] = f := by
      have h := runL_at f fs (n - 1) (by omega) (by omega)
      have e : F[n] = fs[n - 1]'(by omega) := by simp only [hF]; rw [List.getElem_cons]; rw [dif_neg (by omega)]
      rw [e]; exact h
    simp only [punchcutlaw04_encode.l4]
    rw [if_pos (by omega), if_pos (by omega), if_pos (by omega), rd_at F n hlt, hr0, if_pos he, wrap64_small ((n : Int) + 1) (by omega) (by omega)]
    have := ih (n + 1) (by omega) (by omega) k (by omega)
    simpa using this
theorem rn_l3 (steps : List Int) (hs : steps.length ≤ 256) : ∀ (d : Nat) (F out : List Int), F.length ≤ d → F.length ≤ 64 → (∀ q ∈ F, 0 ≤ q ∧ q ≤ 7) → out.length + F.length ≤ 200 → ∃ K, ∀ k, K ≤ k → punchcutlaw04_encode.l3 k out F steps = some (strOfNums (out ++ rle F.length F ++ steps)) := by
  intro d
  induction d with
  | zero =>
    intro F out hd h64 hw ho
    have : F = [] := List.eq_nil_of_length_eq_zero (by omega)
    subst this
    refine ⟨1, fun k hk => ?_⟩
    obtain ⟨k, rfl⟩ : ∃ m, k = m + 1 := ⟨k - 1, by omega⟩
    simp only [punchcutlaw04_encode.l3]
    rw [if_neg (by simp), if_pos (by simp at ho; omega)]
    simp [rle]
  | succ d ih =>
    intro F out hd h64 hw ho
    match F, hd, h64, hw, ho with
    | [], hd, h64, hw, ho =>
      refine ⟨1, fun k hk => ?_⟩
      obtain ⟨k, rfl⟩ : ∃ m, k = m + 1 := ⟨k - 1, by omega⟩
      simp only [punchcutlaw04_encode.l3]
      rw [if_neg (by simp), if_pos (by simp at ho; omega)]
      simp [rle]
    | f :: fs, hd, h64, hw, ho =>
      have hrl := runL_le f fs
      simp only [List.length_cons] at hd h64 ho
      have hw' : ∀ q ∈ fs, 0 ≤ q ∧ q ≤ 7 := fun q hq => hw q (List.mem_cons_of_mem _ hq)
      have hrest : ∃ K, ∀ k, K ≤ k → punchcutlaw04_encode.l3 k (if 2 < runL f fs + 1 then out ++ [f + 8, (runL f fs : Int)] else out ++ [f]) (if 2 < runL f fs + 1 then fs.drop (runL f fs) else fs) steps = some (strOfNums (out ++ rle (f :: fs).length (f :: fs) ++ steps)) := by
        rw [List.length_cons, rle]
        by_cases h2 : 2 < runL f fs + 1
        · rw [if_pos h2, if_pos h2, if_pos h2]
          obtain ⟨K, hK⟩ := ih (fs.drop (runL f fs)) (out ++ [f + 8, (runL f fs : Int)]) (by rw [List.length_drop]; omega) (by rw [List.length_drop]; omega) (fun q hq => hw' q (List.mem_of_mem_drop hq)) (by rw [List.length_append, List.length_drop]; simp; omega)
          refine ⟨K, fun k hk => ?_⟩
          rw [hK k hk, rle_more fs.length (fs.drop (runL f fs)) (by rw [List.length_drop]; omega)]
          simp
        · rw [if_neg h2, if_neg h2, if_neg h2]
          obtain ⟨K, hK⟩ := ih fs (out ++ [f]) (by omega) (by omega) hw' (by rw [List.length_append]; simp; omega)
          refine ⟨K, fun k hk => ?_⟩
          rw [hK k hk]; simp
      obtain ⟨K, hK⟩ := hrest
      refine ⟨K + runL f fs + 3, fun k hk => ?_⟩
      obtain ⟨k, rfl⟩ : ∃ m, k = m + 2 := ⟨k - 2, by omega⟩
      rw [punchcutlaw04_encode.l3, if_pos (by simp), punchcutlaw04_encode.l4, if_pos (by simp), if_pos (by omega), if_pos (by simp), if_pos rfl, wrap64_small _ (by omega) (by omega)]
      exact rn_l4 (f :: fs) f fs rfl (by simp; omega) hw out steps (by omega) K _ hK (runL f fs) 1 (by omega) (by omega) k (by omega)

theorem rn_l1 (cs : List (List S34)) (hc8 : cs.length ≤ 8) (i : Nat) (hi : i < cs.length) (out : List Int) (c : List S34) (hc : c.length ≤ 64) (hok : ∀ v ∈ c, okV v = true) (K : Nat) (R : ByteArray) :
    ∀ (d j : Nat) (fs st : List Int) (x y : Int), c.length = j + d → (-255 ≤ x ∧ x ≤ 255 ∧ -255 ≤ y ∧ y ≤ 255) → fs.length + d ≤ 64 → st.length + 4 * d ≤ 256 →
      (∀ k, K ≤ k → punchcutlaw04_encode.l0 k out (fs ++ fsL x y (c.drop j)) (st ++ stL x y (c.drop j)) (exy x y (c.drop j)).1 (exy x y (c.drop j)).2 cs cs.length ((i + 1 : Nat) : Int) = some R) →
      ∀ k, K + 6 * d + 2 ≤ k → punchcutlaw04_encode.l1 k out fs st x y cs cs.length (i : Int) c c.length (j : Int) = some R := by
  intro d
  induction d with
  | zero =>
    intro j fs st x y hj hxy hfs hst H k hk
    obtain ⟨k, rfl⟩ : ∃ m, k = m + 1 := ⟨k - 1, by omega⟩
    simp only [punchcutlaw04_encode.l1]
    rw [if_neg (by omega), wrap64_small _ (by omega) (by omega)]
    have hK := H k (by omega)
    rw [List.drop_eq_nil_of_le (by omega)] at hK
    simpa [fsL, stL, exy] using hK
  | succ d ih =>
    intro j fs st x y hj hxy hfs hst H k hk
    obtain ⟨k, rfl⟩ : ∃ m, k = m + 6 := ⟨k - 6, by omega⟩
    have hlt : j < c.length := by omega
    obtain ⟨v0, v1, v2, v3⟩ := okV_in (hok c[j] (List.getElem_mem hlt))
    have h1 := stp_len (c[j].f0 - x)
    have h2 := stp_len (c[j].f1 - y)
    have step : ∀ f0 : Int, (f0 = if c[j].f2 then 1 else 0) → punchcutlaw04_encode.j2 (k + 5) out fs st x y f0 cs cs.length (i : Int) c c.length (j : Int) c[j].f0 c[j].f1 c[j].f2 = some R := by
      intro f0 hf0
      have hf0' : 0 ≤ f0 ∧ f0 ≤ 1 := by rw [hf0]; split <;> omega
      have a2 : wrap64 (2 + wrap64 (2 * 1)) % 256 = 4 := by unfold wrap64; omega
      have a0 : wrap64 (2 + wrap64 (2 * 0)) % 256 = 2 := by unfold wrap64; omega
      have last : ∀ (f : Int) (s : List Int), f = flg c[j] (c[j].f0 - x) (c[j].f1 - y) → s = st ++ stp (c[j].f0 - x) ++ stp (c[j].f1 - y) → punchcutlaw04_encode.l2 (k + 2) out fs s f cs cs.length (i : Int) c c.length (j : Int) [c[j].f0 - x, c[j].f1 - y] 2 2 c[j].f0 c[j].f1 c[j].f2 = some R := by
        intro f s hf hs
        rw [punchcutlaw04_encode.l2, if_neg (by omega), if_pos (by omega), wrap64_small _ (by omega) (by omega), hf, hs]
        refine ih (j + 1) (fs ++ [flg c[j] (c[j].f0 - x) (c[j].f1 - y)]) (st ++ stp (c[j].f0 - x) ++ stp (c[j].f1 - y)) c[j].f0 c[j].f1 (by omega) ⟨v0, v1, v2, v3⟩ (by rw [List.length_append, List.length_singleton]; omega) (by rw [List.length_append, List.length_append]; omega) ?_ (k + 1) (by omega)
        intro k hk
        have hK := H k hk
        rw [List.drop_eq_getElem_cons hlt, fsL, stL, exy] at hK
        simpa using hK
      have second : ∀ (f : Int) (s : List Int), (f = (if c[j].f2 then 1 else 0) + (if sh (c[j].f0 - x) then 0 else 2)) → s = st ++ stp (c[j].f0 - x) → punchcutlaw04_encode.l2 (k + 3) out fs s f cs cs.length (i : Int) c c.length (j : Int) [c[j].f0 - x, c[j].f1 - y] 2 1 c[j].f0 c[j].f1 c[j].f2 = some R := by
        intro f s hf hs
        have hfb : 0 ≤ f ∧ f ≤ 3 := by rw [hf]; split <;> split <;> omega
        have hsl : s.length ≤ 1000 := by rw [hs, List.length_append]; omega
        have hr : rd [c[j].f0 - x, c[j].f1 - y] 1 = c[j].f1 - y := rfl
        rw [punchcutlaw04_encode.l2, if_pos (by omega), if_pos (by omega), if_pos (by simp), hr, far_f, Option.bind_some, wrap64_small (1 + 1) (by omega) (by omega)]
        cases hsh : sh (c[j].f1 - y) with
        | true =>
          rw [if_neg (by simp), if_pos (by omega)]
          exact last f _ (by rw [hf]; simp [flg, hsh]) (by rw [hs]; simp [stp, hsh])
        | false =>
          rw [if_pos (by simp), if_pos (by omega), Option.bind_some, if_pos (by simp; omega), a2]
          exact last _ _ (by rw [hf]; simp only [flg, hsh]; split <;> split <;> simp) (by rw [hs]; simp [stp, hsh])
      have hr : rd [c[j].f0 - x, c[j].f1 - y] 0 = c[j].f0 - x := rfl
      rw [punchcutlaw04_encode.j2, wrap64_small (c[j].f0 - x) (by omega) (by omega), wrap64_small (c[j].f1 - y) (by omega) (by omega), Option.bind_some]
      show punchcutlaw04_encode.l2 (k + 4) out fs st f0 cs cs.length (i : Int) c c.length (j : Int) [c[j].f0 - x, c[j].f1 - y] 2 0 c[j].f0 c[j].f1 c[j].f2 = some R
      rw [punchcutlaw04_encode.l2, if_pos (by omega), if_pos (by omega), if_pos (by simp), hr, far_f, Option.bind_some, wrap64_small (0 + 1) (by omega) (by omega)]
      cases hsh : sh (c[j].f0 - x) with
      | true =>
        rw [if_neg (by simp), if_pos (by omega)]
        exact second f0 _ (by rw [hf0, hsh]; simp) (by simp [stp, hsh])
      | false =>
        rw [if_pos (by simp), if_pos (by omega), Option.bind_some, if_pos (by simp; omega), a0]
        exact second _ _ (by rw [hsh, hf0]; split <;> simp) (by simp [stp, hsh])
    rw [punchcutlaw04_encode.l1, if_pos (by omega), if_pos (by omega), if_pos (by omega), rdT_at c j hlt]
    cases hb : c[j].f2 with
    | true =>
      rw [if_pos rfl]
      have := step 1 (by rw [hb]; rfl)
      rwa [hb] at this
    | false =>
      rw [if_neg (by simp)]
      have := step 0 (by rw [hb]; rfl)
      rwa [hb] at this
theorem rn_l0 (cs : List (List S34)) (hg : Good cs) : ∀ (d i : Nat) (out fs st : List Int) (x y : Int), cs.length = i + d → (-255 ≤ x ∧ x ≤ 255 ∧ -255 ≤ y ∧ y ≤ 255) → fs.length + (cs.drop i).flatten.length ≤ 64 → st.length ≤ 4 * fs.length → out.length ≤ 1 + i → (∀ f ∈ fs, 0 ≤ f ∧ f ≤ 7) →
    ∃ K, ∀ k, K ≤ k → punchcutlaw04_encode.l0 k out fs st x y cs cs.length (i : Int) = some (strOfNums (out ++ (cs.drop i).map (fun c => (c.length : Int)) ++ rle (fs ++ fsL x y (cs.drop i).flatten).length (fs ++ fsL x y (cs.drop i).flatten) ++ (st ++ stL x y (cs.drop i).flatten))) := by
  have hc8 := hg.eight
  intro d
  induction d with
  | zero =>
    intro i out fs st x y hi hxy hfs hst ho hf
    rw [List.drop_eq_nil_of_le (by omega)] at hfs ⊢
    simp only [List.flatten_nil, List.length_nil, fsL, stL, List.append_nil, List.map_nil] at hfs ⊢
    obtain ⟨K, hK⟩ := rn_l3 st (by omega) fs.length fs out (by omega) (by omega) hf (by omega)
    refine ⟨K + 1, fun k hk => ?_⟩
    obtain ⟨k, rfl⟩ : ∃ m, k = m + 1 := ⟨k - 1, by omega⟩
    simp only [punchcutlaw04_encode.l0]
    rw [if_neg (by omega)]
    exact hK k (by omega)
  | succ d ih =>
    intro i out fs st x y hi hxy hfs hst ho hf
    have hlt : i < cs.length := by omega
    have hdr : cs.drop i = cs[i] :: cs.drop (i + 1) := List.drop_eq_getElem_cons hlt
    rw [hdr, List.flatten_cons, List.length_append] at hfs
    rw [hdr, List.flatten_cons, List.map_cons, fsL_app, stL_app]
    have hfl := fsL_len x y cs[i]
    have hsl := stL_len x y cs[i]
    have hokc : ∀ v ∈ cs[i], okV v = true := hg.ok _ (List.getElem_mem hlt)
    obtain ⟨K, hK⟩ := ih (i + 1) (out ++ [(cs[i].length : Int)]) (fs ++ fsL x y cs[i]) (st ++ stL x y cs[i]) (exy x y cs[i]).1 (exy x y cs[i]).2 (by omega) (exy_in _ _ _ hokc hxy) (by rw [List.length_append]; omega) (by rw [List.length_append, List.length_append]; omega) (by rw [List.length_append, List.length_singleton]; omega)
      (fun f hf' => by rcases List.mem_append.1 hf' with h | h; exact hf f h; exact fsL_in _ _ _ f h)
    refine ⟨K + 6 * cs[i].length + 3, fun k hk => ?_⟩
    obtain ⟨k, rfl⟩ : ∃ m, k = m + 1 := ⟨k - 1, by omega⟩
    rw [punchcutlaw04_encode.l0]
    rw [if_pos (by omega), if_pos (by omega), if_pos (by omega), if_pos (by omega), rdL_at cs i hlt]
    have hm : ((cs[i].length : Int)) % 256 = (cs[i].length : Int) := by omega
    rw [hm]
    refine rn_l1 cs hc8 i hlt (out ++ [(cs[i].length : Int)]) cs[i] (by omega) hokc K _ cs[i].length 0 fs st x y (by omega) hxy (by omega) (by omega) (fun k hk => ?_) k (by omega)
    have := hK k hk
    rw [List.drop_zero]
    simpa using this
theorem rn_f {cs : List (List S34)} (hg : Good cs) : ∃ K, ∀ k, K ≤ k → punchcutlaw04_encode.f k cs = some (strOfNums (encL cs)) := by
  obtain ⟨K2, h2⟩ := rn_l0 cs hg cs.length 0 [(cs.length : Int)] [] [] 0 0 (by omega) (by omega) (by simpa using hg.sum) (by simp) (by simp) (by simp)
  refine ⟨K2, fun k hk => ?_⟩
  unfold punchcutlaw04_encode.f
  have hm : ((cs.length : Int)) % 256 = (cs.length : Int) := by have := hg.eight; omega
  rw [hm]
  have := h2 k (by omega)
  rw [List.drop_zero] at this
  simp only [List.nil_append, fsL_len] at this
  simpa [encL] using this
end Go.Proofs.Ytjealbaomhjoaaa
