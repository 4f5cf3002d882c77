/- Atlases: many keys: plain laws. -/
import Derived.Test.YtaccppchhljnkaaAtD
import Derived.Test.YtaccppchhljnkaaSkyLowP
set_option linter.unusedVariables false
set_option linter.unusedSimpArgs false
namespace Go.Proofs.Ytaccppchhljnkaa
def nmS (j : Nat) : ByteArray := ⟨#[110, UInt8.ofNat (65 + j)]⟩
theorem nmS_ne {i j : Nat} (hi : i < 60) (hj : j < 60) (h : nmS i = nmS j) : i = j := by
  have h1 : UInt8.ofNat (65 + i) = UInt8.ofNat (65 + j) := by
    have := congrArg (fun b : ByteArray => b.data.getD 1 0) h
    simpa [nmS] using this
  have h2 := congrArg UInt8.toNat h1
  simp only [UInt8.toNat_ofNat'] at h2
  omega
def nmL (j : Nat) : List ByteArray := (List.range j).map nmS
theorem nmL_succ (j : Nat) : nmL (j + 1) = nmL j ++ [nmS j] := by simp [nmL, List.range_succ]
theorem nmL_len (j : Nat) : (nmL j).length = j := by simp [nmL]
theorem nmL_no (j : Nat) (hj : j < 60) : nmS j ∉ nmL j := by
  intro h
  obtain ⟨i, hi, e⟩ := List.mem_map.1 h
  have hi := List.mem_range.1 hi
  have := nmS_ne (by omega) hj e
  omega
theorem rbF_le (h x B : Int) : ∀ (rs : List Rc) (y : Int), (∀ q ∈ rs, q.2.1 + q.2.2.2 ≤ B) → y ≤ B → rbF h x y rs ≤ B
  | [], y, _, hy => hy
  | q :: rs, y, hq, hy => by
    rw [rbF]
    refine rbF_le h x B rs _ (fun p hp => hq p (List.mem_cons_of_mem _ hp)) ?_
    have := hq q (by simp)
    split <;> omega
structure ManyI (j : Nat) (s : AtS) : Prop where
  ks : s.keys = (nmL j).drop (j - 32)
  gn : s.gone = (nmL j).take (j - 32)
  inv : AtI 64 64 0 s
  lo : ∀ y ∈ s.l, y ≤ (j : Int)
theorem ManyI.zero : ManyI 0 (zeroS 64) := ⟨rfl, rfl, AtI.zero _ _ _, fun y hy => by
  have : y = 0 := (List.mem_replicate.1 hy).2
  omega⟩
theorem many_top {j : Nat} {s : AtS} (h : AtI 64 64 0 s) (hlo : ∀ y ∈ s.l, y ≤ (j : Int)) (k : ByteArray) (hk : k ∈ s.keys) : (s.at k).2.1 + (s.at k).2.2.2 ≤ j := by
  obtain ⟨a, b, c, d, e, f, g⟩ := h.un (s.at k) (List.mem_map.2 ⟨k, hk, rfl⟩)
  have h1 := g (s.at k).1.toNat (by omega) (by omega)
  have hl := h.ll
  have h2 : (s.at k).1.toNat < s.l.length := by omega
  rw [List.getD_eq_getElem?_getD, List.getElem?_eq_getElem h2] at h1
  have := hlo _ (List.getElem_mem h2)
  simp only [Option.getD_some] at h1
  omega
theorem many_fit {j : Nat} {s : AtS} (h : AtI 64 64 0 s) (hlo : ∀ y ∈ s.l, y ≤ (j : Int)) (hj : j < 60) (hl : s.keys.length < 32) (v : Nat) (hv : 1 ≤ v ∧ v ≤ 4) : ∃ f, fitS 64 64 s v 1 = some f ∧ f.2 ≤ j := by
  have hm : mxF 0 v 0 0 s.l ≤ j := mx_le 0 v j s.l 0 0 (by omega) (fun i hi _ _ => by
    rw [List.getD_eq_getElem?_getD, List.getElem?_eq_getElem hi]
    exact hlo _ (List.getElem_mem hi))
  obtain ⟨f, h1, h2⟩ := fit_low (a := 64) (b := 64) h.ll h.ys 0 v (by omega) (by omega) (by omega) (by omega)
  exact ⟨f, by unfold fitS; rw [if_pos hl]; exact h1, by omega⟩
theorem many_put {j : Nat} {s : AtS} (h : AtI 64 64 0 s) (hlo : ∀ y ∈ s.l, y ≤ (j : Int)) (v : Nat) (hv : 1 ≤ v) (f : Int × Int) (hf : fitS 64 64 s v 1 = some f) (h2 : f.2 ≤ j) (k : ByteArray) (hk : k ∉ s.keys) :
    AtI 64 64 0 (putS s k (f.1, f.2, v, 1) (List.replicate v 0)) ∧ ∀ y ∈ (putS s k (f.1, f.2, v, 1) (List.replicate v 0)).l, y ≤ ((j + 1 : Nat) : Int) := by
  refine ⟨h.put hk hf (by omega) (by omega) (by simp) (fun x hx => by have := (List.mem_replicate.1 hx).2; omega), fun y hy => ?_⟩
  have h0 := fit_nn (fitS_Q hf).2 h.ys
  exact (putN_ys s.l f.1.toNat (v : Int).toNat (f.2 + 1) ((j + 1 : Nat) : Int) (fun z hz => ⟨(h.ys z hz).1, by have := hlo z hz; omega⟩) (by omega) y hy).2
theorem many_step (j : Nat) (hj : j < 60) (s : AtS) (h : ManyI j s) (v : Nat) (hv : 1 ≤ v ∧ v ≤ 4) :
    ∃ s', loadV 64 64 0 s (nmS j) v 1 (List.replicate v 0) = (0, s') ∧ ManyI (j + 1) s' := by
  obtain ⟨hks, hgn, hI, hlo⟩ := h
  have hno : nmS j ∉ s.keys := fun e => nmL_no j hj (List.mem_of_mem_drop (hks ▸ e))
  have hlen : s.keys.length = j - (j - 32) := by rw [hks, List.length_drop, nmL_len]
  have hbad : ¬ badF v 1 (List.replicate v (0 : Int)).length := by
    unfold badF; simp only [List.length_replicate]; omega
  unfold loadV
  rw [if_neg hno, if_neg hbad, if_neg (by omega)]
  rw [show (v : Int) + 2 * ((0 : Nat) : Int) = v from by omega, show (1 : Int) + 2 * ((0 : Nat) : Int) = 1 from rfl]
  by_cases h32 : j < 32
  · obtain ⟨f, hf, h2⟩ := many_fit hI hlo hj (by omega) v hv
    rw [room_fit hf]
    obtain ⟨g1, g2⟩ := many_put hI hlo v hv.1 f hf h2 (nmS j) hno
    refine ⟨_, rfl, ?_, ?_, g1, g2⟩
    · show s.keys ++ [nmS j] = _
      rw [hks, show j - 32 = 0 from by omega, show j + 1 - 32 = 0 from by omega, List.drop_zero, List.drop_zero, nmL_succ]
    · show s.gone = _
      rw [hgn, show j - 32 = 0 from by omega, show j + 1 - 32 = 0 from by omega, List.take_zero, List.take_zero]
  · have hn : fitS 64 64 s v 1 = none := by unfold fitS; rw [if_neg (by omega)]
    have hdl : j - 32 < (nmL j).length := by rw [nmL_len]; omega
    have hcons : s.keys = (nmL j)[j - 32] :: (nmL j).drop (j - 32 + 1) := by rw [hks]; exact List.drop_eq_getElem_cons hdl
    rw [room_ev hn hcons]
    have hmem : (nmL j)[j - 32] ∈ s.keys := by rw [hcons]; exact List.mem_cons_self
    have hI2 := hI.evG _ hmem
    have hk2 : (evG 64 64 s (nmL j)[j - 32]).keys = (nmL j).drop (j - 32 + 1) := by
      show s.keys.erase _ = _
      rw [hcons]; exact List.erase_cons_head _ _
    have hlo2 : ∀ y ∈ (evG 64 64 s (nmL j)[j - 32]).l, y ≤ (j : Int) := by
      intro y hy
      obtain ⟨x, _, rfl⟩ := List.mem_map.1 hy
      refine rbF_le 64 x j _ 0 (fun q hq => ?_) (by omega)
      obtain ⟨u, hu, rfl⟩ := List.mem_map.1 hq
      have hu2 : u ∈ s.keys ∧ u ≠ (nmL j)[j - 32] := by
        rw [hI.nd.mem_erase_iff] at hu; exact ⟨hu.2, hu.1⟩
      rw [plE_ne hu2.2]
      exact many_top hI hlo u hu2.1
    have hl2 : (evG 64 64 s (nmL j)[j - 32]).keys.length < 32 := by
      rw [hk2, List.length_drop, nmL_len]; omega
    obtain ⟨f, hf, h2⟩ := many_fit hI2 hlo2 hj hl2 v hv
    rw [room_fit hf]
    have hno2 : nmS j ∉ (evG 64 64 s (nmL j)[j - 32]).keys := fun e => nmL_no j hj (List.mem_of_mem_drop (hk2 ▸ e))
    obtain ⟨g1, g2⟩ := many_put hI2 hlo2 v hv.1 f hf h2 (nmS j) hno2
    refine ⟨_, rfl, ?_, ?_, g1, g2⟩
    · show (evG 64 64 s (nmL j)[j - 32]).keys ++ [nmS j] = _
      rw [hk2, show j + 1 - 32 = j - 32 + 1 from by omega, nmL_succ, List.drop_append_of_le_length (by rw [nmL_len]; omega)]
    · show s.gone ++ [_] = _
      rw [hgn, show j + 1 - 32 = j - 32 + 1 from by omega, nmL_succ, List.take_append_of_le_length (by rw [nmL_len]; omega), List.take_succ_eq_append_getElem hdl]
end Go.Proofs.Ytaccppchhljnkaa
