/- Pages of atlases: rows laid over rows: plain laws. -/
import Derived.Test.YtaccppchhljnkaaAtP
import Derived.Laws.CopyOwn
set_option linter.unusedVariables false
set_option linter.unusedSimpArgs false
namespace Go.Proofs.Ytaccppchhljnkaa
theorem row_iff (w a X m p : Nat) (hw : X + m ≤ w) : (a * w + X ≤ p ∧ p < a * w + X + m) ↔ (p / w = a ∧ X ≤ p % w ∧ p % w < X + m) := by
  have hd := Nat.div_add_mod p w
  constructor
  · rintro ⟨h1, h2⟩
    have hlt : p < (a + 1) * w := by rw [Nat.add_mul, Nat.one_mul]; omega
    have e : p / w = a := Nat.div_eq_of_lt_le (by omega) hlt
    rw [e, Nat.mul_comm] at hd
    exact ⟨e, by omega, by omega⟩
  · rintro ⟨h1, h2, h3⟩
    rw [h1, Nat.mul_comm] at hd
    omega
/-- Rows that lie over a page. -/
def fillR (w X Y m : Nat) (f : Nat → Nat → Int) (y : Nat) (L : List Int) : List Int :=
  (List.range L.length).map fun p => if Y ≤ p / w ∧ p / w < Y + y ∧ X ≤ p % w ∧ p % w < X + m then f (p / w - Y) (p % w - X) else L.getD p 0
theorem fillR_len (w X Y m : Nat) (f : Nat → Nat → Int) (y : Nat) (L : List Int) : (fillR w X Y m f y L).length = L.length := by simp [fillR]
theorem fillR_get (w X Y m : Nat) (f : Nat → Nat → Int) (y : Nat) (L : List Int) (p : Nat) (hp : p < L.length) : (fillR w X Y m f y L).getD p 0 = if Y ≤ p / w ∧ p / w < Y + y ∧ X ≤ p % w ∧ p % w < X + m then f (p / w - Y) (p % w - X) else L.getD p 0 := by
  rw [List.getD_eq_getElem?_getD, List.getElem?_eq_getElem (by rw [fillR_len]; exact hp)]
  simp [fillR]
theorem list_ext_getD {a b : List Int} (hl : a.length = b.length) (h : ∀ p, p < a.length → a.getD p 0 = b.getD p 0) : a = b := by
  apply List.ext_getElem hl
  intro i h1 h2
  have := h i h1
  rw [List.getD_eq_getElem?_getD, List.getD_eq_getElem?_getD, List.getElem?_eq_getElem h1, List.getElem?_eq_getElem h2] at this
  exact this
theorem fillR_zero (w X Y m : Nat) (f : Nat → Nat → Int) (L : List Int) : fillR w X Y m f 0 L = L := by
  refine list_ext_getD (fillR_len ..) (fun p hp => ?_)
  rw [fillR_len] at hp
  rw [fillR_get _ _ _ _ _ _ _ _ hp, if_neg (by omega)]
theorem splice_get (L cs : List Int) (off p : Nat) (h : off + cs.length ≤ L.length) (hp : p < L.length) : (splice L off cs).getD p 0 = if off ≤ p ∧ p < off + cs.length then cs.getD (p - off) 0 else L.getD p 0 := by
  unfold splice
  rw [List.getD_eq_getElem?_getD, List.getD_eq_getElem?_getD, List.getD_eq_getElem?_getD, List.getElem?_append, List.getElem?_append]
  have h1 : (L.take off).length = off := by simp; omega
  rw [h1]
  by_cases a : p < off
  · rw [if_pos a, if_neg (by omega), List.getElem?_take_of_lt a]
  · rw [if_neg a]
    by_cases b : p - off < cs.length
    · rw [if_pos b, if_pos (by omega)]
    · rw [if_neg b, if_neg (by omega), List.getElem?_drop, show off + cs.length + (p - off - cs.length) = p by omega]
theorem fillR_step (w X Y m : Nat) (f : Nat → Nat → Int) (y : Nat) (L : List Int) (hw : X + m ≤ w) (hl : (Y + y) * w + X + m ≤ L.length) : splice (fillR w X Y m f y L) ((Y + y) * w + X) ((List.range m).map (f y)) = fillR w X Y m f (y + 1) L := by
  have hm : ((List.range m).map (f y)).length = m := by simp
  have hsl : (splice (fillR w X Y m f y L) ((Y + y) * w + X) ((List.range m).map (f y))).length = L.length := by rw [length_splice _ _ _ (by rw [fillR_len, hm]; exact hl), fillR_len]
  refine list_ext_getD (by rw [hsl, fillR_len]) (fun p hp => ?_)
  rw [hsl] at hp
  rw [splice_get _ _ _ _ (by rw [fillR_len, hm]; exact hl) (by rw [fillR_len]; exact hp), hm, fillR_get _ _ _ _ _ _ _ _ hp, fillR_get _ _ _ _ _ _ _ _ hp]
  have hr := row_iff w (Y + y) X m p hw
  by_cases hc : (Y + y) * w + X ≤ p ∧ p < (Y + y) * w + X + m
  · obtain ⟨e1, e2, e3⟩ := hr.1 hc
    rw [if_pos hc, if_pos ⟨by omega, by omega, e2, e3⟩]
    have hd := Nat.div_add_mod p w
    rw [e1, Nat.mul_comm] at hd
    have e4 : p - ((Y + y) * w + X) = p % w - X := by omega
    rw [e4, e1, show Y + y - Y = y by omega, List.getD_eq_getElem?_getD, List.getElem?_eq_getElem (by rw [hm]; omega)]
    simp
  · rw [if_neg hc]
    have hc' : ¬ (p / w = Y + y ∧ X ≤ p % w ∧ p % w < X + m) := fun h => hc (hr.2 h)
    by_cases hb : Y ≤ p / w ∧ p / w < Y + y ∧ X ≤ p % w ∧ p % w < X + m
    · rw [if_pos hb, if_pos ⟨hb.1, by omega, hb.2.2⟩]
    · rw [if_neg hb, if_neg (fun h => by
        by_cases e : p / w = Y + y
        · exact hc' ⟨e, h.2.2⟩
        · exact hb ⟨h.1, by omega, h.2.2⟩)]
/-- Is a texel in the field that lies at a place? -/
def inB (w pad : Nat) (r : Rc) (p : Nat) : Prop := r.1 + pad ≤ (p % w : Nat) ∧ ((p % w : Nat) : Int) < r.1 + r.2.2.1 - pad ∧ r.2.1 + pad ≤ (p / w : Nat) ∧ ((p / w : Nat) : Int) < r.2.1 + r.2.2.2 - pad
instance (w pad : Nat) (r : Rc) (p : Nat) : Decidable (inB w pad r p) := by unfold inB; infer_instance
def ixB (w pad : Nat) (r : Rc) (p : Nat) : Nat := (((p / w : Nat) : Int) - (r.2.1 + pad)).toNat * (r.2.2.1 - 2 * pad).toNat + (((p % w : Nat) : Int) - (r.1 + pad)).toNat
def pgF (w pad : Nat) (s : AtS) (p : Nat) : Int := match s.keys.find? (fun k => decide (inB w pad (s.at k) p)) with
  | some k => (s.fd k).getD (ixB w pad (s.at k) p) 0
  | none => 0
def pgL (w h pad : Nat) (s : AtS) : List Int := (List.range (w * h)).map (pgF w pad s)
theorem pgL_len (w h pad : Nat) (s : AtS) : (pgL w h pad s).length = w * h := by simp [pgL]
theorem pgL_get (w h pad : Nat) (s : AtS) (p : Nat) (hp : p < w * h) : (pgL w h pad s).getD p 0 = pgF w pad s p := by
  rw [List.getD_eq_getElem?_getD, List.getElem?_eq_getElem (by rw [pgL_len]; exact hp)]
  simp [pgL]
theorem pg_out {w pad : Nat} {s : AtS} {p : Nat} (h : ∀ k ∈ s.keys, ¬ inB w pad (s.at k) p) : pgF w pad s p = 0 := by
  have : s.keys.find? (fun k => decide (inB w pad (s.at k) p)) = none := by
    rw [List.find?_eq_none]
    intro k hk
    simpa using h k hk
  unfold pgF
  rw [this]
/-- Two places that both have a texel in are one. -/
theorem in_one {w h pad : Nat} {s : AtS} (hI : AtI w h pad s) {p : Nat} {k q : ByteArray} (hk : k ∈ s.keys) (hq : q ∈ s.keys) (h1 : inB w pad (s.at k) p) (h2 : inB w pad (s.at q) p) : k = q := by
  by_cases e : k = q
  · exact e
  · exfalso
    refine hI.ap k hk q hq e ?_
    unfold inB at h1 h2
    exact ⟨by omega, by omega, by omega, by omega⟩
theorem pg_in {w h pad : Nat} {s : AtS} (hI : AtI w h pad s) {p : Nat} {k : ByteArray} (hk : k ∈ s.keys) (h1 : inB w pad (s.at k) p) : pgF w pad s p = (s.fd k).getD (ixB w pad (s.at k) p) 0 := by
  cases hf : s.keys.find? (fun k => decide (inB w pad (s.at k) p)) with
  | none =>
    rw [List.find?_eq_none] at hf
    exact absurd h1 (by simpa using hf k hk)
  | some q =>
    have hq := List.mem_of_find?_eq_some hf
    have h2 : inB w pad (s.at q) p := by simpa using List.find?_some hf
    have e := in_one hI hk hq h1 h2
    subst e
    unfold pgF
    rw [hf]
/-- What lies in a page goes by its keys alone. -/
theorem pg_same {w h pad : Nat} {s t : AtS} (hs : AtI w h pad s) (ht : AtI w h pad t) (hk : ∀ k, k ∈ s.keys ↔ k ∈ t.keys) (ha : ∀ k ∈ s.keys, s.at k = t.at k) (hf : ∀ k ∈ s.keys, s.fd k = t.fd k) (p : Nat) : pgF w pad s p = pgF w pad t p := by
  by_cases he : ∃ k ∈ s.keys, inB w pad (s.at k) p
  · obtain ⟨k, h1, h2⟩ := he
    rw [pg_in hs h1 h2, pg_in ht ((hk k).1 h1) (ha k h1 ▸ h2), ha k h1, hf k h1]
  · rw [pg_out (fun k h1 h2 => he ⟨k, h1, h2⟩), pg_out (fun k h1 h2 => he ⟨k, (hk k).2 h1, (ha k ((hk k).2 h1)).symm ▸ h2⟩)]
theorem pgL_same {w h pad : Nat} {s t : AtS} (hs : AtI w h pad s) (ht : AtI w h pad t) (hk : ∀ k, k ∈ s.keys ↔ k ∈ t.keys) (ha : ∀ k ∈ s.keys, s.at k = t.at k) (hf : ∀ k ∈ s.keys, s.fd k = t.fd k) : pgL w h pad s = pgL w h pad t :=
  List.map_congr_left fun p _ => pg_same hs ht hk ha hf p
/-- A page behind an eviction. -/
theorem pg_ev {w h pad : Nat} {s : AtS} (hI : AtI w h pad s) {k : ByteArray} (hk : k ∈ s.keys) {X Y m n : Nat} (hr : s.at k = ((X : Int), (Y : Int), (m : Int), (n : Int))) : fillR w X Y m (fun _ _ => 0) n (pgL w h pad s) = pgL w h pad (evS w h s k) := by
  have hI' := hI.ev k hk
  have hsub : ∀ u, u ∈ (evS w h s k).keys ↔ u ∈ s.keys ∧ u ≠ k := fun u => by
    show u ∈ s.keys.erase k ↔ _
    rw [hI.nd.mem_erase_iff]; exact ⟨fun h => ⟨h.2, h.1⟩, fun h => ⟨h.2, h.1⟩⟩
  refine list_ext_getD (by rw [fillR_len, pgL_len, pgL_len]) (fun p hp => ?_)
  rw [fillR_len, pgL_len] at hp
  rw [fillR_get _ _ _ _ _ _ _ _ (by rw [pgL_len]; exact hp), pgL_get _ _ _ _ _ hp, pgL_get _ _ _ _ _ hp]
  by_cases hc : Y ≤ p / w ∧ p / w < Y + n ∧ X ≤ p % w ∧ p % w < X + m
  · rw [if_pos hc, pg_out]
    intro u hu hin
    obtain ⟨hu1, hu2⟩ := (hsub u).1 hu
    rw [evS_at hu2] at hin
    refine hI.ap u hu1 k hk hu2 ?_
    rw [hr]
    unfold inB at hin
    simp only
    exact ⟨by omega, by omega, by omega, by omega⟩
  · rw [if_neg hc]
    by_cases he : ∃ u ∈ s.keys, inB w pad (s.at u) p
    · obtain ⟨u, h1, h2⟩ := he
      have hne : u ≠ k := by
        rintro rfl
        rw [hr] at h2
        unfold inB at h2
        simp only at h2
        omega
      rw [pg_in hI h1 h2, pg_in hI' ((hsub u).2 ⟨h1, hne⟩) (by rw [evS_at hne]; exact h2), evS_at hne]; rfl
    · rw [pg_out (fun u h1 h2 => he ⟨u, h1, h2⟩), pg_out (fun u h1 h2 => ?_)]
      obtain ⟨h3, h4⟩ := (hsub u).1 h1
      rw [evS_at h4] at h2
      exact he ⟨u, h3, h2⟩
/-- A page behind a field that was laid into it. -/
theorem pg_put {w h pad : Nat} {s : AtS} (hI : AtI w h pad s) {k : ByteArray} (hk : k ∉ s.keys) {X Y m n : Nat} {t : List Int} (hP : AtI w h pad (putS s k ((X : Int), (Y : Int), (m : Int) + 2 * pad, (n : Int) + 2 * pad) t)) :
    fillR w (X + pad) (Y + pad) m (fun j i => t.getD (j * m + i) 0) n (pgL w h pad s) = pgL w h pad (putS s k ((X : Int), (Y : Int), (m : Int) + 2 * pad, (n : Int) + 2 * pad) t) := by
  have hm' : ∀ u, u ∈ (putS s k ((X : Int), (Y : Int), (m : Int) + 2 * pad, (n : Int) + 2 * pad) t).keys ↔ u ∈ s.keys ∨ u = k := fun u => by
    show u ∈ s.keys ++ [k] ↔ _
    rw [List.mem_append, List.mem_singleton]
  have atO : ∀ u ∈ s.keys, (putS s k ((X : Int), (Y : Int), (m : Int) + 2 * pad, (n : Int) + 2 * pad) t).at u = s.at u := fun u hu => by
    show ((if u = k then some _ else s.pl u)).getD r00 = _
    rw [if_neg (fun e : u = k => hk (e ▸ hu))]; rfl
  have atK : (putS s k ((X : Int), (Y : Int), (m : Int) + 2 * pad, (n : Int) + 2 * pad) t).at k = ((X : Int), (Y : Int), (m : Int) + 2 * pad, (n : Int) + 2 * pad) := by
    show ((if k = k then some _ else s.pl k)).getD r00 = _
    rw [if_pos rfl]; rfl
  have fdO : ∀ u ∈ s.keys, (putS s k ((X : Int), (Y : Int), (m : Int) + 2 * pad, (n : Int) + 2 * pad) t).fd u = s.fd u := fun u hu => if_neg (fun e : u = k => hk (e ▸ hu))
  have fdK : (putS s k ((X : Int), (Y : Int), (m : Int) + 2 * pad, (n : Int) + 2 * pad) t).fd k = t := if_pos rfl
  refine list_ext_getD (by rw [fillR_len, pgL_len, pgL_len]) (fun p hp => ?_)
  rw [fillR_len, pgL_len] at hp
  rw [fillR_get _ _ _ _ _ _ _ _ (by rw [pgL_len]; exact hp), pgL_get _ _ _ _ _ hp, pgL_get _ _ _ _ _ hp]
  by_cases hc : Y + pad ≤ p / w ∧ p / w < Y + pad + n ∧ X + pad ≤ p % w ∧ p % w < X + pad + m
  · have hin : inB w pad ((putS s k ((X : Int), (Y : Int), (m : Int) + 2 * pad, (n : Int) + 2 * pad) t).at k) p := by
      rw [atK]; unfold inB; simp only; omega
    rw [if_pos hc, pg_in hP ((hm' k).2 (.inr rfl)) hin, fdK, atK]
    congr 1
    unfold ixB
    simp only
    have e1 : (((p / w : Nat) : Int) - ((Y : Int) + pad)).toNat = p / w - (Y + pad) := by omega
    have e2 : ((m : Int) + 2 * pad - 2 * pad).toNat = m := by omega
    have e3 : (((p % w : Nat) : Int) - ((X : Int) + pad)).toNat = p % w - (X + pad) := by omega
    rw [e1, e2, e3]
  · rw [if_neg hc]
    by_cases he : ∃ u ∈ s.keys, inB w pad (s.at u) p
    · obtain ⟨u, h1, h2⟩ := he
      rw [pg_in hI h1 h2, pg_in hP ((hm' u).2 (.inl h1)) (by rw [atO u h1]; exact h2), atO u h1, fdO u h1]
    · rw [pg_out (fun u h1 h2 => he ⟨u, h1, h2⟩), pg_out (fun u h1 h2 => ?_)]
      rcases (hm' u).1 h1 with h3 | h3
      · rw [atO u h3] at h2
        exact he ⟨u, h3, h2⟩
      · rw [h3, atK] at h2
        unfold inB at h2
        simp only at h2
        omega
end Go.Proofs.Ytaccppchhljnkaa
