/- Atlases: what they hold, deed by deed: plain laws. -/
import Derived.Test.YtaccppchhljnkaaSkyQ
import Derived.Test.YtaccppchhljnkaaSkyOf
set_option linter.unusedVariables false
set_option linter.unusedSimpArgs false
namespace Go.Proofs.Ytaccppchhljnkaa
/-- What an atlas holds: its keys, the one used longest ago first; their places, with the space around; their texels; who went for others; the skyline. -/
structure AtS where
  keys : List ByteArray
  pl : ByteArray → Option Rc
  fd : ByteArray → List Int
  gone : List ByteArray
  l : List Int
def r00 : Rc := (0, 0, 0, 0)
def AtS.at (s : AtS) (k : ByteArray) : Rc := (s.pl k).getD r00
def AtS.rcs (s : AtS) : List Rc := s.keys.map s.at
def zeroS (w : Nat) : AtS := ⟨[], fun _ => none, fun _ => [], [], List.replicate w 0⟩
def plE (p : ByteArray → Option Rc) (k : ByteArray) : ByteArray → Option Rc := fun u => if u = k then none else p u
def evS (w h : Nat) (s : AtS) (k : ByteArray) : AtS :=
  ⟨s.keys.erase k, plE s.pl k, s.fd, s.gone, rbL w h ((s.keys.erase k).map fun u => (plE s.pl k u).getD r00)⟩
def evG (w h : Nat) (s : AtS) (k : ByteArray) : AtS := ⟨(evS w h s k).keys, (evS w h s k).pl, s.fd, s.gone ++ [k], (evS w h s k).l⟩
def touchS (s : AtS) (k : ByteArray) : AtS := ⟨s.keys.erase k ++ [k], s.pl, s.fd, s.gone, s.l⟩
def putS (s : AtS) (k : ByteArray) (r : Rc) (t : List Int) : AtS :=
  ⟨s.keys ++ [k], fun u => if u = k then some r else s.pl u, fun u => if u = k then t else s.fd u, s.gone, putN s.l r.1.toNat r.2.2.1.toNat (r.2.1 + r.2.2.2)⟩
def fitS (w h : Nat) (s : AtS) (m n : Int) : Option (Int × Int) := if s.keys.length < 32 then fitQ w h s.l m n else none
def roomN (w h : Nat) (m n : Int) : Nat → AtS → Option ((Int × Int) × AtS)
  | 0, _ => none
  | j + 1, s => match fitS w h s m n with
    | some b => some (b, s)
    | none => match s.keys with
      | [] => none
      | k :: _ => roomN w h m n j (evG w h s k)
def room (w h : Nat) (m n : Int) (s : AtS) : Option ((Int × Int) × AtS) := roomN w h m n (s.keys.length + 1) s
theorem room_fit {w h : Nat} {m n : Int} {s : AtS} {b : Int × Int} (hf : fitS w h s m n = some b) : room w h m n s = some (b, s) := by
  simp only [room, roomN, hf]
theorem room_ev {w h : Nat} {m n : Int} {s : AtS} {k : ByteArray} {r : List ByteArray} (hf : fitS w h s m n = none) (hk : s.keys = k :: r) : room w h m n s = room w h m n (evG w h s k) := by
  have : (evG w h s k).keys.length = r.length := by simp [evG, evS, hk]
  unfold room
  rw [this, hk]
  simp only [roomN, hf, hk, List.length_cons]
/-- Two places do not meet. -/
def apt (p q : Rc) : Prop := ¬ (p.1 < q.1 + q.2.2.1 ∧ q.1 < p.1 + p.2.2.1 ∧ p.2.1 < q.2.1 + q.2.2.2 ∧ q.2.1 < p.2.1 + p.2.2.2)
theorem apt.symm {p q : Rc} (h : apt p q) : apt q p := fun ⟨a, b, c, d⟩ => h ⟨b, a, d, c⟩
/-- What is true of an atlas behind any deeds. -/
structure AtI (w h pad : Nat) (s : AtS) : Prop where
  nd : s.keys.Nodup
  mem : ∀ k, (s.pl k).isSome = true ↔ k ∈ s.keys
  un : Under w h s.l s.rcs
  ap : ∀ k ∈ s.keys, ∀ q ∈ s.keys, k ≠ q → apt (s.at k) (s.at q)
  sz : ∀ k ∈ s.keys, 1 + 2 * (pad : Int) ≤ (s.at k).2.2.1 ∧ 1 + 2 * (pad : Int) ≤ (s.at k).2.2.2 ∧ ((s.fd k).length : Int) = ((s.at k).2.2.1 - 2 * pad) * ((s.at k).2.2.2 - 2 * pad)
  by8 : ∀ k ∈ s.keys, ∀ x ∈ s.fd k, 0 ≤ x ∧ x ≤ 255
  ll : s.l.length = w
  ys : ∀ y ∈ s.l, 0 ≤ y ∧ y ≤ h
  lz : s.keys = [] → s.l = List.replicate w 0
  le : s.keys.length ≤ 32
theorem AtI.pg {w h pad : Nat} {s : AtS} (hI : AtI w h pad s) (k : ByteArray) (hk : k ∈ s.keys) : 0 ≤ (s.at k).1 ∧ 1 ≤ (s.at k).2.2.1 ∧ (s.at k).1 + (s.at k).2.2.1 ≤ w ∧ 0 ≤ (s.at k).2.1 ∧ 1 ≤ (s.at k).2.2.2 ∧ (s.at k).2.1 + (s.at k).2.2.2 ≤ h := by
  obtain ⟨a, b, c, d, e, f, _⟩ := hI.un (s.at k) (List.mem_map.2 ⟨k, hk, rfl⟩)
  exact ⟨a, b, c, d, e, f⟩
theorem AtI.hasPl {w h pad : Nat} {s : AtS} (hI : AtI w h pad s) {k : ByteArray} (hk : k ∈ s.keys) : s.pl k = some (s.at k) := by
  have := (hI.mem k).2 hk
  obtain ⟨r, hr⟩ := Option.isSome_iff_exists.1 this
  rw [hr, AtS.at, hr]; rfl
theorem AtI.noPl {w h pad : Nat} {s : AtS} (hI : AtI w h pad s) {k : ByteArray} (hk : k ∉ s.keys) : s.pl k = none := by
  have := mt (hI.mem k).1 hk
  simpa using this
theorem rbF_ge (h x : Int) : ∀ (rs : List Rc) (y : Int), y ≤ rbF h x y rs
  | [], y => Int.le_refl _
  | q :: rs, y => by
    rw [rbF]
    refine Int.le_trans ?_ (rbF_ge h x rs _)
    split <;> omega
theorem rbF_in (h x : Int) : ∀ (rs : List Rc) (y : Int) (q : Rc), q ∈ rs → q.1 ≤ x → x - q.1 < q.2.2.1 → min h (q.2.1 + q.2.2.2) ≤ rbF h x y rs
  | [], y, q, hq, _, _ => by simp at hq
  | p :: rs, y, q, hq, h1, h2 => by
    rw [rbF]
    rcases List.mem_cons.1 hq with rfl | hq
    · refine Int.le_trans ?_ (rbF_ge h x rs _)
      rw [if_pos ⟨h1, h2⟩]; omega
    · exact rbF_in h x rs _ q hq h1 h2
theorem rbL_get (w h : Nat) (rs : List Rc) (i : Nat) (hi : i < w) : (rbL w h rs).getD i 0 = rbF h i 0 rs := by
  have hlw : i < (rbL w h rs).length := by simp [rbL]; exact hi
  rw [List.getD_eq_getElem?_getD, List.getElem?_eq_getElem hlw]
  simp [rbL]
theorem rbL_len (w h : Nat) (rs : List Rc) : (rbL w h rs).length = w := by simp [rbL]
theorem rbL_ys (w h : Nat) (rs : List Rc) : ∀ y ∈ rbL w h rs, 0 ≤ y ∧ y ≤ (h : Int) := by
  intro y hy
  obtain ⟨x, _, rfl⟩ := List.mem_map.1 hy
  exact rb_bound h x (by omega) rs 0 (by omega) (by omega)
theorem rbL_nil (w h : Nat) : rbL w h [] = List.replicate w 0 := by
  apply List.ext_getElem (by simp [rbL])
  intro i h1 h2
  simp [rbL, rbF]
theorem under_rb {w h : Nat} {rs : List Rc} (hp : ∀ q ∈ rs, 0 ≤ q.1 ∧ 1 ≤ q.2.2.1 ∧ q.1 + q.2.2.1 ≤ w ∧ 0 ≤ q.2.1 ∧ 1 ≤ q.2.2.2 ∧ q.2.1 + q.2.2.2 ≤ (h : Int)) : Under w h (rbL w h rs) rs := by
  intro q hq
  obtain ⟨a, b, c, d, e, f⟩ := hp q hq
  refine ⟨a, b, c, d, e, f, fun i h1 h2 => ?_⟩
  rw [rbL_get w h rs i (by omega)]
  have := rbF_in h i rs 0 q hq h1 (by omega)
  omega
theorem plE_ne {p : ByteArray → Option Rc} {k u : ByteArray} (h : u ≠ k) : plE p k u = p u := if_neg h
theorem plE_eq {p : ByteArray → Option Rc} {k : ByteArray} : plE p k k = none := if_pos rfl
theorem evS_at {w h : Nat} {s : AtS} {k u : ByteArray} (hu : u ≠ k) : (evS w h s k).at u = s.at u := by
  show (plE s.pl k u).getD r00 = _
  rw [plE_ne hu]; rfl
theorem AtI.ev {w h pad : Nat} {s : AtS} (hI : AtI w h pad s) (k : ByteArray) (hk : k ∈ s.keys) : AtI w h pad (evS w h s k) := by
  have hsub : ∀ u, u ∈ s.keys.erase k ↔ u ∈ s.keys ∧ u ≠ k := fun u => by
    rw [hI.nd.mem_erase_iff]; exact ⟨fun h => ⟨h.2, h.1⟩, fun h => ⟨h.2, h.1⟩⟩
  have hat : ∀ u ∈ s.keys.erase k, (evS w h s k).at u = s.at u := fun u hu => evS_at ((hsub u).1 hu).2
  have hun : Under w h (evS w h s k).l (evS w h s k).rcs := by
    refine under_rb fun q hq => ?_
    obtain ⟨u, hu, rfl⟩ := List.mem_map.1 hq
    have := hI.pg u ((hsub u).1 hu).1
    rw [← hat u hu] at this
    exact this
  refine ⟨hI.nd.erase k, fun u => ?_, hun, fun u hu q hq hne => ?_, fun u hu => ?_, fun u hu => ?_, rbL_len _ _ _, rbL_ys _ _ _, fun h0 => ?_, ?_⟩
  · show (plE s.pl k u).isSome = true ↔ u ∈ s.keys.erase k
    rw [hsub]
    by_cases h : u = k
    · subst h; rw [plE_eq]; simp
    · rw [plE_ne h, hI.mem]; simp [h]
  · rw [hat u hu, hat q hq]
    exact hI.ap u ((hsub u).1 hu).1 q ((hsub q).1 hq).1 hne
  · rw [hat u hu]
    exact hI.sz u ((hsub u).1 hu).1
  · exact hI.by8 u ((hsub u).1 hu).1
  · have h1 : s.keys.erase k = [] := h0
    show rbL w h ((s.keys.erase k).map _) = _
    rw [h1]; exact rbL_nil w h
  · exact Nat.le_trans List.length_erase_le hI.le
theorem AtI.gone {w h pad : Nat} {s : AtS} (hI : AtI w h pad s) (g : List ByteArray) : AtI w h pad ⟨s.keys, s.pl, s.fd, g, s.l⟩ := ⟨hI.nd, hI.mem, hI.un, hI.ap, hI.sz, hI.by8, hI.ll, hI.ys, hI.lz, hI.le⟩
theorem AtI.evG {w h pad : Nat} {s : AtS} (hI : AtI w h pad s) (k : ByteArray) (hk : k ∈ s.keys) : AtI w h pad (evG w h s k) := (hI.ev k hk).gone _
theorem AtI.touch {w h pad : Nat} {s : AtS} (hI : AtI w h pad s) (k : ByteArray) (hk : k ∈ s.keys) : AtI w h pad (touchS s k) := by
  have hm : ∀ u, u ∈ s.keys.erase k ++ [k] ↔ u ∈ s.keys := fun u => by
    rw [List.mem_append, hI.nd.mem_erase_iff, List.mem_singleton]
    constructor
    · rintro (h | h)
      · exact h.2
      · exact h ▸ hk
    · intro h
      by_cases e : u = k
      · exact .inr e
      · exact .inl ⟨e, h⟩
  refine ⟨?_, fun u => (hI.mem u).trans (hm u).symm, fun q hq => ?_, fun u hu q hq => hI.ap u ((hm u).1 hu) q ((hm q).1 hq), fun u hu => hI.sz u ((hm u).1 hu), fun u hu => hI.by8 u ((hm u).1 hu), hI.ll, hI.ys, fun h0 => ?_, ?_⟩
  · show (s.keys.erase k ++ [k]).Nodup
    rw [List.nodup_append]
    exact ⟨hI.nd.erase k, by simp, fun a ha b hb => by rw [List.mem_singleton.1 hb]; exact (hI.nd.mem_erase_iff.1 ha).1⟩
  · obtain ⟨u, hu, rfl⟩ := List.mem_map.1 hq
    exact hI.un _ (List.mem_map.2 ⟨u, (hm u).1 hu, rfl⟩)
  · have h0' : s.keys.erase k ++ [k] = [] := h0
    simp at h0'
  · have := hI.le
    show (s.keys.erase k ++ [k]).length ≤ 32
    rw [List.length_append, List.length_erase_of_mem hk]
    have : 0 < s.keys.length := List.length_pos_of_mem hk
    simp; omega
theorem fitS_Q {w h : Nat} {s : AtS} {m n : Int} {b : Int × Int} (hf : fitS w h s m n = some b) : s.keys.length < 32 ∧ fitQ w h s.l m n = some b := by
  unfold fitS at hf
  split at hf
  · exact ⟨by assumption, hf⟩
  · cases hf
theorem fit_nn {w h : Nat} {l : List Int} {m n : Int} {b : Int × Int} (hf : fitQ w h l m n = some b) (hl : ∀ y ∈ l, 0 ≤ y ∧ y ≤ (h : Int)) : 0 ≤ b.2 := by
  obtain ⟨_, _, _, _, _, _, h7, _⟩ := fit_facts hf
  have := (mx_bound b.1 m h l 0 0 (fun y hy => (hl y hy).2) (by omega)).1
  omega
theorem AtI.put {w h pad : Nat} {s : AtS} (hI : AtI w h pad s) {k : ByteArray} (hk : k ∉ s.keys) {m n : Int} {b : Int × Int} (hf : fitS w h s m n = some b) (hm : 1 + 2 * (pad : Int) ≤ m) (hn : 1 + 2 * (pad : Int) ≤ n)
    {t : List Int} (ht : (t.length : Int) = (m - 2 * pad) * (n - 2 * pad)) (h8 : ∀ x ∈ t, 0 ≤ x ∧ x ≤ 255) : AtI w h pad (putS s k (b.1, b.2, m, n) t) := by
  obtain ⟨hl32, hq⟩ := fitS_Q hf
  have hb0 := fit_nn hq hI.ys
  obtain ⟨f1, f2, f3, f4, f5, f6, f7, f8⟩ := fit_facts hq
  have hov := fun i h1 h2 => fit_over hq hI.ll i h1 h2
  have hu := hI.un.put hI.ll f5 f1 f6 hb0 f2 f8 hov
  have atO : ∀ u ∈ s.keys, (putS s k (b.1, b.2, m, n) t).at u = s.at u := fun u hu => by
    show ((if u = k then some (b.1, b.2, m, n) else s.pl u)).getD r00 = _
    rw [if_neg (fun e : u = k => hk (e ▸ hu))]; rfl
  have atK : (putS s k (b.1, b.2, m, n) t).at k = (b.1, b.2, m, n) := by
    show ((if k = k then some (b.1, b.2, m, n) else s.pl k)).getD r00 = _
    rw [if_pos rfl]; rfl
  have fdO : ∀ u ∈ s.keys, (putS s k (b.1, b.2, m, n) t).fd u = s.fd u := fun u hu => if_neg (fun e : u = k => hk (e ▸ hu))
  have fdK : (putS s k (b.1, b.2, m, n) t).fd k = t := if_pos rfl
  have hrc : (putS s k (b.1, b.2, m, n) t).rcs = s.rcs ++ [(b.1, b.2, m, n)] := by
    show (s.keys ++ [k]).map _ = _
    rw [List.map_append, List.map_singleton, atK]
    exact congrArg (· ++ _) (List.map_congr_left atO)
  have hapk : ∀ u ∈ s.keys, apt (b.1, b.2, m, n) (s.at u) := fun u hu ⟨c1, c2, c3, c4⟩ =>
    hI.un.apart hov f5 f1 (List.mem_map.2 ⟨u, hu, rfl⟩) c1 c2 c3
  have hm' : ∀ u, u ∈ s.keys ++ [k] ↔ u ∈ s.keys ∨ u = k := fun u => by rw [List.mem_append, List.mem_singleton]
  refine ⟨?_, fun u => ?_, ?_, fun u hu q hq hne => ?_, fun u hu => ?_, fun u hu => ?_, ?_, ?_, fun h0 => ?_, ?_⟩
  · show (s.keys ++ [k]).Nodup
    rw [List.nodup_append]
    exact ⟨hI.nd, by simp, fun a ha c hc => by rw [List.mem_singleton.1 hc]; exact fun e => hk (e ▸ ha)⟩
  · show ((if u = k then some (b.1, b.2, m, n) else s.pl u)).isSome = true ↔ u ∈ s.keys ++ [k]
    rw [hm']
    by_cases e : u = k
    · rw [if_pos e]; simp [e]
    · rw [if_neg e, hI.mem]; simp [e]
  · rw [hrc]; exact hu
  · rcases (hm' u).1 hu with hu | hu <;> rcases (hm' q).1 hq with hq | hq
    · rw [atO u hu, atO q hq]; exact hI.ap u hu q hq hne
    · rw [atO u hu, hq, atK]; exact (hapk u hu).symm
    · rw [atO q hq, hu, atK]; exact hapk q hq
    · exact absurd (hu.trans hq.symm) hne
  · rcases (hm' u).1 hu with hu | hu
    · rw [atO u hu, fdO u hu]; exact hI.sz u hu
    · rw [hu, atK, fdK]; exact ⟨hm, hn, ht⟩
  · rcases (hm' u).1 hu with hu | hu
    · rw [fdO u hu]; exact hI.by8 u hu
    · rw [hu, fdK]; exact h8
  · show (putN _ _ _ _).length = w
    rw [putN_len _ _ _ _ (by have := hI.ll; show b.1.toNat + m.toNat ≤ _; omega)]; exact hI.ll
  · exact putN_ys s.l _ _ _ h hI.ys ⟨by show 0 ≤ b.2 + n; omega, f8⟩
  · have h0' : s.keys ++ [k] = [] := h0
    simp at h0'
  · show (s.keys ++ [k]).length ≤ 32
    simp; omega
theorem fit_zeros (w h : Nat) (m n : Int) (hm : 1 ≤ m) (hn : 1 ≤ n) (hmw : m ≤ w) (hnh : n ≤ h) : fitQ w h (List.replicate w 0) m n = some (0, 0) := by
  have hw : 0 < w := by omega
  have h0 : mxF 0 m 0 0 (List.replicate w (0 : Int)) = 0 := by
    have := mx_bound 0 m 0 (List.replicate w (0 : Int)) 0 0 (fun y hy => by rw [List.eq_of_mem_replicate hy]; omega) (by omega)
    omega
  unfold fitQ
  rw [if_neg (by omega), steps_zeros w hw]
  simp only [fitF]
  rw [h0, if_pos ⟨by omega, by omega, fun b hb => by cases hb⟩]
theorem AtI.zero (w h pad : Nat) : AtI w h pad (zeroS w) :=
  ⟨List.nodup_nil, fun k => by simp [zeroS], fun q hq => by simp [zeroS, AtS.rcs] at hq, fun u hu => by simp [zeroS] at hu, fun u hu => by simp [zeroS] at hu, fun u hu => by simp [zeroS] at hu, by simp [zeroS], fun y hy => by rw [List.eq_of_mem_replicate hy]; omega, fun _ => rfl, by simp [zeroS]⟩
/-- There comes to be room: the keys that went were the first ones. -/
theorem room_some {w h pad : Nat} {m n : Int} (hm : 1 ≤ m) (hn : 1 ≤ n) (hmw : m ≤ w) (hnh : n ≤ h) : ∀ (j : Nat) (s : AtS), s.keys.length = j → AtI w h pad s →
    ∃ b s', room w h m n s = some (b, s') ∧ AtI w h pad s' ∧ fitS w h s' m n = some b ∧ s'.fd = s.fd ∧ (∃ i, i ≤ s.keys.length ∧ s'.keys = s.keys.drop i ∧ s'.gone = s.gone ++ s.keys.take i) ∧ (∀ u, u ∈ s'.keys → s'.pl u = s.pl u) ∧ (fitS w h s m n = none → s'.keys.length < s.keys.length) := by
  intro j
  induction j with
  | zero =>
    intro s hj hI
    have h0 : s.keys = [] := List.eq_nil_of_length_eq_zero hj
    have hf : fitS w h s m n = some (0, 0) := by
      unfold fitS
      rw [if_pos (by omega), hI.lz h0, fit_zeros w h m n hm hn hmw hnh]
    exact ⟨_, s, room_fit hf, hI, hf, rfl, ⟨0, by omega, by simp, by simp⟩, fun _ _ => rfl, fun h => by rw [hf] at h; cases h⟩
  | succ j ih =>
    intro s hj hI
    cases hf : fitS w h s m n with
    | some b => exact ⟨b, s, room_fit hf, hI, hf, rfl, ⟨0, by omega, by simp, by simp⟩, fun _ _ => rfl, fun h => by cases h⟩
    | none =>
      obtain ⟨k, r, hk⟩ : ∃ k r, s.keys = k :: r := by
        cases hs : s.keys with
        | nil => rw [hs] at hj; simp at hj
        | cons k r => exact ⟨k, r, rfl⟩
      have hkk : k ∈ s.keys := by rw [hk]; simp
      have e1 : (evG w h s k).keys = r := by simp [evG, evS, hk]
      obtain ⟨b, s', h1, h2, h3, h4, ⟨i, h5, h6, h7⟩, h8, _⟩ := ih (evG w h s k) (by rw [e1]; rw [hk] at hj; simpa using hj) (hI.evG k hkk)
      rw [e1] at h5 h6 h7
      have hnk : k ∉ r := by have := hI.nd; rw [hk] at this; exact (List.nodup_cons.1 this).1
      refine ⟨b, s', by rw [room_ev hf hk]; exact h1, h2, h3, h4, ⟨i + 1, by rw [hk]; simpa using h5, by rw [h6, hk]; rfl, ?_⟩, fun u hu => ?_, fun _ => ?_⟩
      · rw [h7, hk]
        show (s.gone ++ [k]) ++ _ = _
        simp
      · rw [h8 u hu]
        show plE s.pl k u = _
        refine plE_ne fun e => hnk ?_
        rw [h6, e] at hu
        exact List.mem_of_mem_drop hu
      · rw [h6, hk, List.length_drop]; simp; omega
end Go.Proofs.Ytaccppchhljnkaa
