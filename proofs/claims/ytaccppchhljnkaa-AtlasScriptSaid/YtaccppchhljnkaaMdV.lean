/- Atlases: the model's load, whatever comes of it; an atlas and its model side by side. -/
import Derived.Test.YtaccppchhljnkaaMdL
import Derived.Test.YtaccppchhljnkaaMdA
set_option linter.unusedVariables false
set_option linter.unusedSimpArgs false
namespace Go.Proofs.Ytaccppchhljnkaa
open Go.RowKit Go.Shelf Go.Proofs.YtaccppchhljnkaaW.PrintWords Go.Proofs.YtaccppchhljnkaaW.PrintLast Go.Proofs.YtaccppchhljnkaaW.PrintMore
theorem loadM_c (W : World) (b w h pad : Nat) (s : AtS) (F : ByteArray → Option FV) (c : MdC) (hA : MdAt W b w h pad s F c) (k : ByteArray) (hkl : k.size ≤ maxLen) (fw fh : Int) (h1 : -1000000 ≤ fw ∧ fw ≤ 1000000) (h2 : -1000000 ≤ fh ∧ fh ≤ 1000000) (A : Option Addr) (n cap : Nat) (t : List Int) (hn : t.length = n) (hn47 : n ≤ 140737488351232)
    (h8 : ∀ x ∈ t, 0 ≤ x ∧ x ≤ 255) (hgl : s.gone.length ≤ 100000) :
    Calls Try.prog 28 #[.pointer (some ⟨b, 0, none⟩), .string k, Ef fw fh (.slice A n cap)] W fun e w' => e = .returned (.int .i64 (loadV w h pad s k fw fh t).1) ∧ ∃ c' F', MdAt w' b w h pad (loadV w h pad s k fw fh t).2 F' c' ∧ MStep W b c w' c' ∧ (F' = F ∧ (loadV w h pad s k fw fh t).2 = s ∨ FNew k ⟨fw, fh, .slice A n cap⟩ F F' ∧ k ∉ s.keys ∧ ∃ B sF, room w h (fw + 2 * pad) (fh + 2 * pad) s = some (B, sF) ∧ (loadV w h pad s k fw fh t).2 = putS sF k (B.1, B.2, fw + 2 * pad, fh + 2 * pad) t) := by
  unfold loadV
  have hsame : ∀ w', Below W.heap.size W w' → ∃ c' F', MdAt w' b w h pad s F' c' ∧ MStep W b c w' c' ∧ F' = F := fun w' hb => ⟨c, F, hA.below hb, (MStep.refl W b c).below hb, rfl⟩
  by_cases hk : k ∈ s.keys
  · rw [if_pos hk]
    refine (loadM_exist W b w h pad s F c hA k hkl fw fh A n cap h1 h2 hk).mono ?_
    rintro e w' ⟨rfl, hb⟩
    obtain ⟨c', F', g1, g2, g3⟩ := hsame w' hb
    exact ⟨rfl, c', F', g1, g2, .inl ⟨g3, rfl⟩⟩
  · rw [if_neg hk]
    by_cases hbad : badF fw fh t.length
    · rw [if_pos hbad]
      rw [hn] at hbad
      refine (loadM_bad W b w h pad s F c hA k hkl fw fh A n cap h1 h2 hk hbad (by omega)).mono ?_
      rintro e w' ⟨rfl, hb⟩
      obtain ⟨c', F', g1, g2, g3⟩ := hsame w' hb
      exact ⟨rfl, c', F', g1, g2, .inl ⟨g3, rfl⟩⟩
    · rw [if_neg hbad]
      rw [hn] at hbad
      by_cases hsz : (w : Int) < fw + 2 * pad ∨ (h : Int) < fh + 2 * pad
      · rw [if_pos hsz]
        refine (loadM_size W b w h pad s F c hA k hkl fw fh A n cap h1 h2 hk hbad hsz).mono ?_
        rintro e w' ⟨rfl, hb⟩
        obtain ⟨c', F', g1, g2, g3⟩ := hsame w' hb
        exact ⟨rfl, c', F', g1, g2, .inl ⟨g3, rfl⟩⟩
      · rw [if_neg hsz]
        unfold badF at hbad
        have g1 : ¬ fw < 1 := fun h => hbad (.inl h)
        have g2 : ¬ fh < 1 := fun h => hbad (.inr (.inl h))
        have g3 : ¬ 64 < fw := fun h => hbad (.inr (.inr (.inl h)))
        have g4 : ¬ 64 < fh := fun h => hbad (.inr (.inr (.inr (.inl h))))
        have g5 : (n : Int) = fw * fh := Classical.byContradiction fun h => hbad (.inr (.inr (.inr (.inr h))))
        obtain ⟨a, rfl⟩ := Int.eq_ofNat_of_zero_le (show 0 ≤ fw by omega)
        obtain ⟨a', rfl⟩ := Int.eq_ofNat_of_zero_le (show 0 ≤ fh by omega)
        obtain ⟨B, s', hr, _⟩ := room_some (pad := pad) (m := (a : Int) + 2 * pad) (n := (a' : Int) + 2 * pad) (by omega) (by omega) (by omega) (by omega) s.keys.length s rfl hA.inv
        rw [hr]
        refine (loadM_ok W b w h pad s F c hA k hkl a a' A n cap t (by omega) (by omega) (by rw [← Int.natCast_mul] at g5; omega) hn hk (by omega) (by omega) h8 B s' hgl hr).mono ?_
        rintro e w' ⟨rfl, c', F', g6, g7, g8⟩
        exact ⟨rfl, c', F', g6, g7, .inr ⟨g8, hk, B, s', rfl, rfl⟩⟩
/-- The texts of the model's fields. -/
def Tx (w : World) (pad : Nat) (s : AtS) (F : ByteArray → Option FV) (O : Nat → Prop) : Prop :=
  ∀ u x, F u = some x → ∃ A n cap, x.v = .slice A n cap ∧ x.m = (s.at u).2.2.1 - 2 * pad ∧ x.n = (s.at u).2.2.2 - 2 * pad ∧ (s.fd u).length = n ∧ SlO w 5 1 (.slice A n cap) n ((s.fd u).map (Value.int .u8)) ∧ ∀ q, (Value.slice A n cap).ownBlock = some q → ¬ O q
theorem Tx.kept {w w' : World} {pad : Nat} {s : AtS} {F : ByteArray → Option FV} {O O' S : Nat → Prop} (h : Tx w pad s F O) (hk : Kept S w w') (hS : ∀ q, S q → O q) (hO : ∀ q, O' q → O q ∨ w.heap.size ≤ q) : Tx w' pad s F O' := by
  intro u x hx
  obtain ⟨A, n, cap, h1, h2, h3, h4, h5, h6⟩ := h u x hx
  exact ⟨A, n, cap, h1, h2, h3, h4, h5.kept hk (fun q hq e => h6 q hq (hS q e)), fun q hq e => (hO q e).elim (h6 q hq) (fun hl => by have := h5.lt hq; omega)⟩
/-- The same texts, of another state that has these fields alike. -/
theorem Tx.state {w : World} {pad : Nat} {s s' : AtS} {F F' : ByteArray → Option FV} {O : Nat → Prop} (h : Tx w pad s F O) (hF : ∀ u x, F' u = some x → F u = some x ∧ s'.at u = s.at u ∧ s'.fd u = s.fd u) : Tx w pad s' F' O := by
  intro u x hx
  obtain ⟨h1, h2, h3⟩ := hF u x hx
  rw [h2, h3]
  exact h u x h1
/-- An atlas at b and a model at bm; the blocks P are none of their own, and are as they were at W0. -/
def Two (P : Nat → Prop) (W0 w : World) (b bm W H pad : Nat) (sa sm : AtS) (F : ByteArray → Option FV) : Prop :=
  ∃ c cm, AtAt w b W H pad sa c ∧ MdAt w bm W H pad sm F cm ∧ (∀ q, c.own b q → ¬ cm.own bm q) ∧ (∀ q, P q → ¬ c.own b q ∧ ¬ cm.own bm q ∧ q < W0.heap.size) ∧ Kept (fun q => ¬ P q) W0 w ∧ Tx w pad sm F (fun q => c.own b q ∨ cm.own bm q)
section
variable {P Q : Nat → Prop} {W0 w w' : World} {b bm W H pad : Nat} {sa sm sa' sm' : AtS} {F F' : ByteArray → Option FV}
theorem Two.below (h : Two P W0 w b bm W H pad sa sm F) (hb : Below w.heap.size w w') : Two P W0 w' b bm W H pad sa sm F := by
  obtain ⟨c, cm, h1, h2, h3, h4, h5, h6⟩ := h
  exact ⟨c, cm, h1.below hb, h2.below hb, h3, h4, h5.trans (Kept.of_below _ hb), h6.kept (Kept.of_below (fun _ => False) hb) (fun _ h => h.elim) (fun _ h => .inl h)⟩
theorem Two.on (h : Two P W0 w b bm W H pad sa sm F) : AtOn P W0 w b W H pad sa := by
  obtain ⟨c, cm, h1, h2, h3, h4, h5, h6⟩ := h
  exact ⟨c, h1, fun q hq => (h4 q hq).1, fun q hq => (h4 q hq).2.2, h5⟩
theorem Two.get (h : Two P W0 w b bm W H pad sa sm F) {q : Nat} {o : Obj} (hq : P q) (ho : W0.heap[q]? = some o) : w.heap[q]? = some o := h.on.get hq ho
theorem Two.mcell (h : Two P W0 w b bm W H pad sa sm F) : w.cell? ⟨bm, 0, none⟩ = some (.int .i64 W) ∧ w.cell? ⟨bm, 1, none⟩ = some (.int .i64 H) ∧ w.cell? ⟨bm, 2, none⟩ = some (.int .i64 pad) := by
  obtain ⟨c, cm, h1, h2, h3, h4, h5, h6⟩ := h
  obtain ⟨c0, c1, c2, _⟩ := h2.raw.cell
  exact ⟨c0, c1, c2⟩
/-- More blocks that stay: those that were laid since. -/
theorem Two.add (h : Two P W0 w b bm W H pad sa sm F) (hb : Below w.heap.size w w') (hQ : ∀ q, Q q → q < w'.heap.size ∧ (P q ∨ w.heap.size ≤ q)) : Two Q w' w' b bm W H pad sa sm F := by
  obtain ⟨c, cm, h1, h2, h3, h4, h5, h6⟩ := h.below hb
  obtain ⟨c0, cm0, g1, g2, g3, g4, g5, g6⟩ := h
  exact ⟨c0, cm0, g1.below hb, g2.below hb, g3, fun q hq => ⟨fun e => (hQ q hq).2.elim (fun hp => (g4 q hp).1 e) (fun hl => by have := g1.lt e; omega), fun e => (hQ q hq).2.elim (fun hp => (g4 q hp).2.1 e) (fun hl => by have := g2.raw.lt e; omega), (hQ q hq).1⟩, Kept.refl _ _, g6.kept (Kept.of_below (fun _ => False) hb) (fun _ h => h.elim) (fun _ h => .inl h)⟩
theorem Two.base (h : Two P W0 w b bm W H pad sa sm F) (hQ : ∀ q, Q q → P q) : Two Q w w b bm W H pad sa sm F := by
  obtain ⟨c, cm, h1, h2, h3, h4, h5, h6⟩ := h
  exact ⟨c, cm, h1, h2, h3, fun q hq => ⟨(h4 q (hQ q hq)).1, (h4 q (hQ q hq)).2.1, Nat.lt_of_lt_of_le (h4 q (hQ q hq)).2.2 h5.size⟩, Kept.refl _ _, h6⟩
theorem Two.out (h : Two P W0 w b bm W H pad sa sm F) {B : Nat} (hB : ∀ q, q < B → P q) (hs : B ≤ W0.heap.size) : Below B W0 w := h.on.out hB hs
/-- A deed of the atlas. -/
theorem Two.atlas (h : Two P W0 w b bm W H pad sa sm F) {R : Ending → AtS → Prop} {f : Nat} {args : Array Value} (hc : ∀ c, AtAt w b W H pad sa c → (∀ q, P q → ¬ c.own b q) → Calls Try.prog f args w fun e w' => ∃ sa', R e sa' ∧ AtPost w w' b W H pad c sa') :
    Calls Try.prog f args w fun e w' => ∃ sa', R e sa' ∧ Two P W0 w' b bm W H pad sa' sm F := by
  obtain ⟨c, cm, h1, h2, h3, h4, h5, h6⟩ := h
  refine (hc c h1 (fun q hq => (h4 q hq).1)).mono ?_
  rintro e w' ⟨sa', hr, c', k1, k2, k3⟩
  refine ⟨sa', hr, c', cm, k1, h2.kept k2 (fun q hq e => h3 q e hq) (fun q hq => h1.ns hq), fun q hq e => (k3 q hq).elim (fun h => h3 q h e) (fun hl => by have := h2.raw.lt e; omega), fun q hq => ⟨fun e => (k3 q e).elim (h4 q hq).1 (fun hl => by have := (h4 q hq).2.2; have := h5.size; omega), (h4 q hq).2.1, (h4 q hq).2.2⟩, h5.trans (k2.mono (fun q _ hq hp => (h4 q hp).1 hq)), h6.kept k2 (fun q hq => .inl hq) (fun q hq => hq.elim (fun e => (k3 q e).imp .inl id) (fun e => .inl (.inr e)))⟩
/-- A deed of the model. -/
theorem two_m {c : AtC} {cm cm' : MdC} (h1 : AtAt w b W H pad sa c) (h2 : MdAt w bm W H pad sm F cm) (h3 : ∀ q, c.own b q → ¬ cm.own bm q) (h4 : ∀ q, P q → ¬ c.own b q ∧ ¬ cm.own bm q ∧ q < W0.heap.size) (h5 : Kept (fun q => ¬ P q) W0 w) (k1 : MdAt w' bm W H pad sm' F' cm') (k2 : MStep w bm cm w' cm') (hT : Tx w' pad sm' F' (fun q => c.own b q ∨ cm'.own bm q)) :
    Two P W0 w' b bm W H pad sa sm' F' :=
  ⟨c, cm', h1.kept k2.1 (fun q hq e => h3 q hq e) (fun q hq => h2.raw.ns hq), k1, fun q hq e => (k2.2 q e).elim (h3 q hq) (fun hl => by have := h1.lt hq; omega), fun q hq => ⟨(h4 q hq).1, fun e => (k2.2 q e).elim (h4 q hq).2.1 (fun hl => by have := (h4 q hq).2.2; have := h5.size; omega), (h4 q hq).2.2⟩, h5.trans (k2.1.mono (fun q _ hq hp => (h4 q hp).2.1 hq)), hT⟩
theorem two_tx {c : AtC} {cm cm' : MdC} (h6 : Tx w pad sm F (fun q => c.own b q ∨ cm.own bm q)) (k2 : MStep w bm cm w' cm') : Tx w' pad sm F (fun q => c.own b q ∨ cm'.own bm q) :=
  h6.kept k2.1 (fun q hq => .inr hq) (fun q hq => hq.elim (fun e => .inl (.inl e)) (fun e => (k2.2 q e).imp .inr id))
theorem mevict_two (h : Two P W0 w b bm W H pad sa sm F) (k : ByteArray) (hk : k ∈ sm.keys) :
    Calls Try.prog 27 #[.pointer (some ⟨bm, 0, none⟩), .string k] w fun e w' => e = .returned (.tuple #[]) ∧ Two P W0 w' b bm W H pad sa (evS W H sm k) (noF k F) := by
  obtain ⟨c, cm, h1, h2, h3, h4, h5, h6⟩ := h
  refine (evictM_c w bm W H pad sm F cm h2 k hk).mono ?_
  rintro e w' ⟨rfl, cm', k1, k2⟩
  refine ⟨rfl, two_m h1 h2 h3 h4 h5 k1 k2 ((two_tx h6 k2).state fun u x hx => ?_)⟩
  have hx' : (if u = k then none else F u) = some x := hx
  by_cases e : u = k
  · rw [if_pos e] at hx'; cases hx'
  · rw [if_neg e] at hx'
    exact ⟨hx', evS_at e, rfl⟩
/-- What goes for another one: the oldest, in their order. -/
theorem roomN_keep {w h : Nat} {m n : Int} {B : Int × Int} {sF : AtS} : ∀ (j : Nat) (s : AtS), s.keys.Nodup → roomN w h m n j s = some (B, sF) →
    sF.fd = s.fd ∧ (∀ u ∈ sF.keys, u ∈ s.keys ∧ sF.at u = s.at u) ∧ fitS w h sF m n = some B ∧ ∃ i, i ≤ s.keys.length ∧ sF.keys = s.keys.drop i ∧ sF.gone = s.gone ++ s.keys.take i
  | 0, s, _, h => by simp [roomN] at h
  | j + 1, s, hnd, hr => by
    rw [roomN] at hr
    cases hf : fitS w h s m n with
    | some b =>
      rw [hf] at hr
      simp only [Option.some.injEq, Prod.mk.injEq] at hr
      obtain ⟨rfl, rfl⟩ := hr
      exact ⟨rfl, fun u hu => ⟨hu, rfl⟩, hf, 0, Nat.zero_le _, by simp, by simp⟩
    | none =>
      rw [hf] at hr
      cases hks : s.keys with
      | nil => rw [hks] at hr; simp at hr
      | cons k r =>
        rw [hks] at hr
        simp only at hr
        have hke : (evG w h s k).keys = r := by show s.keys.erase k = r; rw [hks]; exact List.erase_cons_head _ _
        have hnd2 : (evG w h s k).keys.Nodup := by rw [hke]; rw [hks] at hnd; exact (List.nodup_cons.1 hnd).2
        obtain ⟨g1, g2, g3, i, g4, g5, g6⟩ := roomN_keep j _ hnd2 hr
        have hkr : k ∉ r := by rw [hks] at hnd; exact (List.nodup_cons.1 hnd).1
        refine ⟨g1, fun u hu => ?_, g3, i + 1, ?_, ?_, ?_⟩
        · obtain ⟨q1, q2⟩ := g2 u hu
          rw [hke] at q1
          have hne : u ≠ k := fun e => hkr (e ▸ q1)
          exact ⟨List.mem_cons_of_mem _ q1, q2.trans (evS_at (w := w) (h := h) hne)⟩
        · rw [hke] at g4; simp only [List.length_cons]; omega
        · rw [g5, hke]; rfl
        · rw [g6, hke]; show (s.gone ++ [k]) ++ r.take i = _; simp
theorem room_keep {w h : Nat} {m n : Int} {B : Int × Int} {sF s : AtS} (hnd : s.keys.Nodup) (hr : room w h m n s = some (B, sF)) :
    sF.fd = s.fd ∧ (∀ u ∈ sF.keys, u ∈ s.keys ∧ sF.at u = s.at u) ∧ fitS w h sF m n = some B ∧ ∃ i, i ≤ s.keys.length ∧ sF.keys = s.keys.drop i ∧ sF.gone = s.gone ++ s.keys.take i := roomN_keep _ s hnd hr
theorem mload_two (h : Two P W0 w b bm W H pad sa sm F) (k : ByteArray) (hkl : k.size ≤ maxLen) (fw fh : Int) (h1 : -1000000 ≤ fw ∧ fw ≤ 1000000) (h2 : -1000000 ≤ fh ∧ fh ≤ 1000000) (A : Option Addr) (n cap : Nat) (t : List Int) (hn : t.length = n) (hn47 : n ≤ 140737488351232)
    (hT : SlO w 5 1 (.slice A n cap) n (t.map (Value.int .u8))) (hap : ∀ q, (Value.slice A n cap).ownBlock = some q → P q) (h8 : ∀ x ∈ t, 0 ≤ x ∧ x ≤ 255) (hgl : sm.gone.length ≤ 100000) :
    Calls Try.prog 28 #[.pointer (some ⟨bm, 0, none⟩), .string k, Ef fw fh (.slice A n cap)] w fun e w' => e = .returned (.int .i64 (loadV W H pad sm k fw fh t).1) ∧ ∃ F', Two P W0 w' b bm W H pad sa (loadV W H pad sm k fw fh t).2 F' := by
  obtain ⟨c, cm, g1, g2, g3, g4, g5, g6⟩ := h
  refine (loadM_c w bm W H pad sm F cm g2 k hkl fw fh h1 h2 A n cap t hn hn47 h8 hgl).mono ?_
  rintro e w' ⟨rfl, cm', F', k1, k2, k3⟩
  have htx := two_tx g6 k2
  refine ⟨rfl, F', two_m g1 g2 g3 g4 g5 k1 k2 ?_⟩
  rcases k3 with ⟨rfl, e2⟩ | ⟨⟨f1, f2⟩, hk, B, sF, hr, e2⟩
  · rw [e2]; exact htx
  · obtain ⟨r1, r2, -, -⟩ := room_keep g2.inv.nd hr
    intro u x hx
    by_cases e : u = k
    · subst e
      rw [f1] at hx
      injection hx with hx
      subst hx
      have a1 : (putS sF u (B.1, B.2, fw + 2 * pad, fh + 2 * pad) t).at u = (B.1, B.2, fw + 2 * pad, fh + 2 * pad) := by simp [AtS.at, putS]
      have a2 : (putS sF u (B.1, B.2, fw + 2 * pad, fh + 2 * pad) t).fd u = t := by simp [putS]
      rw [e2, a1, a2]
      refine ⟨A, n, cap, rfl, by show fw = fw + 2 * (pad : Int) - 2 * pad; omega, by show fh = fh + 2 * (pad : Int) - 2 * pad; omega, hn, hT.kept k2.1 (fun q hq => (g4 q (hap q hq)).2.1), fun q hq e => ?_⟩
      rcases e with e | e
      · exact (g4 q (hap q hq)).1 e
      · exact (k2.2 q e).elim (g4 q (hap q hq)).2.1 (fun hl => by have := hT.lt hq; omega)
    · have hFu := f2 u x hx e
      have hmem : u ∈ (putS sF k (B.1, B.2, fw + 2 * pad, fh + 2 * pad) t).keys := by
        rw [← e2]
        exact (k1.fk u).1 (by rw [hx]; rfl)
      have hmem2 : u ∈ sF.keys := by
        rcases List.mem_append.1 hmem with h | h
        · exact h
        · exact absurd (List.mem_singleton.1 h) e
      have a1 : (putS sF k (B.1, B.2, fw + 2 * pad, fh + 2 * pad) t).at u = sm.at u := by
        rw [← (r2 u hmem2).2]; simp [AtS.at, putS, e]
      have a2 : (putS sF k (B.1, B.2, fw + 2 * pad, fh + 2 * pad) t).fd u = sm.fd u := by
        rw [← r1]; simp [putS, e]
      rw [e2, a1, a2]
      exact htx u x hFu
theorem load_two (h : Two P W0 w b bm W H pad sa sm F) (k : ByteArray) (hkl : k.size ≤ maxLen) (fw fh : Int) (h1 : -1000000 ≤ fw ∧ fw ≤ 1000000) (h2 : -1000000 ≤ fh ∧ fh ≤ 1000000) (A : Option Addr) (n cap : Nat) (t : List Int) (hn : t.length = n) (hn47 : n ≤ 140737488351232)
    (hT : SlO w 5 1 (.slice A n cap) n (t.map (Value.int .u8))) (hap : ∀ q, (Value.slice A n cap).ownBlock = some q → P q) (h8 : ∀ x ∈ t, 0 ≤ x ∧ x ≤ 255) (hgl : sa.gone.length ≤ 100000) :
    Calls Try.prog 15 #[.pointer (some ⟨b, 0, none⟩), .string k, Ef fw fh (.slice A n cap)] w fun e w' => e = .returned (.int .i64 (loadV W H pad sa k fw fh t).1) ∧ Two P W0 w' b bm W H pad (loadV W H pad sa k fw fh t).2 sm F := by
  refine (h.atlas (R := fun e s' => e = .returned (.int .i64 (loadV W H pad sa k fw fh t).1) ∧ s' = (loadV W H pad sa k fw fh t).2) (fun c hc hP => (load_c w b W H pad sa c hc k hkl fw fh h1 h2 A n cap t hn hn47 hT (fun q hq => hP q (hap q hq)) h8 hgl).mono ?_)).mono ?_
  · rintro e w' ⟨rfl, hp⟩; exact ⟨_, ⟨rfl, rfl⟩, hp⟩
  · rintro e w' ⟨s', ⟨rfl, rfl⟩, hp⟩; exact ⟨rfl, hp⟩
theorem touch_two (h : Two P W0 w b bm W H pad sa sm F) (k : ByteArray) :
    Calls Try.prog 20 #[.pointer (some ⟨b, 0, none⟩), .string k] w fun e w' => e = .returned (.bool (decide (k ∈ sa.keys))) ∧ Two P W0 w' b bm W H pad (touchV sa k) sm F := by
  refine (h.atlas (R := fun e s' => e = .returned (.bool (decide (k ∈ sa.keys))) ∧ s' = touchV sa k) (fun c hc hP => (touch_c w b W H pad sa c hc k).mono ?_)).mono ?_
  · rintro e w' ⟨rfl, hp⟩; exact ⟨_, ⟨rfl, rfl⟩, hp⟩
  · rintro e w' ⟨s', ⟨rfl, rfl⟩, hp⟩; exact ⟨rfl, hp⟩
theorem evict_two (h : Two P W0 w b bm W H pad sa sm F) (k : ByteArray) (hk : k.size ≤ maxLen) :
    Calls Try.prog 19 #[.pointer (some ⟨b, 0, none⟩), .string k] w fun e w' => e = .returned (.bool (decide (k ∈ sa.keys))) ∧ Two P W0 w' b bm W H pad (evictV W H sa k) sm F := by
  refine (h.atlas (R := fun e s' => e = .returned (.bool (decide (k ∈ sa.keys))) ∧ s' = evictV W H sa k) (fun c hc hP => (evict_c w b W H pad sa c hc k hk).mono ?_)).mono ?_
  · rintro e w' ⟨rfl, hp⟩; exact ⟨_, ⟨rfl, rfl⟩, hp⟩
  · rintro e w' ⟨s', ⟨rfl, rfl⟩, hp⟩; exact ⟨rfl, hp⟩
end
end Go.Proofs.Ytaccppchhljnkaa
