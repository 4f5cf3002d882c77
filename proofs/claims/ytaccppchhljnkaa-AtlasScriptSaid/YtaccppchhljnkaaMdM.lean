/- Atlases: the statement's model of one in memory. -/
import Derived.Test.YtaccppchhljnkaaMapE
import Derived.Test.YtaccppchhljnkaaAtE
set_option linter.unusedVariables false
set_option linter.unusedSimpArgs false
namespace Go.Proofs.Ytaccppchhljnkaa
open Go.RowKit Go.Proofs.YtaccppchhljnkaaW.PrintWords Go.Proofs.YtaccppchhljnkaaW.PrintLast Go.Proofs.YtaccppchhljnkaaW.PrintMore
/-- A field as the model keeps it. -/
structure FV where
  m : Int
  n : Int
  v : Value
def Ev (x : FV) : Value := Ef x.m x.n x.v
structure MdC where
  g : Nat
  vk : Value
  bP : Nat
  bF : Nat
  vg : Value
def MdC.cs (c : MdC) (w h pad : Nat) : Array Value := #[.int .i64 w, .int .i64 h, .int .i64 pad, .pointer (some ⟨c.g, 0, none⟩), c.vk, .map (some c.bP), .map (some c.bF), c.vg]
/-- The blocks that a model may write. -/
def MdC.own (c : MdC) (b : Nat) (k : Nat) : Prop := k = b ∨ k = c.g ∨ k = c.bP ∨ k = c.bF ∨ c.vk.ownBlock = some k ∨ c.vg.ownBlock = some k
structure MdRaw (W : World) (b w h pad : Nat) (c : MdC) (l : List Int) (ks : List ByteArray) (f : ByteArray → Option Rc) (n : Nat) (F : ByteArray → Option FV) (nF : Nat) (gn : List ByteArray) : Prop where
  blk : W.heap[b]? = some (.cells (c.cs w h pad) 33 (0, 0))
  sky : SkyAt W c.g w h l
  ks : SlO W 9 1 c.vk ks.length (ks.map Value.string)
  mp : MapIs Try.prog 9 W c.bP Lk Er n f n
  mf : MapIs Try.prog 9 W c.bF Lk Ev nF F nF
  gs : SlO W 9 1 c.vg gn.length (gn.map Value.string)
  kg : ∀ q, c.vk.ownBlock = some q → c.vg.ownBlock ≠ some q
  pf : c.bP ≠ c.bF
section
variable {W W' : World} {b w h pad : Nat} {c : MdC} {l : List Int} {ks gn : List ByteArray} {f : ByteArray → Option Rc} {n : Nat} {F : ByteArray → Option FV} {nF : Nat}
theorem MdRaw.obj (a : MdRaw W b w h pad c l ks f n F nF gn) {k : Nat} (hk : c.own b k) : ∃ o, W.heap[k]? = some o ∧ ∀ cells, o ≠ .cells cells 84 (0, 0) := by
  rcases hk with rfl | rfl | rfl | rfl | hk | hk
  · exact ⟨_, a.blk, fun cells e => by injection e with _ e; exact absurd e (by decide)⟩
  · obtain ⟨u, hu, _⟩ := a.sky.row
    exact ⟨_, hu, fun cells e => by injection e with _ e; exact absurd e (by decide)⟩
  · obtain ⟨es, clock, hm⟩ := a.mp.get
    exact ⟨_, hm, fun cells e => by cases e⟩
  · obtain ⟨es, clock, hm⟩ := a.mf.get
    exact ⟨_, hm, fun cells e => by cases e⟩
  · obtain ⟨cur, hc⟩ := a.ks.blk hk
    exact ⟨_, hc, fun cells e => by injection e with _ e; exact absurd e (by decide)⟩
  · obtain ⟨cur, hc⟩ := a.gs.blk hk
    exact ⟨_, hc, fun cells e => by injection e with _ e; exact absurd e (by decide)⟩
theorem MdRaw.lt (a : MdRaw W b w h pad c l ks f n F nF gn) {k : Nat} (hk : c.own b k) : k < W.heap.size := by
  obtain ⟨o, ho, _⟩ := a.obj hk
  exact lt_in ho
theorem MdRaw.ns (a : MdRaw W b w h pad c l ks f n F nF gn) {k : Nat} (hk : c.own b k) : ∀ cells, W.heap[k]? ≠ some (.cells cells 84 (0, 0)) := fun cells e => by
  obtain ⟨o, ho, hn⟩ := a.obj hk
  rw [ho] at e
  injection e with e
  exact hn cells e
theorem MdRaw.kept {S : Nat → Prop} (a : MdRaw W b w h pad c l ks f n F nF gn) (hk : Kept S W W') (hd : ∀ k, c.own b k → ¬ S k) (hn : ∀ k, S k → ∀ cells, W.heap[k]? ≠ some (.cells cells 84 (0, 0))) : MdRaw W' b w h pad c l ks f n F nF gn :=
  ⟨hk.get a.blk (hd _ (.inl rfl)), a.sky.kept hk (hd _ (.inr (.inl rfl))) hn, a.ks.kept hk (fun q hq => hd _ (.inr (.inr (.inr (.inr (.inl hq)))))), a.mp.kept hk (hd _ (.inr (.inr (.inl rfl)))), a.mf.kept hk (hd _ (.inr (.inr (.inr (.inl rfl))))), a.gs.kept hk (fun q hq => hd _ (.inr (.inr (.inr (.inr (.inr hq)))))), a.kg, a.pf⟩
theorem MdRaw.below (a : MdRaw W b w h pad c l ks f n F nF gn) (hb : Below W.heap.size W W') : MdRaw W' b w h pad c l ks f n F nF gn :=
  a.kept (Kept.of_below (fun _ => False) hb) (fun _ _ h => h) (fun _ h => h.elim)
structure MdNe (b : Nat) (c : MdC) : Prop where
  bg : b ≠ c.g
  bp : b ≠ c.bP
  bf : b ≠ c.bF
  gp : c.g ≠ c.bP
  gf : c.g ≠ c.bF
  k4 : ∀ q, c.vk.ownBlock = some q → q ≠ b ∧ q ≠ c.g ∧ q ≠ c.bP ∧ q ≠ c.bF
  g4 : ∀ q, c.vg.ownBlock = some q → q ≠ b ∧ q ≠ c.g ∧ q ≠ c.bP ∧ q ≠ c.bF
theorem MdRaw.apart (a : MdRaw W b w h pad c l ks f n F nF gn) : MdNe b c := by
  obtain ⟨u, hu, _⟩ := a.sky.row
  obtain ⟨es, clock, hm⟩ := a.mp.get
  obtain ⟨es', clock', hm'⟩ := a.mf.get
  refine ⟨obj_ne a.blk hu (cells_ne (by decide)), obj_ne a.blk hm (by simp), obj_ne a.blk hm' (by simp), obj_ne hu hm (by simp), obj_ne hu hm' (by simp), fun q hq => ?_, fun q hq => ?_⟩
  · obtain ⟨cur, hc⟩ := a.ks.blk hq
    exact ⟨obj_ne hc a.blk (cells_ne (by decide)), obj_ne hc hu (cells_ne (by decide)), obj_ne hc hm (by simp), obj_ne hc hm' (by simp)⟩
  · obtain ⟨cur, hc⟩ := a.gs.blk hq
    exact ⟨obj_ne hc a.blk (cells_ne (by decide)), obj_ne hc hu (cells_ne (by decide)), obj_ne hc hm (by simp), obj_ne hc hm' (by simp)⟩
theorem MdRaw.cell (a : MdRaw W b w h pad c l ks f n F nF gn) : W.cell? ⟨b, 0, none⟩ = some (.int .i64 w) ∧ W.cell? ⟨b, 1, none⟩ = some (.int .i64 h) ∧ W.cell? ⟨b, 2, none⟩ = some (.int .i64 pad) ∧ W.cell? ⟨b, 3, none⟩ = some (.pointer (some ⟨c.g, 0, none⟩)) ∧ W.cell? ⟨b, 4, none⟩ = some c.vk ∧ W.cell? ⟨b, 5, none⟩ = some (.map (some c.bP)) ∧ W.cell? ⟨b, 6, none⟩ = some (.map (some c.bF)) ∧ W.cell? ⟨b, 7, none⟩ = some c.vg :=
  ⟨(blk_cell a.blk 0).trans rfl, (blk_cell a.blk 1).trans rfl, (blk_cell a.blk 2).trans rfl, (blk_cell a.blk 3).trans rfl, (blk_cell a.blk 4).trans rfl, (blk_cell a.blk 5).trans rfl, (blk_cell a.blk 6).trans rfl, (blk_cell a.blk 7).trans rfl⟩
def MdC.setK (c : MdC) (v : Value) : MdC := ⟨c.g, v, c.bP, c.bF, c.vg⟩
def MdC.setG (c : MdC) (v : Value) : MdC := ⟨c.g, c.vk, c.bP, c.bF, v⟩
def MdC.setS (c : MdC) (g : Nat) : MdC := ⟨g, c.vk, c.bP, c.bF, c.vg⟩
theorem MdC.cs_setK (c : MdC) (w h pad : Nat) (v : Value) : (c.cs w h pad).setIfInBounds 4 v = (c.setK v).cs w h pad := rfl
theorem MdC.cs_setG (c : MdC) (w h pad : Nat) (v : Value) : (c.cs w h pad).setIfInBounds 7 v = (c.setG v).cs w h pad := rfl
theorem MdC.cs_setS (c : MdC) (w h pad g : Nat) : (c.cs w h pad).setIfInBounds 3 (.pointer (some ⟨g, 0, none⟩)) = (c.setS g).cs w h pad := rfl
/-- The keys are written anew, and stored. -/
theorem MdRaw.setKeys (a : MdRaw W b w h pad c l ks f n F nF gn) {ks' : List ByteArray} {v : Value} (hk : Kept (fun x => c.vk.ownBlock = some x) W W') (hs : SlO W' 9 1 v ks'.length (ks'.map Value.string)) (hl : ∀ q, v.ownBlock = some q → c.vk.ownBlock = some q ∨ W.heap.size ≤ q) :
    MdRaw (W'.setCell ⟨b, 4, none⟩ v) b w h pad (c.setK v) l ks' f n F nF gn ∧ Kept (c.own b) W (W'.setCell ⟨b, 4, none⟩ v) ∧ ∀ k, (c.setK v).own b k → c.own b k ∨ W.heap.size ≤ k := by
  obtain ⟨n1, n2, n3, n4, n5, n6, n7⟩ := a.apart
  have hk2 : Kept (fun x => x = b ∨ c.vk.ownBlock = some x) W (W'.setCell ⟨b, 4, none⟩ v) := (hk.mono (fun _ _ h => .inr h)).trans (Kept.setCell _ W' ⟨b, 4, none⟩ v (.inl rfl))
  have hnb : ∀ q, v.ownBlock = some q → q ≠ b := fun q hq e => (hl q hq).elim (fun h => (n6 q h).1 e) (fun h => by have := a.lt (k := b) (.inl rfl); omega)
  refine ⟨⟨?_, a.sky.kept hk2 (fun e => e.elim (fun e => n1 e.symm) (fun e => (n6 _ e).2.1 rfl)) (fun k e => a.ns (e.elim (fun e => .inl e) (fun e => .inr (.inr (.inr (.inr (.inl e))))))), hs.kept (Kept.setCell (· = b) W' ⟨b, 4, none⟩ v rfl) hnb, a.mp.kept hk2 (fun e => e.elim (fun e => n2 e.symm) (fun e => (n6 _ e).2.2.1 rfl)), a.mf.kept hk2 (fun e => e.elim (fun e => n3 e.symm) (fun e => (n6 _ e).2.2.2 rfl)), a.gs.kept hk2 (fun q hq e => e.elim (n7 q hq).1 (fun e => a.kg q e hq)), fun q hq e => ?_, a.pf⟩, hk2.mono (fun q _ e => e.elim (fun e => .inl e) (fun e => .inr (.inr (.inr (.inr (.inl e)))))), fun k hk' => ?_⟩
  · rw [heap_setCell_in _ (hk.get a.blk (fun e => (n6 _ e).1 rfl)), MdC.cs_setK]
  · rcases hl q hq with h' | h'
    · exact a.kg q h' e
    · have := a.lt (k := q) (.inr (.inr (.inr (.inr (.inr e)))))
      omega
  · rcases hk' with h1 | h1 | h1 | h1 | h1 | h1
    · exact .inl (.inl h1)
    · exact .inl (.inr (.inl h1))
    · exact .inl (.inr (.inr (.inl h1)))
    · exact .inl (.inr (.inr (.inr (.inl h1))))
    · exact (hl k h1).imp (fun h => .inr (.inr (.inr (.inr (.inl h))))) id
    · exact .inl (.inr (.inr (.inr (.inr (.inr h1)))))
theorem MdRaw.setGone (a : MdRaw W b w h pad c l ks f n F nF gn) {gn' : List ByteArray} {v : Value} (hk : Kept (fun x => c.vg.ownBlock = some x) W W') (hs : SlO W' 9 1 v gn'.length (gn'.map Value.string)) (hl : ∀ q, v.ownBlock = some q → c.vg.ownBlock = some q ∨ W.heap.size ≤ q) :
    MdRaw (W'.setCell ⟨b, 7, none⟩ v) b w h pad (c.setG v) l ks f n F nF gn' ∧ Kept (c.own b) W (W'.setCell ⟨b, 7, none⟩ v) ∧ ∀ k, (c.setG v).own b k → c.own b k ∨ W.heap.size ≤ k := by
  obtain ⟨n1, n2, n3, n4, n5, n6, n7⟩ := a.apart
  have hk2 : Kept (fun x => x = b ∨ c.vg.ownBlock = some x) W (W'.setCell ⟨b, 7, none⟩ v) := (hk.mono (fun _ _ h => .inr h)).trans (Kept.setCell _ W' ⟨b, 7, none⟩ v (.inl rfl))
  have hnb : ∀ q, v.ownBlock = some q → q ≠ b := fun q hq e => (hl q hq).elim (fun h => (n7 q h).1 e) (fun h => by have := a.lt (k := b) (.inl rfl); omega)
  refine ⟨⟨?_, a.sky.kept hk2 (fun e => e.elim (fun e => n1 e.symm) (fun e => (n7 _ e).2.1 rfl)) (fun k e => a.ns (e.elim (fun e => .inl e) (fun e => .inr (.inr (.inr (.inr (.inr e))))))), a.ks.kept hk2 (fun q hq e => e.elim (n6 q hq).1 (fun e => a.kg q hq e)), a.mp.kept hk2 (fun e => e.elim (fun e => n2 e.symm) (fun e => (n7 _ e).2.2.1 rfl)), a.mf.kept hk2 (fun e => e.elim (fun e => n3 e.symm) (fun e => (n7 _ e).2.2.2 rfl)), hs.kept (Kept.setCell (· = b) W' ⟨b, 7, none⟩ v rfl) hnb, fun q hq e => ?_, a.pf⟩, hk2.mono (fun q _ e => e.elim (fun e => .inl e) (fun e => .inr (.inr (.inr (.inr (.inr e)))))), fun k hk' => ?_⟩
  · rw [heap_setCell_in _ (hk.get a.blk (fun e => (n7 _ e).1 rfl)), MdC.cs_setG]
  · rcases hl q e with h' | h'
    · exact a.kg q hq h'
    · have := a.lt (k := q) (.inr (.inr (.inr (.inr (.inl hq)))))
      omega
  · rcases hk' with h1 | h1 | h1 | h1 | h1 | h1
    · exact .inl (.inl h1)
    · exact .inl (.inr (.inl h1))
    · exact .inl (.inr (.inr (.inl h1)))
    · exact .inl (.inr (.inr (.inr (.inl h1))))
    · exact .inl (.inr (.inr (.inr (.inr (.inl h1)))))
    · exact (hl k h1).imp (fun h => .inr (.inr (.inr (.inr (.inr h))))) id
theorem MdRaw.setP (a : MdRaw W b w h pad c l ks f n F nF gn) {f' : ByteArray → Option Rc} {n' : Nat} (hk : Kept (· = c.bP) W W') (hm : MapIs Try.prog 9 W' c.bP Lk Er n' f' n') : MdRaw W' b w h pad c l ks f' n' F nF gn := by
  obtain ⟨n1, n2, n3, n4, n5, n6, n7⟩ := a.apart
  exact ⟨hk.get a.blk n2, a.sky.kept hk n4 (fun k e => by subst e; exact a.ns (.inr (.inr (.inl rfl)))), a.ks.kept hk (fun q hq e => (n6 q hq).2.2.1 e), hm, a.mf.kept hk (fun e => a.pf e.symm), a.gs.kept hk (fun q hq e => (n7 q hq).2.2.1 e), a.kg, a.pf⟩
theorem MdRaw.setF (a : MdRaw W b w h pad c l ks f n F nF gn) {F' : ByteArray → Option FV} {n' : Nat} (hk : Kept (· = c.bF) W W') (hm : MapIs Try.prog 9 W' c.bF Lk Ev n' F' n') : MdRaw W' b w h pad c l ks f n F' n' gn := by
  obtain ⟨n1, n2, n3, n4, n5, n6, n7⟩ := a.apart
  exact ⟨hk.get a.blk n3, a.sky.kept hk n5 (fun k e => by subst e; exact a.ns (.inr (.inr (.inr (.inl rfl))))), a.ks.kept hk (fun q hq e => (n6 q hq).2.2.2 e), a.mp.kept hk (fun e => a.pf e), hm, a.gs.kept hk (fun q hq e => (n7 q hq).2.2.2 e), a.kg, a.pf⟩
theorem MdRaw.turnSky (a : MdRaw W b w h pad c l ks f n F nF gn) {l' : List Int} (hk : Kept (· = c.g) W W') (hs : SkyAt W' c.g w h l') : MdRaw W' b w h pad c l' ks f n F nF gn := by
  obtain ⟨n1, n2, n3, n4, n5, n6, n7⟩ := a.apart
  exact ⟨hk.get a.blk n1, hs, a.ks.kept hk (fun q hq e => (n6 q hq).2.1 e), a.mp.kept hk (fun e => n4 e.symm), a.mf.kept hk (fun e => n5 e.symm), a.gs.kept hk (fun q hq e => (n7 q hq).2.1 e), a.kg, a.pf⟩
theorem MdRaw.setSky (a : MdRaw W b w h pad c l ks f n F nF gn) {l' : List Int} {g : Nat} (hs : SkyAt W g w h l') (hg : c.own b g → False) :
    MdRaw (W.setCell ⟨b, 3, none⟩ (.pointer (some ⟨g, 0, none⟩))) b w h pad (c.setS g) l' ks f n F nF gn := by
  obtain ⟨n1, n2, n3, n4, n5, n6, n7⟩ := a.apart
  have hk := Kept.setCell (· = b) W ⟨b, 3, none⟩ (.pointer (some ⟨g, 0, none⟩)) rfl
  refine ⟨?_, hs.kept hk (fun e => hg (.inl e)) (fun k e => by subst e; exact a.ns (.inl rfl)), a.ks.kept hk (fun q hq e => (n6 q hq).1 e), a.mp.kept hk (fun e => n2 e.symm), a.mf.kept hk (fun e => n3 e.symm), a.gs.kept hk (fun q hq e => (n7 q hq).1 e), a.kg, a.pf⟩
  rw [heap_setCell_in _ a.blk, MdC.cs_setS]
end
/-- Block b is a model that holds s. -/
structure MdAt (W : World) (b w h pad : Nat) (s : AtS) (F : ByteArray → Option FV) (c : MdC) : Prop where
  raw : MdRaw W b w h pad c s.l s.keys s.pl s.keys.length F s.keys.length s.gone
  w1 : 1 ≤ w ∧ w ≤ 64
  h1 : 1 ≤ h ∧ h ≤ 64
  p4 : pad ≤ 4
  inv : AtI w h pad s
  kl : ∀ k ∈ s.keys, k.size ≤ maxLen
  fk : ∀ k, (F k).isSome = true ↔ k ∈ s.keys
section
variable {W W' : World} {b w h pad : Nat} {c : MdC} {s : AtS} {F : ByteArray → Option FV}
theorem MdAt.kept {S : Nat → Prop} (a : MdAt W b w h pad s F c) (hk : Kept S W W') (hd : ∀ k, c.own b k → ¬ S k) (hn : ∀ k, S k → ∀ cells, W.heap[k]? ≠ some (.cells cells 84 (0, 0))) : MdAt W' b w h pad s F c :=
  ⟨a.raw.kept hk hd hn, a.w1, a.h1, a.p4, a.inv, a.kl, a.fk⟩
theorem MdAt.below (a : MdAt W b w h pad s F c) (hb : Below W.heap.size W W') : MdAt W' b w h pad s F c :=
  a.kept (Kept.of_below (fun _ => False) hb) (fun _ _ h => h) (fun _ h => h.elim)
end
/-- What a deed leaves of the model: its own blocks are written, and new ones laid. -/
def MStep (W : World) (b : Nat) (c : MdC) (w' : World) (c' : MdC) : Prop := Kept (c.own b) W w' ∧ ∀ k, c'.own b k → c.own b k ∨ W.heap.size ≤ k
theorem MStep.refl (W : World) (b : Nat) (c : MdC) : MStep W b c W c := ⟨Kept.refl _ _, fun _ h => .inl h⟩
theorem MStep.trans {W w1 w2 : World} {b : Nat} {c c1 c2 : MdC} (h : MStep W b c w1 c1) (k : MStep w1 b c1 w2 c2) : MStep W b c w2 c2 :=
  ⟨h.1.andThen k.1 (fun _ _ h => h) (fun q hq hs => (h.2 q hs).elim id (fun h => by omega)), fun q hq => (k.2 q hq).elim (fun h' => h.2 q h') (fun h' => .inr (Nat.le_trans h.1.size h'))⟩
theorem MStep.below {W w1 w2 : World} {b : Nat} {c c1 : MdC} (h : MStep W b c w1 c1) (k : Below w1.heap.size w1 w2) : MStep W b c w2 c1 :=
  h.trans ⟨Kept.of_below _ k, fun _ h => .inl h⟩
theorem MStep.kept {W w1 w2 : World} {b : Nat} {c c1 : MdC} {S : Nat → Prop} (h : MStep W b c w1 c1) (k : Kept S w1 w2) (hS : ∀ q, S q → c1.own b q) : MStep W b c w2 c1 :=
  h.trans ⟨k.mono (fun q _ hq => hS q hq), fun _ h => .inl h⟩
theorem MStep.own_not {W w1 : World} {b : Nat} {c c1 : MdC} (h : MStep W b c w1 c1) {q : Nat} (hq : q < W.heap.size) (hn : ¬ c.own b q) : ¬ c1.own b q := fun h1 => (h.2 q h1).elim hn (fun h2 => by omega)
end Go.Proofs.Ytaccppchhljnkaa
