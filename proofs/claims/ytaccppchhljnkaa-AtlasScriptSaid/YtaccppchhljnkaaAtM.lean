/- Atlases in memory. -/
import Derived.Test.YtaccppchhljnkaaAtPg
import Derived.Test.YtaccppchhljnkaaMaps
import Derived.Test.YtaccppchhljnkaaLruO
import Derived.StringKeys
set_option linter.unusedVariables false
set_option linter.unusedSimpArgs false
namespace Go.Proofs.Ytaccppchhljnkaa
open Go.RowKit Go.Proofs.YtaccppchhljnkaaW.PrintWords Go.Proofs.YtaccppchhljnkaaW.PrintLast Go.Proofs.YtaccppchhljnkaaW.PrintMore
open Go.Maps (Keyed IsMap Tidy)
/-- A key as a map has it. -/
def Lk (s : ByteArray) : Lit := .string s.data.toList
theorem Lk_inj : ∀ x y, Lk x = Lk y → x = y := fun x y h => by
  injection h with h
  exact ba_ext (Array.toList_inj.1 h)
theorem Lk_key : ∀ x, WideAt.IsKeyLit (Lk x) := fun x => by simp [WideAt.IsKeyLit, Lk]
/-- A rectangle as a value. -/
def Er (r : Rc) : Value := .agg #[.int .i64 r.1, .int .i64 r.2.1, .int .i64 r.2.2.1, .int .i64 r.2.2.2]
theorem Try.strKeyed : Keyed Try.prog 9 := Maps.string_keyed Try.underlying9
theorem key_of {s : ByteArray} (h : s.size ≤ maxLen) : keyOf Try.prog 9 (.string s) = some (Lk s) := WideMaps.keyOf_string_mk Try.underlying9 h
theorem zeroRect (w : World) : (zeroValue 39).run Try.prog w = .ok (Er r00) w := by kernel_rfl
theorem MapIs.tight {κ ε : Type} {P : Program} {k : TypeId} {w : World} {b n sz : Nat} {L : κ → Lit} {E : ε → Value} {f : κ → Option ε} (h : MapIs P k w b L E n f sz) : MapIs P k w b L E sz f sz := by
  obtain ⟨D, ⟨es, clock, h1, h2, h3, h4⟩, g1, g2, g3⟩ := h
  refine ⟨D, ⟨es, clock, h1, h2, ?_, h4⟩, g1, g2, g3⟩
  rw [← g3, h4]
  simp [Maps.size, length_sorted]
/-- Where an atlas's parts lie. -/
structure AtC where
  bT : Nat
  g : Nat
  bM : Nat
  vk : Value
  vg : Value
def AtC.cs (c : AtC) (w h pad : Nat) : Array Value := #[.int .i64 w, .int .i64 h, .slice (some ⟨c.bT, 0, none⟩) (w * h) (w * h), .int .i64 pad, .pointer (some ⟨c.g, 0, none⟩), c.vk, .map (some c.bM), c.vg]
/-- The blocks that an atlas may write. -/
def AtC.own (c : AtC) (b : Nat) (k : Nat) : Prop := k = b ∨ k = c.bT ∨ k = c.g ∨ k = c.bM ∨ c.vk.ownBlock = some k ∨ c.vg.ownBlock = some k
theorem SlO.blk {w : World} {e : TypeId} {size : Nat} {v : Value} {n : Nat} {xs : List Value} (h : SlO w e size v n xs) {g : Nat} (hg : v.ownBlock = some g) : ∃ cur, w.heap[g]? = some (.cells cur e (0, 0)) := by
  rcases h.2 with ⟨rfl, _⟩ | ⟨g', cap, cur, rfl, hh, _⟩
  · simp [Value.ownBlock] at hg
  · have : g' = g := by simpa [Value.ownBlock] using hg
    subst this
    exact ⟨cur, hh⟩
/-- Block b is an atlas, its parts as told, whatever they have to do with each other. -/
structure AtRaw (W : World) (b w h pad : Nat) (c : AtC) (T : List Int) (l : List Int) (ks : List ByteArray) (f : ByteArray → Option Rc) (n : Nat) (gn : List ByteArray) : Prop where
  blk : W.heap[b]? = some (.cells (c.cs w h pad) 68 (0, 0))
  txt : W.heap[c.bT]? = some (.cells (T.map (Value.int .u8)).toArray 5 (0, 0))
  sky : SkyAt W c.g w h l
  ks : SlO W 9 1 c.vk ks.length (ks.map Value.string)
  mp : MapIs Try.prog 9 W c.bM Lk Er n f n
  gs : SlO W 9 1 c.vg gn.length (gn.map Value.string)
  kg : ∀ q, c.vk.ownBlock = some q → c.vg.ownBlock ≠ some q
/-- Block b is an atlas that holds s. -/
structure AtAt (W : World) (b w h pad : Nat) (s : AtS) (c : AtC) : Prop where
  raw : AtRaw W b w h pad c (pgL w h pad s) s.l s.keys s.pl s.keys.length s.gone
  w1 : 1 ≤ w ∧ w ≤ 64
  h1 : 1 ≤ h ∧ h ≤ 64
  p4 : pad ≤ 4
  inv : AtI w h pad s
  kl : ∀ k ∈ s.keys, k.size ≤ maxLen
theorem AtRaw.sk {W : World} {b w h pad : Nat} {c : AtC} {T l : List Int} {ks gn : List ByteArray} {f : ByteArray → Option Rc} {n : Nat} (a : AtRaw W b w h pad c T l ks f n gn) : ∃ u, W.heap[c.g]? = some (.cells #[.int .i64 w, .int .i64 h, u] 82 (0, 0)) := by
  obtain ⟨u, h1, _⟩ := a.sky.row
  exact ⟨u, h1⟩
theorem AtRaw.obj {W : World} {b w h pad : Nat} {c : AtC} {T l : List Int} {ks gn : List ByteArray} {f : ByteArray → Option Rc} {n : Nat} (a : AtRaw W b w h pad c T l ks f n gn) {k : Nat} (hk : c.own b k) :
    ∃ o, W.heap[k]? = some o ∧ ∀ cells, o ≠ .cells cells 84 (0, 0) := by
  rcases hk with rfl | rfl | rfl | rfl | hk | hk
  · exact ⟨_, a.blk, fun cells e => by injection e with _ e; exact absurd e (by decide)⟩
  · exact ⟨_, a.txt, fun cells e => by injection e with _ e; exact absurd e (by decide)⟩
  · obtain ⟨u, hu⟩ := a.sk
    exact ⟨_, hu, fun cells e => by injection e with _ e; exact absurd e (by decide)⟩
  · obtain ⟨es, clock, hm⟩ := a.mp.get
    exact ⟨_, hm, fun cells e => by cases e⟩
  · obtain ⟨cur, hc⟩ := a.ks.blk hk
    exact ⟨_, hc, fun cells e => by injection e with _ e; exact absurd e (by decide)⟩
  · obtain ⟨cur, hc⟩ := a.gs.blk hk
    exact ⟨_, hc, fun cells e => by injection e with _ e; exact absurd e (by decide)⟩
theorem AtRaw.lt {W : World} {b w h pad : Nat} {c : AtC} {T l : List Int} {ks gn : List ByteArray} {f : ByteArray → Option Rc} {n : Nat} (a : AtRaw W b w h pad c T l ks f n gn) {k : Nat} (hk : c.own b k) : k < W.heap.size := by
  obtain ⟨o, ho, _⟩ := a.obj hk
  exact lt_in ho
theorem AtRaw.ns {W : World} {b w h pad : Nat} {c : AtC} {T l : List Int} {ks gn : List ByteArray} {f : ByteArray → Option Rc} {n : Nat} (a : AtRaw W b w h pad c T l ks f n gn) {k : Nat} (hk : c.own b k) : ∀ cells, W.heap[k]? ≠ some (.cells cells 84 (0, 0)) := fun cells e => by
  obtain ⟨o, ho, hn⟩ := a.obj hk
  rw [ho] at e
  injection e with e
  exact hn cells e
/-- It stays where none of its blocks is written, nor a block of steps. -/
theorem AtRaw.kept {W W' : World} {b w h pad : Nat} {c : AtC} {T l : List Int} {ks gn : List ByteArray} {f : ByteArray → Option Rc} {n : Nat} {S : Nat → Prop} (a : AtRaw W b w h pad c T l ks f n gn) (hk : Kept S W W') (hd : ∀ k, c.own b k → ¬ S k) (hn : ∀ k, S k → ∀ cells, W.heap[k]? ≠ some (.cells cells 84 (0, 0))) : AtRaw W' b w h pad c T l ks f n gn :=
  ⟨hk.get a.blk (hd _ (.inl rfl)), hk.get a.txt (hd _ (.inr (.inl rfl))), a.sky.kept hk (hd _ (.inr (.inr (.inl rfl)))) hn, a.ks.kept hk (fun q hq => hd _ (.inr (.inr (.inr (.inr (.inl hq)))))), a.mp.kept hk (hd _ (.inr (.inr (.inr (.inl rfl))))), a.gs.kept hk (fun q hq => hd _ (.inr (.inr (.inr (.inr (.inr hq)))))), a.kg⟩
theorem AtRaw.below {W W' : World} {b w h pad : Nat} {c : AtC} {T l : List Int} {ks gn : List ByteArray} {f : ByteArray → Option Rc} {n : Nat} (a : AtRaw W b w h pad c T l ks f n gn) (hb : Below W.heap.size W W') : AtRaw W' b w h pad c T l ks f n gn :=
  a.kept (Kept.of_below (fun _ => False) hb) (fun _ _ h => h) (fun _ h => h.elim)
theorem AtAt.kept {W W' : World} {b w h pad : Nat} {s : AtS} {c : AtC} {S : Nat → Prop} (a : AtAt W b w h pad s c) (hk : Kept S W W') (hd : ∀ k, c.own b k → ¬ S k) (hn : ∀ k, S k → ∀ cells, W.heap[k]? ≠ some (.cells cells 84 (0, 0))) : AtAt W' b w h pad s c :=
  ⟨a.raw.kept hk hd hn, a.w1, a.h1, a.p4, a.inv, a.kl⟩
theorem AtAt.below {W W' : World} {b w h pad : Nat} {s : AtS} {c : AtC} (a : AtAt W b w h pad s c) (hb : Below W.heap.size W W') : AtAt W' b w h pad s c :=
  a.kept (Kept.of_below (fun _ => False) hb) (fun _ _ h => h) (fun _ h => h.elim)
theorem obj_ne {W : World} {x y : Nat} {o1 o2 : Obj} (h1 : W.heap[x]? = some o1) (h2 : W.heap[y]? = some o2) (hne : o1 ≠ o2) : x ≠ y := by
  rintro rfl
  rw [h1] at h2
  injection h2 with h2
  exact hne h2
theorem cells_ne {c1 c2 : Array Value} {t1 t2 : TypeId} {f1 f2 : Nat × Nat} (h : t1 ≠ t2) : Obj.cells c1 t1 f1 ≠ Obj.cells c2 t2 f2 := fun e => by injection e with _ e; exact h e
/-- The parts lie apart. -/
structure AtNe (b : Nat) (c : AtC) : Prop where
  bt : b ≠ c.bT
  bg : b ≠ c.g
  bm : b ≠ c.bM
  tg : c.bT ≠ c.g
  tm : c.bT ≠ c.bM
  gm : c.g ≠ c.bM
  k4 : ∀ q, c.vk.ownBlock = some q → q ≠ b ∧ q ≠ c.bT ∧ q ≠ c.g ∧ q ≠ c.bM
  g4 : ∀ q, c.vg.ownBlock = some q → q ≠ b ∧ q ≠ c.bT ∧ q ≠ c.g ∧ q ≠ c.bM
theorem AtRaw.apart {W : World} {b w h pad : Nat} {c : AtC} {T l : List Int} {ks gn : List ByteArray} {f : ByteArray → Option Rc} {n : Nat} (a : AtRaw W b w h pad c T l ks f n gn) : AtNe b c := by
  obtain ⟨u, hu⟩ := a.sk
  obtain ⟨es, clock, hm⟩ := a.mp.get
  refine ⟨obj_ne a.blk a.txt (cells_ne (by decide)), obj_ne a.blk hu (cells_ne (by decide)), obj_ne a.blk hm (by simp), obj_ne a.txt hu (cells_ne (by decide)), obj_ne a.txt hm (by simp), obj_ne hu hm (by simp), fun q hq => ?_, fun q hq => ?_⟩
  · obtain ⟨cur, hc⟩ := a.ks.blk hq
    exact ⟨obj_ne hc a.blk (cells_ne (by decide)), obj_ne hc a.txt (cells_ne (by decide)), obj_ne hc hu (cells_ne (by decide)), obj_ne hc hm (by simp)⟩
  · obtain ⟨cur, hc⟩ := a.gs.blk hq
    exact ⟨obj_ne hc a.blk (cells_ne (by decide)), obj_ne hc a.txt (cells_ne (by decide)), obj_ne hc hu (cells_ne (by decide)), obj_ne hc hm (by simp)⟩
/-- What a walk needs of the struct: its cells. -/
theorem AtRaw.cell {W : World} {b w h pad : Nat} {c : AtC} {T l : List Int} {ks gn : List ByteArray} {f : ByteArray → Option Rc} {n : Nat} (a : AtRaw W b w h pad c T l ks f n gn) : W.cell? ⟨b, 0, none⟩ = some (.int .i64 w) ∧ W.cell? ⟨b, 1, none⟩ = some (.int .i64 h) ∧ W.cell? ⟨b, 2, none⟩ = some (.slice (some ⟨c.bT, 0, none⟩) (w * h) (w * h)) ∧ W.cell? ⟨b, 3, none⟩ = some (.int .i64 pad) ∧ W.cell? ⟨b, 4, none⟩ = some (.pointer (some ⟨c.g, 0, none⟩)) ∧ W.cell? ⟨b, 5, none⟩ = some c.vk ∧ W.cell? ⟨b, 6, none⟩ = some (.map (some c.bM)) ∧ W.cell? ⟨b, 7, none⟩ = some c.vg :=
  ⟨(blk_cell a.blk 0).trans rfl, (blk_cell a.blk 1).trans rfl, (blk_cell a.blk 2).trans rfl, (blk_cell a.blk 3).trans rfl, (blk_cell a.blk 4).trans rfl, (blk_cell a.blk 5).trans rfl, (blk_cell a.blk 6).trans rfl, (blk_cell a.blk 7).trans rfl⟩
theorem AtAt.cell {W : World} {b w h pad : Nat} {s : AtS} {c : AtC} (a : AtAt W b w h pad s c) : W.cell? ⟨b, 0, none⟩ = some (.int .i64 w) ∧ W.cell? ⟨b, 1, none⟩ = some (.int .i64 h) ∧ W.cell? ⟨b, 2, none⟩ = some (.slice (some ⟨c.bT, 0, none⟩) (w * h) (w * h)) ∧ W.cell? ⟨b, 3, none⟩ = some (.int .i64 pad) ∧ W.cell? ⟨b, 4, none⟩ = some (.pointer (some ⟨c.g, 0, none⟩)) ∧ W.cell? ⟨b, 5, none⟩ = some c.vk ∧ W.cell? ⟨b, 6, none⟩ = some (.map (some c.bM)) ∧ W.cell? ⟨b, 7, none⟩ = some c.vg := a.raw.cell
theorem AtAt.lt {W : World} {b w h pad : Nat} {s : AtS} {c : AtC} (a : AtAt W b w h pad s c) {k : Nat} (hk : c.own b k) : k < W.heap.size := a.raw.lt hk
theorem AtAt.ns {W : World} {b w h pad : Nat} {s : AtS} {c : AtC} (a : AtAt W b w h pad s c) {k : Nat} (hk : c.own b k) : ∀ cells, W.heap[k]? ≠ some (.cells cells 84 (0, 0)) := a.raw.ns hk
theorem AtAt.mp {W : World} {b w h pad : Nat} {s : AtS} {c : AtC} (a : AtAt W b w h pad s c) : MapIs Try.prog 9 W c.bM Lk Er s.keys.length s.pl s.keys.length := a.raw.mp
theorem AtAt.txt {W : World} {b w h pad : Nat} {s : AtS} {c : AtC} (a : AtAt W b w h pad s c) : W.heap[c.bT]? = some (.cells ((pgL w h pad s).map (Value.int .u8)).toArray 5 (0, 0)) := a.raw.txt
/-! One part turns at a time. -/
section
variable {W W' : World} {b w h pad : Nat} {c : AtC} {T l : List Int} {ks gn : List ByteArray} {f : ByteArray → Option Rc} {n : Nat}
theorem AtRaw.setText (a : AtRaw W b w h pad c T l ks f n gn) {T' : List Int} (hk : Kept (· = c.bT) W W') (ht : W'.heap[c.bT]? = some (.cells (T'.map (Value.int .u8)).toArray 5 (0, 0))) : AtRaw W' b w h pad c T' l ks f n gn := by
  obtain ⟨n1, n2, n3, n4, n5, n6, n7, n8⟩ := a.apart
  refine ⟨hk.get a.blk n1, ht, a.sky.kept hk (fun e => n4 e.symm) (fun k e => by subst e; exact a.ns (.inr (.inl rfl))), a.ks.kept hk (fun q hq e => (n7 q hq).2.1 e), a.mp.kept hk (fun e => n5 e.symm), a.gs.kept hk (fun q hq e => (n8 q hq).2.1 e), a.kg⟩
theorem AtRaw.setMap (a : AtRaw W b w h pad c T l ks f n gn) {f' : ByteArray → Option Rc} {n' : Nat} (hk : Kept (· = c.bM) W W') (hm : MapIs Try.prog 9 W' c.bM Lk Er n' f' n') : AtRaw W' b w h pad c T l ks f' n' gn := by
  obtain ⟨n1, n2, n3, n4, n5, n6, n7, n8⟩ := a.apart
  exact ⟨hk.get a.blk n3, hk.get a.txt n5, a.sky.kept hk n6 (fun k e => by subst e; exact a.ns (.inr (.inr (.inr (.inl rfl))))), a.ks.kept hk (fun q hq e => (n7 q hq).2.2.2 e), hm, a.gs.kept hk (fun q hq e => (n8 q hq).2.2.2 e), a.kg⟩
theorem AtRaw.lao (a : AtRaw W b w h pad c T l ks f n gn) : LAo W 68 9 b 5 (c.cs w h pad) c.vk (ks.map Value.string) :=
  ⟨a.blk, rfl, by rw [List.length_map]; exact a.ks, fun q hq => (a.apart.k4 q hq).1⟩
theorem AtRaw.lag (a : AtRaw W b w h pad c T l ks f n gn) : LAo W 68 9 b 7 (c.cs w h pad) c.vg (gn.map Value.string) :=
  ⟨a.blk, rfl, by rw [List.length_map]; exact a.gs, fun q hq => (a.apart.g4 q hq).1⟩
def AtC.setK (c : AtC) (v : Value) : AtC := ⟨c.bT, c.g, c.bM, v, c.vg⟩
def AtC.setG (c : AtC) (v : Value) : AtC := ⟨c.bT, c.g, c.bM, c.vk, v⟩
def AtC.setS (c : AtC) (g : Nat) : AtC := ⟨c.bT, g, c.bM, c.vk, c.vg⟩
theorem AtC.cs_setK (c : AtC) (w h pad : Nat) (v : Value) : (c.cs w h pad).setIfInBounds 5 v = (c.setK v).cs w h pad := rfl
theorem AtC.cs_setG (c : AtC) (w h pad : Nat) (v : Value) : (c.cs w h pad).setIfInBounds 7 v = (c.setG v).cs w h pad := rfl
theorem AtC.cs_setS (c : AtC) (w h pad g : Nat) : (c.cs w h pad).setIfInBounds 4 (.pointer (some ⟨g, 0, none⟩)) = (c.setS g).cs w h pad := rfl
theorem AtRaw.setKeys (a : AtRaw W b w h pad c T l ks f n gn) {ks' : List ByteArray} {v : Value} (hL : LAo W' 68 9 b 5 ((c.cs w h pad).setIfInBounds 5 v) v (ks'.map Value.string)) (hk : Kept (fun x => x = b ∨ c.vk.ownBlock = some x) W W') (hl : Lies W c.vk v) :
    AtRaw W' b w h pad (c.setK v) T l ks' f n gn ∧ ∀ k, (c.setK v).own b k → c.own b k ∨ W.heap.size ≤ k := by
  obtain ⟨n1, n2, n3, n4, n5, n6, n7, n8⟩ := a.apart
  have hvg : ∀ q, c.vg.ownBlock = some q → ¬ (q = b ∨ c.vk.ownBlock = some q) := fun q hq e => e.elim (n8 q hq).1 (fun e => a.kg q e hq)
  refine ⟨⟨hL.blk, hk.get a.txt (fun e => e.elim (fun e => n1 e.symm) (fun e => (n7 _ e).2.1 rfl)), a.sky.kept hk (fun e => e.elim (fun e => n2 e.symm) (fun e => (n7 _ e).2.2.1 rfl)) (fun k e => a.ns (e.elim (fun e => .inl e) (fun e => .inr (.inr (.inr (.inr (.inl e))))))), by have := hL.sl; rwa [List.length_map] at this, a.mp.kept hk (fun e => e.elim (fun e => n3 e.symm) (fun e => (n7 _ e).2.2.2 rfl)), a.gs.kept hk hvg, fun q hq e => ?_⟩, fun k hk' => ?_⟩
  · rcases hl with h' | ⟨q', h', hle⟩
    · exact a.kg q (h' ▸ hq) e
    · have hq' : v.ownBlock = some q := hq
      rw [h'] at hq'; injection hq' with hq'
      have := a.lt (k := q) (.inr (.inr (.inr (.inr (.inr e)))))
      omega
  · rcases hk' with h1 | h1 | h1 | h1 | h1 | h1
    · exact .inl (.inl h1)
    · exact .inl (.inr (.inl h1))
    · exact .inl (.inr (.inr (.inl h1)))
    · exact .inl (.inr (.inr (.inr (.inl h1))))
    · rcases hl with h' | ⟨q', h', hle⟩
      · exact .inl (.inr (.inr (.inr (.inr (.inl (h' ▸ h1))))))
      · have h1' : v.ownBlock = some k := h1
        rw [h'] at h1'; injection h1' with h1'
        exact .inr (by omega)
    · exact .inl (.inr (.inr (.inr (.inr (.inr h1)))))
theorem AtRaw.setGone (a : AtRaw W b w h pad c T l ks f n gn) {gn' : List ByteArray} {v : Value} (hL : LAo W' 68 9 b 7 ((c.cs w h pad).setIfInBounds 7 v) v (gn'.map Value.string)) (hk : Kept (fun x => x = b ∨ c.vg.ownBlock = some x) W W') (hl : Lies W c.vg v) :
    AtRaw W' b w h pad (c.setG v) T l ks f n gn' ∧ ∀ k, (c.setG v).own b k → c.own b k ∨ W.heap.size ≤ k := by
  obtain ⟨n1, n2, n3, n4, n5, n6, n7, n8⟩ := a.apart
  have hvk : ∀ q, c.vk.ownBlock = some q → ¬ (q = b ∨ c.vg.ownBlock = some q) := fun q hq e => e.elim (n7 q hq).1 (fun e => a.kg q hq e)
  refine ⟨⟨hL.blk, hk.get a.txt (fun e => e.elim (fun e => n1 e.symm) (fun e => (n8 _ e).2.1 rfl)), a.sky.kept hk (fun e => e.elim (fun e => n2 e.symm) (fun e => (n8 _ e).2.2.1 rfl)) (fun k e => a.ns (e.elim (fun e => .inl e) (fun e => .inr (.inr (.inr (.inr (.inr e))))))), a.ks.kept hk hvk, a.mp.kept hk (fun e => e.elim (fun e => n3 e.symm) (fun e => (n8 _ e).2.2.2 rfl)), by have := hL.sl; rwa [List.length_map] at this, fun q hq e => ?_⟩, fun k hk' => ?_⟩
  · rcases hl with h' | ⟨q', h', hle⟩
    · exact a.kg q hq (h' ▸ e)
    · have hq' : v.ownBlock = some q := e
      rw [h'] at hq'; injection hq' with hq'
      have := a.lt (k := q) (.inr (.inr (.inr (.inr (.inl hq)))))
      omega
  · rcases hk' with h1 | h1 | h1 | h1 | h1 | h1
    · exact .inl (.inl h1)
    · exact .inl (.inr (.inl h1))
    · exact .inl (.inr (.inr (.inl h1)))
    · exact .inl (.inr (.inr (.inr (.inl h1))))
    · exact .inl (.inr (.inr (.inr (.inr (.inl h1)))))
    · rcases hl with h' | ⟨q', h', hle⟩
      · exact .inl (.inr (.inr (.inr (.inr (.inr (h' ▸ h1))))))
      · have h1' : v.ownBlock = some k := h1
        rw [h'] at h1'; injection h1' with h1'
        exact .inr (by omega)
/-- The skyline turns in place. -/
theorem AtRaw.turnSky (a : AtRaw W b w h pad c T l ks f n gn) {l' : List Int} (hk : Kept (· = c.g) W W') (hs : SkyAt W' c.g w h l') : AtRaw W' b w h pad c T l' ks f n gn := by
  obtain ⟨n1, n2, n3, n4, n5, n6, n7, n8⟩ := a.apart
  exact ⟨hk.get a.blk n2, hk.get a.txt n4, hs, a.ks.kept hk (fun q hq e => (n7 q hq).2.2.1 e), a.mp.kept hk (fun e => n6 e.symm), a.gs.kept hk (fun q hq e => (n8 q hq).2.2.1 e), a.kg⟩
/-- A new skyline is stored. -/
theorem AtRaw.setSky (a : AtRaw W b w h pad c T l ks f n gn) {l' : List Int} {g : Nat} (hs : SkyAt W g w h l') (hg : c.own b g → False) :
    AtRaw (W.setCell ⟨b, 4, none⟩ (.pointer (some ⟨g, 0, none⟩))) b w h pad (c.setS g) T l' ks f n gn := by
  obtain ⟨n1, n2, n3, n4, n5, n6, n7, n8⟩ := a.apart
  have hk := Kept.setCell (· = b) W ⟨b, 4, none⟩ (.pointer (some ⟨g, 0, none⟩)) rfl
  refine ⟨?_, hk.get a.txt (fun e => n1 e.symm), hs.kept hk (fun e => hg (.inl e)) (fun k e => by subst e; exact a.ns (.inl rfl)), a.ks.kept hk (fun q hq e => (n7 q hq).1 e), a.mp.kept hk (fun e => n3 e.symm), a.gs.kept hk (fun q hq e => (n8 q hq).1 e), a.kg⟩
  rw [heap_setCell_in _ a.blk, AtC.cs_setS]
end
theorem pg_rng {w h pad : Nat} {s : AtS} (hI : AtI w h pad s) (p : Nat) : 0 ≤ pgF w pad s p ∧ pgF w pad s p ≤ 255 := by
  by_cases he : ∃ k ∈ s.keys, inB w pad (s.at k) p
  · obtain ⟨k, h1, h2⟩ := he
    rw [pg_in hI h1 h2, List.getD_eq_getElem?_getD]
    cases hx : (s.fd k)[ixB w pad (s.at k) p]? with
    | none => simp
    | some x => exact hI.by8 k h1 x (List.mem_of_getElem? hx)
  · rw [pg_out (fun k h1 h2 => he ⟨k, h1, h2⟩)]; omega
/-- A texel of the page. -/
theorem AtAt.tx {W : World} {b w h pad : Nat} {s : AtS} {c : AtC} (a : AtAt W b w h pad s c) (p : Nat) (hp : p < w * h) : W.cell? ⟨c.bT, p, none⟩ = some (.int .u8 (pgF w pad s p)) := by
  rw [blk_cell a.txt p]
  simp [pgL, hp]
end Go.Proofs.Ytaccppchhljnkaa
