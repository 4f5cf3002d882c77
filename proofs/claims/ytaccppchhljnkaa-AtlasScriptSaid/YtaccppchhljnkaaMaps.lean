/- A map that the call makes, as a function from its keys to what they hold: look-up, store, delete, len. -/
import Derived.Test.YtaccppchhljnkaaBase
import Derived.Maps.OwnSet
set_option linter.unusedVariables false
set_option linter.unusedSimpArgs false
namespace Go.Proofs.Ytaccppchhljnkaa
open Go.RowKit
open Go.Maps (Keyed IsMap Tidy)

/-- An element is read as itself. -/
def hv (v : Value) : Option (DataW Value × List MemPlace) := some (.held v, [])

/-- Block b is a map; f says what it holds at each key, sz how many keys there are. -/
def MapIs {κ ε : Type} (P : Program) (k : TypeId) (w : World) (b : Nat) (L : κ → Lit) (E : ε → Value) (n : Nat) (f : κ → Option ε) (sz : Nat) : Prop :=
  ∃ D : DataW Value, w.ownsMap P k hv b n D ∧ (∀ x, Maps.has D (L x) = (f x).isSome) ∧ (∀ x z, D.atKey (L x) (.held z) = .held (((f x).map E).getD z)) ∧ Maps.size D = sz

section
variable {κ ε : Type} {P : Program} {k : TypeId} {w : World} {b n sz : Nat} {L : κ → Lit} {E : ε → Value} {f : κ → Option ε}

theorem MapIs.made (P : Program) (k : TypeId) (w : World) (L : κ → Lit) (E : ε → Value) : MapIs P k (w.alloc (.map #[] 0)) w.heap.size L E 0 (fun _ => none) 0 :=
  ⟨_, World.ownsMap_made _ _ _ _, fun _ => rfl, fun _ _ => rfl, rfl⟩

theorem MapIs.kept {S : Nat → Prop} {w' : World} (h : MapIs P k w b L E n f sz) (hk : Kept S w w') (hb : ¬ S b) : MapIs P k w' b L E n f sz := by
  obtain ⟨D, h1, h2⟩ := h
  obtain ⟨es, clock, hh, r⟩ := h1
  exact ⟨D, ⟨es, clock, hk.get hh hb, r⟩, h2⟩
theorem MapIs.mono {m : Nat} (h : MapIs P k w b L E n f sz) (hm : n ≤ m) : MapIs P k w b L E m f sz := by
  obtain ⟨D, h1, h2⟩ := h
  exact ⟨D, h1.mono hm, h2⟩
theorem MapIs.lt (h : MapIs P k w b L E n f sz) : b < w.heap.size := by
  obtain ⟨D, h1, h2⟩ := h
  exact h1.lt
theorem MapIs.get (h : MapIs P k w b L E n f sz) : ∃ es clock, w.heap[b]? = some (.map es clock) := by
  obtain ⟨D, ⟨es, clock, hb, _⟩, _⟩ := h
  exact ⟨es, clock, hb⟩
theorem MapIs.size_le (h : MapIs P k w b L E n f sz) : sz ≤ n := by
  obtain ⟨D, h1, _, _, h4⟩ := h
  exact h4 ▸ h1.size_le

theorem hv_inv {v : Value} {z : Value} {ps : List MemPlace} (h : hv v = some (.held z, ps)) : v = z := by
  unfold hv at h
  injection h with h
  injection h with h _
  injection h

theorem MapIs.look {t e : TypeId} {z : Value} (h : MapIs P k w b L E n f sz) (K : Keyed P k) (ht : P.underlying t = some (.map k e)) (hz : (zeroValue e).run P w = .ok z w) {key : Value} {x : κ} (hkey : keyOf P k key = some (L x)) :
    (Instr.lookup t (.map (some b)) key false).run P w = .ok (((f x).map E).getD z) w := by
  obtain ⟨D, h1, h2, h3, _⟩ := h
  obtain ⟨v, ps, hr, hv'⟩ := h1.lookup K ht hz (zd := .held z) (zp := []) rfl hkey
  rw [h3] at hv'
  rw [hr, hv_inv hv']
theorem MapIs.look_ok {t e : TypeId} {z : Value} (h : MapIs P k w b L E n f sz) (K : Keyed P k) (ht : P.underlying t = some (.map k e)) (hz : (zeroValue e).run P w = .ok z w) {key : Value} {x : κ} (hkey : keyOf P k key = some (L x)) :
    (Instr.lookup t (.map (some b)) key true).run P w = .ok (.tuple #[((f x).map E).getD z, .bool (f x).isSome]) w := by
  obtain ⟨D, h1, h2, h3, _⟩ := h
  obtain ⟨v, ps, hr, hv'⟩ := h1.look_ok K ht hz (zd := .held z) (zp := []) rfl hkey
  rw [h3] at hv'
  rw [hr, hv_inv hv', h2]
theorem MapIs.len {t e : TypeId} (h : MapIs P k w b L E n f sz) (ht : P.underlying t = some (.map k e)) (ty : TypeId) : (Builtin.len_ #[t] ty #[.map (some b)]).run P w = .ok (.int .i64 sz) w := by
  obtain ⟨D, h1, h2, h3, h4⟩ := h
  rw [← h4]
  exact h1.len ht ty
theorem MapIs.store [DecidableEq κ] {t e : TypeId} (h : MapIs P k w b L E n f sz) (K : Keyed P k) (hL : ∀ x y, L x = L y → x = y) (hI : ∀ x, WideAt.IsKeyLit (L x)) (ht : P.underlying t = some (.map k e)) (hn : n < maxLen) {key : Value} {x : κ} (hkey : keyOf P k key = some (L x)) (y : ε) :
    ∃ w', (Instr.mapUpdate t (.map (some b)) key (E y)).run P w = .ok () w' ∧ MapIs P k w' b L E (n + 1) (fun u => if u = x then some y else f u) (if (f x).isSome then sz else sz + 1) ∧ Kept (· = b) w w' := by
  obtain ⟨D, h1, h2, h3, h4⟩ := h
  obtain ⟨w', hr, g1, g2⟩ := h1.update K ht hn hkey (val := E y) (d := .held (E y)) (ps := []) rfl
  refine ⟨w', hr, ⟨_, g1, fun u => ?_, fun u z => ?_, ?_⟩, (Kept.of_grownBy g2).mono (fun _ _ h => by injection h with h; exact h.symm)⟩
  · by_cases hu : u = x
    · subst hu
      rw [Maps.has_put_same h1.isMap (hI u)]; simp
    · rw [Maps.has_put_other (fun e => hu (hL _ _ e)), h2]; simp [hu]
  · by_cases hu : u = x
    · subst hu
      rw [Maps.atKey_put_same h1.isMap (hI u)]; simp
    · rw [Maps.atKey_put_other (fun e => hu (hL _ _ e)), h3]; simp [hu]
  · rw [Maps.size_put (h1.tidy K), h2, h4]
theorem MapIs.drop [DecidableEq κ] {t e : TypeId} (h : MapIs P k w b L E n f sz) (K : Keyed P k) (hL : ∀ x y, L x = L y → x = y) (ht : P.underlying t = some (.map k e)) {key : Value} {x : κ} (hkey : keyOf P k key = some (L x)) (ty : TypeId) :
    ∃ w', (Builtin.delete_ #[t, k] ty #[.map (some b), key]).run P w = .ok (.tuple #[]) w' ∧ MapIs P k w' b L E n (fun u => if u = x then none else f u) (sz - if (f x).isSome then 1 else 0) ∧ Kept (· = b) w w' := by
  obtain ⟨D, h1, h2, h3, h4⟩ := h
  obtain ⟨w', hr, g1, g2⟩ := h1.drop K ht hkey ty
  refine ⟨w', hr, ⟨_, g1, fun u => ?_, fun u z => ?_, ?_⟩, (Kept.of_grownBy g2.grown).mono (fun _ _ h => by injection h with h; exact h.symm)⟩
  · by_cases hu : u = x
    · subst hu
      rw [Maps.has_del_same]; simp
    · rw [Maps.has_del_other (fun e => hu (hL _ _ e)), h2]; simp [hu]
  · by_cases hu : u = x
    · subst hu
      rw [Maps.atKey_del_same]; simp
    · rw [Maps.atKey_del_other (fun e => hu (hL _ _ e)), h3]; simp [hu]
  · have := Maps.size_del (h1.tidy K) (k := L x)
    rw [h2, h4] at this
    omega
end

theorem MapIs.raw {κ ε : Type} {P : Program} {k : TypeId} {w : World} {b n sz : Nat} {L : κ → Lit} {E : ε → Value} {f : κ → Option ε} (h : MapIs P k w b L E n f sz) : ∃ es clock, w.heap[b]? = some (.map es clock) ∧ es.size = sz := by
  obtain ⟨D, ⟨es, clock, hb, _, _, rfl⟩, _, _, h4⟩ := h
  exact ⟨es, clock, hb, by rw [← h4]; simp [Maps.size, length_sorted]⟩

/-! At the operations. -/
section
variable {κ ε : Type} {P : Program} (w : World) {ops : Array Oper} {rest : List Oper} {o : Oper} {a : Act} {Q : Exit → Act → World → Prop}
theorem wpList_store_is [DecidableEq κ] (hg : o.guard = none) (m x v : Operand) (t : TypeId) (hop : o.op = Op.mapUpdate t m x v)
    (k e : TypeId) (K : Keyed P k) (ht : P.underlying t = some (.map k e)) (L : κ → Lit) (hL : ∀ x y, L x = L y → x = y) (hI : ∀ x, WideAt.IsKeyLit (L x)) (E : ε → Value) (b n : Nat) (f : κ → Option ε) (sz : Nat)
    (hm : a.eval m = .map (some b)) (hown : MapIs P k w b L E n f sz) (hn : n < maxLen) (key : Value) (hx : a.eval x = key) (q : κ) (hkey : keyOf P k key = some (L q)) (y : ε) (hv : a.eval v = E y)
    (hK : ∀ w', MapIs P k w' b L E (n + 1) (fun u => if u = q then some y else f u) (if (f q).isSome then sz else sz + 1) → Kept (· = b) w w' → wpList P ops Q rest (a.put o.dst undef) w') :
    wpList P ops Q (o :: rest) a w := by
  refine wpList_plain hg fun K' hK' => ?_
  obtain ⟨w', hrun, r1, r2⟩ := hown.store K hL hI ht hn hkey y
  unfold Oper.wp
  simp [execOp, hop, hm, hx, hv, hrun, Result.andThen]
  exact hK' _ _ (hK w' r1 r2)
theorem wpList_delete_is [DecidableEq κ] (hg : o.guard = none) (m x : Operand) (t k : TypeId) (hop : o.op = Op.call { callee := Callee.builtin Builtin.delete, args := #[m, x], argTypes := #[t, k] })
    (e : TypeId) (K : Keyed P k) (ht : P.underlying t = some (.map k e)) (L : κ → Lit) (hL : ∀ x y, L x = L y → x = y) (E : ε → Value) (b n : Nat) (f : κ → Option ε) (sz : Nat)
    (hm : a.eval m = .map (some b)) (hown : MapIs P k w b L E n f sz) (key : Value) (hx : a.eval x = key) (q : κ) (hkey : keyOf P k key = some (L q))
    (hK : ∀ w', MapIs P k w' b L E n (fun u => if u = q then none else f u) (sz - if (f q).isSome then 1 else 0) → Kept (· = b) w w' → wpList P ops Q rest (a.put o.dst (.tuple #[])) w') :
    wpList P ops Q (o :: rest) a w := by
  refine wpList_plain hg fun K' hK' => ?_
  obtain ⟨w', hrun, r1, r2⟩ := hown.drop K hL ht hkey o.type
  unfold Oper.wp
  simp [execOp, hop, resolve, invoke, builtin, hm, hx, hrun, Result.andThen]
  exact hK' _ _ (hK w' r1 r2)
theorem wpList_len_is (hg : o.guard = none) (m : Operand) (t : TypeId) (hop : o.op = Op.call { callee := Callee.builtin Builtin.len, args := #[m], argTypes := #[t] })
    (k e : TypeId) (ht : P.underlying t = some (.map k e)) (L : κ → Lit) (E : ε → Value) (b n : Nat) (f : κ → Option ε) (sz : Nat) (hm : a.eval m = .map (some b)) (hown : MapIs P k w b L E n f sz)
    (hK : wpList P ops Q rest (a.put o.dst (.int .i64 sz)) w) :
    wpList P ops Q (o :: rest) a w := by
  refine wpList_plain hg fun K' hK' => ?_
  unfold Oper.wp
  simp [execOp, hop, resolve, invoke, builtin, hm, hown.len ht o.type, Result.andThen]
  exact hK' _ _ hK
end

/-- Keys of an integer kind. -/
theorem litInt_inj (q : IntKind) : ∀ x y : Int, Lit.int q x = Lit.int q y → x = y := fun x y h => by injection h
theorem litInt_key (q : IntKind) (x : Int) : WideAt.IsKeyLit (Lit.int q x) := by simp [WideAt.IsKeyLit]

end Go.Proofs.Ytaccppchhljnkaa
