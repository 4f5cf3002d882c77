/- PathCount: the points that pull, and the curves' middle points: the same, in another order; counting into a map. -/
import Derived.Test.YtjealbaomhjoaaaPLinesP
import Derived.Test.YtjealbaomhjoaaaMaps
import Derived.Maps.RangeWalk
import Derived.WideKeyEntry
import Derived.DeepKeys4
import Derived.WideKeyPair
set_option linter.unusedVariables false
set_option linter.unusedSimpArgs false
namespace Go.Proofs.Ytjealbaomhjoaaa
open Go.RowKit Go.Proofs.Ytjealbaomhjoaaa.G Go.Proofs.YtjealbaomhjoaaaW.PrintWords
def offs (c : List S34) : List S36 := (c.filter fun v => !v.f2).map at2
def curB (s : List S38) : List S36 := (s.filter fun x => x.f3).map fun x => x.f1
theorem offs_append (a b : List S34) : offs (a ++ b) = offs a ++ offs b := by simp [offs]
theorem curB_append (a b : List S38) : curB (a ++ b) = curB a ++ curB b := by simp [curB]
theorem curB_seg (h : S36) (pl : Option S34) (p : S36) : curB [segE h pl p] = pl.toList.map at2 := by cases pl <;> rfl
theorem curB_st (bg : S36) : ∀ (vs : List S34) (h : S36) (out : List S38) (pl : Option S34), curB (finS bg (stS h out pl vs)) = curB out ++ pl.toList.map at2 ++ offs vs
  | [], h, out, pl => by
    show curB (out ++ [segE h pl bg]) = _
    rw [curB_append, curB_seg]; simp [offs]
  | v :: vs, h, out, pl => by
    cases hv : v.f2 with
    | true =>
      rw [stS_on _ _ _ _ _ hv, curB_st bg vs, curB_append, curB_seg]
      simp [offs, hv]
    | false =>
      cases pl with
      | none => rw [stS_none _ _ _ _ hv, curB_st bg vs]; simp [offs, hv]
      | some u => rw [stS_some _ _ _ _ _ hv, curB_st bg vs, curB_append, curB_seg]; simp [offs, hv]
theorem cyc_wrap (c : List S34) : ∀ (d i : Nat), i + d ≤ c.length → cyc c (c.length + i) d = (c.drop i).take d
  | 0, i, _ => by rw [cyc]; simp
  | d + 1, i, h => by
    have hi : i < c.length := by omega
    rw [cyc, show c.length + i + 1 = c.length + (i + 1) by omega, cyc_wrap c d (i + 1) (by omega), Nat.add_mod_left, Nat.mod_eq_of_lt hi, List.drop_eq_getElem_cons hi, List.take_succ_cons, List.getD_eq_getElem?_getD, List.getElem?_eq_getElem hi]; rfl
theorem cyc_add (c : List S34) : ∀ (d e i : Nat), cyc c i (d + e) = cyc c i d ++ cyc c (i + d) e
  | 0, e, i => by simp [cyc]
  | d + 1, e, i => by
    rw [show d + 1 + e = (d + e) + 1 by omega, cyc, cyc, cyc_add c d e (i + 1), show i + 1 + d = i + (d + 1) by omega]; rfl
theorem curB_segF (c : List S34) : (curB (segF c)).Perm (offs c) := by
  unfold segF
  split
  · rename_i h; subst h; exact List.Perm.refl _
  · rename_i h
    have hpos : 0 < c.length := List.length_pos_iff.2 h
    split
    · rename_i hf
      rw [curB_st]
      obtain ⟨i, hi⟩ : ∃ i, fiOn c = i := ⟨_, rfl⟩
      have hon := fi_on c hf
      rw [hi] at hf hon ⊢
      have e1 : cyc c (i + 1) (c.length - 1) = c.drop (i + 1) ++ c.take i := by
        rw [show c.length - 1 = (c.length - (i + 1)) + i by omega, cyc_add, cyc_drop c _ _ (by omega), show i + 1 + (c.length - (i + 1)) = c.length + 0 by omega, cyc_wrap c i 0 (by omega)]
        simp
      have e2 : c = c.take i ++ c.getD i z34 :: c.drop (i + 1) := by
        rw [List.getD_eq_getElem?_getD, List.getElem?_eq_getElem hf, Option.getD_some, ← List.drop_eq_getElem_cons hf, List.take_append_drop]
      rw [e1]
      have e3 : offs c = offs (c.take i) ++ offs (c.drop (i + 1)) := by
        conv => lhs; rw [e2]
        rw [offs_append]
        congr 1
        unfold offs
        rw [List.filter_cons_of_neg (by rw [hon]; decide)]
      rw [e3, offs_append]
      simpa [curB] using List.perm_append_comm
    · rw [curB_st, show cyc c c.length c.length = c by have := cyc_wrap c c.length 0 (by omega); simpa using this]
      simp [curB]
/-! Keys. -/
abbrev K36 := {p : S36 // (Lit.int .i64 p.f0).wf = true ∧ (Lit.int .i64 p.f1).wf = true}
noncomputable instance decK : DecidableEq K36 := fun a b => Classical.propDecidable _
theorem wf64 (x : Int) : (Lit.int .i64 (wrap64 x)).wf = true := by
  simp [Lit.wf, IntKind.min, IntKind.max, IntKind.signed, IntKind.bits, wrap64]; omega
def kn (p : S36) : K36 := ⟨⟨wrap64 p.f0, wrap64 p.f1⟩, wf64 _, wf64 _⟩
theorem wrap_wrap (x : Int) : wrap64 (wrap64 x) = wrap64 x := by unfold wrap64; omega
theorem kn_at2 (v : S34) : (kn (at2 v)).1 = at2 v := by simp [kn, at2, wrap_wrap]
def L36 (x : K36) : Lit := .string (keyBytes [.int .i64 x.1.f0, .int .i64 x.1.f1])
def V36 (x : K36) : Value := .agg #[.int .i64 x.1.f0, .int .i64 x.1.f1]
theorem laid36 : laidOutB Try.prog = true := by kernel_rfl
theorem law36 : Go.WideMaps.KeyLaw Try.prog 36 := deep_law_laid laid36 (m := 2) (by omega) (of_decide_eq_true (by kernel_rfl)) (by kernel_rfl) (by kernel_rfl)
theorem keyed36 : Go.Maps.Keyed Try.prog 36 := Go.Maps.Keyed.of_law law36
theorem keyType36 : Try.prog.keyType 36 = true := by kernel_rfl
theorem cells36 : Try.prog.cellsOf 36 = 2 := by kernel_rfl
theorem cellsInt : Try.prog.cellsOf 3 = 1 := by kernel_rfl
theorem types1 : ∃ m, Try.prog.types.size = m + 2 := ⟨Try.prog.types.size - 2, by
  have : 2 ≤ Try.prog.types.size := of_decide_eq_true (by kernel_rfl)
  omega⟩
theorem lits36 {d : Nat} {c0 c1 : Value} : Try.prog.keyLits (d + 2) 36 [c0, c1] = (Try.prog.keyLits (d + 1) 3 [c0]).bind fun a => (Try.prog.keyLits (d + 1) 3 [c1]).bind fun b => some (a ++ b) := by
  conv => lhs; unfold Program.keyLits
  simp only [Try.underlying36]
  rw [if_pos ⟨by rw [cells36]; rfl, by kernel_rfl⟩]
  simp only [List.mapM_cons, List.mapM_nil, cellsInt]
  simp only [List.drop_zero, List.take_succ_cons, List.take_zero, List.drop_succ_cons, bind, pure]
  cases Try.prog.keyLits (d + 1) 3 [c0] <;> cases Try.prog.keyLits (d + 1) 3 [c1] <;> simp
theorem litsInt {d : Nat} {c : Value} {l : List Lit} (h : Try.prog.keyLits (d + 1) 3 [c] = some l) : ∃ x : Int, c = .int .i64 x ∧ l = [.int .i64 x] ∧ (Lit.int .i64 x).wf = true := by
  unfold Program.keyLits at h
  simp only [Try.underlying3] at h
  cases c <;> simp at h
  obtain ⟨⟨rfl, hw⟩, rfl⟩ := h
  exact ⟨_, rfl, rfl, hw⟩
theorem litsInt_mk {d : Nat} {x : Int} (h : (Lit.int .i64 x).wf = true) : Try.prog.keyLits (d + 1) 3 [.int .i64 x] = some [.int .i64 x] := by
  unfold Program.keyLits
  simp only [Try.underlying3]
  simp [h]
theorem key36 (x : K36) : keyOf Try.prog 36 (V36 x) = some (L36 x) := by
  obtain ⟨m, hm⟩ := types1
  unfold keyOf
  simp only [Try.underlying36]
  rw [if_pos (by rw [keyType36]; simp [V36, Value.formed, Try.underlying36, cells36]), hm]
  show Option.map _ (Try.prog.keyLits (m + 1 + 2) 36 [.int .i64 x.1.f0, .int .i64 x.1.f1]) = _
  rw [lits36, litsInt_mk x.2.1, litsInt_mk x.2.2]
  rfl
theorem inv36 {key : Value} {kl : Lit} (h : keyOf Try.prog 36 key = some kl) : ∃ x : K36, key = V36 x ∧ kl = L36 x := by
  obtain ⟨m, hm⟩ := types1
  unfold keyOf at h
  simp only [Try.underlying36] at h
  split at h
  · rename_i hf
    rw [keyType36, Bool.true_and] at hf
    cases key with
    | agg cs =>
      simp only [Value.formed, Try.underlying36, cells36, beq_iff_eq] at hf
      obtain ⟨l⟩ := cs
      match l, hf with
      | [c0, c1], _ =>
        rw [hm] at h
        obtain ⟨ls, h1, rfl⟩ := Option.map_eq_some_iff.1 h
        have h1 : Try.prog.keyLits (m + 1 + 2) 36 [c0, c1] = some ls := h1
        rw [lits36] at h1
        obtain ⟨a, ha, h1⟩ := Option.bind_eq_some_iff.1 h1
        obtain ⟨b, hb, h1⟩ := Option.bind_eq_some_iff.1 h1
        injection h1 with h1
        subst h1
        obtain ⟨x, rfl, rfl, hx⟩ := litsInt ha
        obtain ⟨y, rfl, rfl, hy⟩ := litsInt hb
        exact ⟨⟨⟨x, y⟩, hx, hy⟩, rfl, rfl⟩
    | _ => simp [Value.formed, Try.underlying36] at hf
  · cases h
theorem V36_inj {x y : K36} (h : V36 x = V36 y) : x = y := by
  obtain ⟨⟨a, b⟩, hx⟩ := x
  obtain ⟨⟨c, d⟩, hy⟩ := y
  simp [V36] at h
  obtain ⟨rfl, rfl⟩ := h
  rfl
theorem L36_inj : ∀ x y : K36, L36 x = L36 y → x = y := fun x y h => V36_inj (law36.inj (key36 x) (h ▸ key36 y))
theorem L36_key (x : K36) : WideAt.IsKeyLit (L36 x) := by simp [L36, WideAt.IsKeyLit]
/-! Counting. -/
noncomputable def cntM (l : List K36) (x : K36) : Option Nat := if x ∈ l then some (l.count x) else none
noncomputable def addK (s : List K36) (x : K36) : List K36 := if x ∈ s then s else x :: s
noncomputable def dst (l : List K36) : List K36 := l.foldl addK []
theorem dst_snoc (l : List K36) (x : K36) : dst (l ++ [x]) = addK (dst l) x := by simp [dst, List.foldl_append]
theorem mem_foldl (l : List K36) : ∀ (s : List K36) (x : K36), x ∈ l.foldl addK s ↔ x ∈ s ∨ x ∈ l := by
  induction l with
  | nil => intro s x; simp
  | cons a r ih =>
    intro s x
    rw [List.foldl_cons, ih]
    unfold addK
    split
    · rename_i h
      constructor
      · rintro (h1 | h1); exact .inl h1; exact .inr (by simp [h1])
      · rintro (h1 | h1)
        · exact .inl h1
        · rcases List.mem_cons.1 h1 with rfl | h1
          · exact .inl h
          · exact .inr h1
    · simp only [List.mem_cons]
      constructor
      · rintro ((rfl | h1) | h1); exact .inr (.inl rfl); exact .inl h1; exact .inr (.inr h1)
      · rintro (h1 | rfl | h1); exact .inl (.inr h1); exact .inl (.inl rfl); exact .inr h1
theorem nodup_foldl (l : List K36) : ∀ s : List K36, s.Nodup → (l.foldl addK s).Nodup := by
  induction l with
  | nil => intro s h; exact h
  | cons a r ih =>
    intro s h
    rw [List.foldl_cons]
    refine ih _ ?_
    unfold addK
    split
    · exact h
    · rename_i h1; exact List.nodup_cons.2 ⟨h1, h⟩
theorem mem_dst {l : List K36} {x : K36} : x ∈ dst l ↔ x ∈ l := by unfold dst; rw [mem_foldl]; simp
theorem dst_perm {l m : List K36} (h : l.Perm m) : (dst l).length = (dst m).length := by
  have h1 : (dst l).Nodup := nodup_foldl l [] (by simp)
  have h2 : (dst m).Nodup := nodup_foldl m [] (by simp)
  exact ((List.perm_ext_iff_of_nodup h1 h2).2 (fun x => by rw [mem_dst, mem_dst]; exact h.mem_iff)).length_eq
theorem cnt_perm {l m : List K36} (h : l.Perm m) : cntM l = cntM m := by
  funext x
  unfold cntM
  rw [h.count_eq]
  by_cases hx : x ∈ l
  · rw [if_pos hx, if_pos (h.mem_iff.1 hx)]
  · rw [if_neg hx, if_neg (fun h' => hx (h.mem_iff.2 h'))]
theorem cntM_get (l : List K36) (x : K36) : (cntM l x).getD 0 = l.count x := by
  unfold cntM
  split
  · rfl
  · rename_i h; rw [List.count_eq_zero_of_not_mem h]; rfl
theorem cntM_some (l : List K36) (x : K36) : (cntM l x).isSome = decide (x ∈ l) := by
  unfold cntM
  by_cases h : x ∈ l <;> simp [h]
theorem cntM_snoc (l : List K36) (x : K36) : (fun u => if u = x then some (l.count x + 1) else cntM l u) = cntM (l ++ [x]) := by
  funext u
  unfold cntM
  by_cases h : u = x
  · subst h; simp
  · have h' : x ≠ u := fun e => h e.symm
    simp [h, List.count_append, List.count_singleton, h']
theorem dst_len (l : List K36) (x : K36) : (if (cntM l x).isSome then (dst l).length else (dst l).length + 1) = (dst (l ++ [x])).length := by
  rw [dst_snoc, cntM_some]
  unfold addK
  by_cases h : x ∈ l
  · rw [if_pos (by simpa using h), if_pos (mem_dst.2 h)]
  · rw [if_neg (by simpa using h), if_neg (fun h' => h (mem_dst.1 h'))]; rfl
theorem dst_nil : (dst []).length = 0 := rfl
theorem cnt_nil : cntM [] = fun _ => none := by funext x; simp [cntM]
def vI (n : Nat) : Value := .int .i64 n
section
open Go.ChangeShapes Go.WideShapes Go.MapKept Go.ChangeMaps
variable {κ ε : Type} {P : Program} {k : TypeId} {w w2 : World} {b n sz : Nat} {L : κ → Lit} {E : ε → Value} {f : κ → Option ε}
theorem MapIs.move (h : MapIs P k w b L E n f sz) (hb : w2.heap[b]? = w.heap[b]?) : MapIs P k w2 b L E n f sz := by
  obtain ⟨D, ⟨es, clock, h1, h2⟩, h3⟩ := h
  exact ⟨D, ⟨es, clock, hb.trans h1, h2⟩, h3⟩
theorem kept_setBlock (w : World) (b : Nat) (o : Obj) : Kept (· = b) w (setBlock w b o) := by
  refine ⟨rfl, rfl, rfl, by simp [setBlock], fun k hk hs => ?_⟩
  simp only [setBlock]
  rw [Array.getElem?_setIfInBounds_ne (fun e => hs e.symm)]
theorem get_setBlock {w : World} {b : Nat} {o o' : Obj} (h : w.heap[b]? = some o') : (setBlock w b o).heap[b]? = some o := by
  have := (Array.getElem?_eq_some_iff.1 h).1
  simp [setBlock, this]
theorem entry_look {H : Type} {P : Program} {w : World} {t k e : TypeId} {R : Value → Option (DataW H × List MemPlace)} {b : Nat} {es : Array MapEntry} {clock : Nat} (K : Go.WideMaps.KeyLaw P k) (ht : P.underlying t = some (.map k e)) {z : Value} (hz : ∀ u : World, (zeroValue e).run P u = .ok z u) (hb : w.heap[b]? = some (.map es clock)) (F : Go.WideElems.Fit P k R es clock)
    {key : Value} {kl : Lit} (hkey : keyOf P k key = some kl) :
    ∃ (v0 : Value) (st : Nat) (w1 : World), (Instr.mapEntry t (.map (some b)) key).run P w = .ok (.tuple #[v0, goInt st]) w1 ∧ (Instr.lookup t (.map (some b)) key false).run P w1 = .ok v0 w1 ∧ (Instr.lookup t (.map (some b)) key false).run P w = .ok v0 w := by
  have hst := (stamped_iff es clock).1 F.stamped
  rcases K.find w hkey es.toList F.keys with ⟨h1, h2⟩ | ⟨j, e0, h1, h2, h3⟩
  · refine ⟨z, clock, setBlock w b (.map (es.push ⟨key, z, clock⟩) (clock + 1)), ?_, ?_, ?_⟩
    · simp [Instr.mapEntry, run_underlying ht, MapKept.run_getObj_map hb, K.check w false hkey, h1, hz, MapKept.run_setObj_map _ hb, Result.andThen, setBlock]
    · have hb1 := get_setBlock (o := .map (es.push ⟨key, z, clock⟩) (clock + 1)) hb
      generalize setBlock w b (.map (es.push ⟨key, z, clock⟩) (clock + 1)) = w1 at *
      rcases K.find w1 hkey (es.push ⟨key, z, clock⟩).toList (fun x hx => by
        rw [Array.toList_push] at hx
        rcases List.mem_append.1 hx with hx | hx
        · exact F.keys x hx
        · rw [List.mem_singleton.1 hx]; exact ⟨kl, hkey⟩) with ⟨g1, g2⟩ | ⟨i, e1, g1, g2, g3⟩
      · exact absurd rfl (g2 ⟨key, z, clock⟩ (by simp))
      · have hm := List.mem_of_getElem? g2
        rw [Array.toList_push] at hm
        have : e1.val = z := by
          rcases List.mem_append.1 hm with hm | hm
          · exact absurd g3 (h2 e1 hm)
          · rw [List.mem_singleton.1 hm]
        rw [this, Array.toList_push] at g1
        simp [Instr.lookup, run_underlying ht, MapKept.run_getObj_map hb1, K.check w1 false hkey, g1, hz, Result.andThen]
    · simp [Instr.lookup, run_underlying ht, MapKept.run_getObj_map hb, K.check w es.isEmpty hkey, h1, hz, Result.andThen]
  · have hj : es[j]? = some e0 := by simpa using h2
    have hsame : es.modify j (fun e => { e with key := key }) = es := by
      apply Array.ext'
      rw [Array.toList_modify, Go.ChangeMaps.modify_eq_set _ _ _ _ h2]
      have : ({ e0 with key := key } : MapEntry) = e0 := by rw [← h3]
      rw [this]
      exact Go.WideElems.set_self _ _ _ h2
    refine ⟨e0.val, e0.born, setBlock w b (.map es clock), ?_, ?_, ?_⟩
    · simp [Instr.mapEntry, run_underlying ht, MapKept.run_getObj_map hb, K.check w false hkey, h1, hj, h3, K.stays w hkey, hsame, MapKept.run_setObj_map _ hb, Result.andThen, setBlock]
    · have hb1 := get_setBlock (o := .map es clock) hb
      generalize setBlock w b (.map es clock) = w1 at *
      rcases K.find w1 hkey es.toList F.keys with ⟨g1, g2⟩ | ⟨i, e1, g1, g2, g3⟩
      · exact absurd h3 (g2 e0 (List.mem_of_getElem? h2))
      · rw [entry_eq_of_key hst.2.2 (List.mem_of_getElem? g2) (List.mem_of_getElem? h2) (g3.trans h3.symm)] at g1
        simp [Instr.lookup, run_underlying ht, MapKept.run_getObj_map hb1, K.check w1 es.isEmpty hkey, g1, hz, Result.andThen]
    · simp [Instr.lookup, run_underlying ht, MapKept.run_getObj_map hb, K.check w es.isEmpty hkey, h1, hz, Result.andThen]
end
open Go.ChangeShapes Go.WideShapes Go.MapKept Go.ChangeMaps
/-- A counting map in memory. -/
def Cnt (w : World) (b : Nat) (l : List K36) : Prop := MapIs Try.prog 36 w b L36 vI l.length (cntM l) (dst l).length
theorem zeroInt (u : World) : (zeroValue 3).run Try.prog u = .ok (vI 0) u := by kernel_rfl
theorem Cnt.made (w : World) : Cnt (w.alloc (.map #[] 0)) w.heap.size [] := by
  unfold Cnt; rw [cnt_nil]; exact MapIs.made _ _ _ _ _
theorem Cnt.kept {S : Nat → Prop} {w w' : World} {b : Nat} {l : List K36} (h : Cnt w b l) (hk : Kept S w w') (hb : ¬ S b) : Cnt w' b l := MapIs.kept h hk hb
theorem Cnt.below {w w' : World} {b m : Nat} {l : List K36} (h : Cnt w b l) (hk : Below m w w') (hm : b < m) : Cnt w' b l := by
  obtain ⟨D, ⟨es, clock, hb, r⟩, r2⟩ := h
  exact ⟨D, ⟨es, clock, (hk.block b hm).trans hb, r⟩, r2⟩
theorem Cnt.look {w : World} {b : Nat} {l : List K36} (h : Cnt w b l) (x : K36) : (Instr.lookup 39 (.map (some b)) (V36 x) false).run Try.prog w = .ok (.int .i64 (l.count x : Nat)) w := by
  have := MapIs.look h keyed36 Try.underlying39 (zeroInt w) (key36 x)
  rw [this, ← cntM_get]
  cases cntM l x <;> rfl
theorem Cnt.len {w : World} {b : Nat} {l : List K36} (h : Cnt w b l) : (Builtin.len_ #[39] 3 #[.map (some b)]).run Try.prog w = .ok (.int .i64 (dst l).length) w := MapIs.len h Try.underlying39 _
/-- 'm[k]++': the entry, the look-up on either side of it, the store. -/
theorem Cnt.entry {w : World} {b : Nat} {l : List K36} (h : Cnt w b l) (hl : l.length < maxLen) (x : K36) :
    ∃ (v0 : Value) (st : Nat) (w1 w3 : World), (Instr.mapEntry 39 (.map (some b)) (V36 x)).run Try.prog w = .ok (.tuple #[v0, .int .i64 st]) w1 ∧ Kept (· = b) w w1 ∧
      (Instr.lookup 39 (.map (some b)) (V36 x) false).run Try.prog w1 = .ok (.int .i64 (l.count x : Nat)) w1 ∧
      (Instr.entryStore 39 (.map (some b)) (.int .i64 st) (.int .i64 ((l.count x + 1 : Nat)))).run Try.prog w1 = .ok () w3 ∧ Cnt w3 b (l ++ [x]) ∧ Kept (· = b) w1 w3 := by
  obtain ⟨w', hu, hm, hk⟩ := MapIs.store h keyed36 L36_inj L36_key Try.underlying39 hl (key36 x) (l.count x + 1)
  have h0 := h.look x
  have hc := h
  obtain ⟨D, ⟨es, clock, h1, F, h3⟩, h4⟩ := hc
  obtain ⟨v0, st, es1, clock1, r1, r0, r2⟩ := Go.WideElems.entry_then_store law36 Try.underlying39 zeroInt h1 F (key36 x)
  obtain ⟨v9, st9, w9, e1, e2, e3⟩ := entry_look law36 Try.underlying39 zeroInt h1 F (key36 x)
  have hb1 := get_setBlock (o := .map es1 clock1) h1
  obtain ⟨es', clock', q1, q2⟩ := r2 _ (vI (l.count x + 1)) hb1
  rw [hu] at q2
  injection q2 with _ q2
  subst q2
  refine ⟨v0, st, _, _, r1, kept_setBlock _ _ _, ?_, q1, ?_, kept_setBlock _ _ _⟩
  · have q3 := e1.symm.trans r1
    have q3 := (Result.ok.inj q3).2
    have q4 := (Result.ok.inj (e3.symm.trans h0)).1
    rw [← q3, ← q4]
    exact e2
  · unfold Cnt
    rw [← cntM_snoc, ← dst_len, List.length_append]
    refine MapIs.move hm ?_
    rw [get_setBlock h1, get_setBlock hb1]
end Go.Proofs.Ytjealbaomhjoaaa
