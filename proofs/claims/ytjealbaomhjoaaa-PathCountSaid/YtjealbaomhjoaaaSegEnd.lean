/- path.Segs: its variables, and its closure 'end'. -/
import Derived.Test.YtjealbaomhjoaaaBase
import Derived.Test.YtjealbaomhjoaaaSegW
import Derived.Deep.RegionHeld3
import Derived.Deep.DeepCutAuto
import Derived.Deep.CutBlock
import Derived.Deep.CutRange
import Derived.Laws.ByValue
set_option linter.unusedVariables false
set_option linter.unusedSimpArgs false
namespace Go.Proofs.Ytjealbaomhjoaaa
open Go.RowKit Go.Proofs.Ytjealbaomhjoaaa.G Go.Proofs.YtjealbaomhjoaaaW.PrintWords Go.Proofs.YtjealbaomhjoaaaW.PrintMore
def at2 (v : S34) : S36 := ⟨wrap64 (2 * v.f0), wrap64 (2 * v.f1)⟩
def half2 (a b : S34) : S36 := ⟨wrap64 (a.f0 + b.f0), wrap64 (a.f1 + b.f1)⟩
def cs34 (v : S34) : Array Value := #[.int .i64 v.f0, .int .i64 v.f1, .bool v.f2]
def cs36 (p : S36) : Array Value := #[.int .i64 p.f0, .int .i64 p.f1]
theorem at_c (v : S34) (w : World) : Calls Try.prog 33 #[.agg #[.int .i64 v.f0, .int .i64 v.f1, .bool v.f2]] w fun e w' => e = .returned (.agg #[.int .i64 (at2 v).f0, .int .i64 (at2 v).f1]) ∧ Below w.heap.size w w' :=
  path_at.calls _ _ _ _ _ w rfl
theorem half_c (a b : S34) (w : World) : Calls Try.prog 32 #[.agg #[.int .i64 a.f0, .int .i64 a.f1, .bool a.f2], .agg #[.int .i64 b.f0, .int .i64 b.f1, .bool b.f2]] w fun e w' => e = .returned (.agg #[.int .i64 (half2 a b).f0, .int .i64 (half2 a b).f1]) ∧ Below w.heap.size w w' :=
  path_half.calls _ _ _ _ _ _ _ _ w rfl

/-- Segs's variables: where the point is (bH), what there is so far (bO), where it began (bB), what pulls (bP). -/
structure Sv (w W : World) (bH bO bB bP : Nat) (bg hr : S36) (u : Value) (out : List S38) (pl : Option (Nat × S34)) : Prop where
  hH : W.heap[bH]? = some (.cells (cs36 hr) 36 (0, 0))
  hO : W.heap[bO]? = some (.cells #[u] 30 (0, 0))
  hB : W.heap[bB]? = some (.cells (cs36 bg) 36 (0, 0))
  hP : W.heap[bP]? = some (.cells #[.pointer (pl.map fun x => ⟨x.1, 0, none⟩)] 69 (0, 0))
  hV : ∀ b v, pl = some (b, v) → W.heap[b]? = some (.cells (cs34 v) 34 (0, 0))
  row : Kd.R k38 38 W w.heap.size (fun _ => True) u out
  ne : bH ≠ bB
  le : w.heap.size ≤ bH ∧ w.heap.size ≤ bO ∧ w.heap.size ≤ bB ∧ w.heap.size ≤ bP
  bel : Below w.heap.size w W
theorem Sv.below {w W W' : World} {bH bO bB bP : Nat} {bg hr : S36} {u : Value} {out : List S38} {pl : Option (Nat × S34)} (h : Sv w W bH bO bB bP bg hr u out pl) (hb : Below W.heap.size W W') : Sv w W' bH bO bB bP bg hr u out pl :=
  ⟨blk_below h.hH hb, blk_below h.hO hb, blk_below h.hB hb, blk_below h.hP hb, fun b v e => blk_below (h.hV b v e) hb, Kd.R_below h.row hb, h.ne, h.le, below_step h.bel hb⟩
/-- A block of a variable of its own stays. -/
def Own34 (W W' : World) : Prop := ∀ (b : Nat) (v : S34), W.heap[b]? = some (.cells (cs34 v) 34 (0, 0)) → W'.heap[b]? = some (.cells (cs34 v) 34 (0, 0))
theorem Own34.below {W W' : World} (hb : Below W.heap.size W W') : Own34 W W' := fun b v h => blk_below h hb
theorem Own34.trans {W W1 W' : World} (h : Own34 W W1) (k : Own34 W1 W') : Own34 W W' := fun b v e => k b v (h b v e)
/-- A piece is appended. -/
theorem Sv.put {w W w1 : World} {bH bO bB bP : Nat} {bg hr : S36} {u v1 : Value} {out : List S38} {pl : Option (Nat × S34)} {s : S38} (h : Sv w W bH bO bB bP bg hr u out pl) (hr1 : Kd.R k38 38 w1 w.heap.size (fun _ => True) v1 (out ++ [s])) (hg : W.grownBy w1 u.ownBlock) :
    Sv w (w1.setCell ⟨bO, 0, none⟩ v1) bH bO bB bP bg hr v1 (out ++ [s]) pl ∧ Own34 W (w1.setCell ⟨bO, 0, none⟩ v1) := by
  have n36 : 38 ≠ 36 := by decide
  have n30 : 38 ≠ 30 := by decide
  have n69 : 38 ≠ 69 := by decide
  have n34 : 38 ≠ 34 := by decide
  have gH := blk_grown h.hH hg (Kd.R_ne h.row h.hH n36)
  have gO := blk_grown h.hO hg (Kd.R_ne h.row h.hO n30)
  have gB := blk_grown h.hB hg (Kd.R_ne h.row h.hB n36)
  have gP := blk_grown h.hP hg (Kd.R_ne h.row h.hP n69)
  have g34 : ∀ (b : Nat) (v : S34), W.heap[b]? = some (.cells (cs34 v) 34 (0, 0)) → (w1.setCell ⟨bO, 0, none⟩ v1).heap[b]? = some (.cells (cs34 v) 34 (0, 0)) := fun b v e =>
    blk_far (blk_grown e hg (Kd.R_ne h.row e n34)) (p := ⟨bO, 0, none⟩) (blk_ne (blk_grown e hg (Kd.R_ne h.row e n34)) gO (by decide)) _
  have hbel : Below w.heap.size w w1 := h.bel.trans ((Kept.of_grownBy hg).below h.bel.size (fun k hk => by
    obtain ⟨inner, hown⟩ := Kd.R_own h.row
    exact own_base hown k hk))
  refine ⟨⟨blk_far gH (p := ⟨bO, 0, none⟩) (blk_ne gH gO (by decide)) _, by simpa using blk_set gO 0 v1, blk_far gB (p := ⟨bO, 0, none⟩) (blk_ne gB gO (by decide)) _, blk_far gP (p := ⟨bO, 0, none⟩) (blk_ne gP gO (by decide)) _, fun b v e => g34 b v (h.hV b v e), ?_, h.ne, h.le, hbel.setCell h.le.2.1 _⟩, g34⟩
  exact Kd.R_set hr1 gO (by decide) 0 _
/-- The point goes on. -/
theorem Sv.move {w W : World} {bH bO bB bP : Nat} {bg hr : S36} {u : Value} {out : List S38} {pl : Option (Nat × S34)} (h : Sv w W bH bO bB bP bg hr u out pl) (p : S36) :
    Sv w ((W.setCell ⟨bH, 0, none⟩ (.int .i64 p.f0)).setCell ⟨bH, 1, none⟩ (.int .i64 p.f1)) bH bO bB bP bg p u out pl ∧ Own34 W ((W.setCell ⟨bH, 0, none⟩ (.int .i64 p.f0)).setCell ⟨bH, 1, none⟩ (.int .i64 p.f1)) := by
  have far : ∀ {g : Nat} {t : TypeId} {cs : Array Value}, W.heap[g]? = some (.cells cs t (0, 0)) → g ≠ bH → ((W.setCell ⟨bH, 0, none⟩ (.int .i64 p.f0)).setCell ⟨bH, 1, none⟩ (.int .i64 p.f1)).heap[g]? = some (.cells cs t (0, 0)) := fun e hne => blk_far (blk_far e (p := ⟨bH, 0, none⟩) hne _) (p := ⟨bH, 1, none⟩) hne _
  have g34 : Own34 W ((W.setCell ⟨bH, 0, none⟩ (.int .i64 p.f0)).setCell ⟨bH, 1, none⟩ (.int .i64 p.f1)) := fun b v e => far e (blk_ne e h.hH (by decide))
  have g1 := blk_set h.hH 0 (.int .i64 p.f0)
  have g2 := blk_set g1 1 (.int .i64 p.f1)
  refine ⟨⟨by simpa [cs36] using g2, far h.hO (blk_ne h.hO h.hH (by decide)), far h.hB (fun e => h.ne e.symm), far h.hP (blk_ne h.hP h.hH (by decide)), fun b v e => g34 b v (h.hV b v e), ?_, h.ne, h.le, (h.bel.setCell h.le.1 _).setCell h.le.1 _⟩, g34⟩
  exact Kd.R_set (Kd.R_set h.row h.hH (by decide) 0 _) g1 (by decide) 1 _

def segE (hr : S36) (pl : Option S34) (p : S36) : S38 := match pl with
  | none => ⟨hr, hr, p, false⟩
  | some v => ⟨hr, at2 v, p, true⟩

theorem cell_alloc {w : World} {a : Addr} {v : Value} {o : Obj} (h : w.cell? a = some v) : (w.alloc o).cell? a = some v := pw_cell_below (below_alloc (Below.refl _ w) o) h
theorem cell_set_ne {w : World} {a : Addr} {v u : Value} {b j : Nat} (hne : a.block ≠ b) (h : w.cell? a = some v) : (w.setCell ⟨b, j, none⟩ u).cell? a = some v := (Kept.setCell (· = b) w ⟨b, j, none⟩ u rfl).cell h hne
attribute [local go_sem] cell_alloc in
set_option maxHeartbeats 2000000 in
set_option maxRecDepth 100000 in
theorem end_c (w W : World) (bH bO bB bP : Nat) (bg hr p : S36) (u : Value) (out : List S38) (pl : Option (Nat × S34)) (h : Sv w W bH bO bB bP bg hr u out pl) (hl : out.length ≤ 100000) :
    Calls Try.prog 34 #[.agg #[.int .i64 p.f0, .int .i64 p.f1], .pointer (some ⟨bP, 0, none⟩), .pointer (some ⟨bO, 0, none⟩), .pointer (some ⟨bH, 0, none⟩)] W fun e w' =>
      e = .returned (.tuple #[]) ∧ (∃ u', Sv w w' bH bO bB bP bg p u' (out ++ [segE hr (pl.map (·.2)) p]) pl) ∧ Own34 W w' := by
  obtain ⟨A0, c0, e0⟩ := Kd.R_slice h.row
  subst e0
  have H := Lib.hid (h.below (below_alloc (Below.refl _ W) (.cells (cs36 p) 36)))
  have HO34 := Lib.hid (Own34.below (below_alloc (Below.refl _ W) (.cells (cs36 p) 36)))
  have G := Lib.hid (heap_alloc_new W (.cells (cs36 p) 36))
  have nlt : ¬ W.heap.size < W.heap.size := Nat.lt_irrefl _
  have hbH : bH < W.heap.size := blk_lt h.hH
  clear h
  obtain ⟨W0, hW0⟩ : ∃ W0, W.alloc (.cells (cs36 p) 36) = W0 := ⟨_, rfl⟩
  rw [hW0] at H HO34 G
  go_enter Try.func34, Try.ntmps34
  go_upto_region 1 with (fail)
  have hW1 : W.alloc (.cells #[.int .i64 p.f0, .int .i64 p.f1] 36) = W0 := hW0
  rw [hW1]
  clear hW0 hW1
  have hb := H.out.bel
  have cp0 : W0.cell? ⟨W.heap.size, 0, none⟩ = some (.int .i64 p.f0) := (blk_cell G.out 0).trans rfl
  have cp1 : W0.cell? ⟨W.heap.size, 1, none⟩ = some (.int .i64 p.f1) := (blk_cell G.out 1).trans rfl
  have ch0 : W0.cell? ⟨bH, 0, none⟩ = some (.int .i64 hr.f0) := (blk_cell H.out.hH 0).trans rfl
  have ch1 : W0.cell? ⟨bH, 1, none⟩ = some (.int .i64 hr.f1) := (blk_cell H.out.hH 1).trans rfl
  have co0 : W0.cell? ⟨bO, 0, none⟩ = some (.slice A0 out.length c0) := (blk_cell H.out.hO 0).trans rfl
  have n36 : 38 ≠ 36 := by decide
  have bpu : some W.heap.size ≠ (Value.slice A0 out.length c0).ownBlock := Kd.R_ne H.out.row G.out n36
  have buO := Kd.R_ne H.out.row H.out.hO (show 38 ≠ 30 by decide)
  have buH := Kd.R_ne H.out.row H.out.hH n36
  have nbO : W.heap.size ≠ bO := blk_ne G.out H.out.hO (by decide)
  have nbO' := nbO.symm
  have nHO : bH ≠ bO := blk_ne H.out.hH H.out.hO (by decide)
  have nHO' := nHO.symm
  have nbH : W.heap.size ≠ bH := fun e => nlt (e ▸ hbH)
  have nbH' := nbH.symm
  cases pl with
  | none =>
    have cP0 : W0.cell? ⟨bP, 0, none⟩ = some (.pointer none) := (blk_cell H.out.hP 0).trans rfl
    go_wp2_with (at_builtin; refine Kd.R_append k38 (w0 := w) w.heap.size rfl (.tmp 7) (.tmp 12) 30 38 _ 56 rfl Try.underlying30 info38 rfl (by decide) (by omega) (.slice A0 out.length c0) out ⟨hr, hr, p, false⟩ [.int .i64 hr.f0, .int .i64 hr.f1, .int .i64 hr.f0, .int .i64 hr.f1, .int .i64 p.f0, .int .i64 p.f1, .bool false] (fun _ => True) (fun _ => False) rfl rfl ?aP (fun _ hk => hk.elim) (fun _ _ => trivial) H.out.row H.out.bel H.out.bel.size ?aL ?_; (case aP => exact k38_mkM _ _ _ ⟨hr, hr, p, false⟩); (case aL => omega); intro v1 w3 ho hb3 hg hat; have n1 := Lib.hid (H.out.put ho hg); have n2 := Lib.hid (blk_grown G.out hg bpu); have n3 := Lib.hid (blk_grown H.out.hO hg buO); have n4 := Lib.hid (blk_grown H.out.hH hg buH); obtain ⟨A9, c9, e9⟩ := Kd.R_slice ho; rw [List.length_append, List.length_singleton] at e9; subst e9; clear ho hb3 hg hat; have q0 := blk_frozen n3.out 0; have q1 := (blk_cell n3.out 0).trans rfl; have q2 : w3.cell? ⟨W.heap.size, 0, none⟩ = some (.int .i64 p.f0) := (blk_cell n2.out 0).trans rfl; have q3 : w3.cell? ⟨W.heap.size, 1, none⟩ = some (.int .i64 p.f1) := (blk_cell n2.out 1).trans rfl; have q4 := blk_frozen n4.out 0; have q5 := blk_frozen n4.out 1; have q6 : w3.cell? ⟨bH, 0, none⟩ = some (.int .i64 hr.f0) := (blk_cell n4.out 0).trans rfl; have q7 : w3.cell? ⟨bH, 1, none⟩ = some (.int .i64 hr.f1) := (blk_cell n4.out 1).trans rfl)
    obtain ⟨m1, m2⟩ := n1.out.1.move p
    refine bodyPost_end (results_none rfl _ _ _) rfl ?_
    exact ⟨rfl, ⟨_, m1⟩, HO34.out.trans (n1.out.2.trans m2)⟩
  | some bv =>
    obtain ⟨b, v⟩ := bv
    have cP0 : W0.cell? ⟨bP, 0, none⟩ = some (.pointer (some ⟨b, 0, none⟩)) := (blk_cell H.out.hP 0).trans rfl
    have cv0 : W0.cell? ⟨b, 0, none⟩ = some (.int .i64 v.f0) := (blk_cell (H.out.hV b v rfl) 0).trans rfl
    have cv1 : W0.cell? ⟨b, 1, none⟩ = some (.int .i64 v.f1) := (blk_cell (H.out.hV b v rfl) 1).trans rfl
    have cv2 : W0.cell? ⟨b, 2, none⟩ = some (.bool v.f2) := (blk_cell (H.out.hV b v rfl) 2).trans rfl
    have nPO : bP ≠ bO := blk_ne H.out.hP H.out.hO (by decide)
    have nVO : b ≠ bO := blk_ne (H.out.hV b v rfl) H.out.hO (by decide)
    go_wp2_with fail
    have HD := Lib.hid (H.out.below (below_drew (Below.refl _ W0)))
    have GD := Lib.hid (blk_below G.out (below_drew (Below.refl _ W0)))
    refine wp_region_noPanic ?_
    refine wp_region_held_drew (S := (fun w' => w'.cell? ⟨bP, 0, none⟩ = some (.pointer (some ⟨b, 0, none⟩)) ∧ w'.cell? ⟨b, 0, none⟩ = some (.int .i64 v.f0) ∧ w'.cell? ⟨b, 1, none⟩ = some (.int .i64 v.f1) ∧ w'.cell? ⟨b, 2, none⟩ = some (.bool v.f2) ∧ w'.cell? ⟨W.heap.size, 0, none⟩ = some (.int .i64 p.f0) ∧ w'.cell? ⟨W.heap.size, 1, none⟩ = some (.int .i64 p.f1) ∧ w'.cell? ⟨bH, 0, none⟩ = some (.int .i64 hr.f0) ∧ w'.cell? ⟨bH, 1, none⟩ = some (.int .i64 hr.f1))) (by kernel_rfl) ?_ (fun hHeld => ?_)
    · (try dsimp only); (try go_split_ands); refine ⟨?_, ?_, ?_, ?_, ?_, ?_, ?_, ?_⟩ <;> first | assumption | exact pw_cell_below hb7 (by assumption) | exact cell_alloc (by assumption) | exact cell_set_ne (by assumption) (by assumption)
    refine wpAnyH_take (i := 1) (oi := { dst := some 15, op := Op.load 36 (Operand.tmp 3), type := 36, pos := "path.go:35", after := #[], guard := none }) (v := (.agg #[.int .i64 hr.f0, .int .i64 hr.f1])) rfl (by kernel_rfl) (by kernel_rfl) (by kernel_rfl) (fun _ _ _ h => h) (Or.inl ⟨by rfl, ?_⟩) (by assumption) ?_
    · intro w hSw; (try dsimp only at hSw); go_split_ands; go_simp
    try simp only [Act.put, List.setIfInBounds_toArray, List.set_cons_zero, List.set_cons_succ]
    refine wpAnyH_take (i := 2) (oi := { dst := some 16, op := Op.load 69 (Operand.tmp 1), type := 69, pos := "path.go:35", after := #[], guard := none }) (v := (.pointer (some ⟨b, 0, none⟩))) rfl (by kernel_rfl) (by kernel_rfl) (by kernel_rfl) (fun _ _ _ h => h) (Or.inl ⟨by rfl, ?_⟩) (by assumption) ?_
    · intro w hSw; (try dsimp only at hSw); go_split_ands; go_simp
    try simp only [Act.put, List.setIfInBounds_toArray, List.set_cons_zero, List.set_cons_succ]
    refine wpAnyH_take (i := 3) (oi := { dst := some 17, op := Op.nilCheck (Operand.tmp 16), type := 0, pos := "path.go:35", after := #[{ on := 2, ground := Ground.data }], guard := none }) (v := (.pointer (some ⟨b, 0, none⟩))) rfl (by kernel_rfl) (by kernel_rfl) (by kernel_rfl) (fun _ _ _ h => h) (Or.inl ⟨by rfl, ?_⟩) (by assumption) ?_
    · intro w hSw; (try dsimp only at hSw); go_split_ands; go_simp
    try simp only [Act.put, List.setIfInBounds_toArray, List.set_cons_zero, List.set_cons_succ]
    refine wpAnyH_take (i := 4) (oi := { dst := some 18, op := Op.load 34 (Operand.tmp 17), type := 34, pos := "path.go:35", after := #[{ on := 3, ground := Ground.data }], guard := none }) (v := (.agg #[.int .i64 v.f0, .int .i64 v.f1, .bool v.f2])) rfl (by kernel_rfl) (by kernel_rfl) (by kernel_rfl) (fun _ _ _ h => h) (Or.inl ⟨by rfl, ?_⟩) (by assumption) ?_
    · intro w hSw; (try dsimp only at hSw); go_split_ands; go_simp
    try simp only [Act.put, List.setIfInBounds_toArray, List.set_cons_zero, List.set_cons_succ]
    refine wpAnyH_take (i := 6) (oi := { dst := some 20, op := Op.load 36 (Operand.tmp 4), type := 36, pos := "path.go:35", after := #[], guard := none }) (v := (.agg #[.int .i64 p.f0, .int .i64 p.f1])) rfl (by kernel_rfl) (by kernel_rfl) (by kernel_rfl) (fun _ _ _ h => h) (Or.inl ⟨by rfl, ?_⟩) (by assumption) ?_
    · intro w hSw; (try dsimp only at hSw); go_split_ands; go_simp
    try simp only [Act.put, List.setIfInBounds_toArray, List.set_cons_zero, List.set_cons_succ]
    refine wpAnyH_ready (rs := [0, 5]) (by kernel_rfl) (by simp) ?_
    refine AllReadyH.cons (o := { dst := some 14, op := Op.load 30 (Operand.tmp 2), type := 30, pos := "path.go:35", after := #[], guard := none }) rfl (fun K hK => ?_) (AllReadyH.cons (o := { dst := some 19, op := Op.call { callee := Callee.value (Operand.func 33), args := #[Operand.tmp 18], argTypes := #[34] }, type := 36, pos := "path.go:35", after := #[{ on := 4, ground := Ground.data }], guard := none }) rfl (fun K hK => ?_) (AllReadyH.nil))
    · skip
      go_simp
      refine hK.out _ _ ?_ (fun hHeld => ?_)
      · (try dsimp only); (try go_split_ands); refine ⟨?_, ?_, ?_, ?_, ?_, ?_, ?_, ?_⟩ <;> first | assumption | exact pw_cell_below hb7 (by assumption) | exact cell_alloc (by assumption) | exact cell_set_ne (by assumption) (by assumption)
      clear hK K
      try simp only [Act.put, List.setIfInBounds_toArray, List.set_cons_zero, List.set_cons_succ]
      refine wpAnyH_ready (rs := [5]) (by kernel_rfl) (by simp) ?_
      refine AllReadyH.cons (o := { dst := some 19, op := Op.call { callee := Callee.value (Operand.func 33), args := #[Operand.tmp 18], argTypes := #[34] }, type := 36, pos := "path.go:35", after := #[{ on := 4, ground := Ground.data }], guard := none }) rfl (fun K hK => ?_) (AllReadyH.nil)
      · skip
        go_simp
        go_at_call 33; ((with_reducible refine (at_c v _).mono ?_); rintro e w' ⟨rfl, hb7⟩; have H5 := Lib.hid (HD.out.below hb7); have G5 := Lib.hid (blk_below GD.out hb7); have co5 : w'.cell? ⟨bO, 0, none⟩ = some (.slice A0 out.length c0) := (blk_cell H5.out.hO 0).trans rfl)
        go_wp2_with fail
        refine hK.out _ _ ?_ (fun hHeld => ?_)
        · (try dsimp only); (try go_split_ands); refine ⟨?_, ?_, ?_, ?_, ?_, ?_, ?_, ?_⟩ <;> first | assumption | exact pw_cell_below hb7 (by assumption) | exact cell_alloc (by assumption) | exact cell_set_ne (by assumption) (by assumption)
        clear hK K
        try simp only [Act.put, List.setIfInBounds_toArray, List.set_cons_zero, List.set_cons_succ]
        refine wpAnyH_take (i := 7) (oi := { dst := some 21, op := Op.build 38 #[(0, Operand.tmp 15), (1, Operand.tmp 19), (2, Operand.tmp 20), (3, Operand.const (Value.bool true))], type := 38, pos := "path.go:35", after := #[{ on := 1, ground := Ground.data }, { on := 5, ground := Ground.data }, { on := 6, ground := Ground.data }], guard := none }) (v := (.agg #[.int .i64 hr.f0, .int .i64 hr.f1, .int .i64 (at2 v).f0, .int .i64 (at2 v).f1, .int .i64 p.f0, .int .i64 p.f1, .bool true])) rfl (by kernel_rfl) (by kernel_rfl) (by kernel_rfl) (fun _ _ _ h => h) (Or.inl ⟨by rfl, ?_⟩) (by assumption) ?_
        · intro w hSw; (try dsimp only at hSw); go_split_ands; go_simp
        try simp only [Act.put, List.setIfInBounds_toArray, List.set_cons_zero, List.set_cons_succ]
        refine wpAnyH_ready (rs := [8]) (by kernel_rfl) (by simp) ?_
        refine AllReadyH.cons (o := { dst := some 22, op := Op.buildSlice 30 1 #[(0, Operand.tmp 21)], type := 30, pos := "path.go:35", after := #[{ on := 7, ground := Ground.data }], guard := none }) rfl (fun K hK => ?_) (AllReadyH.nil)
        · skip
          go_simp
          refine hK.out _ _ ?_ (fun hHeld => ?_)
          · (try dsimp only); (try go_split_ands); refine ⟨?_, ?_, ?_, ?_, ?_, ?_, ?_, ?_⟩ <;> first | assumption | exact pw_cell_below hb7 (by assumption) | exact cell_alloc (by assumption) | exact cell_set_ne (by assumption) (by assumption)
          clear hK K
          try simp only [Act.put, List.setIfInBounds_toArray, List.set_cons_zero, List.set_cons_succ]
          refine wpAnyH_ready (rs := [9]) (by kernel_rfl) (by simp) ?_
          refine AllReadyH.cons (o := { dst := some 23, op := Op.call { callee := Callee.builtin Builtin.append, args := #[Operand.tmp 14, Operand.tmp 22], argTypes := #[30, 30] }, type := 30, pos := "path.go:35", after := #[{ on := 0, ground := Ground.data }, { on := 8, ground := Ground.data }, { on := 5, ground := Ground.chain }], guard := none }) rfl (fun K hK => ?_) (AllReadyH.nil)
          · skip
            (refine Kd.R_append_step k38 (w0 := w) w.heap.size (by rfl) (.tmp 14) (.tmp 22) 30 38 _ 56 (by rfl) Try.underlying30 info38 rfl (by decide) (by omega) (.slice A0 out.length c0) out ⟨hr, at2 v, p, true⟩ [.int .i64 hr.f0, .int .i64 hr.f1, .int .i64 (at2 v).f0, .int .i64 (at2 v).f1, .int .i64 p.f0, .int .i64 p.f1, .bool true] (fun _ => True) (fun _ => False) (by rfl) (by rfl) (k38_mkM _ _ _ ⟨hr, at2 v, p, true⟩) (fun _ hk => hk.elim) (fun _ _ => trivial) H5.out.row H5.out.bel H5.out.bel.size (by omega) ?_); intro v1 w3 ho hb3 hg hat; have n1 := Lib.hid (H5.out.put ho hg); have n2 := Lib.hid (blk_grown G5.out hg bpu); have n3 := Lib.hid (blk_grown H5.out.hO hg buO); have n4 := Lib.hid (blk_grown H5.out.hH hg buH); obtain ⟨A9, c9, e9⟩ := Kd.R_slice ho; have n5 := (blk_cell (blk_grown H5.out.hP hg (Kd.R_ne H5.out.row H5.out.hP (show 38 ≠ 69 by decide))) 0).trans rfl; have n6 := blk_grown (H5.out.hV b v rfl) hg (Kd.R_ne H5.out.row (H5.out.hV b v rfl) (show 38 ≠ 34 by decide)); have n7 := (blk_cell n6 0).trans rfl; have n8 := (blk_cell n6 1).trans rfl; have n9 := (blk_cell n6 2).trans rfl; rw [List.length_append, List.length_singleton] at e9; subst e9; clear ho hb3 hg hat; have q0 := blk_frozen n3.out 0; have q1 := (blk_cell n3.out 0).trans rfl; have q2 : w3.cell? ⟨W.heap.size, 0, none⟩ = some (.int .i64 p.f0) := (blk_cell n2.out 0).trans rfl; have q3 : w3.cell? ⟨W.heap.size, 1, none⟩ = some (.int .i64 p.f1) := (blk_cell n2.out 1).trans rfl; have q4 := blk_frozen n4.out 0; have q5 := blk_frozen n4.out 1; have q6 : w3.cell? ⟨bH, 0, none⟩ = some (.int .i64 hr.f0) := (blk_cell n4.out 0).trans rfl; have q7 : w3.cell? ⟨bH, 1, none⟩ = some (.int .i64 hr.f1) := (blk_cell n4.out 1).trans rfl
            refine hK.out _ _ ?_ (fun hHeld => ?_)
            · (try dsimp only); (try go_split_ands); refine ⟨?_, ?_, ?_, ?_, ?_, ?_, ?_, ?_⟩ <;> first | assumption | exact pw_cell_below hb7 (by assumption) | exact cell_alloc (by assumption) | exact cell_set_ne (by assumption) (by assumption)
            clear hK K
            try simp only [Act.put, List.setIfInBounds_toArray, List.set_cons_zero, List.set_cons_succ]
            refine wpAnyH_ready (rs := [10]) (by kernel_rfl) (by simp) ?_
            refine AllReadyH.cons (o := { dst := none, op := Op.store 30 (Operand.tmp 2) (Operand.tmp 23), type := 0, pos := "path.go:35", after := #[{ on := 9, ground := Ground.data }, { on := 9, ground := Ground.chain }, { on := 0, ground := Ground.phase }, { on := 1, ground := Ground.phase }, { on := 2, ground := Ground.phase }, { on := 3, ground := Ground.phase }, { on := 4, ground := Ground.phase }, { on := 5, ground := Ground.phase }, { on := 6, ground := Ground.phase }, { on := 7, ground := Ground.phase }, { on := 8, ground := Ground.phase }, { on := 9, ground := Ground.phase }], guard := none }) rfl (fun K hK => ?_) (AllReadyH.nil)
            · skip
              go_simp
              refine hK.out _ _ ?_ (fun hHeld => ?_)
              · (try dsimp only); (try go_split_ands); refine ⟨?_, ?_, ?_, ?_, ?_, ?_, ?_, ?_⟩ <;> first | assumption | exact pw_cell_below hb7 (by assumption) | exact cell_alloc (by assumption) | exact cell_set_ne (by assumption) (by assumption)
              clear hK K
              try simp only [Act.put, List.setIfInBounds_toArray, List.set_cons_zero, List.set_cons_succ]
              refine wpAnyH_done (by kernel_rfl) ?_ _
              refine NoPanic.normal ?_
              go_wp2_with fail
              obtain ⟨m1, m2⟩ := n1.out.1.move p
              refine bodyPost_end (results_none rfl _ _ _) rfl ?_
              exact ⟨rfl, ⟨_, m1⟩, HO34.out.trans ((Own34.below (below_drew (Below.refl _ W0))).trans ((Own34.below hb7).trans (n1.out.2.trans m2)))⟩
    · skip
      go_simp
      go_at_call 33; ((with_reducible refine (at_c v _).mono ?_); rintro e w' ⟨rfl, hb7⟩; have H5 := Lib.hid (HD.out.below hb7); have G5 := Lib.hid (blk_below GD.out hb7); have co5 : w'.cell? ⟨bO, 0, none⟩ = some (.slice A0 out.length c0) := (blk_cell H5.out.hO 0).trans rfl)
      go_wp2_with fail
      refine hK.out _ _ ?_ (fun hHeld => ?_)
      · (try dsimp only); (try go_split_ands); refine ⟨?_, ?_, ?_, ?_, ?_, ?_, ?_, ?_⟩ <;> first | assumption | exact pw_cell_below hb7 (by assumption) | exact cell_alloc (by assumption) | exact cell_set_ne (by assumption) (by assumption)
      clear hK K
      try simp only [Act.put, List.setIfInBounds_toArray, List.set_cons_zero, List.set_cons_succ]
      refine wpAnyH_take (i := 7) (oi := { dst := some 21, op := Op.build 38 #[(0, Operand.tmp 15), (1, Operand.tmp 19), (2, Operand.tmp 20), (3, Operand.const (Value.bool true))], type := 38, pos := "path.go:35", after := #[{ on := 1, ground := Ground.data }, { on := 5, ground := Ground.data }, { on := 6, ground := Ground.data }], guard := none }) (v := (.agg #[.int .i64 hr.f0, .int .i64 hr.f1, .int .i64 (at2 v).f0, .int .i64 (at2 v).f1, .int .i64 p.f0, .int .i64 p.f1, .bool true])) rfl (by kernel_rfl) (by kernel_rfl) (by kernel_rfl) (fun _ _ _ h => h) (Or.inl ⟨by rfl, ?_⟩) (by assumption) ?_
      · intro w hSw; (try dsimp only at hSw); go_split_ands; go_simp
      try simp only [Act.put, List.setIfInBounds_toArray, List.set_cons_zero, List.set_cons_succ]
      refine wpAnyH_ready (rs := [0, 8]) (by kernel_rfl) (by simp) ?_
      refine AllReadyH.cons (o := { dst := some 14, op := Op.load 30 (Operand.tmp 2), type := 30, pos := "path.go:35", after := #[], guard := none }) rfl (fun K hK => ?_) (AllReadyH.cons (o := { dst := some 22, op := Op.buildSlice 30 1 #[(0, Operand.tmp 21)], type := 30, pos := "path.go:35", after := #[{ on := 7, ground := Ground.data }], guard := none }) rfl (fun K hK => ?_) (AllReadyH.nil))
      · skip
        go_simp
        refine hK.out _ _ ?_ (fun hHeld => ?_)
        · (try dsimp only); (try go_split_ands); refine ⟨?_, ?_, ?_, ?_, ?_, ?_, ?_, ?_⟩ <;> first | assumption | exact pw_cell_below hb7 (by assumption) | exact cell_alloc (by assumption) | exact cell_set_ne (by assumption) (by assumption)
        clear hK K
        try simp only [Act.put, List.setIfInBounds_toArray, List.set_cons_zero, List.set_cons_succ]
        refine wpAnyH_ready (rs := [8]) (by kernel_rfl) (by simp) ?_
        refine AllReadyH.cons (o := { dst := some 22, op := Op.buildSlice 30 1 #[(0, Operand.tmp 21)], type := 30, pos := "path.go:35", after := #[{ on := 7, ground := Ground.data }], guard := none }) rfl (fun K hK => ?_) (AllReadyH.nil)
        · skip
          go_simp
          refine hK.out _ _ ?_ (fun hHeld => ?_)
          · (try dsimp only); (try go_split_ands); refine ⟨?_, ?_, ?_, ?_, ?_, ?_, ?_, ?_⟩ <;> first | assumption | exact pw_cell_below hb7 (by assumption) | exact cell_alloc (by assumption) | exact cell_set_ne (by assumption) (by assumption)
          clear hK K
          try simp only [Act.put, List.setIfInBounds_toArray, List.set_cons_zero, List.set_cons_succ]
          refine wpAnyH_ready (rs := [9]) (by kernel_rfl) (by simp) ?_
          refine AllReadyH.cons (o := { dst := some 23, op := Op.call { callee := Callee.builtin Builtin.append, args := #[Operand.tmp 14, Operand.tmp 22], argTypes := #[30, 30] }, type := 30, pos := "path.go:35", after := #[{ on := 0, ground := Ground.data }, { on := 8, ground := Ground.data }, { on := 5, ground := Ground.chain }], guard := none }) rfl (fun K hK => ?_) (AllReadyH.nil)
          · skip
            (refine Kd.R_append_step k38 (w0 := w) w.heap.size (by rfl) (.tmp 14) (.tmp 22) 30 38 _ 56 (by rfl) Try.underlying30 info38 rfl (by decide) (by omega) (.slice A0 out.length c0) out ⟨hr, at2 v, p, true⟩ [.int .i64 hr.f0, .int .i64 hr.f1, .int .i64 (at2 v).f0, .int .i64 (at2 v).f1, .int .i64 p.f0, .int .i64 p.f1, .bool true] (fun _ => True) (fun _ => False) (by rfl) (by rfl) (k38_mkM _ _ _ ⟨hr, at2 v, p, true⟩) (fun _ hk => hk.elim) (fun _ _ => trivial) H5.out.row H5.out.bel H5.out.bel.size (by omega) ?_); intro v1 w3 ho hb3 hg hat; have n1 := Lib.hid (H5.out.put ho hg); have n2 := Lib.hid (blk_grown G5.out hg bpu); have n3 := Lib.hid (blk_grown H5.out.hO hg buO); have n4 := Lib.hid (blk_grown H5.out.hH hg buH); obtain ⟨A9, c9, e9⟩ := Kd.R_slice ho; have n5 := (blk_cell (blk_grown H5.out.hP hg (Kd.R_ne H5.out.row H5.out.hP (show 38 ≠ 69 by decide))) 0).trans rfl; have n6 := blk_grown (H5.out.hV b v rfl) hg (Kd.R_ne H5.out.row (H5.out.hV b v rfl) (show 38 ≠ 34 by decide)); have n7 := (blk_cell n6 0).trans rfl; have n8 := (blk_cell n6 1).trans rfl; have n9 := (blk_cell n6 2).trans rfl; rw [List.length_append, List.length_singleton] at e9; subst e9; clear ho hb3 hg hat; have q0 := blk_frozen n3.out 0; have q1 := (blk_cell n3.out 0).trans rfl; have q2 : w3.cell? ⟨W.heap.size, 0, none⟩ = some (.int .i64 p.f0) := (blk_cell n2.out 0).trans rfl; have q3 : w3.cell? ⟨W.heap.size, 1, none⟩ = some (.int .i64 p.f1) := (blk_cell n2.out 1).trans rfl; have q4 := blk_frozen n4.out 0; have q5 := blk_frozen n4.out 1; have q6 : w3.cell? ⟨bH, 0, none⟩ = some (.int .i64 hr.f0) := (blk_cell n4.out 0).trans rfl; have q7 : w3.cell? ⟨bH, 1, none⟩ = some (.int .i64 hr.f1) := (blk_cell n4.out 1).trans rfl
            refine hK.out _ _ ?_ (fun hHeld => ?_)
            · (try dsimp only); (try go_split_ands); refine ⟨?_, ?_, ?_, ?_, ?_, ?_, ?_, ?_⟩ <;> first | assumption | exact pw_cell_below hb7 (by assumption) | exact cell_alloc (by assumption) | exact cell_set_ne (by assumption) (by assumption)
            clear hK K
            try simp only [Act.put, List.setIfInBounds_toArray, List.set_cons_zero, List.set_cons_succ]
            refine wpAnyH_ready (rs := [10]) (by kernel_rfl) (by simp) ?_
            refine AllReadyH.cons (o := { dst := none, op := Op.store 30 (Operand.tmp 2) (Operand.tmp 23), type := 0, pos := "path.go:35", after := #[{ on := 9, ground := Ground.data }, { on := 9, ground := Ground.chain }, { on := 0, ground := Ground.phase }, { on := 1, ground := Ground.phase }, { on := 2, ground := Ground.phase }, { on := 3, ground := Ground.phase }, { on := 4, ground := Ground.phase }, { on := 5, ground := Ground.phase }, { on := 6, ground := Ground.phase }, { on := 7, ground := Ground.phase }, { on := 8, ground := Ground.phase }, { on := 9, ground := Ground.phase }], guard := none }) rfl (fun K hK => ?_) (AllReadyH.nil)
            · skip
              go_simp
              refine hK.out _ _ ?_ (fun hHeld => ?_)
              · (try dsimp only); (try go_split_ands); refine ⟨?_, ?_, ?_, ?_, ?_, ?_, ?_, ?_⟩ <;> first | assumption | exact pw_cell_below hb7 (by assumption) | exact cell_alloc (by assumption) | exact cell_set_ne (by assumption) (by assumption)
              clear hK K
              try simp only [Act.put, List.setIfInBounds_toArray, List.set_cons_zero, List.set_cons_succ]
              refine wpAnyH_done (by kernel_rfl) ?_ _
              refine NoPanic.normal ?_
              go_wp2_with fail
              obtain ⟨m1, m2⟩ := n1.out.1.move p
              refine bodyPost_end (results_none rfl _ _ _) rfl ?_
              exact ⟨rfl, ⟨_, m1⟩, HO34.out.trans ((Own34.below (below_drew (Below.refl _ W0))).trans ((Own34.below hb7).trans (n1.out.2.trans m2)))⟩
      · skip
        go_simp
        refine hK.out _ _ ?_ (fun hHeld => ?_)
        · (try dsimp only); (try go_split_ands); refine ⟨?_, ?_, ?_, ?_, ?_, ?_, ?_, ?_⟩ <;> first | assumption | exact pw_cell_below hb7 (by assumption) | exact cell_alloc (by assumption) | exact cell_set_ne (by assumption) (by assumption)
        clear hK K
        try simp only [Act.put, List.setIfInBounds_toArray, List.set_cons_zero, List.set_cons_succ]
        refine wpAnyH_ready (rs := [0]) (by kernel_rfl) (by simp) ?_
        refine AllReadyH.cons (o := { dst := some 14, op := Op.load 30 (Operand.tmp 2), type := 30, pos := "path.go:35", after := #[], guard := none }) rfl (fun K hK => ?_) (AllReadyH.nil)
        · skip
          go_simp
          refine hK.out _ _ ?_ (fun hHeld => ?_)
          · (try dsimp only); (try go_split_ands); refine ⟨?_, ?_, ?_, ?_, ?_, ?_, ?_, ?_⟩ <;> first | assumption | exact pw_cell_below hb7 (by assumption) | exact cell_alloc (by assumption) | exact cell_set_ne (by assumption) (by assumption)
          clear hK K
          try simp only [Act.put, List.setIfInBounds_toArray, List.set_cons_zero, List.set_cons_succ]
          refine wpAnyH_ready (rs := [9]) (by kernel_rfl) (by simp) ?_
          refine AllReadyH.cons (o := { dst := some 23, op := Op.call { callee := Callee.builtin Builtin.append, args := #[Operand.tmp 14, Operand.tmp 22], argTypes := #[30, 30] }, type := 30, pos := "path.go:35", after := #[{ on := 0, ground := Ground.data }, { on := 8, ground := Ground.data }, { on := 5, ground := Ground.chain }], guard := none }) rfl (fun K hK => ?_) (AllReadyH.nil)
          · skip
            (refine Kd.R_append_step k38 (w0 := w) w.heap.size (by rfl) (.tmp 14) (.tmp 22) 30 38 _ 56 (by rfl) Try.underlying30 info38 rfl (by decide) (by omega) (.slice A0 out.length c0) out ⟨hr, at2 v, p, true⟩ [.int .i64 hr.f0, .int .i64 hr.f1, .int .i64 (at2 v).f0, .int .i64 (at2 v).f1, .int .i64 p.f0, .int .i64 p.f1, .bool true] (fun _ => True) (fun _ => False) (by rfl) (by rfl) (k38_mkM _ _ _ ⟨hr, at2 v, p, true⟩) (fun _ hk => hk.elim) (fun _ _ => trivial) H5.out.row H5.out.bel H5.out.bel.size (by omega) ?_); intro v1 w3 ho hb3 hg hat; have n1 := Lib.hid (H5.out.put ho hg); have n2 := Lib.hid (blk_grown G5.out hg bpu); have n3 := Lib.hid (blk_grown H5.out.hO hg buO); have n4 := Lib.hid (blk_grown H5.out.hH hg buH); obtain ⟨A9, c9, e9⟩ := Kd.R_slice ho; have n5 := (blk_cell (blk_grown H5.out.hP hg (Kd.R_ne H5.out.row H5.out.hP (show 38 ≠ 69 by decide))) 0).trans rfl; have n6 := blk_grown (H5.out.hV b v rfl) hg (Kd.R_ne H5.out.row (H5.out.hV b v rfl) (show 38 ≠ 34 by decide)); have n7 := (blk_cell n6 0).trans rfl; have n8 := (blk_cell n6 1).trans rfl; have n9 := (blk_cell n6 2).trans rfl; rw [List.length_append, List.length_singleton] at e9; subst e9; clear ho hb3 hg hat; have q0 := blk_frozen n3.out 0; have q1 := (blk_cell n3.out 0).trans rfl; have q2 : w3.cell? ⟨W.heap.size, 0, none⟩ = some (.int .i64 p.f0) := (blk_cell n2.out 0).trans rfl; have q3 : w3.cell? ⟨W.heap.size, 1, none⟩ = some (.int .i64 p.f1) := (blk_cell n2.out 1).trans rfl; have q4 := blk_frozen n4.out 0; have q5 := blk_frozen n4.out 1; have q6 : w3.cell? ⟨bH, 0, none⟩ = some (.int .i64 hr.f0) := (blk_cell n4.out 0).trans rfl; have q7 : w3.cell? ⟨bH, 1, none⟩ = some (.int .i64 hr.f1) := (blk_cell n4.out 1).trans rfl
            refine hK.out _ _ ?_ (fun hHeld => ?_)
            · (try dsimp only); (try go_split_ands); refine ⟨?_, ?_, ?_, ?_, ?_, ?_, ?_, ?_⟩ <;> first | assumption | exact pw_cell_below hb7 (by assumption) | exact cell_alloc (by assumption) | exact cell_set_ne (by assumption) (by assumption)
            clear hK K
            try simp only [Act.put, List.setIfInBounds_toArray, List.set_cons_zero, List.set_cons_succ]
            refine wpAnyH_ready (rs := [10]) (by kernel_rfl) (by simp) ?_
            refine AllReadyH.cons (o := { dst := none, op := Op.store 30 (Operand.tmp 2) (Operand.tmp 23), type := 0, pos := "path.go:35", after := #[{ on := 9, ground := Ground.data }, { on := 9, ground := Ground.chain }, { on := 0, ground := Ground.phase }, { on := 1, ground := Ground.phase }, { on := 2, ground := Ground.phase }, { on := 3, ground := Ground.phase }, { on := 4, ground := Ground.phase }, { on := 5, ground := Ground.phase }, { on := 6, ground := Ground.phase }, { on := 7, ground := Ground.phase }, { on := 8, ground := Ground.phase }, { on := 9, ground := Ground.phase }], guard := none }) rfl (fun K hK => ?_) (AllReadyH.nil)
            · skip
              go_simp
              refine hK.out _ _ ?_ (fun hHeld => ?_)
              · (try dsimp only); (try go_split_ands); refine ⟨?_, ?_, ?_, ?_, ?_, ?_, ?_, ?_⟩ <;> first | assumption | exact pw_cell_below hb7 (by assumption) | exact cell_alloc (by assumption) | exact cell_set_ne (by assumption) (by assumption)
              clear hK K
              try simp only [Act.put, List.setIfInBounds_toArray, List.set_cons_zero, List.set_cons_succ]
              refine wpAnyH_done (by kernel_rfl) ?_ _
              refine NoPanic.normal ?_
              go_wp2_with fail
              obtain ⟨m1, m2⟩ := n1.out.1.move p
              refine bodyPost_end (results_none rfl _ _ _) rfl ?_
              exact ⟨rfl, ⟨_, m1⟩, HO34.out.trans ((Own34.below (below_drew (Below.refl _ W0))).trans ((Own34.below hb7).trans (n1.out.2.trans m2)))⟩
end Go.Proofs.Ytjealbaomhjoaaa
