/- LruOnce: for every input the law returns true: each key is there once. No condition. -/
import Derived.Test.YtgldonfpiifnfaaRows
import Derived.Test.YtgldonfpiifnfaaLruAwake
import Derived.Test.YtgldonfpiifnfaaLruUA
import Derived.Test.YtgldonfpiifnfaaIter
import Derived.Test.YtgldonfpiifnfaaIterE
import Derived.Test.YtgldonfpiifnfaaRowBase
import Derived.Deep.DeepCutAuto
import Derived.Deep.CutBlock
import Derived.Deep.CutRange
import Derived.Deep.RegionWith
import Derived.Outline
import Derived.StillTailTactics
set_option linter.unusedVariables false
namespace Go.Proofs.Ytgldonfpiifnfaa
open Go.RowKit Go.Shelf
attribute [local go_sem] Oper.semAt_some

/-- The keys of M, in a map. -/
def setF (M : List Int) : Int → Option Bool := fun u => if u ∈ M then some true else none
theorem setF_use (L : List Int) (x : Int) : (fun u => if u = x then some true else setF L u) = setF (L.erase x ++ [x]) := by
  funext u
  unfold setF
  by_cases h : u = x
  · subst h; simp
  · simp [h, List.mem_erase_of_ne h]
theorem setF_len {L : List Int} (h : L.Nodup) (x : Int) : (L.erase x ++ [x]).length = if (setF L x).isSome then L.length else L.length + 1 := by
  unfold setF
  by_cases hx : x ∈ L
  · have := List.length_pos_of_mem hx
    simp [hx, List.length_erase_of_mem hx]; omega
  · simp [hx, List.erase_of_not_mem hx]
theorem setF_del (L : List Int) (x : Int) (h : L.Nodup) : (fun u => if u = x then none else setF L u) = setF (L.erase x) := by
  funext u
  unfold setF
  by_cases hu : u = x
  · subst hu; simp [h.not_mem_erase]
  · simp [hu, List.mem_erase_of_ne hu]

/-- A part that ends normally: what lies behind the other ends is of no matter. -/
theorem wp_calm {P : Program} {c : Code} {K : Act → World → Prop} {Q : Exit → Act → World → Prop} {a : Act} {w : World} (h : c.wp P (Exit.then K (fun _ _ _ => False)) a w) : c.wp P (Exit.then K Q) a w :=
  wp_mono h (by intro e a w h; cases e <;> first | exact h | exact h.elim)

structure On (b sb mb : Nat) (w W : World) (L M : List Int) (v : Value) (c : Nat) : Prop where
  at_ : LAt W 26 5 b v (L.map (Value.int .u8))
  res : W.heap[w.heap.size]? = some (.cells #[.bool false] 4 (0, 0))
  box : W.heap[sb]? = some (.cells #[.map (some mb)] 83 (0, 0))
  map : MapIs Try.prog 5 W mb (Lit.int .u8) Value.bool c (setF M) M.length
  hb : w.heap.size < b
  hv : ∀ g, v.ownBlock = some g → w.heap.size < g
  hm : w.heap.size < mb
  kept : Kept (fun _ => False) w W
theorem On.mapne {b sb mb : Nat} {w W : World} {L M : List Int} {v : Value} {c : Nat} (h : On b sb mb w W L M v c) {k : Nat} {x : Array Value} {t : TypeId} {f : Nat × Nat} (hk : W.heap[k]? = some (.cells x t f)) : k ≠ mb := by
  rintro rfl
  obtain ⟨es, clock, hm⟩ := h.map.get
  rw [hm] at hk
  cases hk
theorem blk_ne {W : World} {a b : Nat} {x y : Array Value} {t u : TypeId} {f h : Nat × Nat} (ha : W.heap[a]? = some (.cells x t f)) (hb : W.heap[b]? = some (.cells y u h)) (hne : t ≠ u) : a ≠ b := by
  rintro rfl
  rw [ha] at hb
  injection hb with hb
  injection hb with _ hb _
  exact hne hb
theorem row_ne {W : World} {b : Nat} {y : Array Value} {e u : TypeId} {h : Nat × Nat} {v : Value} {size n : Nat} {xs : List Value} (hs : SlO W e size v n xs) (hb : W.heap[b]? = some (.cells y u h)) (hne : e ≠ u) : ∀ g, v.ownBlock = some g → g ≠ b := by
  intro g hg
  rcases hs.2 with ⟨rfl, _⟩ | ⟨g', cap, cur, rfl, hh, _⟩
  · simp [Value.ownBlock] at hg
  · have : g' = g := by simpa [Value.ownBlock] using hg
    subst this
    exact blk_ne hh hb hne
theorem On.rowmap {b sb mb : Nat} {w W : World} {L M : List Int} {v : Value} {c : Nat} (h : On b sb mb w W L M v c) : ∀ g, v.ownBlock = some g → g ≠ mb := by
  intro g hg
  rcases h.at_.2.2 with ⟨rfl, _⟩ | ⟨g', cap, cur, rfl, hh, _⟩
  · simp [Value.ownBlock] at hg
  · have : g' = g := by simpa [Value.ownBlock] using hg
    subst this
    exact h.mapne hh
theorem On.drewN {b sb mb : Nat} {w W : World} {L M : List Int} {v : Value} {c : Nat} (h : On b sb mb w W L M v c) (n : Nat) : On b sb mb w (W.drewN n) L M v c :=
  have hk := Kept.drewN (fun _ => False) W n
  ⟨h.at_.kept hk (by simp) (by simp), hk.get h.res (by simp), hk.get h.box (by simp), h.map.kept hk (by simp), h.hb, h.hv, h.hm, h.kept.trans hk⟩
theorem On.used {b sb mb : Nat} {w W W' : World} {L M : List Int} {v v' : Value} {c : Nat} {x : Int} (h : On b sb mb w W L M v c) (hL : LAt W' 26 5 b v' ((L.erase x ++ [x]).map (Value.int .u8)))
    (hk : Kept (fun y => y = b ∨ v.ownBlock = some y) W W') (hl : Lies W v v') : On b sb mb w W' (L.erase x ++ [x]) M v' c := by
  have hS : ∀ k, (k = b ∨ v.ownBlock = some k) → w.heap.size < k := by
    rintro k (h' | h')
    · have := h.hb; omega
    · exact h.hv k h'
  refine ⟨hL, hk.get h.res (fun h' => by have := hS _ h'; omega), hk.get h.box ?_, h.map.kept hk ?_, h.hb, ?_, h.hm, h.kept.andThen hk (fun _ _ h => h) (fun k hk' h' => by have := hS k h'; omega)⟩
  · rintro (h' | h')
    · exact blk_ne h.box h.at_.1 (by decide) h'
    · exact row_ne h.at_.2 h.box (by decide) _ h' rfl
  · rintro (h' | h')
    · exact h.mapne h.at_.1 h'.symm
    · exact h.rowmap _ h' rfl
  · intro g hg
    rcases hl with h' | ⟨g', h', hle⟩
    · exact h.hv g (h' ▸ hg)
    · rw [h'] at hg; injection hg with hg; have := lt_of_block h.res; omega
theorem On.looks {b sb mb : Nat} {w W : World} {L M : List Int} {v : Value} {c : Nat} (h : On b sb mb w W L M v c) {x : Int} (hw : (Lit.int .u8 x).wf = true) :
    (Instr.lookup 83 (.map (some mb)) (.int .u8 x) false).run Try.prog W = .ok (.bool (decide (x ∈ M))) W := by
  have hz : (zeroValue 4).run Try.prog W = .ok (.bool false) W := by kernel_rfl
  have := h.map.look (Go.Maps.int_keyed Try.underlying5) Try.underlying83 hz (key := .int .u8 x) (x := x) (Go.Maps.keyOf_int_mk Try.underlying5 hw)
  rw [this]
  unfold setF
  by_cases hx : x ∈ M <;> simp [hx]

theorem On.keep {b sb mb : Nat} {w W W' : World} {L M : List Int} {v : Value} {c : Nat} (h : On b sb mb w W L M v c) (hk : Kept (fun _ => False) W W') : On b sb mb w W' L M v c :=
  ⟨h.at_.kept hk (by simp) (by simp), hk.get h.res (by simp), hk.get h.box (by simp), h.map.kept hk (by simp), h.hb, h.hv, h.hm, h.kept.trans hk⟩
theorem On.stored {b sb mb : Nat} {w W W' : World} {L M M' : List Int} {v : Value} {c c' : Nat} (h : On b sb mb w W L M v c) (hM : MapIs Try.prog 5 W' mb (Lit.int .u8) Value.bool c' (setF M') M'.length) (hk : Kept (· = mb) W W') : On b sb mb w W' L M' v c' :=
  ⟨h.at_.kept hk (h.mapne h.at_.1) (h.rowmap), hk.get h.res (h.mapne h.res), hk.get h.box (h.mapne h.box), hM, h.hb, h.hv, h.hm, h.kept.andThen hk (fun _ _ h => h) (fun k hk' h' => by have := h.hm; omega)⟩
theorem keyed_u8o : Go.Maps.Keyed Try.prog 5 := Go.Maps.int_keyed Try.underlying5

/-- Keys that are numbers of one byte. -/
abbrev Key8 := {x : Int // (Lit.int .u8 x).wf = true}
instance : Inhabited Key8 := ⟨0, by decide⟩
/-- Their numbers. -/
def nums (l : List Key8) : List Int := l.map (·.1)
theorem nums_append (a b : List Key8) : nums (a ++ b) = nums a ++ nums b := List.map_append
theorem nums_length (a : List Key8) : (nums a).length = a.length := List.length_map _
theorem keys8 {L : List Int} (h : ∀ x ∈ L, (Lit.int .u8 x).wf = true) : ∃ Ls : List Key8, L = nums Ls :=
  ⟨L.pmap Subtype.mk h, by simp [nums, List.map_pmap]⟩
theorem UA_wf (X : Nat → Int) (hX : ∀ j, (Lit.int .u8 (X j)).wf = true) (j : Nat) : ∀ x ∈ UA X j, (Lit.int .u8 x).wf = true := by
  induction j with
  | zero => simp [UA]
  | succ j ih =>
    intro x hx
    simp only [UA, List.mem_append, List.mem_singleton] at hx
    rcases hx with hx | rfl
    · exact ih x (List.mem_of_mem_erase hx)
    · exact hX j

/-- What is left of xs when pre went. -/
def left (xs pre : List Int) : List Int := pre.foldl List.erase xs
theorem left_snoc (xs pre : List Int) (x : Int) : left xs (pre ++ [x]) = (left xs pre).erase x := by simp [left]
theorem left_prefix (a b : List Int) : left (a ++ b) a = b := by
  induction a with
  | nil => rfl
  | cons x a ih => simpa [left] using ih
theorem left_nodup {xs : List Int} (h : xs.Nodup) (pre : List Int) : (left xs pre).Nodup := by
  induction pre generalizing xs with
  | nil => exact h
  | cons x pre ih => exact ih (h.erase x)

/-- What the loop over the iterator keeps. -/
structure Oi (b sb mb bi : Nat) (w W : World) (L : List Int) (v : Value) (c : Nat) (pre : List Int) : Prop where
  on : On b sb mb w W L (left L pre) v c
  cnt : W.heap[bi]? = some (.cells #[.int .i64 pre.length] 3 (0, 0))
theorem Oi.own {b sb mb bi B c : Nat} {w W W' : World} {L pre : List Int} {v : Value} {S : Nat → Prop} (h : Oi b sb mb bi w W L v c pre) (hB : w.heap.size ≤ B) (hmb : mb < B) (hS : Own B S W) (hk : Kept S W W') : Oi b sb mb bi w W' L v c pre :=
  ⟨⟨hS.lat hk h.on.at_, hk.get h.on.res (hS.cells h.on.res), hk.get h.on.box (hS.cells h.on.box), h.on.map.kept hk (hS.lt hmb), h.on.hb, h.on.hv, h.on.hm, hS.kept hk hB h.on.kept⟩, hk.get h.cnt (hS.cells h.cnt)⟩
theorem Oi.bump {b sb mb bi c : Nat} {w W : World} {L pre : List Int} {v : Value} {x : Int} (h : Oi b sb mb bi w W L v c pre) (hbi : w.heap.size ≤ bi) (hx : x ∈ left L pre) (hnd : L.Nodup) {W1 : World}
    (hM : MapIs Try.prog 5 W1 mb (Lit.int .u8) Value.bool c (fun u => if u = x then none else setF (left L pre) u) ((left L pre).length - if (setF (left L pre) x).isSome then 1 else 0)) (hk : Kept (· = mb) W W1) :
    Oi b sb mb bi w (W1.setCell ⟨bi, 0, none⟩ (.int .i64 ((pre.length : Int) + 1))) L v c (pre ++ [x]) ∧ Kept (fun k => k = mb ∨ k = bi) W (W1.setCell ⟨bi, 0, none⟩ (.int .i64 ((pre.length : Int) + 1))) ∧
    W1.heap[bi]? = some (.cells #[.int .i64 pre.length] 3 (0, 0)) := by
  have hM' : MapIs Try.prog 5 W1 mb (Lit.int .u8) Value.bool c (setF (left L (pre ++ [x]))) (left L (pre ++ [x])).length := by
    rw [left_snoc]
    rw [setF_del _ _ (left_nodup hnd pre)] at hM
    have e : (left L pre).length - (if (setF (left L pre) x).isSome then 1 else 0) = ((left L pre).erase x).length := by
      simp [setF, hx, List.length_erase_of_mem hx]
    rw [e] at hM
    exact hM
  have h1 := h.on.stored hM' hk
  have hc1 := hk.get h.cnt (h.on.mapne h.cnt)
  have hs := Kept.setCell (· = bi) W1 ⟨bi, 0, none⟩ (.int .i64 ((pre.length : Int) + 1)) rfl
  refine ⟨⟨⟨h1.at_.kept hs (blk_ne h1.at_.1 hc1 (by decide)) (row_ne h1.at_.2 hc1 (by decide)), hs.get h1.res (blk_ne h1.res hc1 (by decide)), hs.get h1.box (blk_ne h1.box hc1 (by decide)), h1.map.kept hs (h1.mapne hc1).symm, h1.hb, h1.hv, h1.hm, h1.kept.andThen hs (fun _ _ h => h) (fun k hk h => by omega)⟩, ?_⟩, (hk.mono (fun _ _ h => .inl h)).trans (hs.mono (fun _ _ h => .inr h)), hc1⟩
  have := one_setCell (u := .int .i64 ((pre.length : Int) + 1)) hc1
  simpa using this

set_option maxHeartbeats 4000000 in
set_option maxRecDepth 100000 in
theorem once_core (a0 : Option Addr) (len0 cap0 : Nat) (X : Nat → Int) (w : World) (hr : Reads .u8 w a0 len0 cap0 X) :
    Calls Try.prog 14 #[.slice a0 len0 cap0] w fun e w' => e = .returned (.bool true) ∧ Below w.heap.size w w' := by
  obtain ⟨hlc, hm, hwf, hc⟩ := hr
  have HC := Lib.hid hc; clear hc
  have HW := Lib.hid hwf; clear hwf
  have hR0 := Lib.hid (heap_alloc_new w (.cells #[.bool false] 4))
  have hKr := Lib.hid (Kept.alloc (fun _ => False) w (.cells #[.bool false] 4))
  have hmm := @run_makeMap Try.prog
  refine (callsIn_wide (n := 5)).1 (callsIn_of_wp_marks Try.func14 rfl trivial ?_ rfl)
  refine wpIn_wide.2 ?_
  simp only [Try.ntmps14, List.size_toArray, List.length_cons, List.length_nil, Nat.reduceAdd, Nat.reduceSub, Array.replicate_succ, Array.replicate_zero, List.push_toArray, List.append_toArray, List.nil_append, List.cons_append]
  go_wp2_with fail
  refine (awake15 _).mono ?_
  rintro e w1 ⟨rfl, hk1⟩
  have hsz1 : w.heap.size < w1.heap.size := by have := hk1.size; simp at this; omega
  have hk1' := hKr.out.trans hk1
  have hOn : On w1.heap.size (w1.heap.size + 1 + 1) (w1.heap.size + 1) w (((w1.alloc (.cells #[.slice none 0 0] 26)).alloc (.map #[] 0)).alloc (.cells #[.map (some (w1.heap.size + 1))] 83)) [] [] (.slice none 0 0) 0 := by
    have k1 := Kept.alloc (fun _ => False) w1 (.cells #[.slice none 0 0] 26)
    have k2 := Kept.alloc (fun _ => False) (w1.alloc (.cells #[.slice none 0 0] 26)) (.map #[] 0)
    have k3 := Kept.alloc (fun _ => False) ((w1.alloc (.cells #[.slice none 0 0] 26)).alloc (.map #[] 0)) (.cells #[.map (some (w1.heap.size + 1))] 83)
    have hM := MapIs.made Try.prog 5 (w1.alloc (.cells #[.slice none 0 0] 26)) (Lit.int .u8) Value.bool
    have hbx := heap_alloc_new ((w1.alloc (.cells #[.slice none 0 0] 26)).alloc (.map #[] 0)) (.cells #[.map (some (w1.heap.size + 1))] 83)
    rw [World.size_alloc] at hM
    rw [World.size_alloc, World.size_alloc] at hbx
    refine ⟨(LAt.made w1 _ _).kept (k2.trans k3) (by simp) (by simp), (k1.trans (k2.trans k3)).get (hk1.get hR0.out (by simp)) (by simp), hbx, ?_, hsz1, by simp [Value.ownBlock], by omega, hk1'.trans (k1.trans (k2.trans k3))⟩
    have e0 : setF [] = fun _ => none := by funext u; simp [setF]
    rw [e0]
    exact hM.kept k3 (by simp)
  have HOn := Lib.hid hOn; clear hOn
  go_upto_region 5 with fail
  clear hmm
  generalize (((w1.alloc (.cells #[.slice none 0 0] 26)).alloc (.map #[] 0)).alloc (.cells #[.map (some (w1.heap.size + 1))] 83)) = w2 at *
  generalize w1.heap.size + 1 + 1 = sb at *
  generalize w1.heap.size + 1 = mb at *
  generalize w1.heap.size = b at *
  clear hk1 hk1' hR0 hKr
  go_cut [18, 19, 20] from 9 (fun s20 s21 s22 wx => ∃ n : Nat, n ≤ 100 ∧ n ≤ len0 ∧ s20 = .slice a0 n cap0 ∧ s21 = .int .i64 n ∧ s22 = .int .i64 0 ∧ wx = w2)
  case first =>
    by_cases hn : len0 ≤ 100
    all_goals
      go_wp2
      go_meet
      case rel => first | exact ⟨len0, hn, Nat.le_refl _, rfl, by simp, rfl, rfl⟩ | exact ⟨100, Nat.le_refl _, by omega, rfl, by simp, rfl, rfl⟩
  case rest =>
    obtain ⟨n, hn1, hn2, rfl, rfl, rfl, rfl⟩ := hcut
    go_wp2
    go_loopw [20, 6] (fun i _ wr => ∃ (j : Nat) (v : Value), j ≤ n ∧ i = .int .i64 j ∧ Hid (On b sb mb w wr (UA X j) (UA X j) v j)) (fun i _ _ => n - (intOf i).toNat)
    case atStart => exact ⟨0, _, Nat.zero_le _, rfl, HOn⟩
    case round =>
      obtain ⟨j, v, hj, rfl, hO⟩ := hrel
      by_cases hlt : j < n
      · rcases HC.out with h0 | ⟨kb, off, rfl, hkb, hc⟩
        · exact absurd h0 (by omega)
        have hcell : wr.cell? ⟨kb, off + j, none⟩ = some (.int .u8 (X j)) := hO.out.kept.cell (hc j (by omega)) (by simp)
        clear hc HC
        have hl : (UA X j).length ≤ 999999 := by have := UA_len X j; omega
        have hnd := Lib.hid (UA_nodup X j)
        have hwx := HW.out j
        go_upto_region 8 with fail
        clear hcell
        obtain ⟨L, hLe⟩ : ∃ L, UA X j = L := ⟨_, rfl⟩
        obtain ⟨x, hxe⟩ : ∃ x, X j = x := ⟨_, rfl⟩
        have hNext : Hid (UA X (j + 1) = L.erase x ++ [x]) := by
          refine Lib.hid ?_
          simp only [UA]
          rw [hLe, hxe]
        rw [hLe] at hO hl hnd
        simp only [hxe] at *
        clear hLe hxe
        go_cut [30] from 22 to 33 (fun s wx => s = .bool false ∧ ∃ v3, Hid (On b sb mb w wx (L.erase x ++ [x]) L v3 j))
        case first =>
          obtain ⟨had, hhad⟩ : ∃ had : Bool, decide (x ∈ L) = had := ⟨_, rfl⟩
          have HU : Hid (∀ n, Calls Try.prog 16 #[.pointer (some ⟨b, 0, none⟩), .int .u8 x] (wr.drewN n) fun e w' => e = .returned (.bool had) ∧ ∃ v3, Hid (On b sb mb w w' (L.erase x ++ [x]) L v3 j) ∧ w'.cell? ⟨sb, 0, none⟩ = some (.map (some mb)) ∧ (Instr.lookup 83 (.map (some mb)) (.int .u8 x) false).run Try.prog w' = .ok (.bool had) w') := by
            refine Lib.hid fun n => ?_
            have hOn := hO.out.drewN n
            refine (use_u8 b v L x _ hl hOn.at_).mono ?_
            rintro e w3 ⟨rfl, v3, hL3, hk3, hl3⟩
            have hO3 := hOn.used hL3 hk3 hl3
            exact ⟨by rw [hhad], v3, Lib.hid hO3, cell_of_one hO3.box, hhad ▸ hO3.looks hwx⟩
          have cB : wr.drew.cell? ⟨sb, 0, none⟩ = some (.map (some mb)) := cell_of_one (hO.out.drewN 1).box
          have lB : (Instr.lookup 83 (.map (some mb)) (.int .u8 x) false).run Try.prog wr.drew = .ok (.bool (decide (x ∈ L))) wr.drew := (hO.out.drewN 1).looks hwx
          rw [hhad] at lB
          have HD := Lib.hid hhad; clear hhad
          have HWX := Lib.hid hwx; clear hwx
          refine wp_calm ?_
          go_region_with (go_at_call 16; refine (HU.out _).mono ?_; rintro e w3 ⟨rfl, v3, hO3, c3, l3⟩)
          all_goals
            go_wp2
            go_meet
            case rel => exact ⟨by simp, _, ‹Hid (On b sb mb w _ (L.erase x ++ [x]) L _ j)›⟩
        case rest =>
          obtain ⟨rfl, v3, hO3⟩ := hcut
          have cB := cell_of_one hO3.out.box
          have HWX := Lib.hid hwx; clear hwx
          have hjm : j < maxLen := by unfold maxLen; omega
          go_wp2_with (at_mapUpdate; refine wpList_store_is _ rfl _ _ _ 83 rfl 5 4 keyed_u8o Try.underlying83 (Lit.int .u8) (litInt_inj .u8) (litInt_key .u8) Value.bool mb j (setF L) L.length rfl hO3.out.map hjm _ rfl x (Go.Maps.keyOf_int_mk Try.underlying5 HWX.out) true rfl ?_; intro w4 hM4 hk4; rw [setF_use, ← setF_len hnd.out] at hM4; have HO4 := Lib.hid (hO3.out.stored hM4 hk4); clear hM4 hk4)
          go_roundw
          case rel =>
            exact ⟨j + 1, v3, by omega, by go_num, by rw [hNext.out]; exact HO4⟩
          case measure => simp [intOf]; omega
      · have hjn : j = n := by omega
        subst hjn
        have hl : (UA X j).length ≤ 100 := by have := UA_len X j; omega
        have hnd := Lib.hid (UA_nodup X j)
        obtain ⟨Ls, hLs⟩ := keys8 (UA_wf X HW.out j)
        have HLs := Lib.hid hLs; clear hLs
        clear hlt HOn
        generalize UA X j = L at *
        have hka := Kept.alloc (fun _ => False) wr (.cells #[.int .i64 0] 3)
        have hI := Lib.hid (heap_alloc_new wr (.cells #[.int .i64 0] 3))
        have hOa := Lib.hid (hO.out.keep hka)
        have hsz := hO.out.kept.size
        clear hka hO
        go_upto_region 13 with fail
        generalize wr.alloc (.cells #[.int .i64 0] 3) = w7 at *
        generalize wr.heap.size = bi at *
        go_cut [7, 35] from 5 (fun s7 s35 wx => s7 = .pointer (some ⟨bi, 0, none⟩) ∧ ∃ Bs vc, s35 = .func (.func 60) #[] #[.pointer (some ⟨Bs, 0, none⟩)] ∧ Hid (wx.heap[Bs]? = some (.cells #[vc] 22 (0, 0))) ∧
            Hid (SlO wx 5 1 vc L.length (L.map (Value.int .u8))) ∧ Hid (On b sb mb w wx L L v j) ∧ Hid (wx.heap[bi]? = some (.cells #[.int .i64 0] 3 (0, 0))) ∧ Hid (mb < Bs ∧ bi < Bs ∧ ∀ g, vc.ownBlock = some g → mb < g))
        case first =>
          have hlo : mb < w7.heap.size ∧ bi < w7.heap.size := ⟨hOa.out.map.lt, lt_of_block hI.out⟩
          have HLO := Lib.hid hlo; clear hlo
          go_wp2_with fail
          refine (all_u8 b v L _ (by omega) hOa.out.at_).mono ?_
          rintro e w3 ⟨Bs, vc, rfl, hBs, hbox, hsc, hk3, hgc⟩
          have hO3 := Lib.hid (hOa.out.keep hk3)
          have hI3 := Lib.hid (hk3.get hI.out (by simp))
          have hB3 := Lib.hid hbox; have hS3 := Lib.hid hsc
          have hG3 := Lib.hid (show mb < Bs ∧ bi < Bs ∧ ∀ g, vc.ownBlock = some g → mb < g from ⟨by have := HLO.out.1; omega, by have := HLO.out.2; omega, fun g hg => by have := HLO.out.1; have := hgc g hg; omega⟩)
          clear hbox hsc hk3 hgc hBs
          go_wp2_with fail
          go_meet
          case rel => exact ⟨rfl, Bs, vc, rfl, hB3, hS3, hO3, hI3, hG3⟩
        case rest =>
          obtain ⟨rfl, Bs, vc, rfl, hB7, hC7, hO7, hI7, hG7⟩ := hcut
          clear hI hOa
          generalize hw7 : wc = w8 at *
          have hsz7 := hO7.out.kept.size
          have hbi : w.heap.size ≤ bi := hsz
          have hbi7 : bi < w8.heap.size := lt_of_block hI7.out
          have hmb7 := hO7.out.map.lt
          have hC8 : Hid (SlO w8 5 1 vc Ls.length (Ls.map (fun x => (Value.int .u8) x.1))) := by
            refine Lib.hid ?_
            have h := hC7.out
            rw [HLs.out] at h
            simpa [nums, List.map_map, Function.comp_def] using h
          go_wp2_with fail
          refine (wpIn_wide (n := 5)).1 (wpIn_rangeFunc_ownG (F := Fence.wide) rfl (by omega) (gf := 60) (lb := #[.pointer (some ⟨Bs, 0, none⟩)]) rfl trivial (enters_of Try.func60 (by kernel_rfl) rfl)
            (iter_u8e (α := Key8) (fun x => x.1) 4 (by omega) Bs vc Ls w8 (fun k => k = Bs ∨ vc.ownBlock = some k) (.inl rfl) (fun g hg => .inr hg) (cell_of_one hB7.out) hC8.out) (fun h k => Keeps.trans h k)
            (Keeps.putObj (by rintro k (rfl | hk); exact lt_of_block hB7.out; exact hC7.out.lt hk)) (Below.refl _ _) (fun _ => rfl)
            (fun pre W => Oi b sb mb bi w W L v j (nums pre))
            (fun c pre W => c = .ret ∧ ∃ (ini : List Key8) (x : Key8), pre = ini ++ [x] ∧ x.1 ∉ left L (nums ini))
            (own_from (by
              intro pre S W W' h hk hS
              exact h.own hsz7 hmb7 hS hk))
            (fun c => own_from (fun _ _ _ _ hs _ _ => hs))
            ⟨hO7.out, hI7.out⟩
            (fun x => { tmps := #[.slice a0 len0 cap0, undef, .pointer (some ⟨w.heap.size, 0, none⟩), .pointer (some ⟨b, 0, none⟩), .pointer (some ⟨sb, 0, none⟩), u5, u6, .pointer (some ⟨bi, 0, none⟩), .int .u8 x.1, u9, u10, u11, u12, u13, u14, u15, u16, u17, u18, u19, u20, u21, u22, u23, u24, u25, u26, u27, u28, u29, u30, u31, u32, u33, u34, .func (.func 60) #[] #[.pointer (some ⟨Bs, 0, none⟩)], .int .u8 x.1, u37, u38, u39, u40, u41, u42, u43, u44, u45, u46, u47, u48, u49, u50, u51, u52, u53], defers := [] }) ?assign ?body ?done ?stop)
          case assign =>
            intro l x W K hK
            gi_wp2
            exact hK
          case body =>
            rintro l pre ⟨x, hxw⟩ W hst hlt
            have cB := cell_of_one hst.on.box
            have cI := cell_of_one hst.cnt
            have cR := cell_of_one hst.on.res
            have fR := free_of_one hst.on.res
            have lK := hst.on.looks hxw
            have hM := Lib.hid hst.on.map
            have HST := Lib.hid hst; clear hst
            have HXW := Lib.hid hxw
            have hpl : ((nums pre).length : Int) ≤ 100 := by rw [nums_length]; have h := congrArg List.length HLs.out; rw [nums_length] at h; omega
            by_cases hx : x ∈ left L (nums pre)
            · have lK2 : (Instr.lookup 83 (.map (some mb)) (.int .u8 x) false).run Try.prog W = .ok (.bool true) W := by rw [lK, decide_eq_true hx]
              clear lK
              have HX := Lib.hid hx; clear hx
              gi_wp2_with (refine wpListIn_delete_is _ rfl (.tmp 41) (.tmp 42) 83 5 rfl 4 keyed_u8o Try.underlying83 (Lit.int .u8) (litInt_inj .u8) Value.bool mb j _ _ rfl hM.out _ rfl x (Go.Maps.keyOf_int_mk Try.underlying5 HXW.out) ?_; intro w4 hM4 hk4; obtain ⟨hb1, hb2, hb3⟩ := HST.out.bump hbi HX.out hnd.out hM4 hk4; have cI4 := cell_of_one hb3; have fI4 := free_of_one hb3; have HB1 := Lib.hid hb1; have HB2 := Lib.hid hb2; clear hM4 hk4 hb1 hb2 hb3)
              refine ⟨keepsFrom_of_kept HB2.out ?_, HB2.out.mono ?_, by show Oi _ _ _ _ _ _ _ _ _ (nums (pre ++ [⟨x, hxw⟩])); rw [nums_append]; exact HB1.out⟩
              · rintro k (rfl | rfl) o ho hB
                · omega
                · omega
              · rintro k _ (rfl | rfl) (hT | hT)
                · have := hG7.out.1; omega
                · have := hG7.out.2.2 _ hT; omega
                · have := hG7.out.2.1; omega
                · exact row_ne hC7.out hI7.out (by decide) _ hT rfl
            · have lK2 : (Instr.lookup 83 (.map (some mb)) (.int .u8 x) false).run Try.prog W = .ok (.bool false) W := by rw [lK, decide_eq_false hx]
              clear lK
              have HX := Lib.hid hx; clear hx
              gi_wp2
              refine ⟨keepsFrom_of_kept (Kept.setCell (· = w.heap.size) W _ _ rfl) ?_, rfl, pre, ⟨x, hxw⟩, rfl, HX.out⟩
              rintro k rfl o ho _
              rw [HST.out.on.res] at ho; injection ho with ho; subst ho; rfl
          case done =>
            rintro D ys W hD rfl hst hK
            have hOD := hst.on
            rw [show left L (nums ys) = [] by have := left_prefix (nums ys) []; rw [List.append_nil] at this; rw [HLs.out]; exact this] at hOD
            have hpl : (nums ys).length = L.length := by rw [HLs.out]
            have cnt := hst.cnt
            rw [hpl] at cnt
            clear hst hpl
            have hd := Kept.drew (fun _ => False) W
            have cB : W.drew.cell? ⟨sb, 0, none⟩ = some (.map (some mb)) := cell_of_one (hOD.drewN 1).box
            have cI : W.drew.cell? ⟨bi, 0, none⟩ = some (.int .i64 L.length) := cell_of_one (hd.get cnt (by simp))
            have cR : W.drew.cell? ⟨w.heap.size, 0, none⟩ = some (.bool false) := cell_of_one (hOD.drewN 1).res
            have fR : W.drew.frozen? ⟨w.heap.size, 0, none⟩ = false := free_of_one (hOD.drewN 1).res
            have hLen : (Builtin.len_ #[83] 3 #[.map (some mb)]).run Try.prog W.drew = .ok (.int .i64 0) W.drew := (hOD.drewN 1).map.len Try.underlying83 3
            have HLEN := Lib.hid (len_u8 b v L W.drew (hOD.drewN 1).at_)
            have HO := Lib.hid hOD; clear hOD
            have HKD := Lib.hid hK; clear hK
            go_upto_region 19 with fail
            refine wp_calm ?_
            have hbe : ((L.length : Int) == (L.length : Int)) = true := by simp
            generalize (L.length : Int) = nL at *
            go_region_with (go_at_call 17; refine (HLEN.out).mono ?_; rintro e w' ⟨rfl, rfl⟩)
            all_goals
              go_wp2_with fail
              have hRs := one_setCell (u := .bool true) HO.out.res
              have hDr : D ≠ w.heap.size := by
                intro h
                have h1 := HO.out.res
                rw [← h, HKD.out] at h1
                cases h1
              have hks := Kept.setCell (· = w.heap.size) W ⟨w.heap.size, 0, none⟩ (.bool true) rfl
              have hkd := Kept.drew (fun _ => False) (W.setCell ⟨w.heap.size, 0, none⟩ (.bool true))
              have hK' : (W.setCell ⟨w.heap.size, 0, none⟩ (.bool true)).drew.heap[D]? = some (.deferred (some [])) := hkd.get (hks.get HKD.out hDr) (by simp)
              have hc5 : ((W.setCell ⟨w.heap.size, 0, none⟩ (.bool true)).drew.putObj D (.deferred none)).cell? ⟨w.heap.size, 0, none⟩ = some (.bool true) := cell_of_one ((World.putObj_heap_other (fun h => hDr h.symm)).trans (hkd.get hRs (by simp)))
              refine leaveM (v := .bool true) hK' ?_ ⟨rfl, ?_⟩
              · simp [results, Try.f14, go_sem, hc5]
              · have h1 := ((HO.out.kept.andThen hks (U := fun _ => False) (fun _ _ h => h) (fun k hk h => by omega)).trans hkd).andThen (kept_putObj (· = D) _ D (.deferred none) rfl) (U := fun _ => False) (fun _ _ h => h) (fun k hk h => by omega)
                exact h1.below (Nat.le_refl _) (fun _ h => h.elim)
          case stop =>
            rintro D c pre W _ hpre ⟨rfl, ini, x, rfl, hne⟩ hK
            exfalso
            obtain ⟨t, ht⟩ := hpre
            apply hne
            rw [HLs.out, ← ht, List.append_assoc, nums_append, left_prefix]
            simp [nums]

namespace lruOnce
open Go.ChangeShapes Go.WideShapes Go.ChangeAt Go.RowKit
open Go.ChangeMaps (open_string shut_string)
theorem own : ownKnob Try.prog.godebug = none := by kernel_rfl
theorem laidOut : laidOutB Try.prog = true := by kernel_rfl

set_option maxRecDepth 100000 in
theorem lifted (os : Os) (started : os.Started) (H : Type) (enc : TypeId × Value → H) :
    ReturnsInHanded {} Try.checked os 14 .any (Rows.lruOnceSpec.pre6 enc Try.prog Try.f14 Rows.lruOnceRow.domain false) (Rows.lruOnceSpec.post enc Try.prog Try.f14 false true false false) := by
  refine returnsInHanded_of_change (C := Try.checked) own started (by kernel_rfl) Try.func14
    (ChangeSpec.witness6 (enc := enc) (C := Try.checked) false ⟨#[], #[.slice none 0 0], []⟩ 8 (by kernel_rfl) (by kernel_rfl) (by kernel_rfl) (by kernel_rfl)) ?_
  intro W base args ds gs before hval0 hW hcnd _
  have hval : ∀ (j : Nat) t v, Try.f14.params[j]? = some t → args[j]? = some v → Value.okWide Try.prog W .any base t v := hval0
  have hW' := hW
  obtain ⟨p, q, hA0, hV, rfl, hfz, hnd⟩ := hW
  have hA : DataW.TrodAll enc Try.prog W 0 (fun _ => true) true Try.f14.params.toList args.toList ds p := hA0
  rw [Try.params14] at hA hval
  obtain ⟨v0, vs0, d0, ds0, p0, q0, hargs, rfl, rfl, h0, r0⟩ := trodAll_cons hA
  obtain ⟨rfl, rfl, rfl⟩ := trodAll_nil r0
  obtain rfl : args = #[v0] := by cases args; simp_all
  obtain ⟨rfl, rfl⟩ := trodVars_none hV
  obtain ⟨a0, len0, cap0, rfl⟩ := okWide_slice Try.underlying22 (hval 0 22 v0 rfl rfl)
  have k0 := h0
  have lt0 : ∀ x ∈ p0, x.block < W.heap.size := by obtain ⟨m, hm⟩ := k0; exact DataW.trod_lt m _ _ _ hm
  obtain ⟨z0, w0⟩ : ∃ zs, IsRow .u8 W a0 len0 cap0 zs := by
    obtain ⟨fuel, hf⟩ := h0
    rcases open_ints Try.underlying22 Try.underlying5 (by kernel_rfl) hf with ⟨hcs, _⟩ | ⟨x, l, c, zs, hcs, _, hl, hm, hz, _, hcell, hwz⟩
    · simp [Value.cells] at hcs
      obtain ⟨rfl, rfl, rfl⟩ := hcs
      exact ⟨[], .inl ⟨rfl, rfl, rfl, rfl⟩⟩
    · simp [Value.cells] at hcs
      obtain ⟨rfl, rfl, rfl⟩ := hcs
      exact ⟨zs, .inr ⟨_, rfl, hl, hm, by simpa using hz, hcell, hwz⟩⟩
  have reads0 := w0.reads
  clear hA0 hval0
  refine (once_core a0 len0 cap0 _ W reads0).mono fun e W' ⟨he, bel⟩ => ?_
  subst he
  exact ⟨_, rfl, _, _, _, [], _, [], hW', trodAll_mk1 (shut_bool Try.underlying4 _), (trodAll_cons_mk (Below.trod laidOut (by kernel_rfl) (of_decide_eq_true (by kernel_rfl)) k0 bel lt0) trodAll_mk0), rfl, bel.frame _, fun h => by cases h⟩

theorem over : Rows.lruOnceRow.holds Try.pinned (OpenSpec.ofChange Rows.lruOnceSpec) :=
  OpenClaim.holds_of_wide 14 Try.f14 rfl rfl rfl rfl rfl rfl rfl ⟨rfl, rfl, rfl, rfl, rfl⟩ rfl rfl rfl rfl rfl (by kernel_rfl) Try.func14 (by kernel_rfl)
    (of_decide_eq_true (by kernel_rfl)) (by unfold Func.isWrapper; first | (rw [if_pos (by decide +kernel)]; kernel_rfl) | (rw [if_neg (by decide +kernel)]; exact ⟨rfl, rfl⟩))
    (fun os started H enc _ => lifted os started H enc)

theorem proved : Rows.LruOnceSaid := over
end lruOnce

end Go.Proofs.Ytgldonfpiifnfaa
