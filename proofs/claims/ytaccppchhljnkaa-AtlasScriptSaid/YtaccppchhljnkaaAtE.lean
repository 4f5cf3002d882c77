/- Atlases: Evict. -/
import Derived.Test.YtaccppchhljnkaaAtF
import Derived.Test.YtaccppchhljnkaaItS
import Derived.Test.YtaccppchhljnkaaFence
set_option linter.unusedVariables false
set_option linter.unusedSimpArgs false
namespace Go.Proofs.Ytaccppchhljnkaa
open Go.RowKit Go.Shelf Go.Proofs.YtaccppchhljnkaaW.PrintWords Go.Proofs.YtaccppchhljnkaaW.PrintLast Go.Proofs.YtaccppchhljnkaaW.PrintMore
/-- From one world to a later one: what an atlas owned may have turned; what it owns now it owned, or is new. -/
def Step (W : World) (b : Nat) (c : AtC) (w' : World) (c' : AtC) : Prop := Kept (c.own b) W w' ∧ ∀ k, c'.own b k → c.own b k ∨ W.heap.size ≤ k
theorem Step.refl (W : World) (b : Nat) (c : AtC) : Step W b c W c := ⟨Kept.refl _ _, fun _ h => .inl h⟩
theorem Step.trans {W w1 w2 : World} {b : Nat} {c c1 c2 : AtC} (h : Step W b c w1 c1) (k : Step w1 b c1 w2 c2) : Step W b c w2 c2 :=
  ⟨h.1.andThen k.1 (fun _ _ h => h) (fun q hq hs => (h.2 q hs).elim id (fun h => by omega)), fun q hq => (k.2 q hq).elim (fun h' => h.2 q h') (fun h' => .inr (Nat.le_trans h.1.size h'))⟩
theorem Step.below {W w1 w2 : World} {b : Nat} {c c1 : AtC} (h : Step W b c w1 c1) (k : Below w1.heap.size w1 w2) : Step W b c w2 c1 :=
  h.trans ⟨Kept.of_below _ k, fun _ h => .inl h⟩
theorem Step.kept {W w1 w2 : World} {b : Nat} {c c1 : AtC} {S : Nat → Prop} (h : Step W b c w1 c1) (k : Kept S w1 w2) (hS : ∀ q, S q → c1.own b q) : Step W b c w2 c1 :=
  h.trans ⟨k.mono (fun q _ hq => hS q hq), fun _ h => .inl h⟩
theorem splice_map {α β : Type} (f : α → β) (L : List α) (off : Nat) (cs : List α) : splice (L.map f) off (cs.map f) = (splice L off cs).map f := by
  unfold splice
  simp only [List.map_append, List.map_take, List.map_drop, List.length_map]
theorem fill_zero (w X Y m y : Nat) (L : List Int) (hw : X + m ≤ w) (hl : (Y + y) * w + X + m ≤ L.length) :
    splice ((fillR w X Y m (fun _ _ => 0) y L).map (Value.int .u8)) ((Y + y) * w + X) (List.replicate m (.int .u8 0)) = (fillR w X Y m (fun _ _ => 0) (y + 1) L).map (Value.int .u8) := by
  rw [← fillR_step w X Y m (fun _ _ => 0) y L hw hl, ← splice_map]
  congr 1
  rw [List.map_map]
  apply List.ext_getElem (by simp)
  intro i h1 h2
  simp
theorem infoRectE : (Try.prog.info? 39).map (fun i => (i.zero, i.size, i.bytes)) = some (some (.agg #[(.int .i64 0), (.int .i64 0), (.int .i64 0), (.int .i64 0)]), 4, 32) := by kernel_rfl
theorem Own.R {B : Nat} {S : Nat → Prop} {W W' : World} (h : Own B S W) (hk : Kept S W W') {α : Type} {d : Kd α} {e base : Nat} {ok : Nat → Prop} {u : Value} {xs : List α} (hr : Kd.R d e W base ok u xs) : Kd.R d e W' base ok u xs :=
  R_far2 hr hk (fun k hk q hq cells hc => by
    obtain ⟨_, o, ho, hcells⟩ := h k hk
    rw [hc] at ho
    injection ho with ho
    subst ho
    cases hcells)
/-- An early return of a function that holds a loop over an iterator. -/
theorem leave0 {n : Nat} {P : Program} {fn : Func} {R : Ending → World → Prop} {tmps : Array Value} {W : World} {v : Value}
    (hr : (results fn tmps).run P W = .ok v W) (hR : R (.returned v) W) : bodyPostM Fence.wide n P fn R .ret { tmps := tmps, defers := [] } W := ⟨v, hr, hR⟩
set_option maxHeartbeats 1000000 in
set_option maxRecDepth 100000 in
theorem evict_no (W : World) (b w h pad : Nat) (s : AtS) (c : AtC) (hA : AtAt W b w h pad s c) (k : ByteArray) (hk : k.size ≤ maxLen) (hn : k ∉ s.keys) :
    Calls Try.prog 19 #[.pointer (some ⟨b, 0, none⟩), .string k] W fun e w' => e = .returned (.bool false) ∧ Below W.heap.size W w' := by
  have bb := below_alloc (Below.refl _ W) (.cells #[.pointer (some ⟨b, 0, none⟩)] 24)
  have A1 := hA.below bb
  have hlk := A1.look hk
  rw [hA.inv.noPl hn] at hlk
  simp only [Option.getD_none, Option.isSome_none] at hlk
  unfold Er r00 at hlk
  obtain ⟨c0, c1, c2, c3, c4, c5, c6, c7⟩ := A1.cell
  have G1 := heap_alloc_new W (.cells #[.pointer (some ⟨b, 0, none⟩)] 24)
  have p1 := cell_of_one G1
  have B1 := Lib.hid bb
  clear hA bb A1 c0 c1 c2 c3 c4 c5 c7 G1
  refine (callsIn_wide (n := 5)).1 (callsIn_of_wp_marks Try.func19 rfl trivial ?_ rfl)
  refine wpIn_wide.2 ?_
  simp only [Try.ntmps19, List.size_toArray, List.length_cons, List.length_nil, Nat.reduceAdd, Nat.reduceSub, Array.replicate_succ, Array.replicate_zero, List.push_toArray, List.append_toArray, List.nil_append, List.cons_append]
  go_upto_region 1 with (fail)
  generalize W.alloc (.cells #[.pointer (some ⟨b, 0, none⟩)] 24) = w1 at *
  go_wp2_with fail
  exact leave0 (results_tmp rfl _ _ _) ⟨rfl, below_alloc B1.out _⟩
/-- What a round of Evict's loop leaves. -/
theorem evict_body {w7 Wc w2 : World} {B n : Nat} {A0 A1 : Option Addr} {cp0 cp1 m1 : Nat} {rs rs' : List Rc} {r : Rc} {T : Nat → Prop}
    (hR : Kd.R krc 39 Wc B (fun _ => True) (.slice A0 n cp0) rs) (hv : Wc.heap[w7.heap.size]? = some (.cells #[.slice A0 n cp0] 77 (0, 0))) (hsz : B ≤ Wc.heap.size) (h7 : w7.heap.size < B) (hT : ∀ k, T k → k < B ∧ k ≠ w7.heap.size)
    (hb : Below B Wc w2) (hg : Wc.drew.grownBy w2 (Value.slice A0 n cp0).ownBlock) (hm : (rs ++ [r]).length = m1) (ho : Kd.R krc 39 w2 B (fun _ => True) (.slice A1 (rs ++ [r]).length cp1) (rs ++ [r])) (hv2 : w2.heap[w7.heap.size]? = some (.cells #[.slice A0 n cp0] 77 (0, 0)))
    (he : rs' = rs ++ [r]) (hbl : Below w7.heap.size w7 (w2.setCell ⟨w7.heap.size, 0, none⟩ (.slice A1 m1 cp1))) :
    KeepsFrom B Wc (w2.setCell ⟨w7.heap.size, 0, none⟩ (.slice A1 m1 cp1)) ∧ Keeps T Wc (w2.setCell ⟨w7.heap.size, 0, none⟩ (.slice A1 m1 cp1)) ∧
      (Below w7.heap.size w7 (w2.setCell ⟨w7.heap.size, 0, none⟩ (.slice A1 m1 cp1)) ∧ B ≤ (w2.setCell ⟨w7.heap.size, 0, none⟩ (.slice A1 m1 cp1)).heap.size ∧ ∃ vo, (w2.setCell ⟨w7.heap.size, 0, none⟩ (.slice A1 m1 cp1)).heap[w7.heap.size]? = some (.cells #[vo] 77 (0, 0)) ∧ Kd.R krc 39 (w2.setCell ⟨w7.heap.size, 0, none⟩ (.slice A1 m1 cp1)) B (fun _ => True) vo rs') := by
  subst he
  rw [hm] at ho
  have hk1 : Kept (fun k => (Value.slice A0 n cp0).ownBlock = some k) Wc w2 := (Kept.drew _ Wc).trans (Kept.of_grownBy hg)
  have hk2 := Kept.setCell (· = w7.heap.size) w2 ⟨w7.heap.size, 0, none⟩ (.slice A1 m1 cp1) rfl
  have hk := hk1.andThen hk2 (U := fun k => (Value.slice A0 n cp0).ownBlock = some k ∨ k = w7.heap.size) (fun _ _ h => .inl h) (fun _ _ h => .inr h)
  obtain ⟨inner, hown⟩ := Kd.R_own hR
  have hge : ∀ k, (Value.slice A0 n cp0).ownBlock = some k → B ≤ k ∧ ∃ cur, Wc.heap[k]? = some (.cells cur 39 (0, 0)) := fun k hk => by
    refine ⟨?_, (SlO.of_own hown).blk hk⟩
    rcases hown.2 with ⟨h0, _⟩ | ⟨g, cap, cur, h0, hB, _⟩
    · rw [h0] at hk; simp [Value.ownBlock] at hk
    · rw [h0] at hk
      have : g = k := by simpa [Value.ownBlock] using hk
      omega
  refine ⟨keepsFrom_of_kept hk ?_, hk.mono (fun k _ h ht => ?_), hbl, Nat.le_trans hsz hk.size, _, heap_setCell_in _ hv2, ?_⟩
  · rintro k (h | rfl) o hko _
    · obtain ⟨_, cur, hc⟩ := hge k h
      rw [hc] at hko; injection hko with hko; subst hko; rfl
    · rw [hv] at hko; injection hko with hko; subst hko; rfl
  · rcases h with h | h
    · have := (hge k h).1; have := (hT k ht).1; omega
    · exact (hT k ht).2 h
  · exact R_far2 ho hk2 (fun k hk q hq cells hc => by
      subst hk
      rw [hv2] at hc
      obtain rfl : q = 39 := by simpa [krc, Kd.pair, Kd.int, Kd.scalar] using hq
      injection hc with hc
      injection hc with _ hc
      exact absurd hc (by decide))
attribute [local go_sem] Oper.semAt_some in
set_option maxHeartbeats 4000000 in
set_option maxRecDepth 100000 in
theorem evict_yes (W : World) (b w h pad : Nat) (s : AtS) (c : AtC) (hA : AtAt W b w h pad s c) (k : ByteArray) (hk : k.size ≤ maxLen) (hy : k ∈ s.keys) (X Y m n : Nat) (hr : s.at k = ((X : Int), (Y : Int), (m : Int), (n : Int))) (hm1 : 1 ≤ m) (hX : X + m ≤ w) (hY : Y + n ≤ h) :
    Calls Try.prog 19 #[.pointer (some ⟨b, 0, none⟩), .string k] W fun e w' => e = .returned (.bool true) ∧ AtPost W w' b w h pad c (evS w h s k) := by
  have bb := below_alloc (Below.refl _ W) (.cells #[.pointer (some ⟨b, 0, none⟩)] 24)
  have A1 := hA.below bb
  have hlk := A1.look hk
  rw [hA.inv.hasPl hy, hr] at hlk
  simp only [Option.getD_some, Option.isSome_some] at hlk
  unfold Er at hlk
  obtain ⟨c0, c1, c2, c3, c4, c5, c6, c7⟩ := A1.cell
  have G1 := heap_alloc_new W (.cells #[.pointer (some ⟨b, 0, none⟩)] 24)
  have p1 := cell_of_one G1
  have HG1 := Lib.hid G1
  have B1 := Lib.hid bb
  have HA := Lib.hid hA
  have HA1 := Lib.hid A1
  have HK := Lib.hid hk; have HY := Lib.hid hy; have HAT := Lib.hid hr
  obtain ⟨hw0, hw1⟩ := hA.w1
  obtain ⟨hh0, hh1⟩ := hA.h1
  have hwh : w * h ≤ 4096 := Nat.le_trans (Nat.mul_le_mul hw1 hh1) (by decide)
  have hle := hA.inv.le
  clear hA bb A1 c0 c1 c2 c3 c4 c5 c7 G1 hk hy hr
  refine (callsIn_wide (n := 5)).1 (callsIn_of_wp_marks Try.func19 rfl trivial ?_ rfl)
  refine wpIn_wide.2 ?_
  simp only [Try.ntmps19, List.size_toArray, List.length_cons, List.length_nil, Nat.reduceAdd, Nat.reduceSub, Array.replicate_succ, Array.replicate_zero, List.push_toArray, List.append_toArray, List.nil_append, List.cons_append]
  go_upto_region 1 with (fail)
  generalize W.alloc (.cells #[.pointer (some ⟨b, 0, none⟩)] 24) = w1 at *
  go_upto_region 2 with (fail)
  have bb := below_alloc (Below.refl _ w1) (.cells #[.int .i64 X, .int .i64 Y, .int .i64 m, .int .i64 n] 39)
  have B2 := Lib.hid (below_step B1.out bb)
  have HG2 := Lib.hid (blk_below HG1.out bb)
  have HR2 := Lib.hid (heap_alloc_new w1 (.cells #[.int .i64 X, .int .i64 Y, .int .i64 m, .int .i64 n] 39))
  clear bb hlk c6 p1
  generalize w1.alloc (.cells #[.int .i64 X, .int .i64 Y, .int .i64 m, .int .i64 n] 39) = w2 at *
  generalize w1.heap.size = gr at *
  have r3 : w2.cell? ⟨gr, 3, none⟩ = some (.int .i64 n) := (blk_cell HR2.out 3).trans rfl
  go_upto_region 5 with (fail)
  clear r3
  have HRW : Hid (AtRaw w2 b w h pad c (fillR w X Y m (fun _ _ => 0) 0 (pgL w h pad s)) s.l s.keys s.pl s.keys.length s.gone) := Lib.hid (by rw [fillR_zero]; exact (HA.out.below B2.out).raw)
  go_loopw [24] (fun v24 Wr => ∃ y : Nat, v24 = .int .i64 y ∧ y ≤ n ∧ Hid (AtRaw Wr b w h pad c (fillR w X Y m (fun _ _ => 0) y (pgL w h pad s)) s.l s.keys s.pl s.keys.length s.gone) ∧ Hid (Step W b c Wr c) ∧ Hid (Wr.heap[W.heap.size]? = some (.cells #[.pointer (some ⟨b, 0, none⟩)] 24 (0, 0))) ∧ Hid (Wr.heap[gr]? = some (.cells #[.int .i64 X, .int .i64 Y, .int .i64 m, .int .i64 n] 39 (0, 0)))) (fun v24 _ => n - (intOf v24).toNat)
  case atStart => exact ⟨0, rfl, Nat.zero_le _, HRW, Lib.hid ((Step.refl W b c).below B2.out), HG2, HR2⟩
  case round =>
    obtain ⟨y, rfl, hyn, HW, HS, HG, HR⟩ := hrel
    clear HRW HG2 HR2 B2
    have p1 := cell_of_one HG.out
    obtain ⟨c0, c1, c2, c3, c4, c5, c6, c7⟩ := HW.out.cell
    by_cases hlt : y < n
    · have hlt' : (y : Int) < (n : Int) := by omega
      have r0 : wr.cell? ⟨gr, 0, none⟩ = some (.int .i64 X) := (blk_cell HR.out 0).trans rfl
      have r1 : wr.cell? ⟨gr, 1, none⟩ = some (.int .i64 Y) := (blk_cell HR.out 1).trans rfl
      have r2 : wr.cell? ⟨gr, 2, none⟩ = some (.int .i64 m) := (blk_cell HR.out 2).trans rfl
      clear c1 c3 c4 c5 c6 c7
      obtain ⟨a, ha⟩ : ∃ a, Y + y = a := ⟨_, rfl⟩
      obtain ⟨p, hp⟩ : ∃ p, a * w = p := ⟨_, rfl⟩
      obtain ⟨fr, hfr⟩ : ∃ fr, p + X = fr := ⟨_, rfl⟩
      obtain ⟨tb, hto⟩ : ∃ tb, fr + m = tb := ⟨_, rfl⟩
      obtain ⟨wh, hwhe⟩ : ∃ wh, w * h = wh := ⟨_, rfl⟩
      have hb1 : tb ≤ wh := by
        have h1 : (a + 1) * w ≤ h * w := Nat.mul_le_mul_right _ (by omega)
        rw [Nat.add_mul, Nat.one_mul, Nat.mul_comm h w, hp, hwhe] at h1
        omega
      rw [hwhe] at c2 hwh
      have e1 : IntKind.i64.wrap ((Y : Int) + (y : Int)) = (a : Int) := by rw [IntKind.wrap_i64]; omega
      have e2 : IntKind.i64.wrap ((a : Int) * (w : Int)) = (p : Int) := by rw [← Int.natCast_mul, hp, IntKind.wrap_i64]; omega
      have e3 : IntKind.i64.wrap ((p : Int) + (X : Int)) = (fr : Int) := by rw [IntKind.wrap_i64]; omega
      have e4 : IntKind.i64.wrap ((fr : Int) + (m : Int)) = (tb : Int) := by rw [IntKind.wrap_i64]; omega
      have hs1 : fr ≤ tb := by omega
      have hs2 : (fr : Int) ≤ (tb : Int) := by omega
      have hs3 : (tb : Int) ≤ (wh : Int) := by omega
      have hs4 : tb - fr = m := by omega
      have hs5 : ¬ wh = fr := by omega
      have HOFF : Hid ((Y + y) * w + X = fr) := Lib.hid (by rw [ha, hp, hfr])
      have HWH := Lib.hid hwhe
      clear hwhe ha hp
      go_upto_region 7 with (fail)
      go_quiet (fail)
      have HW5 := Lib.hid (HW.out.below (below_drewN (Below.refl _ _) nq))
      have HS5 := Lib.hid (HS.out.below (below_drewN (Below.refl _ _) nq))
      have HG5 : Hid ((wr.drewN nq).heap[W.heap.size]? = some (.cells #[.pointer (some ⟨b, 0, none⟩)] 24 (0, 0))) := HG
      have HR5 : Hid ((wr.drewN nq).heap[gr]? = some (.cells #[.int .i64 X, .int .i64 Y, .int .i64 m, .int .i64 n] 39 (0, 0))) := HR
      have p1' : (wr.drewN nq).cell? ⟨W.heap.size, 0, none⟩ = some (.pointer (some ⟨b, 0, none⟩)) := p1
      have c2' : (wr.drewN nq).cell? ⟨b, 2, none⟩ = some (.slice (some ⟨c.bT, 0, none⟩) wh wh) := c2
      have r2' : (wr.drewN nq).cell? ⟨gr, 2, none⟩ = some (.int .i64 m) := r2
      go_upto_region 8 with (fail)
      clear c0 c2 r0 r1 r2 p1 HW HS HG HR
      generalize wr.drewN nq = w5 at *
      refine wp_region_still_tail 11 (by kernel_rfl) (by kernel_rfl) ?_
      simp only [List.take_succ_cons, List.take_zero, List.drop_succ_cons, List.drop_zero]
      iterate 11 still_step
      refine wpStill_nil ?_
      change wpList _ _ _ _ _ w5.drew
      have hft : fr + m ≤ (((fillR w X Y m (fun _ _ => 0) y (pgL w h pad s)).map (Value.int .u8)).toArray).size := by simp [fillR_len, pgL_len]; have := HWH.out; omega
      refine wpList_clear rfl rfl 42 (.tmp 50) rfl 5 (.int .u8 0) Try.underlying42 (fun _ => by kernel_rfl) rfl rfl (g := c.bT) (off := fr) (n := m) (c := wh - fr) rfl (show w5.drew.heap[c.bT]? = _ from HW5.out.txt) (by omega) hft ?_
      intro w6 hh6 hk6
      have hfl : (Y + y) * w + X + m ≤ (pgL w h pad s).length := by rw [HOFF.out, pgL_len, HWH.out]; omega
      have hfz := fill_zero w X Y m y (pgL w h pad s) (by omega) hfl
      rw [HOFF.out] at hfz
      rw [List.toList_toArray] at hh6
      rw [hfz] at hh6
      have hk56 : Kept (· = c.bT) w5 w6 := (Kept.drew _ w5).trans hk6
      have HW6 := Lib.hid (HW5.out.setText hk56 hh6)
      have HS6 := Lib.hid (HS5.out.kept hk56 (fun q hq => .inr (.inl hq)))
      have HG6 := Lib.hid (hk56.get HG5.out (fun e => obj_ne HG5.out HW5.out.txt (cells_ne (by decide)) e))
      have HR6 := Lib.hid (hk56.get HR5.out (fun e => obj_ne HR5.out HW5.out.txt (cells_ne (by decide)) e))
      clear hh6 hk6 hfl hfz hft hk56 p1' c2' r2'
      go_wp2_with fail
      go_roundw
      case rel => exact ⟨y + 1, by go_num, hlt, HW6, HS6, HG6, HR6⟩
      case measure => simp [intOf]; omega
    · have hlt' : ¬ (y : Int) < (n : Int) := by omega
      have hyn' : y = n := by omega
      subst hyn'
      clear c0 c1 c2 c3 c4 c5 c7
      have HT : Hid (fillR w X Y m (fun _ _ => 0) y (pgL w h pad s) = pgL w h pad (evS w h s k)) := Lib.hid (pg_ev HA.out.inv HY.out HAT.out)
      rw [HT.out] at HW
      go_upto_region 11 with (at_delete; refine wpList_delete_is _ rfl _ _ 30 9 rfl 39 Try.strKeyed Try.underlying30 Lk Lk_inj Er c.bM s.keys.length s.pl s.keys.length rfl HW.out.mp _ rfl k (key_of HK.out) ?_; intro w6 hM6 hk6)
      have hlen : s.keys.length - (if (s.pl k).isSome = true then 1 else 0) = (s.keys.erase k).length := by
        rw [if_pos ((HA.out.inv.mem k).2 HY.out), List.length_erase_of_mem HY.out]
      have hM6' := hM6.tight
      rw [hlen] at hM6'
      have HW6 := Lib.hid (HW.out.setMap hk6 hM6')
      have HS6 := Lib.hid (HS.out.kept hk6 (fun q hq => .inr (.inr (.inr (.inl hq)))))
      obtain ⟨es0, cl0, hmo⟩ := HW.out.mp.get
      have HG6 := Lib.hid (hk6.get HG.out (fun e => obj_ne HG.out hmo (by simp) e))
      clear hM6 hk6 hlen hM6' hmo HR
      have hdr := Lib.hid (dropO 68 b 5 (c.cs w h pad) c.vk s.keys k w6 (by omega) HW6.out.lao)
      clear c6 p1 HW HS HG
      have p1 := cell_of_one HG6.out
      go_wp2_with fail
      refine hdr.out.mono ?_
      rintro e w7 ⟨rfl, v', hL7, hk7, hl7⟩
      have hs7 := HW6.out.setKeys hL7 (hk7.mono (fun q _ hq => .inl hq)) hl7
      have HW7 := Lib.hid hs7.1
      have HS7 := Lib.hid (HS6.out.trans ⟨hk7.mono (fun q _ hq => .inl hq), hs7.2⟩)
      have HG7 := Lib.hid (hk7.get HG6.out (fun e => obj_ne HG6.out HW6.out.blk (cells_ne (by decide)) e))
      clear hL7 hk7 hl7 hs7 hdr p1
      go_upto_region 13 with (fail)
      have bb := below_alloc (Below.refl _ w7) (.cells #[.slice none 0 0] 77)
      have HW8 := Lib.hid (HW7.out.below bb)
      have HG8 := Lib.hid (blk_below HG7.out bb)
      have HQ8 := Lib.hid (heap_alloc_new w7 (.cells #[.slice none 0 0] 77))
      have B8 := Lib.hid bb
      clear bb
      generalize w7.alloc (.cells #[.slice none 0 0] 77) = w8 at *
      obtain ⟨c0, c1, c2, c3, c4, c5, c6, c7⟩ := HW8.out.cell
      have hel : (s.keys.erase k).length ≤ s.keys.length := List.length_erase_le
      have hal := Lib.hid (allO b 5 v' (s.keys.erase k) w8 (by omega) c5 HW8.out.ks)
      have p1 := cell_of_one HG8.out
      clear c0 c1 c2 c3 c4 c5 c6 c7
      go_wp2_with fail
      refine hal.out.mono ?_
      rintro e w9 ⟨Bs, va, rfl, hBs, hbs, hs9, hk9, hg9⟩
      have hke : ∀ x ∈ s.keys.erase k, x.size ≤ maxLen := fun x hx => HA.out.kl x (List.mem_of_mem_erase hx)
      obtain ⟨xs, hxs⟩ : ∃ xs, keysS (s.keys.erase k) hke = xs := ⟨_, rfl⟩
      have hxv : xs.map (·.1) = s.keys.erase k := hxs ▸ keysS_val _ hke
      have hxl : xs.length = (s.keys.erase k).length := hxs ▸ keysS_len _ hke
      have hs9' : SlO w9 9 1 va xs.length (xs.map (fun x => Value.string x.1)) := by
        have e : xs.map (fun x => Value.string x.1) = (s.keys.erase k).map Value.string := by rw [← hxv, List.map_map]; rfl
        rw [e, hxl]; exact hs9
      have hB9 := hk9.below (B := w8.heap.size) (Nat.le_refl _) (fun _ h => h.elim)
      have B9 := Lib.hid (below_step B8.out hB9)
      have HQ9 := Lib.hid (blk_below HQ8.out hB9)
      have hq7 := lt_in HQ8.out
      have hz8 := hk9.size
      have HXV := Lib.hid hxv
      have hxn : xs.length ≤ 32 := by omega
      have hbs1 : Bs < w9.heap.size := lt_in hbs
      clear hxs hke hs9 hxl hB9
      go_wp2_with fail
      refine (wpIn_wide (n := 5)).1 (wpIn_rangeFunc_ownG (F := Fence.wide) rfl (by omega) (gf := 49) (lb := #[.pointer (some ⟨Bs, 0, none⟩)]) rfl trivial (enters_of Try.func49 (by kernel_rfl) rfl)
        (iterOe (fun x : KeyS => x.1) 4 (by omega) Bs va xs w9 (fun k => k = Bs ∨ va.ownBlock = some k) (.inl rfl) (fun g hg => .inr hg) (cell_of_one hbs) hs9') (fun h k => Keeps.trans h k)
        (Keeps.putObj (by rintro k (rfl | hk); exact hbs1; exact hs9'.lt hk)) (Below.refl _ _) (fun _ => rfl)
        (fun pre Wc => Below w7.heap.size w7 Wc ∧ w9.heap.size ≤ Wc.heap.size ∧ ∃ vo, Wc.heap[w7.heap.size]? = some (.cells #[vo] 77 (0, 0)) ∧ Kd.R krc 39 Wc w9.heap.size (fun _ => True) vo (pre.map (fun x => (plE s.pl k x.1).getD r00)))
        (fun _ _ _ => False)
        (own_from (by
          rintro pre S Wc Wd ⟨h1, h2, vo, h3, h4⟩ hk hS
          exact ⟨h1.trans (hk.below (Nat.le_trans h1.size (Nat.le_refl _)) (fun q hq => by have := (hS q hq).1; omega)), Nat.le_trans h2 hk.size, vo, hk.get h3 (hS.cells h3), hS.R hk h4⟩))
        (fun _ _ _ _ _ hs _ _ => hs)
        ⟨B9.out, Nat.le_refl _, .slice none 0 0, HQ9.out, Kd.R_nil _ _ _ _ _⟩
        (fun x => { tmps := #[.pointer (some ⟨b, 0, none⟩), .string k, .pointer (some ⟨W.heap.size, 0, none⟩), undef, .bool false, .pointer (some ⟨gr, 0, none⟩), .bool true, u7, u8, .pointer (some ⟨w7.heap.size, 0, none⟩), .string x.1, .tuple #[.agg #[.int .i64 X, .int .i64 Y, .int .i64 m, .int .i64 y], .bool true], .pointer (some ⟨b, 0, none⟩), .pointer (some ⟨b, 0, none⟩), .pointer (some ⟨b, 6, none⟩), .map (some c.bM), .string k, .tuple #[.agg #[.int .i64 X, .int .i64 Y, .int .i64 m, .int .i64 y], .bool true], .agg #[.int .i64 X, .int .i64 Y, .int .i64 m, .int .i64 y], .bool true, .bool true, .bool false, .pointer (some ⟨gr, 3, none⟩), .int .i64 y, .int .i64 y, .bool false, u26, u27, u28, u29, u30, u31, u32, u33, u34, u35, u36, u37, u38, u39, u40, u41, u42, u43, u44, u45, u46, u47, u48, u49, u50, u51, .pointer (some ⟨b, 0, none⟩), .pointer (some ⟨b, 0, none⟩), .pointer (some ⟨b, 6, none⟩), .map (some c.bM), .string k, .pointer (some ⟨b, 0, none⟩), .pointer (some ⟨b, 0, none⟩), .pointer (some ⟨b, 5, none⟩), .string k, .bool (decide (k ∈ s.keys)), .pointer (some ⟨b, 0, none⟩), .pointer (some ⟨b, 0, none⟩), .pointer (some ⟨b, 5, none⟩), .func (.func 49) #[] #[.pointer (some ⟨Bs, 0, none⟩)], .string x.1, undef, undef, undef, undef, undef, undef, undef, undef, undef, undef, undef, undef, undef, undef, undef, undef, undef, undef, undef, undef, undef, undef, undef, undef], defers := [] }) ?assign ?body ?done ?stop)
      case assign =>
        intro l x Wc K hK
        gi_wp2
        exact hK
      case body =>
        rintro l pre x Wc ⟨hbl, hszc, vo, hvo, hRc⟩ hlt
        have hraw := HW7.out.below hbl
        have p1 := cell_of_one (blk_below HG7.out hbl)
        obtain ⟨c0, c1, c2, c3, c4, c5, c6, c7⟩ := hraw.cell
        have c9 := cell_of_one hvo
        have hlk0 : (Instr.lookup 30 (.map (some c.bM)) (.string x.1) false).run Try.prog Wc = .ok (((plE s.pl k x.1).map Er).getD (Er r00)) Wc := hraw.mp.look Try.strKeyed Try.underlying30 (zeroRect Wc) (key_of x.2)
        obtain ⟨R, hR⟩ : ∃ R, (plE s.pl k x.1).getD r00 = R := ⟨_, rfl⟩
        have hlk1 : (((plE s.pl k x.1)).map Er).getD (Er r00) = Er R := by rw [← hR]; cases plE s.pl k x.1 <;> rfl
        rw [hlk1] at hlk0
        have HR := Lib.hid hR
        obtain ⟨rx, ry, rm, rn⟩ := R
        have hlk : (Instr.lookup 30 (.map (some c.bM)) (.string x.1) false).run Try.prog Wc = .ok (.agg #[.int .i64 rx, .int .i64 ry, .int .i64 rm, .int .i64 rn]) Wc := hlk0
        clear hlk0 hlk1 c0 c1 c2 c3 c4 c5 c7 hR
        apply wpIn_block
        obtain ⟨A0, cp0, e0⟩ := Kd.R_slice hRc
        subst e0
        rw [List.length_map] at c9 hRc hvo
        have HRC := Lib.hid hRc
        have HKEEP : Hid (∀ w', Below w7.heap.size w7 w' → Below w7.heap.size w7 w' ∧ w'.cell? ⟨W.heap.size, 0, none⟩ = some (.pointer (some ⟨b, 0, none⟩)) ∧ w'.cell? ⟨b, 6, none⟩ = some (.map (some c.bM)) ∧ (Instr.lookup 30 (.map (some c.bM)) (.string x.1) false).run Try.prog w' = .ok (.agg #[.int .i64 rx, .int .i64 ry, .int .i64 rm, .int .i64 rn]) w') := Lib.hid (fun w' hb => by
          have hraw := HW7.out.below hb
          obtain ⟨c0, c1, c2, c3, c4, c5, c6, c7⟩ := hraw.cell
          have hlk0 : (Instr.lookup 30 (.map (some c.bM)) (.string x.1) false).run Try.prog w' = .ok (((plE s.pl k x.1).map Er).getD (Er r00)) w' := hraw.mp.look Try.strKeyed Try.underlying30 (zeroRect w') (key_of x.2)
          have hlk1 : (((plE s.pl k x.1)).map Er).getD (Er r00) = Er (rx, ry, rm, rn) := by rw [← HR.out]; cases plE s.pl k x.1 <;> rfl
          rw [hlk1] at hlk0
          exact ⟨hb, cell_of_one (blk_below HG7.out hb), c6, hlk0⟩)
        have HBL := Lib.hid hbl
        have HVO := Lib.hid hvo
        have c9' : Wc.drew.cell? ⟨w7.heap.size, 0, none⟩ = some (.slice A0 pre.length cp0) := c9
        clear hRc hvo hlk p1 c6 hraw hbl c9
        refine regionIn_of_held (fun w' => Below w7.heap.size w7 w' ∧ w'.cell? ⟨W.heap.size, 0, none⟩ = some (.pointer (some ⟨b, 0, none⟩)) ∧ w'.cell? ⟨b, 6, none⟩ = some (.map (some c.bM)) ∧ (Instr.lookup 30 (.map (some c.bM)) (.string x.1) false).run Try.prog w' = .ok (.agg #[.int .i64 rx, .int .i64 ry, .int .i64 rm, .int .i64 rn]) w') (by kernel_rfl) (by kernel_rfl) ?hq (HKEEP.out _ (below_drew HBL.out)) (fun hHeld => ?_)
        case hq =>
          rintro ⟨a, w, h⟩
          exact h
        refine wpAnyH_take (i := 1) (oi := _) (v := (.pointer (some ⟨b, 0, none⟩))) rfl (by kernel_rfl) (by kernel_rfl) (by kernel_rfl) (fun _ _ _ h => h) (Or.inl ⟨by rfl, ?_⟩) (by assumption) ?_
        · intro w hSw; (try dsimp only at hSw); go_split_ands; go_simp
        try simp only [Act.put, List.setIfInBounds_toArray, List.set_cons_zero, List.set_cons_succ]
        refine wpAnyH_take (i := 2) (oi := _) (v := (.pointer (some ⟨b, 0, none⟩))) rfl (by kernel_rfl) (by kernel_rfl) (by kernel_rfl) (fun _ _ _ h => h) (Or.inl ⟨by rfl, ?_⟩) (by assumption) ?_
        · intro w hSw; (try dsimp only at hSw); go_split_ands; go_simp
        try simp only [Act.put, List.setIfInBounds_toArray, List.set_cons_zero, List.set_cons_succ]
        refine wpAnyH_take (i := 3) (oi := _) (v := (.pointer (some ⟨b, 6, none⟩))) rfl (by kernel_rfl) (by kernel_rfl) (by kernel_rfl) (fun _ _ _ h => h) (Or.inl ⟨by rfl, ?_⟩) (by assumption) ?_
        · intro w hSw; (try dsimp only at hSw); go_split_ands; go_simp
        try simp only [Act.put, List.setIfInBounds_toArray, List.set_cons_zero, List.set_cons_succ]
        refine wpAnyH_take (i := 4) (oi := _) (v := (.map (some c.bM))) rfl (by kernel_rfl) (by kernel_rfl) (by kernel_rfl) (fun _ _ _ h => h) (Or.inl ⟨by rfl, ?_⟩) (by assumption) ?_
        · intro w hSw; (try dsimp only at hSw); go_split_ands; go_simp
        try simp only [Act.put, List.setIfInBounds_toArray, List.set_cons_zero, List.set_cons_succ]
        refine wpAnyH_take (i := 5) (oi := _) (v := (.string x.1)) rfl (by kernel_rfl) (by kernel_rfl) (by kernel_rfl) (fun _ _ _ h => h) (Or.inl ⟨by rfl, ?_⟩) (by assumption) ?_
        · intro w hSw; (try dsimp only at hSw); go_split_ands; go_simp
        try simp only [Act.put, List.setIfInBounds_toArray, List.set_cons_zero, List.set_cons_succ]
        refine wpAnyH_take (i := 6) (oi := _) (v := (.agg #[.int .i64 rx, .int .i64 ry, .int .i64 rm, .int .i64 rn])) rfl (by kernel_rfl) (by kernel_rfl) (by kernel_rfl) (fun _ _ _ h => h) (Or.inl ⟨by rfl, ?_⟩) (by assumption) ?_
        · intro w hSw; (try dsimp only at hSw); go_split_ands; go_simp
        try simp only [Act.put, List.setIfInBounds_toArray, List.set_cons_zero, List.set_cons_succ]
        refine wpAnyH_ready (rs := [0, 7]) (by kernel_rfl) (by simp) ?_
        refine AllReadyH.cons (o := _) rfl (fun K hK => ?_) (AllReadyH.cons (o := _) rfl (fun K hK => ?_) AllReadyH.nil)
        · go_simp
          refine hK.out _ _ (HKEEP.out _ (below_drew HBL.out)) (fun hHeld => ?_)
          clear hK K
          try simp only [Act.put, List.setIfInBounds_toArray, List.set_cons_zero, List.set_cons_succ]
          refine wpAnyH_ready (rs := [7]) (by kernel_rfl) (by simp) ?_
          refine AllReadyH.cons (o := _) rfl (fun K hK => ?_) AllReadyH.nil
          go_simp
          refine hK.out _ _ (HKEEP.out _ (below_alloc (below_drew HBL.out) _)) (fun hHeld => ?_)
          clear hK K
          try simp only [Act.put, List.setIfInBounds_toArray, List.set_cons_zero, List.set_cons_succ]
          refine wpAnyH_ready (rs := [8]) (by kernel_rfl) (by simp) ?_
          refine AllReadyH.cons (o := _) rfl (fun K hK => ?_) AllReadyH.nil
          (refine Kd.R_append_step krc (w0 := Wc) (W := Wc.drew) w9.heap.size (by rfl) (.tmp 67) (.tmp 74) 77 39 _ 32 (by rfl) Try.underlying77 infoRectE rfl (by decide) (by omega) (.slice A0 pre.length cp0) (pre.map (fun x => (plE s.pl k x.1).getD r00)) (rx, ry, rm, rn) [.int .i64 rx, .int .i64 ry, .int .i64 rm, .int .i64 rn] (fun _ => True) (fun _ => False) (by rfl) (by rfl) (krc_mkM _ _ _ (rx, ry, rm, rn)) (fun _ h => h.elim) (fun _ _ => trivial) (Kd.R_below HRC.out (below_drew (Below.refl _ _))) (below_drew (Below.refl _ _)) hszc (by rw [List.length_map]; omega) ?_); intro v1 w2 ho hb hg hat
          obtain ⟨A1, cp1, e1⟩ := Kd.R_slice ho
          have hb2 := Lib.hid hb; have hg2 := Lib.hid hg; have ho2 := Lib.hid ho; have hat2 := Lib.hid hat; subst e1
          have hv2 : w2.heap[w7.heap.size]? = some (.cells #[.slice A0 pre.length cp0] 77 (0, 0)) := (hb.block _ (by omega)).trans HVO.out
          have d2 := cell_of_one hv2
          have f2 := free_of_one hv2
          have HV2 := Lib.hid hv2
          clear ho hb hg hat hv2
          refine hK.out _ _ (HKEEP.out _ (HBL.out.trans (hb2.out.mono (by omega)))) (fun hHeld => ?_)
          clear hK K
          try simp only [Act.put, List.setIfInBounds_toArray, List.set_cons_zero, List.set_cons_succ]
          refine wpAnyH_ready (rs := [9]) (by kernel_rfl) (by simp) ?_
          refine AllReadyH.cons (o := _) rfl (fun K hK => ?_) AllReadyH.nil
          go_simp
          refine hK.out _ _ (HKEEP.out _ ((HBL.out.trans (hb2.out.mono (by omega))).setCell (p := ⟨w7.heap.size, 0, none⟩) (Nat.le_refl _) _)) (fun hHeld => ?_)
          clear hK K
          try simp only [Act.put, List.setIfInBounds_toArray, List.set_cons_zero, List.set_cons_succ]
          refine wpAnyH_done (by kernel_rfl) ?_ _
          exact evict_body HRC.out HVO.out hszc (by omega) (fun k hk => by rcases hk with rfl | hk; exact ⟨hbs1, by omega⟩; exact ⟨hs9'.lt hk, by have := hg9 k hk; omega⟩) hb2.out hg2.out (by simp) ho2.out HV2.out (by rw [List.map_append, List.map_singleton, HR.out]) hHeld.1
        · go_simp
          refine hK.out _ _ (HKEEP.out _ (below_drew (below_alloc HBL.out _))) (fun hHeld => ?_)
          clear hK K
          try simp only [Act.put, List.setIfInBounds_toArray, List.set_cons_zero, List.set_cons_succ]
          have c9a : (Wc.alloc (.cells #[.int .i64 rx, .int .i64 ry, .int .i64 rm, .int .i64 rn] 39)).drew.cell? ⟨w7.heap.size, 0, none⟩ = some (.slice A0 pre.length cp0) := cell_alloc c9'
          refine wpAnyH_ready (rs := [0]) (by kernel_rfl) (by simp) ?_
          refine AllReadyH.cons (o := _) rfl (fun K hK => ?_) AllReadyH.nil
          go_simp
          refine hK.out _ _ (HKEEP.out _ (below_drew (below_alloc HBL.out _))) (fun hHeld => ?_)
          clear hK K
          try simp only [Act.put, List.setIfInBounds_toArray, List.set_cons_zero, List.set_cons_succ]
          refine wpAnyH_ready (rs := [8]) (by kernel_rfl) (by simp) ?_
          refine AllReadyH.cons (o := _) rfl (fun K hK => ?_) AllReadyH.nil
          (refine Kd.R_append_step krc (w0 := Wc) (W := Wc.drew) w9.heap.size (by rfl) (.tmp 67) (.tmp 74) 77 39 _ 32 (by rfl) Try.underlying77 infoRectE rfl (by decide) (by omega) (.slice A0 pre.length cp0) (pre.map (fun x => (plE s.pl k x.1).getD r00)) (rx, ry, rm, rn) [.int .i64 rx, .int .i64 ry, .int .i64 rm, .int .i64 rn] (fun _ => True) (fun _ => False) (by rfl) (by rfl) (krc_mkM _ _ _ (rx, ry, rm, rn)) (fun _ h => h.elim) (fun _ _ => trivial) (Kd.R_below HRC.out (below_drew (Below.refl _ _))) (below_drew (Below.refl _ _)) hszc (by rw [List.length_map]; omega) ?_); intro v1 w2 ho hb hg hat
          obtain ⟨A1, cp1, e1⟩ := Kd.R_slice ho
          have hb2 := Lib.hid hb; have hg2 := Lib.hid hg; have ho2 := Lib.hid ho; have hat2 := Lib.hid hat; subst e1
          have hv2 : w2.heap[w7.heap.size]? = some (.cells #[.slice A0 pre.length cp0] 77 (0, 0)) := (hb.block _ (by omega)).trans HVO.out
          have d2 := cell_of_one hv2
          have f2 := free_of_one hv2
          have HV2 := Lib.hid hv2
          clear ho hb hg hat hv2
          refine hK.out _ _ (HKEEP.out _ (HBL.out.trans (hb2.out.mono (by omega)))) (fun hHeld => ?_)
          clear hK K
          try simp only [Act.put, List.setIfInBounds_toArray, List.set_cons_zero, List.set_cons_succ]
          refine wpAnyH_ready (rs := [9]) (by kernel_rfl) (by simp) ?_
          refine AllReadyH.cons (o := _) rfl (fun K hK => ?_) AllReadyH.nil
          go_simp
          refine hK.out _ _ (HKEEP.out _ ((HBL.out.trans (hb2.out.mono (by omega))).setCell (p := ⟨w7.heap.size, 0, none⟩) (Nat.le_refl _) _)) (fun hHeld => ?_)
          clear hK K
          try simp only [Act.put, List.setIfInBounds_toArray, List.set_cons_zero, List.set_cons_succ]
          refine wpAnyH_done (by kernel_rfl) ?_ _
          exact evict_body HRC.out HVO.out hszc (by omega) (fun k hk => by rcases hk with rfl | hk; exact ⟨hbs1, by omega⟩; exact ⟨hs9'.lt hk, by have := hg9 k hk; omega⟩) hb2.out hg2.out (by simp) ho2.out HV2.out (by rw [List.map_append, List.map_singleton, HR.out]) hHeld.1
      case done =>
        rintro D ys Wc hD rfl ⟨hbl, hszc, vo, hvo, hRc⟩ hKD
        have hraw := HW7.out.below hbl
        have p1 := cell_of_one (blk_below HG7.out hbl)
        obtain ⟨c0, c1, c2, c3, c4, c5, c6, c7⟩ := hraw.cell
        obtain ⟨A0, cp0, e0⟩ := Kd.R_slice hRc
        subst e0
        rw [List.length_map] at hRc hvo
        have c9 := cell_of_one hvo
        obtain ⟨rs, hrs⟩ : ∃ rs, ys.map (fun x => (plE s.pl k x.1).getD r00) = rs := ⟨_, rfl⟩
        rw [hrs] at hRc
        have hbn1 : Hid (W.heap.size ≠ b) := Lib.hid (by have := HA.out.lt (.inl rfl); omega)
        have hbn2 : Hid (w7.heap.size ≠ b) := Lib.hid (by have := HW7.out.lt (.inl rfl); omega)
        go_upto_region 16 with (fail)
        have hrl : rs.length = ys.length := by rw [← hrs, List.length_map]
        have hrl2 : ys.length = rs.length := hrl.symm
        obtain ⟨q1, q2, q3⟩ := Kd.R_reads' (Kd.R_below hRc (below_drew (Below.refl _ Wc)))
        have hsw : side (w : Int) = w := by unfold side; omega
        have hsh : side (h : Int) = h := by unfold side; omega
        have hev : rbL w h rs = (evS w h s k).l := by
          rw [← hrs]
          have e : ys.map (fun x => (plE s.pl k x.1).getD r00) = (s.keys.erase k).map (fun u => (plE s.pl k u).getD r00) := by rw [← HXV.out, List.map_map]; rfl
          rw [e]; rfl
        have hbd : ∀ r ∈ rs, -10000000 ≤ r.1 ∧ r.1 ≤ 10000000 ∧ -10000000 ≤ r.2.1 ∧ r.2.1 ≤ 10000000 ∧ -10000000 ≤ r.2.2.1 ∧ r.2.2.1 ≤ 10000000 ∧ -10000000 ≤ r.2.2.2 ∧ r.2.2.2 ≤ 10000000 := by
          intro r hr
          rw [← hrs] at hr
          obtain ⟨x, hx, rfl⟩ := List.mem_map.1 hr
          have hxe : x.1 ∈ s.keys.erase k := by rw [← HXV.out]; exact List.mem_map.2 ⟨x, hx, rfl⟩
          have hxm := List.mem_of_mem_erase hxe
          have hne : x.1 ≠ k := (HA.out.inv.nd.mem_erase_iff.1 hxe).1
          rw [plE_ne hne]
          have := HA.out.inv.pg x.1 hxm
          unfold AtS.at at this
          omega
        have hrb := rebuild_c Wc.drew w h A0 cp0 rs q3 (by omega) hbd
        rw [hsw, hsh, hev, hrl] at hrb
        have HRB := Lib.hid hrb
        have HRAW := Lib.hid hraw
        have HBL := Lib.hid hbl
        clear c2 c3 c4 c5 c6 c7 hvo hRc hrs hrl hrl2 q1 q2 q3 hsw hsh hev hbd hrb hraw hbl
        go_region_held3 (fun w' => w'.cell? ⟨W.heap.size, 0, none⟩ = some (.pointer (some ⟨b, 0, none⟩)) ∧ w'.cell? ⟨b, 0, none⟩ = some (.int .i64 w) ∧ w'.cell? ⟨b, 1, none⟩ = some (.int .i64 h) ∧ w'.cell? ⟨w7.heap.size, 0, none⟩ = some (.slice A0 ys.length cp0)) (first
          | assumption
          | exact ⟨p1, c0, c1, c9⟩
          | exact ⟨x1, x2, x3, x4⟩
          | exact ⟨y1, y2, y3, y4⟩) ((go_at_call 40; refine (HRB.out).mono ?_; rintro e w2 ⟨g, rfl, hg, hsky, hb2⟩; have x1 := pw_cell_below hb2 (show Wc.drew.cell? _ = _ from p1); have x2 := pw_cell_below hb2 (show Wc.drew.cell? _ = _ from c0); have x3 := pw_cell_below hb2 (show Wc.drew.cell? _ = _ from c1); have x4 := pw_cell_below hb2 (show Wc.drew.cell? _ = _ from c9); have hraw2 := HRAW.out.below (below_drew (Below.refl _ _) |>.trans hb2); have hbk := hraw2.blk; have x5 : w2.cell? ⟨b, 4, none⟩ = some (.pointer (some ⟨c.g, 0, none⟩)) := (blk_cell hbk 4).trans rfl; have x6 : w2.frozen? ⟨b, 4, none⟩ = false := blk_frozen hbk 4; have hset := heap_setCell_in (off := 4) (.pointer (some ⟨g, 0, none⟩)) hbk; have y1 : (w2.setCell ⟨b, 4, none⟩ (.pointer (some ⟨g, 0, none⟩))).cell? ⟨W.heap.size, 0, none⟩ = some (.pointer (some ⟨b, 0, none⟩)) := (Kept.setCell (· = b) w2 ⟨b, 4, none⟩ (.pointer (some ⟨g, 0, none⟩)) rfl).cell x1 hbn1.out; have y2 : (w2.setCell ⟨b, 4, none⟩ (.pointer (some ⟨g, 0, none⟩))).cell? ⟨b, 0, none⟩ = some (.int .i64 w) := (blk_cell hset 0).trans rfl; have y3 : (w2.setCell ⟨b, 4, none⟩ (.pointer (some ⟨g, 0, none⟩))).cell? ⟨b, 1, none⟩ = some (.int .i64 h) := (blk_cell hset 1).trans rfl; have y4 : (w2.setCell ⟨b, 4, none⟩ (.pointer (some ⟨g, 0, none⟩))).cell? ⟨w7.heap.size, 0, none⟩ = some (.slice A0 ys.length cp0) := (Kept.setCell (· = b) w2 ⟨b, 4, none⟩ (.pointer (some ⟨g, 0, none⟩)) rfl).cell x4 hbn2.out; have Z1 := Lib.hid hg; have Z2 := Lib.hid hsky; have Z3 := Lib.hid hb2; have Z4 := Lib.hid hraw2; clear hg hsky hb2 hraw2 hbk hset))
        all_goals
          have HK3 : Hid ((w2.setCell ⟨b, 4, none⟩ (.pointer (some ⟨g, 0, none⟩))).heap[D]? = some (.deferred (some []))) := Lib.hid ((Kept.setCell (· = b) w2 ⟨b, 4, none⟩ (.pointer (some ⟨g, 0, none⟩)) rfl).get ((Z3.out.block D (lt_in hKD)).trans hKD) (fun e => by have := HA.out.lt (k := b) (.inl rfl); have := HW7.out.lt (k := b) (.inl rfl); omega))
          go_wp2_with fail
          refine leaveM HK3.out (results_tmp rfl _ _ _) ⟨rfl, (c.setK v').setS g, ?_⟩
          have hDlt := lt_in hKD
          have hgD : D ≠ g := by have := Z1.out; have e : Wc.drew.heap.size = Wc.heap.size := rfl; omega
          have hown : ∀ q, (c.setK v').own b q → q < w7.heap.size := fun q hq => HW7.out.lt hq
          have hg' : (c.setK v').own b g → False := fun hq => by have := hown g hq; have := Z1.out; have := HBL.out.size; have e : Wc.drew.heap.size = Wc.heap.size := rfl; omega
          have hset := Z4.out.setSky Z2.out hg'
          have hput := kept_putObj (· = D) (w2.setCell ⟨b, 4, none⟩ (.pointer (some ⟨g, 0, none⟩))) D (.deferred none) rfl
          have hownS : ∀ q, ((c.setK v').setS g).own b q → (c.setK v').own b q ∨ q = g := by
            rintro q (hq | hq | hq | hq | hq | hq)
            · exact .inl (.inl hq)
            · exact .inl (.inr (.inl hq))
            · exact .inr hq
            · exact .inl (.inr (.inr (.inr (.inl hq))))
            · exact .inl (.inr (.inr (.inr (.inr (.inl hq)))))
            · exact .inl (.inr (.inr (.inr (.inr (.inr hq)))))
          have hnD : ∀ q, ((c.setK v').setS g).own b q → q ≠ D := fun q hq e => by
            rcases hownS q hq with h1 | h1
            · have := hown q h1; omega
            · omega
          refine ⟨⟨?_, HA.out.w1, HA.out.h1, HA.out.p4, HA.out.inv.ev k HY.out, fun u hu => HA.out.kl u (List.mem_of_mem_erase hu)⟩, ?_, fun q hq => ?_⟩
          · exact hset.kept hput hnD (fun q hq cells hc => by
              subst hq
              rw [HK3.out] at hc
              cases hc)
          · have hs3 : Step W b c w2 (c.setK v') := (HS7.out.below HBL.out).below ((below_drew (Below.refl _ _)).trans Z3.out)
            have hk4 := (hs3.kept (Kept.setCell (· = b) w2 ⟨b, 4, none⟩ (.pointer (some ⟨g, 0, none⟩)) rfl) (fun q hq => .inl hq)).1
            exact hk4.andThen hput (fun _ _ h => h) (fun q hq e => by have := HS7.out.1.size; omega)
          · have hs7 := HS7.out.1.size
            rcases hownS q hq with h1 | h1
            · exact HS7.out.2 q h1
            · have := Z1.out; have := HBL.out.size; have e : Wc.drew.heap.size = Wc.heap.size := rfl; exact .inr (by omega)
      case stop =>
        rintro D c pre W _ _ h _
        exact h.elim
def evictV (w h : Nat) (s : AtS) (k : ByteArray) : AtS := if k ∈ s.keys then evS w h s k else s
theorem evict_c (W : World) (b w h pad : Nat) (s : AtS) (c : AtC) (hA : AtAt W b w h pad s c) (k : ByteArray) (hk : k.size ≤ maxLen) :
    Calls Try.prog 19 #[.pointer (some ⟨b, 0, none⟩), .string k] W fun e w' => e = .returned (.bool (decide (k ∈ s.keys))) ∧ AtPost W w' b w h pad c (evictV w h s k) := by
  by_cases hy : k ∈ s.keys
  · obtain ⟨X, Y, m, n, hr, h1, h2, h3, h4, _⟩ := hA.inv.nat hy
    have e1 : (m : Int) + 2 * (pad : Int) = ((m + 2 * pad : Nat) : Int) := by omega
    have e2 : (n : Int) + 2 * (pad : Int) = ((n + 2 * pad : Nat) : Int) := by omega
    rw [e1, e2] at hr
    refine (evict_yes W b w h pad s c hA k hk hy X Y (m + 2 * pad) (n + 2 * pad) hr (by omega) (by omega) (by omega)).mono ?_
    rintro e w' ⟨rfl, hp⟩
    rw [show decide (k ∈ s.keys) = true from decide_eq_true hy, evictV, if_pos hy]
    exact ⟨rfl, hp⟩
  · refine (evict_no W b w h pad s c hA k hk hy).mono ?_
    rintro e w' ⟨rfl, hb⟩
    rw [show decide (k ∈ s.keys) = false from decide_eq_false hy, evictV, if_neg hy]
    exact ⟨rfl, c, hA.below hb, Kept.of_below _ hb, fun q hq => .inl hq⟩
end Go.Proofs.Ytaccppchhljnkaa
