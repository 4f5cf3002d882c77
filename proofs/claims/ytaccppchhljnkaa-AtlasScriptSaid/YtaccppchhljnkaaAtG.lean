/- Atlases: Load, where a field is loaded. -/
import Derived.Test.YtaccppchhljnkaaAtD
set_option linter.unusedVariables false
set_option linter.unusedSimpArgs false
namespace Go.Proofs.Ytaccppchhljnkaa
open Go.RowKit Go.Shelf Go.Proofs.YtaccppchhljnkaaW.PrintWords Go.Proofs.YtaccppchhljnkaaW.PrintLast Go.Proofs.YtaccppchhljnkaaW.PrintMore
/-- How long the slice in a struct's field is. -/
def lenAt (W : World) (b off : Nat) : Nat := match W.cell? ⟨b, off, none⟩ with
  | some (.slice _ n _) => n
  | _ => 0
def rcC (B : Int × Int) (M N : Nat) : Bool → Array Value
  | true => #[.int .i64 B.1, .int .i64 B.2, .int .i64 M, .int .i64 N]
  | false => #[.int .i64 0, .int .i64 0, .int .i64 0, .int .i64 0]
theorem AtRaw.not_own {W : World} {b w h pad : Nat} {c : AtC} {T l : List Int} {ks gn : List ByteArray} {f : ByteArray → Option Rc} {n : Nat} (a : AtRaw W b w h pad c T l ks f n gn) {q : Nat} {cur : Array Value} {t : TypeId} (hq : W.heap[q]? = some (.cells cur t (0, 0)))
    (h1 : t ≠ 68) (h2 : t ≠ 5) (h3 : t ≠ 82) (h4 : t ≠ 9) : ¬ c.own b q := by
  rintro (e | e | e | e | e | e)
  · exact obj_ne hq a.blk (cells_ne h1) e
  · exact obj_ne hq a.txt (cells_ne h2) e
  · obtain ⟨u, hu⟩ := a.sk
    exact obj_ne hq hu (cells_ne h3) e
  · obtain ⟨es, clock, hm⟩ := a.mp.get
    exact obj_ne hq hm (by simp) e
  · obtain ⟨cur', hc⟩ := a.ks.blk e
    exact obj_ne hq hc (cells_ne h4) rfl
  · obtain ⟨cur', hc⟩ := a.gs.blk e
    exact obj_ne hq hc (cells_ne h4) rfl
/-- A block that is none of the atlas's is written. -/
theorem AtAt.other {W W' : World} {b w h pad : Nat} {s : AtS} {c : AtC} (a : AtAt W b w h pad s c) {q : Nat} {cur : Array Value} {t : TypeId} (hq : W.heap[q]? = some (.cells cur t (0, 0)))
    (h1 : t ≠ 68) (h2 : t ≠ 5) (h3 : t ≠ 82) (h4 : t ≠ 9) (h5 : t ≠ 84) (hk : Kept (· = q) W W') : AtAt W' b w h pad s c :=
  a.kept hk (fun k hk e => a.raw.not_own hq h1 h2 h3 h4 (e ▸ hk)) (fun k e cells hc => by
    subst e
    rw [hq] at hc
    injection hc with hc
    injection hc with _ hc
    exact h5 hc)
theorem Step.other {W w1 w2 : World} {b : Nat} {c c1 : AtC} (h : Step W b c w1 c1) {q : Nat} (hk : Kept (· = q) w1 w2) (hq : W.heap.size ≤ q) : Step W b c w2 c1 :=
  ⟨h.1.andThen hk (fun _ _ h => h) (fun k hk' e => by omega), h.2⟩
theorem Step.own_not {W w1 : World} {b : Nat} {c c1 : AtC} (h : Step W b c w1 c1) {q : Nat} (hq : q < W.heap.size) (hn : ¬ c.own b q) : ¬ c1.own b q := fun h1 => (h.2 q h1).elim hn (fun h2 => by omega)
theorem AtPost.step {W w' : World} {b w h pad : Nat} {c : AtC} {s' : AtS} (h0 : AtPost W w' b w h pad c s') : ∃ c', AtAt w' b w h pad s' c' ∧ Step W b c w' c' := by
  obtain ⟨c', h1, h2, h3⟩ := h0
  exact ⟨c', h1, h2, h3⟩
set_option maxHeartbeats 4000000 in
set_option maxRecDepth 100000 in
theorem load_ok (W : World) (b w h pad : Nat) (s : AtS) (c : AtC) (hA : AtAt W b w h pad s c) (k : ByteArray) (hkl : k.size ≤ maxLen) (a a' : Nat) (A : Option Addr) (n cap : Nat) (t : List Int) (hT : SlO W 5 1 (.slice A n cap) n (t.map (Value.int .u8))) (hap : ∀ q, (Value.slice A n cap).ownBlock = some q → ¬ c.own b q) (h1 : 1 ≤ a ∧ a ≤ 64) (h2 : 1 ≤ a' ∧ a' ≤ 64) (hn : n = a * a') (hk : k ∉ s.keys) (hmw : a + 2 * pad ≤ w) (hnh : a' + 2 * pad ≤ h) (h8 : ∀ x ∈ t, 0 ≤ x ∧ x ≤ 255) (B : Int × Int) (sF : AtS) (hgl : s.gone.length ≤ 100000) (hR : room w h ((a : Int) + 2 * pad) ((a' : Int) + 2 * pad) s = some (B, sF)) :
    Calls Try.prog 15 #[.pointer (some ⟨b, 0, none⟩), .string k, Ef a a' (.slice A n cap)] W fun e w' => e = .returned (.int .i64 0) ∧ AtPost W w' b w h pad c (putS sF k (B.1, B.2, (a : Int) + 2 * pad, (a' : Int) + 2 * pad) t) := by
  obtain ⟨i0, hi0, hz0, hz1, hz2⟩ := info_parts Try.info_strO
  have bb := below_alloc (Below.refl _ W) (.cells #[.int .i64 (a : Int), .int .i64 (a' : Int), .slice A n cap] 44)
  have A1 := hA.below bb
  obtain ⟨c0, c1, c2, c3, c4, c5, c6, c7⟩ := A1.cell
  have G1 := heap_alloc_new W (.cells #[.int .i64 (a : Int), .int .i64 (a' : Int), .slice A n cap] 44)
  have q0 : (W.alloc (.cells #[.int .i64 (a : Int), .int .i64 (a' : Int), .slice A n cap] 44)).cell? ⟨W.heap.size, 0, none⟩ = some (.int .i64 (a : Int)) := (blk_cell G1 0).trans rfl
  have q1 : (W.alloc (.cells #[.int .i64 (a : Int), .int .i64 (a' : Int), .slice A n cap] 44)).cell? ⟨W.heap.size, 1, none⟩ = some (.int .i64 (a' : Int)) := (blk_cell G1 1).trans rfl
  have q2 : (W.alloc (.cells #[.int .i64 (a : Int), .int .i64 (a' : Int), .slice A n cap] 44)).cell? ⟨W.heap.size, 2, none⟩ = some (.slice A n cap) := (blk_cell G1 2).trans rfl
  have hha := fun (Wd : World) (hb : Below (W.alloc (.cells #[.int .i64 (a : Int), .int .i64 (a' : Int), .slice A n cap] 44)).heap.size (W.alloc (.cells #[.int .i64 (a : Int), .int .i64 (a' : Int), .slice A n cap] 44)) Wd) => hasO b 5 c.vk s.keys k Wd (A1.below hb).cell.2.2.2.2.2.1 (A1.below hb).raw.ks
  rw [show decide (k ∈ s.keys) = false from decide_eq_false hk] at hha
  have HH := Lib.hid hha
  have B1 := Lib.hid bb
  have hp := hA.p4
  obtain ⟨hw0, hw1⟩ := hA.w1
  obtain ⟨hh0, hh1⟩ := hA.h1
  have e1 : IntKind.i64.wrap (2 * (pad : Int)) = 2 * (pad : Int) := by rw [IntKind.wrap_i64]; omega
  have d1 : decide ((a : Int) < 1) = false := decide_eq_false (by omega)
  have d2 : decide ((a' : Int) < 1) = false := decide_eq_false (by omega)
  have d3 : decide (64 < (a : Int)) = false := decide_eq_false (by omega)
  have d4 : decide (64 < (a' : Int)) = false := decide_eq_false (by omega)
  have hmul : a * a' ≤ 64 * 64 := Nat.mul_le_mul (by omega) (by omega)
  have e4 : IntKind.i64.wrap ((a : Int) * (a' : Int)) = (n : Int) := by rw [← Int.natCast_mul, ← hn, IntKind.wrap_i64]; omega
  have d6 : ((n : Int) != (n : Int)) = false := by simp
  obtain ⟨M, hM⟩ : ∃ M, a + 2 * pad = M := ⟨_, rfl⟩
  obtain ⟨N, hN⟩ : ∃ N, a' + 2 * pad = N := ⟨_, rfl⟩
  have hMi : (a : Int) + 2 * (pad : Int) = (M : Int) := by omega
  have hNi : (a' : Int) + 2 * (pad : Int) = (N : Int) := by omega
  have e2 : IntKind.i64.wrap ((a : Int) + 2 * (pad : Int)) = (M : Int) := by rw [IntKind.wrap_i64]; omega
  have e3 : IntKind.i64.wrap ((a' : Int) + 2 * (pad : Int)) = (N : Int) := by rw [IntKind.wrap_i64]; omega
  rw [hMi, hNi] at hR
  have t1 : decide ((w : Int) < (M : Int)) = false := decide_eq_false (by omega)
  have t2 : decide ((h : Int) < (N : Int)) = false := decide_eq_false (by omega)
  have tn1 : M ≤ w := by omega
  have tn2 : N ≤ h := by omega
  have tn3 : ¬ w < M := by omega
  have tn4 : ¬ h < N := by omega
  have HA := Lib.hid hA
  have HR := Lib.hid hR
  have HKN := Lib.hid hk
  have HKL := Lib.hid hkl
  have HT := Lib.hid hT
  have HAP := Lib.hid hap
  have G1h := Lib.hid G1
  have HMI := Lib.hid hMi; have HNI := Lib.hid hNi; have HM := Lib.hid hM; have HN := Lib.hid hN; have HNN := Lib.hid hn
  clear hA bb A1 c2 c4 c5 c6 c7 G1 hha hk hmul hR hkl hT hap hMi hNi hM hN hn
  go_enter Try.func15, Try.ntmps15
  go_upto_region 1 with (fail)
  generalize W.alloc (.cells #[.int .i64 (a : Int), .int .i64 (a' : Int), .slice A n cap] 44) = w1 at *
  go_quiet (fail)
  have z0 : (w1.drewN nq).cell? ⟨W.heap.size, 0, none⟩ = some (.int .i64 (a : Int)) := q0
  have z1 : (w1.drewN nq).cell? ⟨W.heap.size, 1, none⟩ = some (.int .i64 (a' : Int)) := q1
  have z2 : (w1.drewN nq).cell? ⟨W.heap.size, 2, none⟩ = some (.slice A n cap) := q2
  have BQ := Lib.hid (below_drewN B1.out nq)
  have HQ := Lib.hid (HH.out _ (below_drewN (Below.refl _ _) nq))
  have y0 : (w1.drewN nq).cell? ⟨b, 0, none⟩ = some (.int .i64 w) := c0
  have y1 : (w1.drewN nq).cell? ⟨b, 1, none⟩ = some (.int .i64 h) := c1
  have GQ : Hid ((w1.drewN nq).heap[W.heap.size]? = some (.cells #[.int .i64 (a : Int), .int .i64 (a' : Int), .slice A n cap] 44 (0, 0))) := G1h
  clear q0 q1 q2 c3 c0 c1
  generalize w1.drewN nq = w2 at *
  have gq : Hid (w2.heap[W.heap.size]? = some (.cells #[.int .i64 (a : Int), .int .i64 (a' : Int), .slice A n cap] 44 (0, 0))) := GQ
  go_wp2_with fail
  refine HQ.out.mono ?_
  rintro e w' ⟨rfl, rfl⟩
  go_upto_region 9 with (fail)
  have bb := below_alloc (Below.refl _ w2) (.cells #[.int .i64 0, .int .i64 0, .int .i64 0, .int .i64 0] 39)
  have BW := Lib.hid (below_step BQ.out bb)
  have GF := Lib.hid (blk_below gq.out bb)
  have GR := Lib.hid (heap_alloc_new w2 (.cells #[.int .i64 0, .int .i64 0, .int .i64 0, .int .i64 0] 39))
  have hgr1 : W.heap.size < w2.heap.size := lt_in gq.out
  clear bb z0 z1 z2 y0 y1 gq GQ
  generalize w2.alloc (.cells #[.int .i64 0, .int .i64 0, .int .i64 0, .int .i64 0] 39) = w3 at *
  generalize hgr : w2.heap.size = gr at *
  clear hgr
  go_upto_region 10 with (fail)
  go_loopw [10, 11, 12] (fun v10 v11 v12 Wr => ∃ (s' : AtS) (c' : AtC) (ok : Bool), v10 = .bool ok ∧ Hid (AtAt Wr b w h pad s' c') ∧ Hid (Step W b c Wr c') ∧ Hid (room w h M N s' = some (B, sF)) ∧ Hid (ok = true → s' = sF ∧ fitS w h sF M N = some B) ∧ Hid (s'.gone.length + s'.keys.length ≤ s.gone.length + s.keys.length ∧ (∀ u ∈ s'.keys, u ∈ s.keys)) ∧ Hid (Wr.heap[gr]? = some (.cells (rcC B M N ok) 39 (0, 0))) ∧ Hid (Wr.heap[W.heap.size]? = some (.cells #[.int .i64 (a : Int), .int .i64 (a' : Int), .slice A n cap] 44 (0, 0)))) (fun v10 _ _ Wr => match v10 with
    | .bool true => 0
    | _ => 1 + lenAt Wr b 5)
  case atStart => exact ⟨s, c, false, rfl, Lib.hid (HA.out.below BW.out), Lib.hid ((Step.refl W b c).below BW.out), HR, Lib.hid (fun h => by cases h), Lib.hid ⟨Nat.le_refl _, fun _ h => h⟩, GR, GF⟩
  case round =>
    obtain ⟨s', c', ok, rfl, HA1, HS1, HR1, HO1, HL1, HG1, HF1⟩ := hrel
    clear GR GF BW
    obtain ⟨c0, c1, c2, c3, c4, c5, c6, c7⟩ := HA1.out.cell
    cases ok with
    | true =>
      obtain ⟨hsF, hfF⟩ := HO1.out rfl
      subst hsF
      obtain ⟨hl32, hq⟩ := fitS_Q hfF
      have hpo := fit_putOk hq
      have hb0 := fit_nn hq HA1.out.inv.ys
      obtain ⟨p1, p2, p3, p4, p5, p6, p7, p8⟩ := fit_facts hq
      obtain ⟨B1, B2⟩ := B
      simp only at p5 p6 p7 p8 hb0
      obtain ⟨X, rfl⟩ := Int.eq_ofNat_of_zero_le p5
      obtain ⟨Y, rfl⟩ := Int.eq_ofNat_of_zero_le hb0
      have hXw : X + M ≤ w := by omega
      have hYh : Y + N ≤ h := by omega
      have HPO := Lib.hid hpo
      have HG1' : Hid (wr.heap[gr]? = some (.cells #[.int .i64 X, .int .i64 Y, .int .i64 M, .int .i64 N] 39 (0, 0))) := HG1
      have HFF := Lib.hid hfF
      have hszw := HS1.out.1.size
      clear p1 p2 p3 p4 p5 p6 p7 p8 hb0 hpo hq c0 c1 c2 c3 c5 c6 c7 hfF HG1 HO1
      have r0 : wr.cell? ⟨gr, 0, none⟩ = some (.int .i64 X) := (blk_cell HG1'.out 0).trans rfl
      have r1 : wr.cell? ⟨gr, 1, none⟩ = some (.int .i64 Y) := (blk_cell HG1'.out 1).trans rfl
      have r2 : wr.cell? ⟨gr, 2, none⟩ = some (.int .i64 M) := (blk_cell HG1'.out 2).trans rfl
      have r3 : wr.cell? ⟨gr, 3, none⟩ = some (.int .i64 N) := (blk_cell HG1'.out 3).trans rfl
      go_upto_region 17 with (fail)
      obtain ⟨w3, rfl⟩ : ∃ x : World, x = wr := ⟨_, rfl⟩
      refine wp_region_still_tail 5 (by kernel_rfl) (by kernel_rfl) ?_
      simp only [List.take_succ_cons, List.take_zero, List.drop_succ_cons, List.drop_zero]
      iterate 5 still_step
      refine wpStill_nil ?_
      change wpList _ _ _ _ _ w3.drew
      clear c4 r0 r1 r2 r3
      go_wp2_with fail
      refine (put_c w3.drew c'.g w h s'.l (HA1.out.raw.below (below_drew (Below.refl _ _))).sky X Y M N).mono ?_
      rintro e w4 ⟨rfl, hput, -⟩
      obtain ⟨hsk4, hk4⟩ := hput HPO.out
      have R4 := Lib.hid ((HA1.out.raw.below (below_drew (Below.refl _ _))).turnSky hk4 hsk4)
      have S4 := Lib.hid ((HS1.out.below (below_drew (Below.refl _ _))).kept hk4 (fun q hq => .inr (.inr (.inl hq))))
      obtain ⟨u4, hu4⟩ := HA1.out.raw.sk
      have G4 := Lib.hid (hk4.get (show w3.drew.heap[gr]? = _ from HG1'.out) (obj_ne HG1'.out hu4 (cells_ne (by decide))))
      have F4 := Lib.hid (hk4.get (show w3.drew.heap[W.heap.size]? = _ from HF1.out) (obj_ne HF1.out hu4 (cells_ne (by decide))))
      clear hput hsk4 hk4 hu4 u4
      obtain ⟨x0, x1, x2, x3, x4, x5, x6, x7⟩ := R4.out.cell
      have r0 : w4.cell? ⟨gr, 0, none⟩ = some (.int .i64 X) := (blk_cell G4.out 0).trans rfl
      have r1 : w4.cell? ⟨gr, 1, none⟩ = some (.int .i64 Y) := (blk_cell G4.out 1).trans rfl
      have r2 : w4.cell? ⟨gr, 2, none⟩ = some (.int .i64 M) := (blk_cell G4.out 2).trans rfl
      have r3 : w4.cell? ⟨gr, 3, none⟩ = some (.int .i64 N) := (blk_cell G4.out 3).trans rfl
      clear x0 x1 x2 x3 x4 x5 x7
      go_upto_region 18 with (fail)
      refine wp_region_still_tail 6 (by kernel_rfl) (by kernel_rfl) ?_
      simp only [List.take_succ_cons, List.take_zero, List.drop_succ_cons, List.drop_zero]
      iterate 6 still_step
      refine wpStill_nil ?_
      change wpList _ _ _ _ _ w4.drew
      clear r0 r1 r2 r3 x6
      refine wpList_store_is _ rfl _ _ _ 30 rfl 9 39 Try.strKeyed Try.underlying30 Lk Lk_inj Lk_key Er c'.bM s'.keys.length s'.pl s'.keys.length rfl (R4.out.below (below_drew (Below.refl _ _))).mp (by unfold maxLen; omega) _ rfl k (key_of HKL.out) ((X : Int), (Y : Int), (M : Int), (N : Int)) rfl ?_
      intro w5 hM5 hk5
      have hsub : Hid (∀ u ∈ s'.keys, u ∈ s.keys) := Lib.hid HL1.out.2
      have hkn : k ∉ s'.keys := fun h => HKN.out (hsub.out k h)
      have hpk : (s'.pl k).isSome = false := by rw [HA1.out.inv.noPl hkn]; rfl
      rw [hpk] at hM5
      have R5 := Lib.hid ((R4.out.below (below_drew (Below.refl _ _))).setMap hk5 hM5)
      have S5 := Lib.hid ((S4.out.below (below_drew (Below.refl _ _))).kept hk5 (fun q hq => .inr (.inr (.inr (.inl hq)))))
      obtain ⟨es0, cl0, hmo⟩ := R4.out.mp.get
      have G5 := Lib.hid (hk5.get (show w4.drew.heap[gr]? = _ from G4.out) (fun e => obj_ne G4.out hmo (by simp) e))
      have F5 := Lib.hid (hk5.get (show w4.drew.heap[W.heap.size]? = _ from F4.out) (fun e => obj_ne F4.out hmo (by simp) e))
      clear hM5 hk5 hpk hmo
      have hus := Lib.hid (useO 68 b 5 (c'.cs w h pad) c'.vk s'.keys k w5 (by omega) R5.out.lao)
      have HKN' := Lib.hid hkn
      clear hkn
      go_wp2_with fail
      refine hus.out.mono ?_
      rintro e w6 ⟨rfl, v', hL6, hk6, hl6⟩
      have hs6 := R5.out.setKeys hL6 hk6 hl6
      have R6 := Lib.hid hs6.1
      have S6 := Lib.hid (S5.out.trans ⟨hk6.mono (fun q _ hq => hq.elim (fun e => .inl e) (fun e => .inr (.inr (.inr (.inr (.inl e)))))), hs6.2⟩)
      have G6 := Lib.hid (hk6.get G5.out (fun e => R5.out.not_own G5.out (by decide) (by decide) (by decide) (by decide) (e.elim (fun e => .inl e) (fun e => .inr (.inr (.inr (.inr (.inl e))))))))
      have F6 := Lib.hid (hk6.get F5.out (fun e => R5.out.not_own F5.out (by decide) (by decide) (by decide) (by decide) (e.elim (fun e => .inl e) (fun e => .inr (.inr (.inr (.inr (.inl e))))))))
      clear hL6 hk6 hl6 hs6 hus
      obtain ⟨x0, x1, x2, x3, x4, x5, x6, x7⟩ := R6.out.cell
      have r0 : w6.cell? ⟨gr, 0, none⟩ = some (.int .i64 X) := (blk_cell G6.out 0).trans rfl
      have r1 : w6.cell? ⟨gr, 1, none⟩ = some (.int .i64 Y) := (blk_cell G6.out 1).trans rfl
      have r2 : w6.cell? ⟨gr, 2, none⟩ = some (.int .i64 M) := (blk_cell G6.out 2).trans rfl
      have r3 : w6.cell? ⟨gr, 3, none⟩ = some (.int .i64 N) := (blk_cell G6.out 3).trans rfl
      have hin := inner_c w6 b pad hp x3 X Y M N (by omega) (by omega) (by omega) (by omega)
      unfold Er inR at hin
      obtain ⟨X', hX'⟩ : ∃ X', X + pad = X' := ⟨_, rfl⟩
      obtain ⟨Y', hY'⟩ : ∃ Y', Y + pad = Y' := ⟨_, rfl⟩
      have eX : (X : Int) + (pad : Int) = (X' : Int) := by omega
      have eY : (Y : Int) + (pad : Int) = (Y' : Int) := by omega
      have eM : (M : Int) - 2 * (pad : Int) = (a : Int) := by have := HM.out; omega
      have eN : (N : Int) - 2 * (pad : Int) = (a' : Int) := by have := HN.out; omega
      simp only [eX, eY, eM, eN] at hin
      have hXb : X' + a ≤ w := by have := HM.out; omega
      have hYb : Y' + a' ≤ h := by have := HN.out; omega
      have HIN := Lib.hid hin
      have HXX := Lib.hid hX'; have HYY := Lib.hid hY'
      clear x0 x1 x2 x3 x4 x5 x6 x7 hin eX eY eM eN hX' hY'
      go_wp2_with fail
      refine HIN.out.mono ?_
      rintro e w7 ⟨rfl, hb7⟩
      clear r0 r1 r2 r3 HIN
      go_upto_region 21 with (fail)
      have bb := below_alloc hb7 (.cells #[.int .i64 X', .int .i64 Y', .int .i64 a, .int .i64 a'] 39)
      have R8 := Lib.hid (R6.out.below bb)
      have S8 := Lib.hid (S6.out.below bb)
      have F8 := Lib.hid (blk_below F6.out bb)
      have I8 := Lib.hid (heap_alloc_new w7 (.cells #[.int .i64 X', .int .i64 Y', .int .i64 a, .int .i64 a'] 39))
      clear bb hb7
      generalize w7.alloc (.cells #[.int .i64 X', .int .i64 Y', .int .i64 a, .int .i64 a'] 39) = w8 at *
      generalize w7.heap.size = gi at *
      have q3 : w8.cell? ⟨gi, 3, none⟩ = some (.int .i64 a') := (blk_cell I8.out 3).trans rfl
      go_upto_region 22 with (fail)
      clear q3
      have hwh : w * h ≤ 4096 := Nat.le_trans (Nat.mul_le_mul hw1 hh1) (by decide)
      obtain ⟨gs, hAs, hncap⟩ : ∃ gs, A = some ⟨gs, 0, none⟩ ∧ n ≤ cap ∧ cap ≤ 9223372036854775807 := by
        rcases HT.out.form with ⟨e0, _⟩ | ⟨g0, cap0, e0, hc1, hc2, _⟩
        · exfalso
          injection e0 with _ e0 _
          have h3 := HNN.out
          have h4 : 1 ≤ a * a' := Nat.mul_le_mul h1.1 h2.1
          omega
        · injection e0 with e1 _ e2
          exact ⟨g0, e1, by omega, by omega⟩
      subst hAs
      have htl : Hid (t.length = n) := Lib.hid (by have := HT.out.1; rw [List.length_map] at this; omega)
      go_loopw [148] (fun v148 Wr => ∃ y : Nat, v148 = .int .i64 y ∧ y ≤ a' ∧ Hid (AtRaw Wr b w h pad (c'.setK v') (fillR w X' Y' a (fun j i => t.getD (j * a + i) 0) y (pgL w h pad s')) (putN s'.l (X : Int).toNat (M : Int).toNat ((Y : Int) + (N : Int))) (s'.keys.erase k ++ [k]) (fun u => if u = k then some ((X : Int), (Y : Int), (M : Int), (N : Int)) else s'.pl u) (s'.keys.length + 1) s'.gone) ∧ Hid (Step W b c Wr (c'.setK v')) ∧ Hid (Wr.heap[gi]? = some (.cells #[.int .i64 X', .int .i64 Y', .int .i64 a, .int .i64 a'] 39 (0, 0))) ∧ Hid (Wr.heap[W.heap.size]? = some (.cells #[.int .i64 (a : Int), .int .i64 (a' : Int), .slice (some ⟨gs, 0, none⟩) n cap] 44 (0, 0)))) (fun v148 _ => a' - (intOf v148).toNat)
      case atStart => exact ⟨0, rfl, Nat.zero_le _, Lib.hid (by rw [fillR_zero]; exact R8.out), S8, I8, F8⟩
      case round =>
        obtain ⟨y, rfl, hy, HW, HS, HI, HF⟩ := hrel
        clear R8 S8 I8 F8
        by_cases hlt : y < a'
        · have hlt' : (y : Int) < (a' : Int) := by omega
          obtain ⟨x0, x1, x2, x3, x4, x5, x6, x7⟩ := HW.out.cell
          have i0' : wr.cell? ⟨gi, 0, none⟩ = some (.int .i64 X') := (blk_cell HI.out 0).trans rfl
          have i1' : wr.cell? ⟨gi, 1, none⟩ = some (.int .i64 Y') := (blk_cell HI.out 1).trans rfl
          have f0' : wr.cell? ⟨W.heap.size, 0, none⟩ = some (.int .i64 (a : Int)) := (blk_cell HF.out 0).trans rfl
          have f2' : wr.cell? ⟨W.heap.size, 2, none⟩ = some (.slice (some ⟨gs, 0, none⟩) n cap) := (blk_cell HF.out 2).trans rfl
          clear x1 x3 x4 x5 x6 x7
          obtain ⟨r, hr⟩ : ∃ r, Y' + y = r := ⟨_, rfl⟩
          obtain ⟨p, hpw⟩ : ∃ p, r * w = p := ⟨_, rfl⟩
          obtain ⟨fr, hfr⟩ : ∃ fr, p + X' = fr := ⟨_, rfl⟩
          obtain ⟨sa, hsa⟩ : ∃ sa, y * a = sa := ⟨_, rfl⟩
          obtain ⟨sb, hsb⟩ : ∃ sb, (y + 1) * a = sb := ⟨_, rfl⟩
          obtain ⟨wh, hwhe⟩ : ∃ wh, w * h = wh := ⟨_, rfl⟩
          have hb1 : fr + a ≤ wh := by
            have h1 : (r + 1) * w ≤ h * w := Nat.mul_le_mul_right _ (by omega)
            rw [Nat.add_mul, Nat.one_mul, Nat.mul_comm h w, hpw, hwhe] at h1
            omega
          have hsb2 : sb = sa + a := by rw [← hsb, ← hsa, Nat.add_mul, Nat.one_mul]
          have hsbn : sb ≤ n := by rw [← hsb, HNN.out, Nat.mul_comm a a']; exact Nat.mul_le_mul_right _ hlt
          rw [hwhe] at x2 hwh
          have e5 : IntKind.i64.wrap ((Y' : Int) + (y : Int)) = (r : Int) := by rw [IntKind.wrap_i64]; omega
          have e6 : IntKind.i64.wrap ((r : Int) * (w : Int)) = (p : Int) := by rw [← Int.natCast_mul, hpw, IntKind.wrap_i64]; omega
          have e7 : IntKind.i64.wrap ((p : Int) + (X' : Int)) = (fr : Int) := by rw [IntKind.wrap_i64]; omega
          have hn4 : n ≤ 4096 := by rw [HNN.out]; exact Nat.le_trans (Nat.mul_le_mul h1.2 h2.2) (by decide)
          have e8 : IntKind.i64.wrap ((y : Int) * (a : Int)) = (sa : Int) := by rw [← Int.natCast_mul, hsa, IntKind.wrap_i64]; omega
          have e9 : IntKind.i64.wrap ((y : Int) + 1) = (((y + 1 : Nat) : Int)) := by rw [IntKind.wrap_i64]; omega
          have e10 : IntKind.i64.wrap (((y + 1 : Nat) : Int) * (a : Int)) = (sb : Int) := by rw [← Int.natCast_mul, hsb, IntKind.wrap_i64]; omega
          have e10' : IntKind.i64.wrap (((y : Int) + 1) * (a : Int)) = (sb : Int) := by have := e10; rwa [show (((y + 1 : Nat) : Int)) = (y : Int) + 1 by omega] at this
          have g1 : (fr : Int) ≤ (wh : Int) := by omega
          have g2 : fr ≤ wh := by omega
          have g3 : ¬ wh = fr := by omega
          have g4 : (sa : Int) ≤ (sb : Int) := by omega
          have g5 : sa ≤ sb := by omega
          have g6 : (sb : Int) ≤ (cap : Int) := by omega
          have g7 : sb ≤ cap := by omega
          have g8 : ¬ cap = sa := by omega
          have g9 : sb - sa = a := by omega
          have HOFF : Hid ((Y' + y) * w + X' = fr) := Lib.hid (by rw [hr, hpw, hfr])
          have HSA := Lib.hid hsa
          have HWH := Lib.hid hwhe
          have HB1 := Lib.hid hb1
          have HSB := Lib.hid hsbn
          clear hwhe hr hpw hsa hsb hsb2 hb1 hsbn
          go_upto_region 24 with (fail)
          refine wp_region_still_tail 31 (by kernel_rfl) (by kernel_rfl) ?_
          simp only [List.take_succ_cons, List.take_zero, List.drop_succ_cons, List.drop_zero]
          iterate 31 still_step
          refine wpStill_nil ?_
          change wpList _ _ _ _ _ wr.drew
          have hTx := HW.out.txt
          have hll : (fillR w X' Y' a (fun j i => t.getD (j * a + i) 0) y (pgL w h pad s')).length = wh := by rw [fillR_len, pgL_len, HWH.out]
          have hcsl : (((List.range a).map (fun i => t.getD (y * a + i) 0)).map (Value.int .u8)).length = a := by simp
          have hsrc : ∀ j u, (((List.range a).map (fun i => t.getD (y * a + i) 0)).map (Value.int .u8))[j]? = some u → wr.drew.cell? ((⟨gs, sa, none⟩ : Addr).add j) = some u := by
            intro j u hu
            have hj : j < a := by have := (List.getElem?_eq_some_iff.1 hu).1; rw [hcsl] at this; exact this
            have hTW : SlO wr 5 1 (.slice (some ⟨gs, 0, none⟩) n cap) n (t.map (Value.int .u8)) := HT.out.kept HS.out.1 HAP.out
            rcases hTW.form with ⟨e0, _⟩ | ⟨g0, cap0, e0, _, _, _, _, hcell⟩
            · cases e0
            · injection e0 with e1
              injection e1 with e1
              injection e1 with e1
              subst e1
              rw [Addr.add_lit]
              have hjt : sa + j < t.length := by rw [htl.out]; have := HSB.out; omega
              refine hcell (sa + j) u ?_
              rw [← hu, List.getElem?_map, List.getElem?_map, List.getElem?_map, List.getElem?_range hj, List.getElem?_eq_getElem hjt]
              simp [HSA.out, List.getD_eq_getElem?_getD, List.getElem?_eq_getElem hjt]
          refine wpList_copy_own rfl (.tmp 169) (.tmp 181) 42 42 rfl 5 Try.underlying42 (by kernel_rfl) c'.bT fr (wh - fr) (wh - fr) ⟨gs, sa, none⟩ a (cap - sa) rfl rfl _ 5 (show wr.drew.heap[c'.bT]? = _ from hTx) (((List.range a).map (fun i => t.getD (y * a + i) 0)).map (Value.int .u8)) (by rw [hcsl]; exact (Nat.min_eq_left (by have := HB1.out; omega)).symm) hsrc (by rw [hcsl]; simp only [List.size_toArray, List.length_map, hll]; exact HB1.out) (fun v hv => by obtain ⟨x, _, rfl⟩ := List.mem_map.1 hv; rfl) ?_
          have hh9 := setRow_heap wr.drew c'.bT ((fillR w X' Y' a (fun j i => t.getD (j * a + i) 0) y (pgL w h pad s')).map (Value.int .u8)).toArray (splice ((fillR w X' Y' a (fun j i => t.getD (j * a + i) 0) y (pgL w h pad s')).map (Value.int .u8)) fr (((List.range a).map (fun i => t.getD (y * a + i) 0)).map (Value.int .u8))).toArray 5 (0, 0) hTx
          have hk9 : Kept (· = c'.bT) wr (wr.drew.setRow c'.bT (splice ((fillR w X' Y' a (fun j i => t.getD (j * a + i) 0) y (pgL w h pad s')).map (Value.int .u8)) fr (((List.range a).map (fun i => t.getD (y * a + i) 0)).map (Value.int .u8))).toArray) := ⟨rfl, rfl, rfl, by simp [World.setRow], fun k hk hs => setRow_other wr.drew c'.bT k _ hs⟩
          have hfs := fillR_step w X' Y' a (fun j i => t.getD (j * a + i) 0) y (pgL w h pad s') hXb (by rw [HOFF.out, pgL_len, HWH.out]; exact HB1.out)
          rw [HOFF.out] at hfs
          rw [splice_map, hfs] at hh9
          rw [splice_map, hfs] at hk9
          have hwe : (wr.drew.setRow c'.bT (List.take fr (((fillR w X' Y' a (fun j i => t.getD (j * a + i) 0) y (pgL w h pad s')).map (Value.int .u8)).toArray).toList ++ ((((List.range a).map (fun i => t.getD (y * a + i) 0)).map (Value.int .u8)) ++ List.drop (fr + (((List.range a).map (fun i => t.getD (y * a + i) 0)).map (Value.int .u8)).length) (((fillR w X' Y' a (fun j i => t.getD (j * a + i) 0) y (pgL w h pad s')).map (Value.int .u8)).toArray).toList)).toArray) = wr.drew.setRow c'.bT ((fillR w X' Y' a (fun j i => t.getD (j * a + i) 0) (y + 1) (pgL w h pad s')).map (Value.int .u8)).toArray := by
            rw [← hfs, ← splice_map]; rfl
          rw [hwe]
          generalize wr.drew.setRow c'.bT ((fillR w X' Y' a (fun j i => t.getD (j * a + i) 0) (y + 1) (pgL w h pad s')).map (Value.int .u8)).toArray = w9 at *
          have R9 := Lib.hid (HW.out.setText hk9 hh9)
          have S9 := Lib.hid (HS.out.kept hk9 (fun q hq => .inr (.inl hq)))
          have I9 := Lib.hid (hk9.get HI.out (fun e => obj_ne HI.out HW.out.txt (cells_ne (by decide)) e))
          have F9 := Lib.hid (hk9.get HF.out (fun e => obj_ne HF.out HW.out.txt (cells_ne (by decide)) e))
          clear hTx hll hcsl hsrc hh9 hk9 hfs hwe x0 x2 i0' i1' f0' f2'
          go_wp2_with fail
          go_roundw
          case rel => exact ⟨y + 1, by go_num, hlt, R9, S9, I9, F9⟩
          case measure => simp [intOf]; omega
        · have hlt' : ¬ (y : Int) < (a' : Int) := by omega
          have hya : y = a' := by omega
          subst hya
          go_wp2_with fail
          go_ret
          have hsub := HL1.out.2
          have hkn : k ∉ s'.keys := fun h => HKN.out (hsub k h)
          have hme : (M : Int) = (a : Int) + 2 * pad := HMI.out.symm
          have hne : (N : Int) = (y : Int) + 2 * pad := HNI.out.symm
          have hsz' : (t.length : Int) = ((M : Int) - 2 * pad) * ((N : Int) - 2 * pad) := by
            have e1 : (M : Int) - 2 * pad = a := by omega
            have e2 : (N : Int) - 2 * pad = y := by omega
            rw [e1, e2, htl.out, HNN.out, Int.natCast_mul]
          have hI := HA1.out.inv.put (pad := pad) hkn HFF.out (by omega) (by omega) hsz' h8
          refine ⟨rfl, c'.setK v', ⟨?_, HA1.out.w1, HA1.out.h1, HA1.out.p4, ?_, ?_⟩, HS.out.1, HS.out.2⟩
          · have hpg := pg_put (X := X) (Y := Y) (m := a) (n := y) HA1.out.inv hkn (by rw [← hme, ← hne]; exact hI)
            rw [HXX.out, HYY.out] at hpg
            rw [← hpg]
            have hw := HW.out
            have hke : s'.keys.erase k = s'.keys := List.erase_of_not_mem hkn
            rw [hke] at hw
            have hln : (putS s' k ((X : Int), (Y : Int), (a : Int) + 2 * pad, (y : Int) + 2 * pad) t).keys.length = s'.keys.length + 1 := by
              show (s'.keys ++ [k]).length = _
              simp
            rw [hln]
            rw [hme, hne] at hw
            exact hw
          · rw [← hme, ← hne]; exact hI
          · intro u hu
            rcases List.mem_append.1 hu with h | h
            · exact HA1.out.kl u h
            · rw [List.mem_singleton.1 h]; exact HKL.out
    | false =>
      clear c0 c1 c2 c3 c6 c7
      have hln := Lib.hid (lenO b 5 c'.vk s'.keys wr c5 HA1.out.raw.ks)
      cases hfit : fitS w h s' M N with
      | some Bx =>
        obtain ⟨hl32, hq⟩ := fitS_Q hfit
        have eq0 : some (Bx, s') = some (B, sF) := (room_fit hfit).symm.trans HR1.out
        injection eq0 with eq1
        injection eq1 with eB eS
        subst eB
        subst eS
        have dl : decide ((s'.keys.length : Int) < 32) = true := decide_eq_true (by omega)
        have hfc := fit_c wr c'.g w h s'.l HA1.out.raw.sky M N
        rw [hq] at hfc
        unfold fitV at hfc
        have HFC := Lib.hid hfc
        clear hfc
        go_wp2_with fail
        refine hln.out.mono ?_
        rintro e w' ⟨rfl, rfl⟩
        go_wp2_with fail
        refine HFC.out.mono ?_
        rintro e w4 ⟨rfl, hb4⟩
        have G4 := Lib.hid (blk_below HG1.out hb4)
        have F4 := Lib.hid (blk_below HF1.out hb4)
        have A4 := Lib.hid (HA1.out.below hb4)
        have S4 := Lib.hid (HS1.out.below hb4)
        clear hb4 HFC c4 c5
        have d0 : w4.cell? ⟨gr, 0, none⟩ = some (.int .i64 0) := (blk_cell G4.out 0).trans rfl
        have d1 : w4.cell? ⟨gr, 1, none⟩ = some (.int .i64 0) := (blk_cell G4.out 1).trans rfl
        have d2 : w4.cell? ⟨gr, 2, none⟩ = some (.int .i64 0) := (blk_cell G4.out 2).trans rfl
        have d3 : w4.cell? ⟨gr, 3, none⟩ = some (.int .i64 0) := (blk_cell G4.out 3).trans rfl
        have f0 : w4.frozen? ⟨gr, 0, none⟩ = false := blk_frozen G4.out 0
        have f1 : w4.frozen? ⟨gr, 1, none⟩ = false := blk_frozen G4.out 1
        have f2 : w4.frozen? ⟨gr, 2, none⟩ = false := blk_frozen G4.out 2
        have f3 : w4.frozen? ⟨gr, 3, none⟩ = false := blk_frozen G4.out 3
        go_upto_region 13 with (fail)
        have hm4 := set4 w4 gr _ _ _ _ (.int .i64 Bx.1) (.int .i64 Bx.2) (.int .i64 M) (.int .i64 N) _ G4.out
        generalize (((w4.setCell ⟨gr, 0, none⟩ (.int .i64 Bx.1)).setCell ⟨gr, 1, none⟩ (.int .i64 Bx.2)).setCell ⟨gr, 2, none⟩ (.int .i64 M)).setCell ⟨gr, 3, none⟩ (.int .i64 N) = w5 at *
        have A5 := Lib.hid (A4.out.other G4.out (by decide) (by decide) (by decide) (by decide) (by decide) hm4.2)
        have S5 := Lib.hid (S4.out.other hm4.2 (by omega))
        have G5 := Lib.hid hm4.1
        have F5 := Lib.hid (hm4.2.get F4.out (by omega))
        clear hm4 d0 d1 d2 d3 f0 f1 f2 f3
        obtain ⟨x0, x1, x2, x3, x4, x5, x6, x7⟩ := A5.out.cell
        clear x0 x1 x2 x3 x4 x6 x7
        cases hks : s'.keys with
        | nil =>
          have hso := A5.out.raw.ks
          rw [hks] at hso
          have hol := Lib.hid (oldest_nilO b 5 c'.vk w5 x5 hso)
          clear hso
          go_wp2_with fail
          refine hol.out.mono ?_
          rintro e w' ⟨rfl, rfl⟩
          go_wp2_with fail
          go_roundw
          case rel => exact ⟨s', c', true, rfl, A5, S5, HR1, Lib.hid (fun _ => ⟨rfl, hfit⟩), HL1, G5, F5⟩
          case measure => simp <;> omega
        | cons k0 rest =>
          have hso := A5.out.raw.ks
          rw [hks] at hso
          have hol := Lib.hid (oldest_consO b 5 c'.vk k0 rest w5 x5 hso)
          clear hso
          go_wp2_with fail
          refine hol.out.mono ?_
          rintro e w' ⟨rfl, rfl⟩
          go_wp2_with fail
          go_roundw
          case rel => exact ⟨s', c', true, rfl, A5, S5, HR1, Lib.hid (fun _ => ⟨rfl, hfit⟩), HL1, G5, F5⟩
          case measure => simp <;> omega
      | none =>
        obtain ⟨k0, rest, hks⟩ : ∃ k0 rest, s'.keys = k0 :: rest := by
          cases hks : s'.keys with
          | nil =>
            exfalso
            unfold fitS at hfit
            rw [if_pos (by rw [hks]; simp), HA1.out.inv.lz hks, fit_zeros w h M N (by have := HM.out; omega) (by have := HN.out; omega) (by omega) (by omega)] at hfit
            cases hfit
          | cons k0 rest => exact ⟨k0, rest, rfl⟩
        have HKS := Lib.hid hks
        clear hks
        by_cases hl32 : s'.keys.length < 32
        · have hq : fitQ w h s'.l M N = none := by unfold fitS at hfit; rwa [if_pos hl32] at hfit
          have dl : decide ((s'.keys.length : Int) < 32) = true := decide_eq_true (by omega)
          have hfc := fit_c wr c'.g w h s'.l HA1.out.raw.sky M N
          rw [hq] at hfc
          unfold fitV at hfc
          have HFC := Lib.hid hfc
          clear hfc
          go_wp2_with fail
          refine hln.out.mono ?_
          rintro e w' ⟨rfl, rfl⟩
          go_wp2_with fail
          refine HFC.out.mono ?_
          rintro e w4 ⟨rfl, hb4⟩
          have G4 := Lib.hid (blk_below HG1.out hb4)
          have F4 := Lib.hid (blk_below HF1.out hb4)
          have A4 := Lib.hid (HA1.out.below hb4)
          have S4 := Lib.hid (HS1.out.below hb4)
          clear hb4 HFC c4 c5
          have d0 : w4.cell? ⟨gr, 0, none⟩ = some (.int .i64 0) := (blk_cell G4.out 0).trans rfl
          have d1 : w4.cell? ⟨gr, 1, none⟩ = some (.int .i64 0) := (blk_cell G4.out 1).trans rfl
          have d2 : w4.cell? ⟨gr, 2, none⟩ = some (.int .i64 0) := (blk_cell G4.out 2).trans rfl
          have d3 : w4.cell? ⟨gr, 3, none⟩ = some (.int .i64 0) := (blk_cell G4.out 3).trans rfl
          have f0 : w4.frozen? ⟨gr, 0, none⟩ = false := blk_frozen G4.out 0
          have f1 : w4.frozen? ⟨gr, 1, none⟩ = false := blk_frozen G4.out 1
          have f2 : w4.frozen? ⟨gr, 2, none⟩ = false := blk_frozen G4.out 2
          have f3 : w4.frozen? ⟨gr, 3, none⟩ = false := blk_frozen G4.out 3
          go_upto_region 13 with (fail)
          have hm4 := set4 w4 gr _ _ _ _ (.int .i64 0) (.int .i64 0) (.int .i64 0) (.int .i64 0) _ G4.out
          generalize (((w4.setCell ⟨gr, 0, none⟩ (.int .i64 0)).setCell ⟨gr, 1, none⟩ (.int .i64 0)).setCell ⟨gr, 2, none⟩ (.int .i64 0)).setCell ⟨gr, 3, none⟩ (.int .i64 0) = w5 at *
          have A5 := Lib.hid (A4.out.other G4.out (by decide) (by decide) (by decide) (by decide) (by decide) hm4.2)
          have S5 := Lib.hid (S4.out.other hm4.2 (by omega))
          have G5 := Lib.hid hm4.1
          have F5 := Lib.hid (hm4.2.get F4.out (by omega))
          clear hm4 d0 d1 d2 d3 f0 f1 f2 f3
          obtain ⟨x0, x1, x2, x3, x4, x5, x6, x7⟩ := A5.out.cell
          clear x0 x1 x2 x3 x4 x6 x7
          have hso := A5.out.raw.ks
          rw [HKS.out] at hso
          have hol := Lib.hid (oldest_consO b 5 c'.vk k0 rest w5 x5 hso)
          clear hso
          go_wp2_with fail
          refine hol.out.mono ?_
          rintro e w' ⟨rfl, rfl⟩
          go_wp2_with fail
          refine (evict_c w5 b w h pad s' c' A5.out k0 (A5.out.kl k0 (by rw [HKS.out]; simp))).mono ?_
          rintro e w6 ⟨rfl, hp6⟩
          obtain ⟨c6', A6, S6⟩ := hp6.step
          have hk0 : k0 ∈ s'.keys := by rw [HKS.out]; simp
          rw [evictV, if_pos hk0] at A6
          have hszW := S5.out.1.size
          have G6 := Lib.hid (S6.1.get G5.out (A5.out.raw.not_own G5.out (by decide) (by decide) (by decide) (by decide)))
          have F6 := Lib.hid (S6.1.get F5.out (A5.out.raw.not_own F5.out (by decide) (by decide) (by decide) (by decide)))
          have S6 := Lib.hid (S5.out.trans S6)
          have A6 := Lib.hid A6
          clear hp6
          obtain ⟨x0, x1, x2, x3, x4, x5, x6, x7⟩ := A6.out.cell
          obtain ⟨Ag, cg, hvg, _⟩ := A6.out.raw.gs.isSlice
          have hgs := A6.out.raw.gs
          rw [hvg] at x7 hgs
          have HGS := Lib.hid hgs
          have HVG := Lib.hid hvg
          have hgn : s'.gone.length ≤ 100032 := by have := HL1.out.1; have := HA.out.inv.le; omega
          have hgn' : (evS w h s' k0).gone.length = s'.gone.length := rfl
          clear x0 x1 x2 x3 x4 x5 x6 hgs hvg
          rw [hgn'] at x7 HGS HVG
          go_wp2_with (at_builtin; refine wpList_append_sl _ rfl (.tmp 120) (.tmp 122) 29 rfl 9 i0 (.string ByteArray.empty) 1 16 Try.underlying29 hi0 hz0 hz1 hz2 rfl (by decide) _ s'.gone.length _ rfl (HGS.out.kept (Kept.alloc (fun _ => False) _ _) (by simp)) ⟨w6.heap.size, 0, none⟩ 1 1 [.string k0] rfl rfl (Go.cell_one_new _ _ _) (by intro u hu; simp at hu; subst hu; rfl) (by unfold maxLen; omega) (by omega) ?_; intro A' cap' w7 hs7 hg7 ho7 _; have hk7 : Kept (fun q => (Value.slice Ag s'.gone.length cg).ownBlock = some q) w6 w7 := (Kept.alloc _ w6 _).trans (Kept.of_grownBy hg7); have hb7 := hk7.get A6.out.raw.blk (fun e => (A6.out.raw.apart.g4 _ (HVG.out ▸ e)).1 rfl); have y7 : w7.cell? ⟨b, 7, none⟩ = some (.slice Ag s'.gone.length cg) := (blk_cell hb7 7).trans (congrArg some HVG.out); have v7 : w7.frozen? ⟨b, 7, none⟩ = false := blk_frozen hb7 7; have R7 := Lib.hid hs7; have K7 := Lib.hid hk7; have O7 := Lib.hid ho7; have B7 := Lib.hid hb7; clear hs7 hg7 ho7 hk7 hb7)
          have hl7 : Lies w6 c6'.vg (.slice A' (s'.gone.length + 1) cap') := by
            rw [HVG.out]
            rcases O7.out with h | h
            · exact .inl h
            · exact .inr ⟨_, h, by simp⟩
          have hne7 : ∀ q, c6'.vg.ownBlock = some q → q ≠ b := fun q hq => (A6.out.raw.apart.g4 q hq).1
          have K7' : Kept (fun q => c6'.vg.ownBlock = some q) w6 w7 := by rw [HVG.out]; exact K7.out
          have hst := LAo.stored (off := 7) (v0 := c6'.vg) B7.out rfl (lt_in A6.out.raw.blk) K7' R7.out hl7 hne7
          have e7 : (s'.gone.map Value.string ++ [.string k0]) = (s'.gone ++ [k0]).map Value.string := by simp
          have hL7 := hst.1
          rw [show ((evS w h s' k0).gone.map Value.string ++ [.string k0]) = ((s'.gone ++ [k0]).map Value.string) from e7] at hL7
          have hsg := A6.out.raw.setGone hL7 (hst.2.mono (fun q _ hq => hq.symm)) hl7
          have S8 := Lib.hid (S6.out.trans ⟨hst.2.mono (fun q _ hq => hq.elim (fun e => .inr (.inr (.inr (.inr (.inr e))))) (fun e => .inl e)), hsg.2⟩)
          have A8 : Hid (AtAt (w7.setCell ⟨b, 7, none⟩ (.slice A' (s'.gone.length + 1) cap')) b w h pad (evG w h s' k0) (c6'.setG (.slice A' (s'.gone.length + 1) cap'))) := Lib.hid ⟨hsg.1, A6.out.w1, A6.out.h1, A6.out.p4, A6.out.inv.gone _, A6.out.kl⟩
          have hnG : gr ≠ b := fun e => A6.out.raw.not_own G6.out (by decide) (by decide) (by decide) (by decide) (.inl e)
          have hnF : W.heap.size ≠ b := fun e => A6.out.raw.not_own F6.out (by decide) (by decide) (by decide) (by decide) (.inl e)
          have hk68 := hst.2
          have G8 := Lib.hid (hk68.get G6.out (fun e => e.elim (fun e => A6.out.raw.not_own G6.out (by decide) (by decide) (by decide) (by decide) (.inr (.inr (.inr (.inr (.inr e)))))) hnG))
          have F8 := Lib.hid (hk68.get F6.out (fun e => e.elim (fun e => A6.out.raw.not_own F6.out (by decide) (by decide) (by decide) (by decide) (.inr (.inr (.inr (.inr (.inr e)))))) hnF))
          clear hst hL7 hsg K7' hk68
          go_roundw
          case rel =>
            refine ⟨evG w h s' k0, _, false, rfl, A8, S8, Lib.hid (by rw [← room_ev hfit HKS.out]; exact HR1.out), Lib.hid (fun h => by cases h), Lib.hid ⟨?_, fun u hu => HL1.out.2 u (List.mem_of_mem_erase hu)⟩, G8, F8⟩
            show (s'.gone ++ [k0]).length + (s'.keys.erase k0).length ≤ _
            rw [List.length_append, List.length_erase_of_mem hk0]
            have := HL1.out.1
            have : 0 < s'.keys.length := List.length_pos_of_mem hk0
            simp; omega
          case measure =>
            have hm1 : lenAt wr b 5 = s'.keys.length := by
              obtain ⟨Ak, ck, hvk, _⟩ := HA1.out.raw.ks.isSlice
              unfold lenAt
              rw [HA1.out.cell.2.2.2.2.2.1, hvk]
            have hm2 : lenAt (w7.setCell ⟨b, 7, none⟩ (.slice A' (s'.gone.length + 1) cap')) b 5 = (s'.keys.erase k0).length := by
              obtain ⟨Ak, ck, hvk, _⟩ := A8.out.raw.ks.isSlice
              unfold lenAt
              rw [A8.out.cell.2.2.2.2.2.1, hvk]; rfl
            have : 0 < s'.keys.length := List.length_pos_of_mem hk0
            rw [List.length_erase_of_mem hk0] at hm2
            simp only [hm1, hm2]
            omega
        · have dl : decide ((s'.keys.length : Int) < 32) = false := decide_eq_false (by omega)
          go_wp2_with fail
          refine hln.out.mono ?_
          rintro e w' ⟨rfl, rfl⟩
          obtain ⟨w5, rfl⟩ : ∃ x : World, x = wr := ⟨_, rfl⟩
          have A5 := HA1; have S5 := HS1; have F5 := HF1
          have G5 : Hid (w5.heap[gr]? = some (.cells #[.int .i64 0, .int .i64 0, .int .i64 0, .int .i64 0] 39 (0, 0))) := HG1
          have x5 := c5
          have hso := A5.out.raw.ks
          rw [HKS.out] at hso
          have hol := Lib.hid (oldest_consO b 5 c'.vk k0 rest w5 x5 hso)
          clear hso
          go_wp2_with fail
          refine hol.out.mono ?_
          rintro e w' ⟨rfl, rfl⟩
          go_wp2_with fail
          refine (evict_c w5 b w h pad s' c' A5.out k0 (A5.out.kl k0 (by rw [HKS.out]; simp))).mono ?_
          rintro e w6 ⟨rfl, hp6⟩
          obtain ⟨c6', A6, S6⟩ := hp6.step
          have hk0 : k0 ∈ s'.keys := by rw [HKS.out]; simp
          rw [evictV, if_pos hk0] at A6
          have hszW := S5.out.1.size
          have G6 := Lib.hid (S6.1.get G5.out (A5.out.raw.not_own G5.out (by decide) (by decide) (by decide) (by decide)))
          have F6 := Lib.hid (S6.1.get F5.out (A5.out.raw.not_own F5.out (by decide) (by decide) (by decide) (by decide)))
          have S6 := Lib.hid (S5.out.trans S6)
          have A6 := Lib.hid A6
          clear hp6
          obtain ⟨x0, x1, x2, x3, x4, x5, x6, x7⟩ := A6.out.cell
          obtain ⟨Ag, cg, hvg, _⟩ := A6.out.raw.gs.isSlice
          have hgs := A6.out.raw.gs
          rw [hvg] at x7 hgs
          have HGS := Lib.hid hgs
          have HVG := Lib.hid hvg
          have hgn : s'.gone.length ≤ 100032 := by have := HL1.out.1; have := HA.out.inv.le; omega
          have hgn' : (evS w h s' k0).gone.length = s'.gone.length := rfl
          clear x0 x1 x2 x3 x4 x5 x6 hgs hvg
          rw [hgn'] at x7 HGS HVG
          go_wp2_with (at_builtin; refine wpList_append_sl _ rfl (.tmp 120) (.tmp 122) 29 rfl 9 i0 (.string ByteArray.empty) 1 16 Try.underlying29 hi0 hz0 hz1 hz2 rfl (by decide) _ s'.gone.length _ rfl (HGS.out.kept (Kept.alloc (fun _ => False) _ _) (by simp)) ⟨w6.heap.size, 0, none⟩ 1 1 [.string k0] rfl rfl (Go.cell_one_new _ _ _) (by intro u hu; simp at hu; subst hu; rfl) (by unfold maxLen; omega) (by omega) ?_; intro A' cap' w7 hs7 hg7 ho7 _; have hk7 : Kept (fun q => (Value.slice Ag s'.gone.length cg).ownBlock = some q) w6 w7 := (Kept.alloc _ w6 _).trans (Kept.of_grownBy hg7); have hb7 := hk7.get A6.out.raw.blk (fun e => (A6.out.raw.apart.g4 _ (HVG.out ▸ e)).1 rfl); have y7 : w7.cell? ⟨b, 7, none⟩ = some (.slice Ag s'.gone.length cg) := (blk_cell hb7 7).trans (congrArg some HVG.out); have v7 : w7.frozen? ⟨b, 7, none⟩ = false := blk_frozen hb7 7; have R7 := Lib.hid hs7; have K7 := Lib.hid hk7; have O7 := Lib.hid ho7; have B7 := Lib.hid hb7; clear hs7 hg7 ho7 hk7 hb7)
          have hl7 : Lies w6 c6'.vg (.slice A' (s'.gone.length + 1) cap') := by
            rw [HVG.out]
            rcases O7.out with h | h
            · exact .inl h
            · exact .inr ⟨_, h, by simp⟩
          have hne7 : ∀ q, c6'.vg.ownBlock = some q → q ≠ b := fun q hq => (A6.out.raw.apart.g4 q hq).1
          have K7' : Kept (fun q => c6'.vg.ownBlock = some q) w6 w7 := by rw [HVG.out]; exact K7.out
          have hst := LAo.stored (off := 7) (v0 := c6'.vg) B7.out rfl (lt_in A6.out.raw.blk) K7' R7.out hl7 hne7
          have e7 : (s'.gone.map Value.string ++ [.string k0]) = (s'.gone ++ [k0]).map Value.string := by simp
          have hL7 := hst.1
          rw [show ((evS w h s' k0).gone.map Value.string ++ [.string k0]) = ((s'.gone ++ [k0]).map Value.string) from e7] at hL7
          have hsg := A6.out.raw.setGone hL7 (hst.2.mono (fun q _ hq => hq.symm)) hl7
          have S8 := Lib.hid (S6.out.trans ⟨hst.2.mono (fun q _ hq => hq.elim (fun e => .inr (.inr (.inr (.inr (.inr e))))) (fun e => .inl e)), hsg.2⟩)
          have A8 : Hid (AtAt (w7.setCell ⟨b, 7, none⟩ (.slice A' (s'.gone.length + 1) cap')) b w h pad (evG w h s' k0) (c6'.setG (.slice A' (s'.gone.length + 1) cap'))) := Lib.hid ⟨hsg.1, A6.out.w1, A6.out.h1, A6.out.p4, A6.out.inv.gone _, A6.out.kl⟩
          have hnG : gr ≠ b := fun e => A6.out.raw.not_own G6.out (by decide) (by decide) (by decide) (by decide) (.inl e)
          have hnF : W.heap.size ≠ b := fun e => A6.out.raw.not_own F6.out (by decide) (by decide) (by decide) (by decide) (.inl e)
          have hk68 := hst.2
          have G8 := Lib.hid (hk68.get G6.out (fun e => e.elim (fun e => A6.out.raw.not_own G6.out (by decide) (by decide) (by decide) (by decide) (.inr (.inr (.inr (.inr (.inr e)))))) hnG))
          have F8 := Lib.hid (hk68.get F6.out (fun e => e.elim (fun e => A6.out.raw.not_own F6.out (by decide) (by decide) (by decide) (by decide) (.inr (.inr (.inr (.inr (.inr e)))))) hnF))
          clear hst hL7 hsg K7' hk68
          go_roundw
          case rel =>
            refine ⟨evG w h s' k0, _, false, rfl, A8, S8, Lib.hid (by rw [← room_ev hfit HKS.out]; exact HR1.out), Lib.hid (fun h => by cases h), Lib.hid ⟨?_, fun u hu => HL1.out.2 u (List.mem_of_mem_erase hu)⟩, G8, F8⟩
            show (s'.gone ++ [k0]).length + (s'.keys.erase k0).length ≤ _
            rw [List.length_append, List.length_erase_of_mem hk0]
            have := HL1.out.1
            have : 0 < s'.keys.length := List.length_pos_of_mem hk0
            simp; omega
          case measure =>
            have hm1 : lenAt w5 b 5 = s'.keys.length := by
              obtain ⟨Ak, ck, hvk, _⟩ := HA1.out.raw.ks.isSlice
              unfold lenAt
              rw [HA1.out.cell.2.2.2.2.2.1, hvk]
            have hm2 : lenAt (w7.setCell ⟨b, 7, none⟩ (.slice A' (s'.gone.length + 1) cap')) b 5 = (s'.keys.erase k0).length := by
              obtain ⟨Ak, ck, hvk, _⟩ := A8.out.raw.ks.isSlice
              unfold lenAt
              rw [A8.out.cell.2.2.2.2.2.1, hvk]; rfl
            have : 0 < s'.keys.length := List.length_pos_of_mem hk0
            rw [List.length_erase_of_mem hk0] at hm2
            simp only [hm1, hm2]
            omega
end Go.Proofs.Ytaccppchhljnkaa
