/- Atlases: the model's load, where the field is loaded. -/
import Derived.Test.YtaccppchhljnkaaMdN
set_option linter.unusedVariables false
set_option linter.unusedSimpArgs false
namespace Go.Proofs.Ytaccppchhljnkaa
open Go.RowKit Go.Shelf Go.Proofs.YtaccppchhljnkaaW.PrintWords Go.Proofs.YtaccppchhljnkaaW.PrintLast Go.Proofs.YtaccppchhljnkaaW.PrintMore
theorem MdRaw.not_own {W : World} {b w h pad : Nat} {c : MdC} {l : List Int} {ks gn : List ByteArray} {f : ByteArray → Option Rc} {n : Nat} {F : ByteArray → Option FV} {nF : Nat} (a : MdRaw W b w h pad c l ks f n F nF gn) {q : Nat} {cur : Array Value} {t : TypeId} (hq : W.heap[q]? = some (.cells cur t (0, 0)))
    (h1 : t ≠ 33) (h3 : t ≠ 82) (h4 : t ≠ 9) : ¬ c.own b q := by
  rintro (e | e | e | e | e | e)
  · subst e; exact obj_ne hq a.blk (cells_ne h1) rfl
  · obtain ⟨u, hu, _⟩ := a.sky.row
    subst e; exact obj_ne hq hu (cells_ne h3) rfl
  · obtain ⟨es, cl, hm⟩ := a.mp.get
    subst e; exact obj_ne hq hm (by simp) rfl
  · obtain ⟨es, cl, hm⟩ := a.mf.get
    subst e; exact obj_ne hq hm (by simp) rfl
  · obtain ⟨cu, hc⟩ := a.ks.blk e
    exact obj_ne hq hc (cells_ne h4) rfl
  · obtain ⟨cu, hc⟩ := a.gs.blk e
    exact obj_ne hq hc (cells_ne h4) rfl
theorem zeroField (w : World) : (zeroValue 44).run Try.prog w = .ok (.agg #[.int .i64 0, .int .i64 0, .slice none 0 0]) w := by kernel_rfl
theorem strLaw : WideMaps.KeyLaw Try.prog 9 := WideMaps.string_law Try.underlying9
/-- What a load leaves of the fields. -/
def FNew (k : ByteArray) (x : FV) (F F' : ByteArray → Option FV) : Prop := F' k = some x ∧ ∀ u y, F' u = some y → u ≠ k → F u = some y
set_option maxHeartbeats 8000000 in
set_option maxRecDepth 100000 in
theorem loadM_ok (W : World) (b w h pad : Nat) (s : AtS) (F : ByteArray → Option FV) (c : MdC) (hA : MdAt W b w h pad s F c) (k : ByteArray) (hkl : k.size ≤ maxLen) (a a' : Nat) (A : Option Addr) (n cap : Nat) (t : List Int) (h1 : 1 ≤ a ∧ a ≤ 64) (h2 : 1 ≤ a' ∧ a' ≤ 64) (hn : n = a * a') (htn : t.length = n) (hk : k ∉ s.keys) (hmw : a + 2 * pad ≤ w) (hnh : a' + 2 * pad ≤ h) (h8 : ∀ x ∈ t, 0 ≤ x ∧ x ≤ 255) (B : Int × Int) (sF : AtS) (hgl : s.gone.length ≤ 100000)
    (hR : room w h ((a : Int) + 2 * pad) ((a' : Int) + 2 * pad) s = some (B, sF)) :
    Calls Try.prog 28 #[.pointer (some ⟨b, 0, none⟩), .string k, Ef a a' (.slice A n cap)] W fun e w' => e = .returned (.int .i64 0) ∧ ∃ c' F', MdAt w' b w h pad (putS sF k (B.1, B.2, (a : Int) + 2 * pad, (a' : Int) + 2 * pad) t) F' c' ∧ MStep W b c w' c' ∧ FNew k ⟨a, a', .slice A n cap⟩ F F' := by
  obtain ⟨i0, hi0, hz0, hz1, hz2⟩ := info_parts Try.info_strO
  have hp := hA.p4
  obtain ⟨hw0, hw1⟩ := hA.w1
  obtain ⟨hh0, hh1⟩ := hA.h1
  have e1 : IntKind.i64.wrap (2 * (pad : Int)) = 2 * (pad : Int) := by rw [IntKind.wrap_i64]; omega
  have d1 : decide ((a : Int) < 1) = false := decide_eq_false (by omega)
  have d2 : decide ((a' : Int) < 1) = false := decide_eq_false (by omega)
  have d3 : decide (64 < (a : Int)) = false := decide_eq_false (by omega)
  have d4 : decide (64 < (a' : Int)) = false := decide_eq_false (by omega)
  have hmul : a * a' ≤ 64 * 64 := Nat.mul_le_mul (by omega) (by omega)
  have e4 : IntKind.i64.wrap ((a : Int) * (a' : Int)) = (n : Int) := by rw [← Int.natCast_mul, ← hn, IntKind.wrap_i64]; omega
  have d6 : ((n : Int) != (n : Int)) = false := by simp
  obtain ⟨M, hM⟩ : ∃ M, a + 2 * pad = M := ⟨_, rfl⟩
  obtain ⟨N, hN⟩ : ∃ N, a' + 2 * pad = N := ⟨_, rfl⟩
  have hMi : (a : Int) + 2 * (pad : Int) = (M : Int) := by omega
  have hNi : (a' : Int) + 2 * (pad : Int) = (N : Int) := by omega
  have e2 : IntKind.i64.wrap ((a : Int) + 2 * (pad : Int)) = (M : Int) := by rw [IntKind.wrap_i64]; omega
  have e3 : IntKind.i64.wrap ((a' : Int) + 2 * (pad : Int)) = (N : Int) := by rw [IntKind.wrap_i64]; omega
  rw [hMi, hNi] at hR ⊢
  have t1 : decide ((w : Int) < (M : Int)) = false := decide_eq_false (by omega)
  have t2 : decide ((h : Int) < (N : Int)) = false := decide_eq_false (by omega)
  have tn1 : M ≤ w := by omega
  have tn2 : N ≤ h := by omega
  have tn3 : ¬ w < M := by omega
  have tn4 : ¬ h < N := by omega
  have HR := Lib.hid hR
  have HMI := Lib.hid hMi; have HNI := Lib.hid hNi; have HM := Lib.hid hM; have HN := Lib.hid hN; have HNN := Lib.hid hn
  clear hmul hR hMi hNi hM hN hn
  have bb0 := below_alloc (Below.refl _ W) (.cells #[.int .i64 (a : Int), .int .i64 (a' : Int), .slice A n cap] 44)
  have A0 := hA.raw.below bb0
  have G0 := heap_alloc_new W (.cells #[.int .i64 (a : Int), .int .i64 (a' : Int), .slice A n cap] 44)
  obtain ⟨c0, c1, c2, c3, c4, c5, c6, c7⟩ := A0.cell
  have hlk : (Instr.lookup 30 (.map (some c.bP)) (.string k) true).run Try.prog (W.alloc (.cells #[.int .i64 (a : Int), .int .i64 (a' : Int), .slice A n cap] 44)) = .ok (.tuple #[Er ((s.pl k).getD r00), .bool (s.pl k).isSome]) (W.alloc (.cells #[.int .i64 (a : Int), .int .i64 (a' : Int), .slice A n cap] 44)) := by
    have := A0.mp.look_ok Try.strKeyed Try.underlying30 (zeroRect _) (key_of hkl)
    rw [this]
    cases s.pl k <;> rfl
  have hpi : (s.pl k).isSome = false := by rw [hA.inv.noPl hk]; rfl
  rw [hpi] at hlk
  obtain ⟨⟨rx, ry, rm, rn⟩, hr0⟩ : ∃ r, (s.pl k).getD r00 = r := ⟨_, rfl⟩
  rw [hr0] at hlk
  unfold Er at hlk
  have B0 := Lib.hid bb0
  have GF0 := Lib.hid G0
  have HA := Lib.hid hA
  have HKN := Lib.hid hk; have HKL := Lib.hid hkl
  have HA0 := Lib.hid A0
  clear bb0 A0 G0 hA hk hkl hr0 hpi c0 c1 c2 c3 c4 c6 c7
  unfold Ef
  go_enter Try.func28, Try.ntmps28
  go_upto_region 1 with (fail)
  generalize W.alloc (.cells #[.int .i64 (a : Int), .int .i64 (a' : Int), .slice A n cap] 44) = w1 at *
  go_upto_region 2 with (fail)
  have bb := below_alloc (Below.refl _ w1) (.cells #[.int .i64 rx, .int .i64 ry, .int .i64 rm, .int .i64 rn] 39)
  have BW := Lib.hid (below_step B0.out bb)
  have GF := Lib.hid (blk_below GF0.out bb)
  have HR2 := Lib.hid (HA0.out.below bb)
  clear bb hlk c5 B0 GF0 HA0
  generalize w1.alloc (.cells #[.int .i64 rx, .int .i64 ry, .int .i64 rm, .int .i64 rn] 39) = w2 at *
  obtain ⟨c0, c1, c2, c3, c4, c5, c6, c7⟩ := HR2.out.cell
  have z0 : w2.cell? ⟨W.heap.size, 0, none⟩ = some (.int .i64 (a : Int)) := (blk_cell GF.out 0).trans rfl
  have z1 : w2.cell? ⟨W.heap.size, 1, none⟩ = some (.int .i64 (a' : Int)) := (blk_cell GF.out 1).trans rfl
  have z2 : w2.cell? ⟨W.heap.size, 2, none⟩ = some (.slice A n cap) := (blk_cell GF.out 2).trans rfl
  go_upto_region 6 with (fail)
  go_quiet (fail)
  have y0 : (w2.drewN nq).cell? ⟨b, 0, none⟩ = some (.int .i64 w) := c0
  have y1 : (w2.drewN nq).cell? ⟨b, 1, none⟩ = some (.int .i64 h) := c1
  replace BW := Lib.hid (below_drewN BW.out nq)
  replace HR2 := Lib.hid (HR2.out.below (below_drewN (Below.refl _ _) nq))
  replace GF : Hid ((w2.drewN nq).heap[W.heap.size]? = some (.cells #[.int .i64 (a : Int), .int .i64 (a' : Int), .slice A n cap] 44 (0, 0))) := GF
  clear c0 c1 c2 c3 c4 c5 c6 c7 z0 z1 z2
  generalize w2.drewN nq = w2 at *
  go_upto_region 9 with (fail)
  go_loopw [12] (fun v12 wr => ∃ (s' : AtS) (c' : MdC) (F' : ByteArray → Option FV), Hid (MdAt wr b w h pad s' F' c') ∧ Hid (MStep W b c wr c') ∧ Hid (room w h M N s' = some (B, sF)) ∧ Hid (s'.gone.length + s'.keys.length ≤ s.gone.length + s.keys.length ∧ (∀ u ∈ s'.keys, u ∈ s.keys) ∧ (∀ u y, F' u = some y → F u = some y)) ∧ Hid (wr.heap[W.heap.size]? = some (.cells #[.int .i64 (a : Int), .int .i64 (a' : Int), .slice A n cap] 44 (0, 0)))) (fun v12 wr => lenAt wr b 4)
  case atStart => exact ⟨s, c, F, Lib.hid ⟨HR2.out, HA.out.w1, HA.out.h1, HA.out.p4, HA.out.inv, HA.out.kl, HA.out.fk⟩, Lib.hid ((MStep.refl W b c).below BW.out), HR, Lib.hid ⟨Nat.le_refl _, fun _ h => h, fun _ _ h => h⟩, GF⟩
  case round =>
    obtain ⟨s', c', F', HA1, HS1, HR1, HL1, HF1⟩ := hrel
    obtain ⟨c0, c1, c2, c3, c4, c5, c6, c7⟩ := HA1.out.raw.cell
    have hks := HA1.out.raw.ks
    obtain ⟨K, hK⟩ : ∃ K, s'.keys.length = K := ⟨_, rfl⟩
    rw [hK] at hks
    obtain ⟨Ak, capk, hvk, hck⟩ := hks.isSlice
    rw [hvk] at c4 hks
    have HKS := Lib.hid hks; have HK := Lib.hid hK; have HVK := Lib.hid hvk
    have hfc := fit_c wr c'.g w h s'.l HA1.out.raw.sky M N
    clear hks hvk y0 y1
    cases hfit : fitS w h s' M N with
    | some Bx =>
      obtain ⟨hl32, hq⟩ := fitS_Q hfit
      have hBx : (Bx, s') = (B, sF) := by
        have := HR1.out
        rw [room_fit hfit] at this
        injection this
      injection hBx with e5 e6
      subst e5 e6
      rw [hq] at hfc
      unfold fitV at hfc
      have HFC := Lib.hid hfc
      have dl : decide ((K : Int) < 32) = true := decide_eq_true (by omega)
      have hpo := fit_putOk hq
      have hb0 := fit_nn hq HA1.out.inv.ys
      obtain ⟨p1, p2, p3, p4, p5, p6, p7, p8⟩ := fit_facts hq
      obtain ⟨B1, B2⟩ := Bx
      simp only at p5 p6 p7 p8 hb0 hpo
      have HPO := Lib.hid hpo; have HFIT := Lib.hid hfit
      clear hfc hq hpo p7 p1 p2 p3 p4
      go_wp2_with fail
      refine HFC.out.mono ?_
      rintro e w3 ⟨rfl, hb3⟩
      have bb := below_alloc hb3 (.cells #[.int .i64 B1, .int .i64 B2, .int .i64 M, .int .i64 N] 39)
      have HA3 := Lib.hid (HA1.out.below bb)
      have HS3 := Lib.hid (HS1.out.below bb)
      have HF3 := Lib.hid (blk_below HF1.out bb)
      have HG3 := Lib.hid (heap_alloc_new w3 (.cells #[.int .i64 B1, .int .i64 B2, .int .i64 M, .int .i64 N] 39))
      have hgr : wr.heap.size ≤ w3.heap.size := hb3.size
      clear c0 c1 c2 c3 c4 c5 c6 c7 bb hb3 HFC
      go_upto_region 10 with (fail)
      generalize w3.alloc (.cells #[.int .i64 B1, .int .i64 B2, .int .i64 M, .int .i64 N] 39) = w4 at *
      generalize w3.heap.size = gr at *
      obtain ⟨c0, c1, c2, c3, c4, c5, c6, c7⟩ := HA3.out.raw.cell
      rw [HVK.out] at c4
      have r0 : w4.cell? ⟨gr, 0, none⟩ = some (.int .i64 B1) := (blk_cell HG3.out 0).trans rfl
      have r1 : w4.cell? ⟨gr, 1, none⟩ = some (.int .i64 B2) := (blk_cell HG3.out 1).trans rfl
      have r2 : w4.cell? ⟨gr, 2, none⟩ = some (.int .i64 M) := (blk_cell HG3.out 2).trans rfl
      have r3 : w4.cell? ⟨gr, 3, none⟩ = some (.int .i64 N) := (blk_cell HG3.out 3).trans rfl
      clear c0 c1 c2 c5 c6 c7
      go_upto_region 11 with (fail)
      refine wp_region_still_tail 5 (by kernel_rfl) (by kernel_rfl) ?_
      simp only [List.take_succ_cons, List.take_zero, List.drop_succ_cons, List.drop_zero]
      iterate 5 still_step
      refine wpStill_nil ?_
      change wpList _ _ _ _ _ w4.drew
      clear c3 c4 r0 r1 r2 r3
      go_wp2_with fail
      refine (put_c w4.drew c'.g w h s'.l (HA3.out.raw.below (below_drew (Below.refl _ _))).sky B1 B2 M N).mono ?_
      rintro e w5 ⟨rfl, hput, -⟩
      obtain ⟨hsk5, hk5⟩ := hput HPO.out
      have R5 := Lib.hid ((HA3.out.raw.below (below_drew (Below.refl _ _))).turnSky hk5 hsk5)
      have S5 := Lib.hid ((HS3.out.below (below_drew (Below.refl _ _))).kept hk5 (fun q hq => .inr (.inl hq)))
      have G5 := Lib.hid (hk5.get (show w4.drew.heap[gr]? = _ from HG3.out) (fun e => HA3.out.raw.not_own HG3.out (by decide) (by decide) (by decide) (.inr (.inl e))))
      have F5 := Lib.hid (hk5.get (show w4.drew.heap[W.heap.size]? = _ from HF3.out) (fun e => HA3.out.raw.not_own HF3.out (by decide) (by decide) (by decide) (.inr (.inl e))))
      clear hput hsk5 hk5
      go_upto_region 12 with (fail)
      obtain ⟨SM, hSM⟩ : ∃ SM : World → Prop, SM = fun w' => w'.heap[b]? = some (.cells (c'.cs w h pad) 33 (0, 0)) ∧ w'.heap[gr]? = some (.cells #[.int .i64 B1, .int .i64 B2, .int .i64 M, .int .i64 N] 39 (0, 0)) ∧ w'.heap[W.heap.size]? = some (.cells #[.int .i64 (a : Int), .int .i64 (a' : Int), .slice A n cap] 44 (0, 0)) := ⟨_, rfl⟩
      have HSM : Hid (∀ w', SM w' → w'.cell? ⟨b, 5, none⟩ = some (.map (some c'.bP)) ∧ w'.cell? ⟨b, 6, none⟩ = some (.map (some c'.bF)) ∧ (w'.cell? ⟨gr, 0, none⟩ = some (.int .i64 B1) ∧ w'.cell? ⟨gr, 1, none⟩ = some (.int .i64 B2) ∧ w'.cell? ⟨gr, 2, none⟩ = some (.int .i64 M) ∧ w'.cell? ⟨gr, 3, none⟩ = some (.int .i64 N)) ∧ w'.cell? ⟨W.heap.size, 0, none⟩ = some (.int .i64 (a : Int)) ∧ w'.cell? ⟨W.heap.size, 1, none⟩ = some (.int .i64 (a' : Int)) ∧ w'.cell? ⟨W.heap.size, 2, none⟩ = some (.slice A n cap)) := Lib.hid (fun w' hw' => by
        rw [hSM] at hw'
        obtain ⟨x1, x2, x3⟩ := hw'
        exact ⟨(blk_cell x1 5).trans rfl, (blk_cell x1 6).trans rfl, ⟨(blk_cell x2 0).trans rfl, (blk_cell x2 1).trans rfl, (blk_cell x2 2).trans rfl, (blk_cell x2 3).trans rfl⟩, (blk_cell x3 0).trans rfl, (blk_cell x3 1).trans rfl, (blk_cell x3 2).trans rfl⟩)
      have RD := R5.out.below (below_drew (Below.refl _ _))
      have HSK : Hid (∀ (q : Nat) (x y : World), (q = c'.bP ∨ q = c'.bF) → Kept (· = q) x y → SM x → SM y) := Lib.hid (fun q x y hq hk hx => by
        rw [hSM] at hx ⊢
        obtain ⟨x1, x2, x3⟩ := hx
        obtain ⟨es1, cl1, hm1⟩ := RD.mp.get
        obtain ⟨es2, cl2, hm2⟩ := RD.mf.get
        have hqb : b ≠ q := by rcases hq with rfl | rfl; exact RD.apart.bp; exact RD.apart.bf
        have hqg : gr ≠ q := by
          rcases hq with rfl | rfl
          · exact obj_ne (show w5.drew.heap[gr]? = _ from G5.out) hm1 (by simp)
          · exact obj_ne (show w5.drew.heap[gr]? = _ from G5.out) hm2 (by simp)
        have hqf : W.heap.size ≠ q := by
          rcases hq with rfl | rfl
          · exact obj_ne (show w5.drew.heap[W.heap.size]? = _ from F5.out) hm1 (by simp)
          · exact obj_ne (show w5.drew.heap[W.heap.size]? = _ from F5.out) hm2 (by simp)
        exact ⟨hk.get x1 hqb, hk.get x2 hqg, hk.get x3 hqf⟩)
      have hS0 : SM w5.drew := by rw [hSM]; exact ⟨R5.out.blk, G5.out, F5.out⟩
      clear hSM
      have hkn : k ∉ s'.keys := fun h => HKN.out (HL1.out.2.1 k h)
      have hpk : (s'.pl k).isSome = false := by rw [HA1.out.inv.noPl hkn]; rfl
      have hfk : (F' k).isSome = false := by
        have := mt (HA1.out.fk k).1 hkn
        simpa using this
      obtain ⟨v0, st, w6, hme, hk6, hes⟩ := RD.mp.entry strLaw Lk_inj Lk_key Try.underlying30 (fun u => zeroRect u) (by unfold maxLen; have := HK.out; omega) (key_of HKL.out) (B1, B2, (M : Int), (N : Int))
      obtain ⟨w7, hst, hM7, hk7⟩ := hes w6 rfl
      rw [hpk] at hM7
      have hk57 := hk6.trans hk7
      have RP := RD.setP hk57 hM7
      obtain ⟨v0', st', w8, hme', hk8, hes'⟩ := RP.mf.entry strLaw Lk_inj Lk_key Try.underlying31 (fun u => zeroField u) (by unfold maxLen; have := HK.out; omega) (key_of HKL.out) ⟨(a : Int), (a' : Int), .slice A n cap⟩
      obtain ⟨w9, hst', hM9, hk9⟩ := hes' w8 rfl
      rw [hfk] at hM9
      have hk79 := hk8.trans hk9
      have RF := RP.setF hk79 hM9
      have hS6 : SM w6 := HSK.out _ _ _ (.inl rfl) hk6 hS0
      have hS7 : SM w7 := HSK.out _ _ _ (.inl rfl) hk7 hS6
      have hS8 : SM w8 := HSK.out _ _ _ (.inr rfl) hk8 hS7
      have hS9 : SM w9 := HSK.out _ _ _ (.inr rfl) hk9 hS8
      have R9 := Lib.hid RF
      have S9 := Lib.hid (((S5.out.below (below_drew (Below.refl _ _))).kept hk57 (fun q hq => .inr (.inr (.inl hq)))).kept hk79 (fun q hq => .inr (.inr (.inr (.inl hq)))))
      have hke : Er (B1, B2, (M : Int), (N : Int)) = .agg #[.int .i64 B1, .int .i64 B2, .int .i64 M, .int .i64 N] := rfl
      have hkf : Ev ⟨(a : Int), (a' : Int), .slice A n cap⟩ = .agg #[.int .i64 (a : Int), .int .i64 (a' : Int), .slice A n cap] := rfl
      rw [hke] at hst
      rw [hkf] at hst'
      unfold goInt at hme hst hme' hst'
      have HKN' := Lib.hid hkn
      clear hes hes' hM7 hk7 hk6 hk57 RP hM9 hk9 hk8 hk79 RF RD hpk hfk hke hkf hkn R5 S5 HSK G5 F5
      refine wp_region_noPanic ?_
      refine wp_region_held_drew (S := SM) (by kernel_rfl) hS0 (fun _ => ?_)
      refine wpAnyH_take (i := 0) (oi := _) (v := (.pointer (some ⟨b, 0, none⟩))) rfl (by kernel_rfl) (by kernel_rfl) (by kernel_rfl) (fun _ _ _ h => h) (Or.inl ⟨by rfl, ?_⟩) hS0 ?_
      · intro w' hSw; obtain ⟨y1, y2, ⟨y3, y4, y5, y6⟩, y7, y8, y9⟩ := HSM.out w' hSw; go_simp
      try simp only [Act.put, List.setIfInBounds_toArray, List.set_cons_zero, List.set_cons_succ]
      refine wpAnyH_take (i := 1) (oi := _) (v := (.pointer (some ⟨b, 0, none⟩))) rfl (by kernel_rfl) (by kernel_rfl) (by kernel_rfl) (fun _ _ _ h => h) (Or.inl ⟨by rfl, ?_⟩) hS0 ?_
      · intro w' hSw; obtain ⟨y1, y2, ⟨y3, y4, y5, y6⟩, y7, y8, y9⟩ := HSM.out w' hSw; go_simp
      try simp only [Act.put, List.setIfInBounds_toArray, List.set_cons_zero, List.set_cons_succ]
      refine wpAnyH_take (i := 2) (oi := _) (v := (.pointer (some ⟨b, 5, none⟩))) rfl (by kernel_rfl) (by kernel_rfl) (by kernel_rfl) (fun _ _ _ h => h) (Or.inl ⟨by rfl, ?_⟩) hS0 ?_
      · intro w' hSw; obtain ⟨y1, y2, ⟨y3, y4, y5, y6⟩, y7, y8, y9⟩ := HSM.out w' hSw; go_simp
      try simp only [Act.put, List.setIfInBounds_toArray, List.set_cons_zero, List.set_cons_succ]
      refine wpAnyH_take (i := 3) (oi := _) (v := (.map (some c'.bP))) rfl (by kernel_rfl) (by kernel_rfl) (by kernel_rfl) (fun _ _ _ h => h) (Or.inl ⟨by rfl, ?_⟩) hS0 ?_
      · intro w' hSw; obtain ⟨y1, y2, ⟨y3, y4, y5, y6⟩, y7, y8, y9⟩ := HSM.out w' hSw; go_simp
      try simp only [Act.put, List.setIfInBounds_toArray, List.set_cons_zero, List.set_cons_succ]
      refine wpAnyH_take (i := 4) (oi := _) (v := (.string k)) rfl (by kernel_rfl) (by kernel_rfl) (by kernel_rfl) (fun _ _ _ h => h) (Or.inl ⟨by rfl, ?_⟩) hS0 ?_
      · intro w' hSw; obtain ⟨y1, y2, ⟨y3, y4, y5, y6⟩, y7, y8, y9⟩ := HSM.out w' hSw; go_simp
      try simp only [Act.put, List.setIfInBounds_toArray, List.set_cons_zero, List.set_cons_succ]
      refine wpAnyH_take (i := 5) (oi := _) (v := (.pointer (some ⟨b, 0, none⟩))) rfl (by kernel_rfl) (by kernel_rfl) (by kernel_rfl) (fun _ _ _ h => h) (Or.inl ⟨by rfl, ?_⟩) hS0 ?_
      · intro w' hSw; obtain ⟨y1, y2, ⟨y3, y4, y5, y6⟩, y7, y8, y9⟩ := HSM.out w' hSw; go_simp
      try simp only [Act.put, List.setIfInBounds_toArray, List.set_cons_zero, List.set_cons_succ]
      refine wpAnyH_take (i := 6) (oi := _) (v := (.pointer (some ⟨b, 0, none⟩))) rfl (by kernel_rfl) (by kernel_rfl) (by kernel_rfl) (fun _ _ _ h => h) (Or.inl ⟨by rfl, ?_⟩) hS0 ?_
      · intro w' hSw; obtain ⟨y1, y2, ⟨y3, y4, y5, y6⟩, y7, y8, y9⟩ := HSM.out w' hSw; go_simp
      try simp only [Act.put, List.setIfInBounds_toArray, List.set_cons_zero, List.set_cons_succ]
      refine wpAnyH_take (i := 7) (oi := _) (v := (.pointer (some ⟨b, 6, none⟩))) rfl (by kernel_rfl) (by kernel_rfl) (by kernel_rfl) (fun _ _ _ h => h) (Or.inl ⟨by rfl, ?_⟩) hS0 ?_
      · intro w' hSw; obtain ⟨y1, y2, ⟨y3, y4, y5, y6⟩, y7, y8, y9⟩ := HSM.out w' hSw; go_simp
      try simp only [Act.put, List.setIfInBounds_toArray, List.set_cons_zero, List.set_cons_succ]
      refine wpAnyH_take (i := 8) (oi := _) (v := (.map (some c'.bF))) rfl (by kernel_rfl) (by kernel_rfl) (by kernel_rfl) (fun _ _ _ h => h) (Or.inl ⟨by rfl, ?_⟩) hS0 ?_
      · intro w' hSw; obtain ⟨y1, y2, ⟨y3, y4, y5, y6⟩, y7, y8, y9⟩ := HSM.out w' hSw; go_simp
      try simp only [Act.put, List.setIfInBounds_toArray, List.set_cons_zero, List.set_cons_succ]
      refine wpAnyH_take (i := 9) (oi := _) (v := (.string k)) rfl (by kernel_rfl) (by kernel_rfl) (by kernel_rfl) (fun _ _ _ h => h) (Or.inl ⟨by rfl, ?_⟩) hS0 ?_
      · intro w' hSw; obtain ⟨y1, y2, ⟨y3, y4, y5, y6⟩, y7, y8, y9⟩ := HSM.out w' hSw; go_simp
      try simp only [Act.put, List.setIfInBounds_toArray, List.set_cons_zero, List.set_cons_succ]
      refine wpAnyH_take (i := 10) (oi := _) (v := (.agg #[.int .i64 B1, .int .i64 B2, .int .i64 M, .int .i64 N])) rfl (by kernel_rfl) (by kernel_rfl) (by kernel_rfl) (fun _ _ _ h => h) (Or.inl ⟨by rfl, ?_⟩) hS0 ?_
      · intro w' hSw; obtain ⟨y1, y2, ⟨y3, y4, y5, y6⟩, y7, y8, y9⟩ := HSM.out w' hSw; go_simp
      try simp only [Act.put, List.setIfInBounds_toArray, List.set_cons_zero, List.set_cons_succ]
      refine wpAnyH_take (i := 11) (oi := _) (v := (.agg #[.int .i64 (a : Int), .int .i64 (a' : Int), .slice A n cap])) rfl (by kernel_rfl) (by kernel_rfl) (by kernel_rfl) (fun _ _ _ h => h) (Or.inl ⟨by rfl, ?_⟩) hS0 ?_
      · intro w' hSw; obtain ⟨y1, y2, ⟨y3, y4, y5, y6⟩, y7, y8, y9⟩ := HSM.out w' hSw; go_simp
      try simp only [Act.put, List.setIfInBounds_toArray, List.set_cons_zero, List.set_cons_succ]
      refine wpAnyH_ready (rs := [12]) (by kernel_rfl) (by simp) ?_
      refine AllReadyH.cons (o := _) rfl (fun K hK => ?_) (AllReadyH.nil)
      go_simp
      refine hK.out _ _ hS6 (fun _ => ?_)
      clear hK K
      try simp only [Act.put, List.setIfInBounds_toArray, List.set_cons_zero, List.set_cons_succ]
      refine wpAnyH_take (i := 13) (oi := _) (v := (.int .i64 st)) rfl (by kernel_rfl) (by kernel_rfl) (by kernel_rfl) (fun _ _ _ h => h) (Or.inl ⟨by rfl, ?_⟩) hS6 ?_
      · intro w' hSw; go_simp
      try simp only [Act.put, List.setIfInBounds_toArray, List.set_cons_zero, List.set_cons_succ]
      refine wpAnyH_ready (rs := [14]) (by kernel_rfl) (by simp) ?_
      refine AllReadyH.cons (o := _) rfl (fun K hK => ?_) (AllReadyH.nil)
      go_simp
      refine hK.out _ _ hS7 (fun _ => ?_)
      clear hK K
      try simp only [Act.put, List.setIfInBounds_toArray, List.set_cons_zero, List.set_cons_succ]
      refine wpAnyH_ready (rs := [15]) (by kernel_rfl) (by simp) ?_
      refine AllReadyH.cons (o := _) rfl (fun K hK => ?_) (AllReadyH.nil)
      go_simp
      refine hK.out _ _ hS8 (fun _ => ?_)
      clear hK K
      try simp only [Act.put, List.setIfInBounds_toArray, List.set_cons_zero, List.set_cons_succ]
      refine wpAnyH_take (i := 16) (oi := _) (v := (.int .i64 st')) rfl (by kernel_rfl) (by kernel_rfl) (by kernel_rfl) (fun _ _ _ h => h) (Or.inl ⟨by rfl, ?_⟩) hS8 ?_
      · intro w' hSw; go_simp
      try simp only [Act.put, List.setIfInBounds_toArray, List.set_cons_zero, List.set_cons_succ]
      refine wpAnyH_ready (rs := [17]) (by kernel_rfl) (by simp) ?_
      refine AllReadyH.cons (o := _) rfl (fun K hK => ?_) (AllReadyH.nil)
      go_simp
      refine hK.out _ _ hS9 (fun _ => ?_)
      clear hK K
      try simp only [Act.put, List.setIfInBounds_toArray, List.set_cons_zero, List.set_cons_succ]
      refine wpAnyH_done (by kernel_rfl) ?_ _
      refine NoPanic.normal ?_
      clear hme hst hme' hst' hS0 hS6 hS7 hS8
      obtain ⟨x0, x1, x2, x3, x4, x5, x6, x7⟩ := R9.out.cell
      rw [HVK.out] at x4
      have hks9 := R9.out.ks
      rw [HK.out, HVK.out] at hks9
      have HK9 := Lib.hid hks9
      clear x0 x1 x2 x3 x5 x6 x7 hks9
      go_wp2_with (at_builtin; refine wpList_append_sl _ rfl (.tmp 128) (.tmp 130) 29 rfl 9 i0 (.string ByteArray.empty) 1 16 Try.underlying29 hi0 hz0 hz1 hz2 rfl (by decide) _ K _ rfl (HK9.out.kept (Kept.alloc (fun _ => False) _ _) (by simp)) ⟨w9.heap.size, 0, none⟩ 1 1 [.string k] rfl rfl ?c1 ?c2 ?c3 ?c4 ?_)
      case c1 =>
        intro j' u hj'
        match j', hj' with
        | 0, hj' => simp at hj'; subst hj'; simp [Addr.add]
      case c2 => intro u hu; simp at hu; subst hu; rfl
      case c3 => unfold maxLen; omega
      case c4 => omega
      · intro A' cap' w10 hs10 hg10 ho10 _
        have hk10 : Kept (fun x => c'.vk.ownBlock = some x) w9 w10 := (Kept.alloc _ w9 _).trans (Kept.of_grownBy (by rw [HVK.out]; exact hg10))
        have hs11 : SlO w10 9 1 (.slice A' (K + 1) cap') (s'.keys ++ [k]).length ((s'.keys ++ [k]).map Value.string) := by
          rw [List.length_append, List.map_append, HK.out]; exact hs10
        obtain ⟨m1, m2, m3⟩ := R9.out.setKeys hk10 hs11 (fun q hq => by
          rw [HVK.out]
          rcases ho10 with h | h
          · exact .inl (h ▸ hq)
          · rw [h] at hq; injection hq with hq; exact .inr (by omega))
        have b10 := hk10.get R9.out.blk (fun e => (R9.out.apart.k4 _ e).1 rfl)
        have x4' : w10.cell? ⟨b, 4, none⟩ = some c'.vk := (blk_cell b10 4).trans rfl
        have f4' : w10.frozen? ⟨b, 4, none⟩ = false := blk_frozen b10 4
        have M1 := Lib.hid m1; have M2 := Lib.hid m2; have M3 := Lib.hid m3
        clear m1 m2 m3 b10 hs11 hs10 hg10 ho10 hk10 x4
        go_wp2_with fail
        go_ret
        have hml : (s'.keys ++ [k]).length = s'.keys.length + 1 := by simp
        refine ⟨rfl, c'.setK (.slice A' (K + 1) cap'), fun u => if u = k then some ⟨(a : Int), (a' : Int), .slice A n cap⟩ else F' u, ⟨?_, HA.out.w1, HA.out.h1, HA.out.p4, ?_, fun u hu => ?_, fun u => ?_⟩, S9.out.trans ⟨M2.out, M3.out⟩, ?_, fun u y hu hne => ?_⟩
        · have := M1.out
          show MdRaw _ b w h pad _ (putN s'.l B1.toNat (M : Int).toNat (B2 + (N : Int))) (s'.keys ++ [k]) _ (s'.keys ++ [k]).length _ (s'.keys ++ [k]).length s'.gone
          rw [hml]
          exact this
        · exact HA1.out.inv.put HKN'.out HFIT.out (by have := HM.out; omega) (by have := HN.out; omega) (by have := HM.out; have := HN.out; rw [htn, show (M : Int) - 2 * (pad : Int) = (a : Int) by omega, show (N : Int) - 2 * (pad : Int) = (a' : Int) by omega, HNN.out, Int.natCast_mul]) h8
        · rcases List.mem_append.1 hu with hu | hu
          · exact HA1.out.kl u hu
          · rw [List.mem_singleton.1 hu]; exact HKL.out
        · show _ ↔ u ∈ s'.keys ++ [k]
          rw [List.mem_append, List.mem_singleton]
          by_cases e : u = k
          · simp [e]
          · simp only [if_neg e]
            rw [HA1.out.fk]; simp [e]
        · simp
        · have hu' : (if u = k then some (⟨(a : Int), (a' : Int), .slice A n cap⟩ : FV) else F' u) = some y := hu
          rw [if_neg hne] at hu'
          exact HL1.out.2.2 u y hu'
    | none =>
      obtain ⟨k0, rest, hks⟩ : ∃ k0 rest, s'.keys = k0 :: rest := by
        cases hks : s'.keys with
        | nil =>
          exfalso
          unfold fitS at hfit
          rw [if_pos (by rw [hks]; simp), HA1.out.inv.lz hks, fit_zeros w h M N (by have := HM.out; omega) (by have := HN.out; omega) (by omega) (by omega)] at hfit
          cases hfit
        | cons k0 rest => exact ⟨k0, rest, rfl⟩
      have hK1 : 0 < K := by have := HK.out; rw [hks, List.length_cons] at this; omega
      have hK0 : ((K : Int) == 0) = false := by rw [beq_eq_false_iff_ne]; omega
      obtain ⟨gk, rfl, hkc, -⟩ := HKS.out.elem (i := 0) (x := .string k0) hK1 (by rw [hks]; rfl)
      have hmem : k0 ∈ s'.keys := by rw [hks]; simp
      have hle32 := HA1.out.inv.le
      rw [HK.out] at hle32
      obtain ⟨fx, fy, fm, fn, ok, hfv, hok⟩ : ∃ (fx fy fm fn : Int) (ok : Bool), fitV (M : Int) (N : Int) (fitQ w h s'.l M N) = .tuple #[.agg #[.int .i64 fx, .int .i64 fy, .int .i64 fm, .int .i64 fn], .bool ok] ∧ (ok = true → ¬ K < 32) := by
        cases hq : fitQ w h s'.l M N with
        | none => exact ⟨0, 0, 0, 0, false, rfl, fun h => by cases h⟩
        | some Bx => exact ⟨Bx.1, Bx.2, M, N, true, rfl, fun _ hl => by
            unfold fitS at hfit
            rw [if_pos (by rw [HK.out]; exact hl), hq] at hfit
            cases hfit⟩
      rw [hfv] at hfc
      have HFC := Lib.hid hfc
      have HKM := Lib.hid hmem; have HFIT := Lib.hid hfit; have HKS0 := Lib.hid hks
      have HLEN : Hid (lenAt wr b 4 = K) := Lib.hid (by unfold lenAt; rw [c4])
      clear hfc hfv hfit hmem hks
      go_wp2_with fail
      refine HFC.out.mono ?_
      rintro e w3 ⟨rfl, hb3⟩
      have bb := below_alloc hb3 (.cells #[.int .i64 fx, .int .i64 fy, .int .i64 fm, .int .i64 fn] 39)
      have HA3 := Lib.hid (HA1.out.below bb)
      have HS3 := Lib.hid (HS1.out.below bb)
      have HF3 := Lib.hid (blk_below HF1.out bb)
      have hkc3 := pw_cell_below bb hkc
      clear c0 c1 c2 c3 c4 c5 c6 c7 bb hb3 HFC hkc
      go_upto_region 10 with (fail)
      generalize w3.alloc (.cells #[.int .i64 fx, .int .i64 fy, .int .i64 fm, .int .i64 fn] 39) = w4 at *
      obtain ⟨c0, c1, c2, c3, c4, c5, c6, c7⟩ := HA3.out.raw.cell
      rw [HVK.out] at c4
      have hev := Lib.hid (evictM_c w4 b w h pad s' F' c' HA3.out k0 HKM.out)
      clear c0 c1 c2 c3 c5 c6 c7
      have dl : ok = true → decide ((K : Int) < 32) = false := fun h => decide_eq_false (by have := hok h; omega)
      clear hok
      cases ok with
      | false =>
        clear dl
        go_wp2_with fail
        refine hev.out.mono ?_
        rintro e w5 ⟨rfl, c5, h5, hst5⟩
        have HA5 := Lib.hid h5
        have HS5 := Lib.hid (HS3.out.trans hst5)
        have HF5 := Lib.hid (hst5.1.get HF3.out (fun e => HA3.out.raw.not_own HF3.out (by decide) (by decide) (by decide) e))
        clear h5 hst5 hev hkc3 c4
        obtain ⟨c0, c1, c2, c3, c4, c5', c6, c7⟩ := HA5.out.raw.cell
        have hgs := HA5.out.raw.gs
        obtain ⟨G, hG⟩ : ∃ G, (evS w h s' k0).gone.length = G := ⟨_, rfl⟩
        have hGl : G ≤ 100032 := by have h9 := HL1.out.1; have h10 : (evS w h s' k0).gone.length = s'.gone.length := rfl; have h11 := HA.out.inv.le; omega
        rw [hG] at hgs
        obtain ⟨Ag, capg, hvg, hcg⟩ := hgs.isSlice
        rw [hvg] at hgs c7
        have HGS := Lib.hid hgs; have HVG := Lib.hid hvg; have HG := Lib.hid hG
        clear c0 c1 c2 c3 c4 c5' c6 hgs hvg hG
        go_wp2_with (at_builtin; refine wpList_append_sl _ rfl (.tmp 153) (.tmp 155) 29 rfl 9 i0 (.string ByteArray.empty) 1 16 Try.underlying29 hi0 hz0 hz1 hz2 rfl (by decide) _ G _ rfl (HGS.out.kept (Kept.alloc (fun _ => False) _ _) (by simp)) ⟨w5.heap.size, 0, none⟩ 1 1 [.string k0] rfl rfl ?c1 ?c2 ?c3 ?c4 ?_)
        case c1 =>
          intro j' u hj'
          match j', hj' with
          | 0, hj' => simp at hj'; subst hj'; simp [Addr.add]
        case c2 => intro u hu; simp at hu; subst hu; rfl
        case c3 => unfold maxLen; omega
        case c4 => omega
        · intro A' cap' w6 hs6 hg6 ho6 _
          have hk6 : Kept (fun x => c5.vg.ownBlock = some x) w5 w6 := (Kept.alloc _ w5 _).trans (Kept.of_grownBy (by rw [HVG.out]; exact hg6))
          have hs7 : SlO w6 9 1 (.slice A' (G + 1) cap') ((evS w h s' k0).gone ++ [k0]).length (((evS w h s' k0).gone ++ [k0]).map Value.string) := by
            rw [List.length_append, List.map_append, HG.out]; exact hs6
          obtain ⟨m1, m2, m3⟩ := HA5.out.raw.setGone hk6 hs7 (fun q hq => by
            rw [HVG.out]
            rcases ho6 with h | h
            · exact .inl (h ▸ hq)
            · rw [h] at hq; injection hq with hq; exact .inr (by omega))
          have b6 := hk6.get HA5.out.raw.blk (fun e => (HA5.out.raw.apart.g4 _ e).1 rfl)
          have x7' : w6.cell? ⟨b, 7, none⟩ = some c5.vg := (blk_cell b6 7).trans rfl
          have f7' : w6.frozen? ⟨b, 7, none⟩ = false := blk_frozen b6 7
          have hfF := hk6.get HF5.out (fun e => HA5.out.raw.not_own HF5.out (by decide) (by decide) (by decide) (.inr (.inr (.inr (.inr (.inr e))))))
          have hff : Hid ((w6.setCell ⟨b, 7, none⟩ (.slice A' (G + 1) cap')).heap[W.heap.size]? = some (.cells #[.int .i64 (a : Int), .int .i64 (a' : Int), .slice A n cap] 44 (0, 0))) := Lib.hid ((Kept.setCell (· = b) w6 ⟨b, 7, none⟩ _ rfl).get hfF (obj_ne HF5.out HA5.out.raw.blk (cells_ne (by decide))))
          have M1 := Lib.hid m1; have M4 := Lib.hid (HS5.out.trans ⟨m2, m3⟩)
          have hel : (s'.keys.erase k0).length = K - 1 := by rw [List.length_erase_of_mem HKM.out, HK.out]
          obtain ⟨_, _, _, _, y4, _, _, _⟩ := m1.cell
          have hl5 := HA5.out.raw.ks
          have hl6 : (evS w h s' k0).keys.length = K - 1 := hel
          rw [hl6] at hl5
          obtain ⟨A5, cap5, hv5, _⟩ := hl5.isSlice
          have y4' : (w6.setCell ⟨b, 7, none⟩ (.slice A' (G + 1) cap')).cell? ⟨b, 4, none⟩ = some (.slice A5 (K - 1) cap5) := y4.trans (by show some c5.vk = _; rw [hv5])
          have HL2 : Hid (lenAt (w6.setCell ⟨b, 7, none⟩ (.slice A' (G + 1) cap')) b 4 = K - 1) := Lib.hid (by unfold lenAt; rw [y4'])
          have HRM : Hid (room w h M N (evG w h s' k0) = some (B, sF)) := Lib.hid (by rw [← room_ev HFIT.out HKS0.out]; exact HR1.out)
          clear m1 m2 m3 b6 hs7 hs6 hg6 ho6 hk6 hfF hel y4 hl5 hl6 hv5 y4' c7
          go_wp2_with fail
          go_roundw
          case rel =>
            refine ⟨evG w h s' k0, c5.setG (.slice A' (G + 1) cap'), noF k0 F', Lib.hid ⟨M1.out, HA.out.w1, HA.out.h1, HA.out.p4, HA1.out.inv.evG k0 HKM.out, fun u hu => HA1.out.kl u (List.mem_of_mem_erase hu), HA5.out.fk⟩, M4, HRM, Lib.hid ⟨?_, fun u hu => HL1.out.2.1 u (List.mem_of_mem_erase hu), fun u y hu => ?_⟩, hff⟩
            · have h9 := HL1.out.1
              have h10 : (evG w h s' k0).gone.length = s'.gone.length + 1 := by simp [evG]
              have h11 : (evG w h s' k0).keys.length = s'.keys.length - 1 := List.length_erase_of_mem HKM.out
              have h12 := HK.out
              omega
            · have hu' : (if u = k0 then none else F' u) = some y := hu
              by_cases e : u = k0
              · rw [if_pos e] at hu'; cases hu'
              · rw [if_neg e] at hu'; exact HL1.out.2.2 u y hu'
          case measure => rw [HL2.out, HLEN.out]; omega
      | true =>
        have dl := dl rfl
        go_wp2_with fail
        refine hev.out.mono ?_
        rintro e w5 ⟨rfl, c5, h5, hst5⟩
        have HA5 := Lib.hid h5
        have HS5 := Lib.hid (HS3.out.trans hst5)
        have HF5 := Lib.hid (hst5.1.get HF3.out (fun e => HA3.out.raw.not_own HF3.out (by decide) (by decide) (by decide) e))
        clear h5 hst5 hev hkc3 c4
        obtain ⟨c0, c1, c2, c3, c4, c5', c6, c7⟩ := HA5.out.raw.cell
        have hgs := HA5.out.raw.gs
        obtain ⟨G, hG⟩ : ∃ G, (evS w h s' k0).gone.length = G := ⟨_, rfl⟩
        have hGl : G ≤ 100032 := by have h9 := HL1.out.1; have h10 : (evS w h s' k0).gone.length = s'.gone.length := rfl; have h11 := HA.out.inv.le; omega
        rw [hG] at hgs
        obtain ⟨Ag, capg, hvg, hcg⟩ := hgs.isSlice
        rw [hvg] at hgs c7
        have HGS := Lib.hid hgs; have HVG := Lib.hid hvg; have HG := Lib.hid hG
        clear c0 c1 c2 c3 c4 c5' c6 hgs hvg hG
        go_wp2_with (at_builtin; refine wpList_append_sl _ rfl (.tmp 153) (.tmp 155) 29 rfl 9 i0 (.string ByteArray.empty) 1 16 Try.underlying29 hi0 hz0 hz1 hz2 rfl (by decide) _ G _ rfl (HGS.out.kept (Kept.alloc (fun _ => False) _ _) (by simp)) ⟨w5.heap.size, 0, none⟩ 1 1 [.string k0] rfl rfl ?c1 ?c2 ?c3 ?c4 ?_)
        case c1 =>
          intro j' u hj'
          match j', hj' with
          | 0, hj' => simp at hj'; subst hj'; simp [Addr.add]
        case c2 => intro u hu; simp at hu; subst hu; rfl
        case c3 => unfold maxLen; omega
        case c4 => omega
        · intro A' cap' w6 hs6 hg6 ho6 _
          have hk6 : Kept (fun x => c5.vg.ownBlock = some x) w5 w6 := (Kept.alloc _ w5 _).trans (Kept.of_grownBy (by rw [HVG.out]; exact hg6))
          have hs7 : SlO w6 9 1 (.slice A' (G + 1) cap') ((evS w h s' k0).gone ++ [k0]).length (((evS w h s' k0).gone ++ [k0]).map Value.string) := by
            rw [List.length_append, List.map_append, HG.out]; exact hs6
          obtain ⟨m1, m2, m3⟩ := HA5.out.raw.setGone hk6 hs7 (fun q hq => by
            rw [HVG.out]
            rcases ho6 with h | h
            · exact .inl (h ▸ hq)
            · rw [h] at hq; injection hq with hq; exact .inr (by omega))
          have b6 := hk6.get HA5.out.raw.blk (fun e => (HA5.out.raw.apart.g4 _ e).1 rfl)
          have x7' : w6.cell? ⟨b, 7, none⟩ = some c5.vg := (blk_cell b6 7).trans rfl
          have f7' : w6.frozen? ⟨b, 7, none⟩ = false := blk_frozen b6 7
          have hfF := hk6.get HF5.out (fun e => HA5.out.raw.not_own HF5.out (by decide) (by decide) (by decide) (.inr (.inr (.inr (.inr (.inr e))))))
          have hff : Hid ((w6.setCell ⟨b, 7, none⟩ (.slice A' (G + 1) cap')).heap[W.heap.size]? = some (.cells #[.int .i64 (a : Int), .int .i64 (a' : Int), .slice A n cap] 44 (0, 0))) := Lib.hid ((Kept.setCell (· = b) w6 ⟨b, 7, none⟩ _ rfl).get hfF (obj_ne HF5.out HA5.out.raw.blk (cells_ne (by decide))))
          have M1 := Lib.hid m1; have M4 := Lib.hid (HS5.out.trans ⟨m2, m3⟩)
          have hel : (s'.keys.erase k0).length = K - 1 := by rw [List.length_erase_of_mem HKM.out, HK.out]
          obtain ⟨_, _, _, _, y4, _, _, _⟩ := m1.cell
          have hl5 := HA5.out.raw.ks
          have hl6 : (evS w h s' k0).keys.length = K - 1 := hel
          rw [hl6] at hl5
          obtain ⟨A5, cap5, hv5, _⟩ := hl5.isSlice
          have y4' : (w6.setCell ⟨b, 7, none⟩ (.slice A' (G + 1) cap')).cell? ⟨b, 4, none⟩ = some (.slice A5 (K - 1) cap5) := y4.trans (by show some c5.vk = _; rw [hv5])
          have HL2 : Hid (lenAt (w6.setCell ⟨b, 7, none⟩ (.slice A' (G + 1) cap')) b 4 = K - 1) := Lib.hid (by unfold lenAt; rw [y4'])
          have HRM : Hid (room w h M N (evG w h s' k0) = some (B, sF)) := Lib.hid (by rw [← room_ev HFIT.out HKS0.out]; exact HR1.out)
          clear m1 m2 m3 b6 hs7 hs6 hg6 ho6 hk6 hfF hel y4 hl5 hl6 hv5 y4' c7
          go_wp2_with fail
          go_roundw
          case rel =>
            refine ⟨evG w h s' k0, c5.setG (.slice A' (G + 1) cap'), noF k0 F', Lib.hid ⟨M1.out, HA.out.w1, HA.out.h1, HA.out.p4, HA1.out.inv.evG k0 HKM.out, fun u hu => HA1.out.kl u (List.mem_of_mem_erase hu), HA5.out.fk⟩, M4, HRM, Lib.hid ⟨?_, fun u hu => HL1.out.2.1 u (List.mem_of_mem_erase hu), fun u y hu => ?_⟩, hff⟩
            · have h9 := HL1.out.1
              have h10 : (evG w h s' k0).gone.length = s'.gone.length + 1 := by simp [evG]
              have h11 : (evG w h s' k0).keys.length = s'.keys.length - 1 := List.length_erase_of_mem HKM.out
              have h12 := HK.out
              omega
            · have hu' : (if u = k0 then none else F' u) = some y := hu
              by_cases e : u = k0
              · rw [if_pos e] at hu'; cases hu'
              · rw [if_neg e] at hu'; exact HL1.out.2.2 u y hu'
          case measure => rw [HL2.out, HLEN.out]; omega
end Go.Proofs.Ytaccppchhljnkaa

