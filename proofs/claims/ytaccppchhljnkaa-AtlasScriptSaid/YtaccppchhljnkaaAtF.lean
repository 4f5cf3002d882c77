/- Atlases: Field. -/
import Derived.Test.YtaccppchhljnkaaAtK
set_option linter.unusedVariables false
set_option linter.unusedSimpArgs false
namespace Go.Proofs.Ytaccppchhljnkaa
open Go.RowKit Go.Shelf Go.Proofs.YtaccppchhljnkaaW.PrintWords Go.Proofs.YtaccppchhljnkaaW.PrintLast Go.Proofs.YtaccppchhljnkaaW.PrintMore
/-- A row of a field in the page. -/
theorem row_at {w h pad : Nat} {s : AtS} (hI : AtI w h pad s) {k : ByteArray} (hk : k ∈ s.keys) {X Y m n : Nat} (hr : s.at k = ((X : Int), (Y : Int), (m : Int) + 2 * pad, (n : Int) + 2 * pad)) (y i : Nat) (hy : y < n) (hi : i < m) :
    (Y + pad + y) * w + (X + pad) + i < w * h ∧ pgF w pad s ((Y + pad + y) * w + (X + pad) + i) = (s.fd k).getD (y * m + i) 0 := by
  obtain ⟨q1, q2, q3, q4, q5, q6⟩ := hI.pg k hk
  rw [hr] at q3 q6
  simp only at q3 q6
  have hw : X + pad + m ≤ w := by omega
  obtain ⟨e1, e2, e3⟩ := (row_iff w (Y + pad + y) (X + pad) m ((Y + pad + y) * w + (X + pad) + i) hw).1 ⟨by omega, by omega⟩
  have hd := Nat.div_add_mod ((Y + pad + y) * w + (X + pad) + i) w
  rw [e1, Nat.mul_comm] at hd
  have e4 : ((Y + pad + y) * w + (X + pad) + i) % w = X + pad + i := by omega
  refine ⟨?_, ?_⟩
  · have h1 : (Y + pad + y + 1) * w ≤ h * w := Nat.mul_le_mul_right _ (by omega)
    rw [Nat.add_mul, Nat.one_mul, Nat.mul_comm h w] at h1
    omega
  · have hin : inB w pad (s.at k) ((Y + pad + y) * w + (X + pad) + i) := by
      rw [hr]; unfold inB; simp only
      rw [e1, e4]; omega
    rw [pg_in hI hk hin, hr]
    unfold ixB
    simp only
    rw [e1, e4]
    have f1 : (((Y + pad + y : Nat) : Int) - ((Y : Int) + pad)).toNat = y := by omega
    have f2 : ((m : Int) + 2 * pad - 2 * pad).toNat = m := by omega
    have f3 : (((X + pad + i : Nat) : Int) - ((X : Int) + pad)).toNat = i := by omega
    rw [f1, f2, f3]
/-- A place of a key that is there, in whole numbers. -/
theorem AtI.nat {w h pad : Nat} {s : AtS} (hI : AtI w h pad s) {k : ByteArray} (hk : k ∈ s.keys) : ∃ X Y m n : Nat, s.at k = ((X : Int), (Y : Int), (m : Int) + 2 * pad, (n : Int) + 2 * pad) ∧ 1 ≤ m ∧ 1 ≤ n ∧ X + m + 2 * pad ≤ w ∧ Y + n + 2 * pad ≤ h ∧ (s.fd k).length = m * n := by
  obtain ⟨q1, q2, q3, q4, q5, q6⟩ := hI.pg k hk
  obtain ⟨z1, z2, z3⟩ := hI.sz k hk
  refine ⟨(s.at k).1.toNat, (s.at k).2.1.toNat, ((s.at k).2.2.1 - 2 * pad).toNat, ((s.at k).2.2.2 - 2 * pad).toNat, ?_, by omega, by omega, by omega, by omega, ?_⟩
  · have e1 : ((s.at k).1.toNat : Int) = (s.at k).1 := by omega
    have e2 : ((s.at k).2.1.toNat : Int) = (s.at k).2.1 := by omega
    have e3 : ((((s.at k).2.2.1 - 2 * pad).toNat : Nat) : Int) + 2 * pad = (s.at k).2.2.1 := by omega
    have e4 : ((((s.at k).2.2.2 - 2 * pad).toNat : Nat) : Int) + 2 * pad = (s.at k).2.2.2 := by omega
    rw [e1, e2, e3, e4]
  · have e3 : ((((s.at k).2.2.1 - 2 * pad).toNat : Nat) : Int) = (s.at k).2.2.1 - 2 * pad := by omega
    have e4 : ((((s.at k).2.2.2 - 2 * pad).toNat : Nat) : Int) = (s.at k).2.2.2 - 2 * pad := by omega
    have : ((s.fd k).length : Int) = ((((s.at k).2.2.1 - 2 * pad).toNat * ((s.at k).2.2.2 - 2 * pad).toNat : Nat) : Int) := by rw [Int.natCast_mul, e3, e4]; exact z3
    omega
set_option maxHeartbeats 1000000 in
set_option maxRecDepth 100000 in
theorem field_no (W : World) (b w h pad : Nat) (s : AtS) (c : AtC) (hA : AtAt W b w h pad s c) (k : ByteArray) (hk : k.size ≤ maxLen) (hn : k ∉ s.keys) :
    Calls Try.prog 14 #[.pointer (some ⟨b, 0, none⟩), .string k] W fun e w' => e = .returned (.tuple #[Ef 0 0 (.slice none 0 0), .bool false]) ∧ Below W.heap.size W w' := by
  have bb := below_alloc (Below.refl _ W) (.cells #[.int .i64 0, .int .i64 0, .slice none 0 0] 44)
  have hrc := rect_c _ b w h pad s c (hA.below bb) k hk
  rw [hA.inv.noPl hn] at hrc
  unfold rectV Er r00 at hrc
  simp only [Option.isSome_none] at hrc
  have HR := Lib.hid hrc
  have G1 := Lib.hid (heap_alloc_new W (.cells #[.int .i64 0, .int .i64 0, .slice none 0 0] 44))
  have B1 := Lib.hid bb
  clear hA bb hrc
  go_enter Try.func14, Try.ntmps14
  go_wp2_with fail
  refine HR.out.mono ?_
  rintro e w2 ⟨rfl, hb2⟩
  have B2 := Lib.hid (below_step B1.out hb2)
  have G2 := Lib.hid (blk_below G1.out hb2)
  clear hb2
  go_upto_region 2 with (fail)
  have bb := below_alloc (Below.refl _ w2) (.cells #[.int .i64 0, .int .i64 0, .int .i64 0, .int .i64 0] 39)
  have B3 := Lib.hid (below_step B2.out bb)
  have G3 := Lib.hid (blk_below G2.out bb)
  clear bb
  generalize w2.alloc (.cells #[.int .i64 0, .int .i64 0, .int .i64 0, .int .i64 0] 39) = w3 at *
  have d0 : w3.cell? ⟨W.heap.size, 0, none⟩ = some (.int .i64 0) := (blk_cell G3.out 0).trans rfl
  have d1 : w3.cell? ⟨W.heap.size, 1, none⟩ = some (.int .i64 0) := (blk_cell G3.out 1).trans rfl
  have d2 : w3.cell? ⟨W.heap.size, 2, none⟩ = some (.slice none 0 0) := (blk_cell G3.out 2).trans rfl
  have f0 : w3.frozen? ⟨W.heap.size, 0, none⟩ = false := blk_frozen G3.out 0
  have f1 : w3.frozen? ⟨W.heap.size, 1, none⟩ = false := blk_frozen G3.out 1
  have f2 : w3.frozen? ⟨W.heap.size, 2, none⟩ = false := blk_frozen G3.out 2
  go_wp2_with fail
  obtain ⟨m1, m2⟩ := set3 w3 W.heap.size _ _ _ (.int .i64 0) (.int .i64 0) (.slice none 0 0) _ G3.out
  refine bodyPost_ret (res_ct rfl _ _ W.heap.size 44 #[.int .i64 0, .int .i64 0, .slice none 0 0] _ rfl m1 Try.underlying44 rfl (by kernel_rfl)) rfl ?_
  exact ⟨rfl, B3.out.trans (m2.below B3.out.size (fun k hk => by subst hk; exact Nat.le_refl _))⟩
theorem take_row {L : List Int} {y m : Nat} (h : (y + 1) * m ≤ L.length) : L.take ((y + 1) * m) = L.take (y * m) ++ (L.drop (y * m)).take m := by
  rw [Nat.add_mul, Nat.one_mul, List.take_add]
set_option maxHeartbeats 4000000 in
set_option maxRecDepth 100000 in
theorem field_yes (W : World) (b w h pad : Nat) (s : AtS) (c : AtC) (hA : AtAt W b w h pad s c) (k : ByteArray) (hk : k.size ≤ maxLen) (hy : k ∈ s.keys) (X Y m n : Nat) (hr : s.at k = ((X : Int), (Y : Int), (m : Int) + 2 * pad, (n : Int) + 2 * pad)) (hm1 : 1 ≤ m) (hn1 : 1 ≤ n) (hX : X + m + 2 * pad ≤ w) (hY : Y + n + 2 * pad ≤ h) (hfl : (s.fd k).length = m * n) :
    Calls Try.prog 14 #[.pointer (some ⟨b, 0, none⟩), .string k] W fun e w' => ∃ A cap, e = .returned (.tuple #[Ef m n (.slice A (m * n) cap), .bool true]) ∧ SlO w' 5 1 (.slice A (m * n) cap) (m * n) ((s.fd k).map (Value.int .u8)) ∧ Below W.heap.size W w' ∧ ∀ g', (Value.slice A (m * n) cap).ownBlock = some g' → W.heap.size ≤ g' := by
  have bb := below_alloc (Below.refl _ W) (.cells #[.int .i64 0, .int .i64 0, .slice none 0 0] 44)
  have hrc := rect_c _ b w h pad s c (hA.below bb) k hk
  have e2m : (m : Int) + 2 * pad - 2 * pad = m := by omega
  have e2n : (n : Int) + 2 * pad - 2 * pad = n := by omega
  rw [hA.inv.hasPl hy, hr] at hrc
  unfold rectV Er inR at hrc
  simp only [Option.isSome_some, e2m, e2n] at hrc
  obtain ⟨X', hX'⟩ : ∃ X', X + pad = X' := ⟨_, rfl⟩
  obtain ⟨Y', hY'⟩ : ∃ Y', Y + pad = Y' := ⟨_, rfl⟩
  have eX : (X : Int) + (pad : Int) = (X' : Int) := by omega
  have eY : (Y : Int) + (pad : Int) = (Y' : Int) := by omega
  rw [eX, eY] at hrc
  have HR := Lib.hid hrc
  have G1 := Lib.hid (heap_alloc_new W (.cells #[.int .i64 0, .int .i64 0, .slice none 0 0] 44))
  have B1 := Lib.hid bb
  have HA := Lib.hid hA
  have hw := hA.w1; have hh := hA.h1
  obtain ⟨hw0, hw1⟩ := hw; obtain ⟨hh0, hh1⟩ := hh
  have hmm : m ≤ 64 := by omega
  have hnn : n ≤ 64 := by omega
  have hmn : m * n ≤ 4096 := Nat.le_trans (Nat.mul_le_mul hmm hnn) (by decide)
  have hwh : w * h ≤ 4096 := Nat.le_trans (Nat.mul_le_mul hw1 hh1) (by decide)
  have hrow : Hid (∀ y i, y < n → i < m → (Y' + y) * w + X' + i < w * h ∧ pgF w pad s ((Y' + y) * w + X' + i) = (s.fd k).getD (y * m + i) 0) := Lib.hid (fun y i h1 h2 => by
    have := row_at hA.inv hy hr y i h1 h2
    rw [hX', hY'] at this
    exact this)
  have HFL := Lib.hid hfl
  obtain ⟨i0, hi0, hz0, hz1, hz2⟩ := info_parts Try.info_u8O
  have hXb : X' + m ≤ w := by omega
  have hYb : Y' + n ≤ h := by omega
  clear hA bb hrc hr hX' hY' eX eY e2m e2n hfl
  go_enter Try.func14, Try.ntmps14
  go_wp2_with fail
  refine HR.out.mono ?_
  rintro e w2 ⟨rfl, hb2⟩
  have B2 := Lib.hid (below_step B1.out hb2)
  have G2 := Lib.hid (blk_below G1.out hb2)
  clear hb2 HR
  go_upto_region 2 with (fail)
  have bb := below_alloc (Below.refl _ w2) (.cells #[.int .i64 X', .int .i64 Y', .int .i64 m, .int .i64 n] 39)
  have B3 := Lib.hid (below_step B2.out bb)
  have G3 := Lib.hid (blk_below G2.out bb)
  have R3 := Lib.hid (heap_alloc_new w2 (.cells #[.int .i64 X', .int .i64 Y', .int .i64 m, .int .i64 n] 39))
  have hgr1 : W.heap.size < w2.heap.size := lt_in G2.out
  clear bb
  generalize w2.alloc (.cells #[.int .i64 X', .int .i64 Y', .int .i64 m, .int .i64 n] 39) = w3 at *
  generalize hgr : w2.heap.size = gr at *
  clear hgr
  have r0 : w3.cell? ⟨gr, 0, none⟩ = some (.int .i64 X') := (blk_cell R3.out 0).trans rfl
  have r1 : w3.cell? ⟨gr, 1, none⟩ = some (.int .i64 Y') := (blk_cell R3.out 1).trans rfl
  have r2 : w3.cell? ⟨gr, 2, none⟩ = some (.int .i64 m) := (blk_cell R3.out 2).trans rfl
  have r3 : w3.cell? ⟨gr, 3, none⟩ = some (.int .i64 n) := (blk_cell R3.out 3).trans rfl
  go_upto_region 5 with (fail)
  have bb := below_alloc (Below.refl _ w3) (.cells #[.int .i64 m, .int .i64 n, .slice none 0 0] 44)
  have B4 := Lib.hid (below_step B3.out bb)
  have G4 := Lib.hid (blk_below G3.out bb)
  have R4 := Lib.hid (blk_below R3.out bb)
  have F4 := Lib.hid (heap_alloc_new w3 (.cells #[.int .i64 m, .int .i64 n, .slice none 0 0] 44))
  have hgr3 := lt_in R3.out
  clear bb r0 r1 r2 r3
  generalize w3.alloc (.cells #[.int .i64 m, .int .i64 n, .slice none 0 0] 44) = w4 at *
  generalize hgf : w3.heap.size = gf at *
  clear hgf
  have r3 : w4.cell? ⟨gr, 3, none⟩ = some (.int .i64 n) := (blk_cell R4.out 3).trans rfl
  go_upto_region 6 with (fail)
  clear r3
  have L4 : Hid (LAo w4 44 5 gf 2 #[.int .i64 m, .int .i64 n, .slice none 0 0] (.slice none 0 0) (((s.fd k).take (0 * m)).map (Value.int .u8))) := Lib.hid ⟨F4.out, rfl, by rw [Nat.zero_mul]; exact SlO.nil _ _ _, fun g hg => by simp [Value.ownBlock] at hg⟩
  go_loopw [27] (fun v27 Wr => ∃ (y : Nat) (vt : Value), v27 = .int .i64 y ∧ y ≤ n ∧ Hid (LAo Wr 44 5 gf 2 #[.int .i64 m, .int .i64 n, vt] vt (((s.fd k).take (y * m)).map (Value.int .u8))) ∧ Hid (Below W.heap.size W Wr) ∧ Hid (Wr.heap[gr]? = some (.cells #[.int .i64 X', .int .i64 Y', .int .i64 m, .int .i64 n] 39 (0, 0))) ∧ Hid (Wr.heap[W.heap.size]? = some (.cells #[.int .i64 0, .int .i64 0, .slice none 0 0] 44 (0, 0))) ∧ Hid (∀ g, vt.ownBlock = some g → W.heap.size ≤ g)) (fun v27 _ => n - (intOf v27).toNat)
  case atStart => exact ⟨0, _, rfl, Nat.zero_le _, L4, B4, R4, G4, Lib.hid (fun g hg => by simp [Value.ownBlock] at hg)⟩
  case round =>
    obtain ⟨y, vt, rfl, hyn, HL, HB, HR, HG, HO⟩ := hrel
    obtain ⟨A, cap, ev, hcap⟩ := HL.out.sl.isSlice
    subst ev
    have hlen : (((s.fd k).take (y * m)).map (Value.int .u8)).length = y * m := by
      rw [List.length_map, List.length_take, HFL.out]
      have : y * m ≤ n * m := Nat.mul_le_mul_right _ hyn
      rw [Nat.mul_comm n m] at this
      omega
    rw [hlen] at HL HO hcap
    have ft0 : wr.cell? ⟨gf, 0, none⟩ = some (.int .i64 m) := (blk_cell HL.out.blk 0).trans rfl
    have ft1 : wr.cell? ⟨gf, 1, none⟩ = some (.int .i64 n) := (blk_cell HL.out.blk 1).trans rfl
    have ft2 : wr.cell? ⟨gf, 2, none⟩ = some (.slice A (y * m) cap) := (blk_cell HL.out.blk 2).trans rfl
    by_cases hlt : y < n
    · have hlt' : (y : Int) < (n : Int) := by omega
      have r0 : wr.cell? ⟨gr, 0, none⟩ = some (.int .i64 X') := (blk_cell HR.out 0).trans rfl
      have r1 : wr.cell? ⟨gr, 1, none⟩ = some (.int .i64 Y') := (blk_cell HR.out 1).trans rfl
      have r2 : wr.cell? ⟨gr, 2, none⟩ = some (.int .i64 m) := (blk_cell HR.out 2).trans rfl
      obtain ⟨c0, c1, c2, c3, c4, c5, c6, c7⟩ := (HA.out.below HB.out).cell
      clear c1 c3 c4 c5 c6 c7
      obtain ⟨a, ha⟩ : ∃ a, Y' + y = a := ⟨_, rfl⟩
      obtain ⟨p, hp⟩ : ∃ p, a * w = p := ⟨_, rfl⟩
      obtain ⟨fr, hfr⟩ : ∃ fr, p + X' = fr := ⟨_, rfl⟩
      obtain ⟨tb, hto⟩ : ∃ tb, fr + m = tb := ⟨_, rfl⟩
      obtain ⟨wh, hwhe⟩ : ∃ wh, w * h = wh := ⟨_, rfl⟩
      have hin0 := hrow.out y (m - 1) hlt (by omega)
      rw [ha, hp, hfr, hwhe] at hin0
      have hb1 : tb ≤ wh := by have := hin0.1; omega
      rw [hwhe] at c2 hwh
      have e1 : IntKind.i64.wrap ((Y' : Int) + (y : Int)) = (a : Int) := by rw [IntKind.wrap_i64]; omega
      have e2 : IntKind.i64.wrap ((a : Int) * (w : Int)) = (p : Int) := by rw [← Int.natCast_mul, hp, IntKind.wrap_i64]; omega
      have e3 : IntKind.i64.wrap ((p : Int) + (X' : Int)) = (fr : Int) := by rw [IntKind.wrap_i64]; omega
      have e4 : IntKind.i64.wrap ((fr : Int) + (m : Int)) = (tb : Int) := by rw [IntKind.wrap_i64]; omega
      have hs1 : fr ≤ tb := by omega
      have hs2 : (fr : Int) ≤ (tb : Int) := by omega
      have hs3 : (tb : Int) ≤ (wh : Int) := by omega
      have hs4 : tb - fr = m := by omega
      have hs5 : ¬ wh = fr := by omega
      have HROW : Hid (∀ i, i < m → fr + i < wh ∧ pgF w pad s (fr + i) = (s.fd k).getD (y * m + i) 0) := Lib.hid (fun i hi => by
        have := hrow.out y i hlt hi
        rw [ha, hp, hfr, hwhe] at this
        exact this)
      have HTX : Hid (∀ q, q < wh → wr.cell? ⟨c.bT, q, none⟩ = some (.int .u8 (pgF w pad s q))) := Lib.hid (fun q hq => (HA.out.below HB.out).tx q (by rw [hwhe]; exact hq))
      clear hin0 hwhe ha hp
      go_upto_region 8 with (fail)
      go_quiet (fail)
      have HL5 := Lib.hid (HL.out.kept (Kept.drewN (fun _ => False) wr nq) (by simp) (by simp))
      have HB5 := Lib.hid (below_drewN HB.out nq)
      have HR5 : Hid ((wr.drewN nq).heap[gr]? = some (.cells #[.int .i64 X', .int .i64 Y', .int .i64 m, .int .i64 n] 39 (0, 0))) := HR
      have HG5 : Hid ((wr.drewN nq).heap[W.heap.size]? = some (.cells #[.int .i64 0, .int .i64 0, .slice none 0 0] 44 (0, 0))) := HG
      have HT5 : Hid (∀ q, q < wh → (wr.drewN nq).cell? ⟨c.bT, q, none⟩ = some (.int .u8 (pgF w pad s q))) := HTX
      have c2' : (wr.drewN nq).cell? ⟨b, 2, none⟩ = some (.slice (some ⟨c.bT, 0, none⟩) wh wh) := c2
      have r2' : (wr.drewN nq).cell? ⟨gr, 2, none⟩ = some (.int .i64 m) := r2
      have ft2' : (wr.drewN nq).cell? ⟨gf, 2, none⟩ = some (.slice A (y * m) cap) := ft2
      go_upto_region 9 with (fail)
      clear c0 c2 r0 r1 r2 ft0 ft1 ft2 HTX HL HB HR HG
      generalize wr.drewN nq = w5 at *
      refine wp_region_still_tail 13 (by kernel_rfl) (by kernel_rfl) ?_
      simp only [List.take_succ_cons, List.take_zero, List.drop_succ_cons, List.drop_zero]
      iterate 13 still_step
      refine wpStill_nil ?_
      change wpList _ _ _ _ _ w5.drew
      have hSL : SlO w5 5 1 (.slice A (y * m) cap) (y * m) (((s.fd k).take (y * m)).map (Value.int .u8)) := by have h := HL5.out.sl; rwa [hlen] at h
      have hle1 : (y + 1) * m ≤ m * n := by rw [Nat.mul_comm m n]; exact Nat.mul_le_mul_right _ hlt
      have hnl : ((((s.fd k).drop (y * m)).take m).map (Value.int .u8)).length = m * 1 := by
        rw [List.length_map, List.length_take, List.length_drop, HFL.out, Nat.add_mul, Nat.one_mul] at *
        omega
      have hnews : ∀ j u, ((((s.fd k).drop (y * m)).take m).map (Value.int .u8))[j]? = some u → w5.drew.cell? ((⟨c.bT, fr, none⟩ : Addr).add j) = some u := by
        intro j u hu
        have hj : j < m := by have := (List.getElem?_eq_some_iff.1 hu).1; rw [hnl] at this; omega
        obtain ⟨h1, h2⟩ := HROW.out j hj
        rw [Addr.add_lit]
        refine (HT5.out (fr + j) h1).trans ?_
        rw [h2, ← hu, List.getElem?_map, List.getElem?_take_of_lt hj, List.getElem?_drop, List.getD_eq_getElem?_getD]
        have hlt2 : y * m + j < (s.fd k).length := by rw [HFL.out]; rw [Nat.add_mul, Nat.one_mul] at hle1; omega
        rw [List.getElem?_eq_getElem hlt2]; rfl
      have HN := Lib.hid hnews; have HNL := Lib.hid hnl; have HSL := Lib.hid hSL
      have hym : y * m + m ≤ 4096 := by rw [Nat.add_mul, Nat.one_mul] at hle1; omega
      clear hnews hnl hSL
      refine wpList_append_sl _ rfl (.tmp 44) (.tmp 55) 42 rfl 5 i0 (.int .u8 0) 1 1 Try.underlying42 hi0 hz0 hz1 hz2 rfl (by decide) (.slice A (y * m) cap) (y * m) _ rfl (HSL.out.kept (Kept.drew (fun _ => False) _) (by simp)) ⟨c.bT, fr, none⟩ m (wh - fr) _ rfl HNL.out HN.out (fun u hu => by obtain ⟨x, _, rfl⟩ := List.mem_map.1 hu; rfl) (by unfold maxLen; omega) (by omega) ?_
      intro A' cap' w6 hs6 hg6 ho6 _
      have hk6 : Kept (fun q => (Value.slice A (y * m) cap).ownBlock = some q) w5 w6 := (Kept.drew _ w5).trans (Kept.of_grownBy hg6)
      have hb6 := hk6.get HL5.out.blk (fun h => HL5.out.ne _ h rfl)
      have hl6 : Lies w5 (.slice A (y * m) cap) (.slice A' (y * m + m) cap') := by
        rcases ho6 with h | h
        · exact .inl h
        · exact .inr ⟨_, h, Nat.le_refl _⟩
      obtain ⟨hr1, hr2⟩ := LAo.stored (off := 2) (v0 := .slice A (y * m) cap) hb6 rfl (lt_in HL5.out.blk) hk6 hs6 hl6 HL5.out.ne
      have ft6 : w6.cell? ⟨gf, 2, none⟩ = some (.slice A (y * m) cap) := (blk_cell hb6 2).trans rfl
      have fz6 : w6.frozen? ⟨gf, 2, none⟩ = false := blk_frozen hb6 2
      have Q1 := Lib.hid hr1; have Q2 := Lib.hid hr2; have Q3 := Lib.hid hl6
      clear hr1 hr2 hl6 hs6 hg6 ho6 hk6 hb6
      go_wp2_with fail
      go_roundw
      case rel =>
        have hsz := HB5.out.size
        refine ⟨y + 1, .slice A' (y * m + m) cap', by go_num, hlt, ?_, ?_, ?_, ?_, ?_⟩
        · rw [take_row (by rw [HFL.out]; exact hle1), List.map_append]
          exact Lib.hid Q1.out
        · exact Lib.hid (HB5.out.trans (Q2.out.below (B := W.heap.size) HB5.out.size (fun q hq => by
            rcases hq with hq | hq
            · exact HO.out q hq
            · omega)))
        · exact Lib.hid (Q2.out.get HR5.out (by
            rintro (h | h)
            · obtain ⟨cur, hcu⟩ := HSL.out.blk h
              exact obj_ne hcu HR5.out (cells_ne (by decide)) rfl
            · omega))
        · exact Lib.hid (Q2.out.get HG5.out (by
            rintro (h | h)
            · obtain ⟨cur, hcu⟩ := HSL.out.blk h
              exact obj_ne hcu HG5.out (cells_ne (by decide)) rfl
            · omega))
        · refine Lib.hid (fun q hq => ?_)
          rcases Q3.out with h | ⟨q', h, hle⟩
          · exact HO.out q (h ▸ hq)
          · rw [h] at hq; injection hq with hq; omega
      case measure => simp [intOf]; omega
    · have hlt' : ¬ (y : Int) < (n : Int) := by omega
      have hyn' : y = n := by omega
      subst hyn'
      have hSL : SlO wr 5 1 (.slice A (y * m) cap) (y * m) (((s.fd k).take (y * m)).map (Value.int .u8)) := by have h := HL.out.sl; rwa [hlen] at h
      rw [List.take_of_length_le (by rw [HFL.out, Nat.mul_comm]; exact Nat.le_refl _)] at hSL
      have HSL := Lib.hid hSL
      clear hSL
      have d0 : wr.cell? ⟨W.heap.size, 0, none⟩ = some (.int .i64 0) := (blk_cell HG.out 0).trans rfl
      have d1 : wr.cell? ⟨W.heap.size, 1, none⟩ = some (.int .i64 0) := (blk_cell HG.out 1).trans rfl
      have d2 : wr.cell? ⟨W.heap.size, 2, none⟩ = some (.slice none 0 0) := (blk_cell HG.out 2).trans rfl
      have f0 : wr.frozen? ⟨W.heap.size, 0, none⟩ = false := blk_frozen HG.out 0
      have f1 : wr.frozen? ⟨W.heap.size, 1, none⟩ = false := blk_frozen HG.out 1
      have f2 : wr.frozen? ⟨W.heap.size, 2, none⟩ = false := blk_frozen HG.out 2
      go_wp2_with fail
      obtain ⟨m1, m2⟩ := set3 wr W.heap.size _ _ _ (.int .i64 m) (.int .i64 y) (.slice A (y * m) cap) _ HG.out
      refine bodyPost_ret (res_ct rfl _ _ W.heap.size 44 #[.int .i64 m, .int .i64 y, .slice A (y * m) cap] _ rfl m1 Try.underlying44 rfl (by kernel_rfl)) rfl ?_
      rw [Nat.mul_comm m y]
      refine ⟨A, cap, rfl, HSL.out.kept m2 (fun g hg e => ?_), HB.out.trans (m2.below HB.out.size (fun k hk => by subst hk; exact Nat.le_refl _)), HO.out⟩
      subst e
      obtain ⟨cur, hcu⟩ := HSL.out.blk hg
      exact obj_ne hcu HG.out (cells_ne (by decide)) rfl
end Go.Proofs.Ytaccppchhljnkaa
