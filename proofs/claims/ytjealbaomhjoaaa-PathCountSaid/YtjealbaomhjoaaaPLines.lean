/- PathLines: the walk. -/
import Derived.Test.YtjealbaomhjoaaaPAwake
import Derived.Test.YtjealbaomhjoaaaPLinesP
import Derived.Test.YtjealbaomhjoaaaGOut
import Derived.Test.YtjealbaomhjoaaaInner
set_option linter.unusedVariables false
set_option linter.unusedSimpArgs false
namespace Go.Proofs.Ytjealbaomhjoaaa
open Go.RowKit Go.Proofs.Ytjealbaomhjoaaa.G Go.Proofs.YtjealbaomhjoaaaW.PrintWords Go.Proofs.YtjealbaomhjoaaaW.PrintMore
theorem inner_reads {W : World} {base n cap : Nat} {ad : Addr} {xs : List (List S34)} (h : Kd.S (Kd.slice 34 k34) 28 W base (fun _ => True) (.slice (some ad) n cap) xs) (i : Nat) (hi : i < xs.length) :
    ∃ A ci, W.cell? (ad.add i) = some (.slice A (xs.getD i []).length ci) ∧ (xs.getD i []).length ≤ ci ∧ Kd.C k34 W A (xs.getD i []).length (xs.getD i []) := by
  obtain ⟨hn, _, hc⟩ := Kd.S_reads' h
  obtain ⟨ad', A0, c0, e, h1, h2, h3⟩ := at_L6 hc (i : Int) (by omega) (by have := hc.1; omega)
  injection e with e
  subst e
  exact ⟨A0, c0, h1, h2, h3⟩
theorem getD_set_self {α : Type} (o : List (List α)) (i : Nat) (c : List α) (h : i < o.length) : (o.set i c).getD i [] = c := by rw [List.getD_eq_getElem?_getD, List.getElem?_set_self h]; rfl
attribute [local go_sem high] eqA36 eqA38
attribute [local go_sem] cell_alloc in
set_option maxHeartbeats 4000000 in
set_option maxRecDepth 100000 in
theorem pathLines_core (a0 : Option Addr) (c0 : Nat) (l0 : List (List S66)) (w : World) (rd0 : Kd.C (Kd.slice 66 k66) w a0 l0.length l0) (le0 : l0.length ≤ c0) :
    Calls Try.prog 4 #[.slice a0 l0.length c0] w fun e w' => e = .returned (.bool true) ∧ Below w.heap.size w w' := by
  have R0 := Lib.hid rd0; clear rd0
  go_enter Try.func4, Try.ntmps4
  go_wp2_with fail
  refine (pawake_c w).mono ?_
  rintro e w1 ⟨rfl, hb1⟩
  have B1 := Lib.hid hb1; clear hb1
  go_wp2_with fail
  refine (outline_any l0 a0 c0 w1 (Kd.C_below R0.out B1.out) le0).mono ?_
  rintro e w2 ⟨A2, c2, rfl, hs2, hb2⟩
  have hg := olF_good l0
  have GO : Hid ((∀ c ∈ olF l0, c ≠ []) ∧ (olF l0).flatten.length ≤ 64 ∧ (olF l0).length ≤ 8) := Lib.hid ⟨hg.ne, hg.sum, hg.eight⟩
  clear hg
  have S2 := Lib.hid (Kd.S_lower hs2 B1.out.size)
  have B2 := Lib.hid (B1.out.trans (hb2.mono B1.out.size)); clear hs2 hb2
  obtain ⟨N, hN⟩ : ∃ N, (olF l0).length = N := ⟨_, rfl⟩
  rw [hN] at S2
  have HN := Lib.hid hN
  rw [hN]
  clear hN
  have hN8 : N ≤ 8 := by have := GO.out.2.2; have := HN.out; omega
  have hfd : ∀ W : World, (Instr.field 26 (.agg #[.slice A2 N c2]) 0).run Try.prog W = .ok (.slice A2 N c2) W := fun _ => by kernel_rfl
  by_cases hN0 : N = 0
  · subst hN0
    go_wp2_with fail
    go_loopw [15] (fun v15 W => v15 = .int .i64 (0 : Int) ∧ Hid (Below w.heap.size w W)) (fun _ _ => 0)
    case atStart => exact ⟨rfl, B2⟩
    case round =>
      obtain ⟨rfl, HB⟩ := hrel
      go_wp2_with fail
      go_ret
      exact ⟨rfl, HB.out⟩
  · obtain ⟨gO, cO, eO, -, -, -⟩ := Kd.S_form S2.out (by rw [HN.out]; omega)
    have hA : A2 = some ⟨gO, 0, none⟩ := by injection eO
    clear eO
    subst hA
    go_wp2_with fail
    go_loopw [15] (fun v15 W => ∃ (i : Nat) (o : List (List S34)), v15 = .int .i64 i ∧ i ≤ N ∧ Hid (Kd.S (Kd.slice 34 k34) 28 W w.heap.size (fun _ => True) (.slice (some ⟨gO, 0, none⟩) N c2) o) ∧ Hid (o.length = N ∧ ∀ c ∈ o, c ≠ [] ∧ c.length ≤ 64) ∧ Hid (Below w.heap.size w W)) (fun v15 _ => N - (intOf v15).toNat)
    case atStart =>
      refine ⟨0, olF l0, rfl, Nat.zero_le _, S2, Lib.hid ⟨HN.out, fun c hc => ⟨GO.out.1 c hc, ?_⟩⟩, B2⟩
      have := (List.sublist_flatten_of_mem hc).length_le
      have := GO.out.2.1; omega
    case round =>
      obtain ⟨i, o, rfl, hi, HS, HO, HB⟩ := hrel
      by_cases hin : i < N
      · have hii : (i : Int) < (N : Int) := by omega
        obtain ⟨A', ci', y0, y1, y2⟩ := S_inner HS.out i (by rw [HO.out.1]; exact hin)
        have hmem : o[i]'(by rw [HO.out.1]; exact hin) ∈ o := List.getElem_mem _
        obtain ⟨z1, z2⟩ := HO.out.2 _ hmem
        have hpos : 0 < (o[i]'(by rw [HO.out.1]; exact hin)).length := by
          cases h : (o[i]'(by rw [HO.out.1]; exact hin)) with
          | nil => exact absurd h z1
          | cons _ _ => simp
        obtain ⟨g, rfl, -⟩ := y2 hpos
        obtain ⟨n, hn⟩ : ∃ n, (o[i]'(by rw [HO.out.1]; exact hin)).length = n := ⟨_, rfl⟩
        rw [hn] at y0 y1 z2 hpos
        have HNI := Lib.hid hn
        rw [add_plain] at y0
        clear hmem z1 y2 hn
        have hposi : (0 : Int) < (n : Int) := by omega
        have HY := Lib.hid y0
        have HG0 : Hid ((o.getD i []).length = n) := Lib.hid (by rw [List.getD_eq_getElem?_getD, List.getElem?_eq_getElem (by rw [HO.out.1]; exact hin)]; exact HNI.out)
        go_upto_block 2 with fail
        go_cut [21] from 21 to 28 (fun v21 W => ∃ o' : List (List S34), Hid (Kd.S (Kd.slice 34 k34) 28 W w.heap.size (fun _ => True) (.slice (some ⟨gO, 0, none⟩) N c2) o') ∧ Hid (o'.length = N ∧ ∀ c ∈ o', c ≠ [] ∧ c.length ≤ 64) ∧ Hid ((o'.getD i []).length = n) ∧ Hid (∀ v ∈ o'.getD i [], v.f2 = true) ∧ Hid (W.cell? ⟨gO, i, none⟩ = some (.slice (some ⟨g, 0, none⟩) n ci')) ∧ Hid (Below w.heap.size w W))
        case first =>
          -- DEVCUT
          go_wp2_with fail
          go_loopw [21] (fun v21 W => ∃ (k : Nat) (o' : List (List S34)), v21 = .int .i64 k ∧ k ≤ n ∧ Hid (Kd.S (Kd.slice 34 k34) 28 W w.heap.size (fun _ => True) (.slice (some ⟨gO, 0, none⟩) N c2) o') ∧ Hid (o'.length = N ∧ ∀ c ∈ o', c ≠ [] ∧ c.length ≤ 64) ∧ Hid ((o'.getD i []).length = n) ∧ Hid (∀ j, j < k → ((o'.getD i []).getD j z34).f2 = true) ∧ Hid (W.cell? ⟨gO, i, none⟩ = some (.slice (some ⟨g, 0, none⟩) n ci')) ∧ Hid (Below w.heap.size w W)) (fun v21 _ => n - (intOf v21).toNat)
          case atStart => exact ⟨0, o, rfl, Nat.zero_le _, HS, HO, HG0, Lib.hid (fun j hj => absurd hj (by omega)), HY, HB⟩
          case round =>
            obtain ⟨k, o', rfl, hk, HS', HO', HG', HON, HC', HB'⟩ := hrel
            by_cases hkn : k < n
            · have hkk : (k : Int) < (n : Int) := by omega
              have hio : i < o'.length := by rw [HO'.out.1]; exact hin
              have hgd : o'.getD i [] = o'[i] := by rw [List.getD_eq_getElem?_getD, List.getElem?_eq_getElem hio]; rfl
              have hlen : o'[i].length = n := by rw [← hgd]; exact HG'.out
              obtain ⟨A3, c3, t0, t1, t2⟩ := S_inner HS'.out i hio
              rw [add_plain, HC'.out, hlen] at t0
              obtain ⟨g3, eg, hbg, hgl, ⟨cells, hcells⟩, hfr, hel⟩ := t2 (by omega)
              have eg2 : g3 = g := by
                subst eg
                injection t0 with t0
                injection t0 with t0
                injection t0 with t0
                injection t0 with t0
                exact t0.symm
              subst eg2
              obtain ⟨p0, p1, p2, hput⟩ := hel k (by omega)
              have hput2 := hput 2 [.bool true] ⟨o'[i][k].f0, o'[i][k].f1, true⟩ (by simp) rfl
              obtain ⟨gO', cO', eO, -, -, ⟨cellsO, hcellsO⟩⟩ := Kd.S_form HS'.out (by omega)
              have eO2 : gO' = gO := by
                injection eO with eO
                injection eO with eO
                injection eO with eO
                exact eO.symm
              subst eO2
              have hne : gO' ≠ g3 := blk_ne hcellsO hcells (by decide)
              have hf := hfr (k * 3 + 2)
              obtain ⟨vb, hvb⟩ : ∃ vb, o'[i][k].f2 = vb := ⟨_, rfl⟩
              rw [hvb] at p2
              have HPUT := Lib.hid hput2
              have HW : Hid (wr.setCells g3 (k * 3 + 2) [.bool true] = wr.setCell ⟨g3, k * 3 + 2, none⟩ (.bool true)) := Lib.hid rfl
              have HGD := Lib.hid hgd; have HLEN := Lib.hid hlen; have HBG := Lib.hid hbg
              clear hput hput2 p0 p1 hel t0 t1 t2 hcells hcellsO hfr eO hvb hbg eg
              go_wp2_with fail
              go_roundw
              case rel =>
                obtain ⟨u1, u2⟩ := HPUT.out
                rw [HW.out] at u1 u2
                refine ⟨k + 1, _, by go_num, by omega, Lib.hid u1, Lib.hid ⟨by rw [List.length_set]; exact HO'.out.1, fun c hc => ?_⟩, ?_, ?_, Lib.hid (cell_set_ne hne HC'.out), Lib.hid (HB'.out.setCell HBG.out _)⟩
                · rcases List.mem_or_eq_of_mem_set hc with h | h
                  · exact HO'.out.2 c h
                  · have hm := HO'.out.2 _ (List.getElem_mem hio)
                    rw [h, List.length_set]
                    refine ⟨fun h0 => hm.1 ?_, hm.2⟩
                    exact List.eq_nil_of_length_eq_zero (by have := congrArg List.length h0; simpa using this)
                · refine Lib.hid ?_
                  rw [getD_set_self _ _ _ hio, List.length_set]
                  exact HLEN.out
                · refine Lib.hid fun j hj => ?_
                  have hl := HLEN.out
                  rw [getD_set_self _ _ _ hio, List.getD_eq_getElem?_getD, List.getElem?_set]
                  by_cases hjk : k = j
                  · rw [if_pos hjk, if_pos (by omega)]; rfl
                  · rw [if_neg hjk]
                    have := HON.out j (by omega)
                    rw [HGD.out, List.getD_eq_getElem?_getD] at this
                    exact this
              case measure => simp [intOf]; omega
            · have hkk : ¬ (k : Int) < (n : Int) := by omega
              go_wp2_with fail
              go_meet
              case rel =>
                refine ⟨o', HS', HO', HG', Lib.hid fun v hv => ?_, HC', HB'⟩
                obtain ⟨j, hj, rfl⟩ := List.getElem_of_mem hv
                have := HON.out j (by rw [HG'.out] at hj; omega)
                rw [List.getD_eq_getElem?_getD, List.getElem?_eq_getElem hj] at this
                exact this
          -- DEVEND
        case rest =>
          obtain ⟨o', HS', HO', HG', HON, HC', HB'⟩ := hcut
          have hio : i < o'.length := by rw [HO'.out.1]; exact hin
          obtain ⟨A4, c4, t0, t1, t2⟩ := inner_reads HS'.out i hio
          rw [add_plain, HC'.out, HG'.out] at t0
          have e4 : A4 = some ⟨g, 0, none⟩ := by injection t0 with t0; injection t0 with t0; exact t0.symm
          have e5 : c4 = ci' := by injection t0 with t0; injection t0 with _ _ t0; exact t0.symm
          subst e4; subst e5
          obtain ⟨cc, hcc⟩ : ∃ cc, o'.getD i [] = cc := ⟨_, rfl⟩
          rw [hcc] at t2
          have hlc : cc.length = n := by rw [← hcc]; exact HG'.out
          have hon : ∀ v ∈ cc, v.f2 = true := by rw [← hcc]; exact HON.out
          obtain ⟨hsl, hsk⟩ := seg_lines cc hon
          have hseg := segs_c (some ⟨g, 0, none⟩) c4 cc wc t2 (by rw [hlc]; exact y1) (by omega)
          rw [hlc] at hseg hsl
          have HRC : Hid (Kd.C k34 wc (some ⟨g, 0, none⟩) cc.length cc) := Lib.hid t2
          have HLC := Lib.hid hlc; have HSL := Lib.hid hsl; have HSK := Lib.hid hsk; have HSEG := Lib.hid hseg
          clear t0 t1 t2 hcc hlc hon hsl hsk hseg
          go_wp2_with fail
          refine HSEG.out.mono ?_
          rintro e w5 ⟨u, rfl, ho5, hb5⟩
          obtain ⟨A5, c5, e5, hl5, hr5⟩ := Kd.R_reads ho5
          rw [HSL.out] at e5
          subst e5
          obtain ⟨ad5, hA5⟩ : ∃ ad5, A5 = some ad5 := by
            obtain ⟨ad, e, _⟩ := at_T38 hr5 0 (by omega) (by have := HSL.out; omega)
            exact ⟨ad, e⟩
          subst hA5
          have HR5 := Lib.hid hr5
          have HS5 := Lib.hid (Kd.S_below HS'.out hb5)
          have HB5 := Lib.hid (below_step HB'.out hb5)
          have HRC5 := Lib.hid (Kd.C_below HRC.out hb5)
          clear hr5 ho5 hb5 hl5 HRC HSEG HS' HB' HC'
          have hnn : ((n : Int) == (n : Int)) = true := by simp
          go_wp2_with fail
          go_loopw [38] (fun v38 W => ∃ k : Nat, v38 = .int .i64 k ∧ k ≤ n ∧ Hid (Below w5.heap.size w5 W)) (fun v38 _ => n - (intOf v38).toNat)
          case atStart => exact ⟨0, rfl, Nat.zero_le _, Lib.hid (Below.refl _ _)⟩
          case round =>
            obtain ⟨k, rfl, hk, HBk⟩ := hrel
            by_cases hkn : k < n
            · have hkk : (k : Int) < (n : Int) := by omega
              obtain ⟨C, hC⟩ := HSK.out k (by rw [HLC.out]; exact hkn)
              obtain ⟨p0, p1, p2, p3, p4, p5, p6⟩ := seg_at (Kd.C_below HR5.out HBk.out) k (by rw [HSL.out]; exact hkn)
              rw [hC] at p0 p1 p2 p3 p4 p5 p6
              obtain ⟨v, hv⟩ : ∃ v, cc.getD k z34 = v := ⟨_, rfl⟩
              rw [hv] at p0 p1 p2 p3
              have hb1 := below_alloc (Below.refl _ wr) (.cells #[.int .i64 (at2 v).f0, .int .i64 (at2 v).f1, .int .i64 (at2 v).f0, .int .i64 (at2 v).f1, .int .i64 C.f0, .int .i64 C.f1, .bool false] 38)
              obtain ⟨r0, r1, -⟩ := vert_at (Kd.C_below (Kd.C_below HRC5.out HBk.out) hb1) k (by rw [HLC.out]; exact hkn)
              rw [hv] at r0 r1
              simp only [add_plain] at r0 r1
              have HB1 := Lib.hid (below_step HBk.out hb1)
              clear hC hv hb1
              go_upto_region 17 with (fail)
              have g0 := heap_alloc_new wr (.cells #[.int .i64 (at2 v).f0, .int .i64 (at2 v).f1, .int .i64 (at2 v).f0, .int .i64 (at2 v).f1, .int .i64 C.f0, .int .i64 C.f1, .bool false] 38)
              generalize wr.alloc (.cells #[.int .i64 (at2 v).f0, .int .i64 (at2 v).f1, .int .i64 (at2 v).f0, .int .i64 (at2 v).f1, .int .i64 C.f0, .int .i64 C.f1, .bool false] 38) = W1 at *
              obtain ⟨vx, vy, vo⟩ := v
              have s0 : W1.cell? ⟨wr.heap.size, 0, none⟩ = some (.int .i64 (wrap64 (2 * vx))) := (blk_cell g0 0).trans rfl
              have s1 : W1.cell? ⟨wr.heap.size, 1, none⟩ = some (.int .i64 (wrap64 (2 * vy))) := (blk_cell g0 1).trans rfl
              have s2 : W1.cell? ⟨wr.heap.size, 2, none⟩ = some (.int .i64 (wrap64 (2 * vx))) := (blk_cell g0 2).trans rfl
              have s3 : W1.cell? ⟨wr.heap.size, 3, none⟩ = some (.int .i64 (wrap64 (2 * vy))) := (blk_cell g0 3).trans rfl
              have s6 : W1.cell? ⟨wr.heap.size, 6, none⟩ = some (.bool false) := (blk_cell g0 6).trans rfl
              clear p0 p1 p2 p3 p4 p5 p6 g0
              generalize wr.heap.size = bV at *
              go_wp2_with fail
              go_quiet (fail)
              go_wp2_with fail
              go_roundw
              case rel => exact ⟨k + 1, by go_num, by omega, Lib.hid (pw_below_drewN HB1.out nq)⟩
              case measure => simp [intOf]; omega
            · have hkk : ¬ (k : Int) < (n : Int) := by omega
              go_wp2_with fail
              go_roundw
              case rel => exact ⟨i + 1, o', by go_num, (by omega), Lib.hid (Kd.S_below HS5.out HBk.out), HO', Lib.hid (below_step HB5.out HBk.out)⟩
              case measure => simp [intOf]; omega
      · have hii : ¬ (i : Int) < (N : Int) := by omega
        go_wp2_with fail
        go_ret
        exact ⟨rfl, HB.out⟩
end Go.Proofs.Ytjealbaomhjoaaa
