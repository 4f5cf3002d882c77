/- PathMove: the walk. -/
import Derived.Test.YtjealbaomhjoaaaPLines
import Derived.Test.YtjealbaomhjoaaaPMoveM
set_option linter.unusedVariables false
set_option linter.unusedSimpArgs false
namespace Go.Proofs.Ytjealbaomhjoaaa
open Go.RowKit Go.Proofs.Ytjealbaomhjoaaa.G Go.Proofs.YtjealbaomhjoaaaW.PrintWords Go.Proofs.YtjealbaomhjoaaaW.PrintMore
def nv (v : S34) : S34 := ⟨Int.tdiv v.f0 3, Int.tdiv v.f1 3, v.f2⟩
theorem cyc_len (c : List S34) : ∀ (n i : Nat), (cyc c i n).length = n
  | 0, i => rfl
  | n + 1, i => by rw [cyc, List.length_cons, cyc_len c n]
theorem segF_len (c : List S34) : (segF c).length ≤ c.length + 1 := by
  unfold segF
  split
  · simp
  · split
    · have := stS_len (cyc c (fiOn c + 1) (c.length - 1)) (at2 (c.getD (fiOn c) z34)) [] none
      rw [cyc_len] at this
      simp [finS] at this ⊢; omega
    · have := stS_len (cyc c c.length c.length) (half2 (c.getD (c.length - 1) z34) (c.getD 0 z34)) [] none
      rw [cyc_len] at this
      simp [finS] at this ⊢; omega
theorem segF_pos (c : List S34) (h : c ≠ []) : 0 < (segF c).length := by
  unfold segF
  rw [if_neg h]
  split <;> simp [finS]
theorem tdiv_b (x : Int) (h0 : -255 ≤ x) (h1 : x ≤ 255) : -85 ≤ Int.tdiv x 3 ∧ Int.tdiv x 3 ≤ 85 := by
  rcases Int.le_total 0 x with h | h
  · rw [Int.tdiv_eq_ediv_of_nonneg h]; omega
  · have e : Int.tdiv x 3 = -(Int.tdiv (-x) 3) := by rw [Int.neg_tdiv, Int.neg_neg]
    rw [e, Int.tdiv_eq_ediv_of_nonneg (by omega)]; omega
theorem okV_b {v : S34} (h : okV v = true) : (-255 ≤ v.f0 ∧ v.f0 ≤ 255) ∧ (-255 ≤ v.f1 ∧ v.f1 ≤ 255) := by
  simp [okV] at h; omega
attribute [local go_sem high] eqA36 eqA38
attribute [local go_sem] cell_alloc in
set_option maxHeartbeats 4000000 in
set_option maxRecDepth 100000 in
theorem pathMove_core (a0 : Option Addr) (c0 : Nat) (l0 : List (List S66)) (dx dy : Int) (w : World) (rd0 : Kd.C (Kd.slice 66 k66) w a0 l0.length l0) (le0 : l0.length ≤ c0) (hx : -128 ≤ dx ∧ dx ≤ 127) (hy : -128 ≤ dy ∧ dy ≤ 127) :
    Calls Try.prog 6 #[.slice a0 l0.length c0, .int .i8 dx, .int .i8 dy] w fun e w' => e = .returned (.bool true) ∧ Below w.heap.size w w' := by
  have R0 := Lib.hid rd0; clear rd0
  go_enter Try.func6, Try.ntmps6
  go_wp2_with fail
  have n4 := heap_alloc_new w (.cells #[.int .i8 dx] 40)
  have n5 := heap_alloc_new (w.alloc (.cells #[.int .i8 dx] 40)) (.cells #[.int .i8 dy] 40)
  rw [World.size_alloc] at n5
  have k1 := below_alloc (Below.refl _ (w.alloc (.cells #[.int .i8 dx] 40))) (.cells #[.int .i8 dy] 40)
  have G4 := Lib.hid (blk_below n4 k1)
  have G5 := Lib.hid n5
  have B0 := Lib.hid (below_step (below_alloc (Below.refl _ w) (.cells #[.int .i8 dx] 40)) k1)
  clear n4 n5 k1
  generalize (w.alloc (.cells #[.int .i8 dx] 40)).alloc (.cells #[.int .i8 dy] 40) = wA at *
  refine (pawake_c wA).mono ?_
  rintro e w1 ⟨rfl, hb1⟩
  have B1 := Lib.hid (below_step B0.out hb1)
  have G41 := Lib.hid (blk_below G4.out hb1)
  have G51 := Lib.hid (blk_below G5.out hb1)
  clear hb1 G4 G5 B0
  go_wp2_with fail
  refine (outline_any l0 a0 c0 w1 (Kd.C_below R0.out B1.out) le0).mono ?_
  rintro e w2 ⟨A2, c2, rfl, hs2, hb2⟩
  have hg := olF_good l0
  have GO : Hid ((∀ c ∈ olF l0, c ≠ [] ∧ c.length ≤ 64 ∧ ∀ v ∈ c, okV v = true) ∧ (olF l0).length ≤ 8) := Lib.hid ⟨fun c hc => ⟨hg.ne c hc, Nat.le_trans (List.sublist_flatten_of_mem hc).length_le hg.sum, hg.ok c hc⟩, hg.eight⟩
  clear hg
  have hz1 := B1.out.size
  have S2 := Lib.hid (Kd.S_lower hs2 hz1)
  have B2 := Lib.hid (below_step B1.out hb2)
  have G42 := Lib.hid (blk_below G41.out hb2)
  have G52 := Lib.hid (blk_below G51.out hb2)
  clear hs2 hb2 hz1 G41 G51 B1
  obtain ⟨N, hN⟩ : ∃ N, (olF l0).length = N := ⟨_, rfl⟩
  rw [hN] at S2
  have HN := Lib.hid hN
  rw [hN]
  clear hN
  have hN8 : N ≤ 8 := by have := GO.out.2; have := HN.out; omega
  have hfd : ∀ W : World, (Instr.field 26 (.agg #[.slice A2 N c2]) 0).run Try.prog W = .ok (.slice A2 N c2) W := fun _ => by kernel_rfl
  by_cases hN0 : N = 0
  · subst hN0
    go_wp2_with fail
    go_loopw [24] (fun v24 W => v24 = .int .i64 (0 : Int) ∧ Hid (Below w.heap.size w W)) (fun _ _ => 0)
    case atStart => exact ⟨rfl, B2⟩
    case round =>
      obtain ⟨rfl, HB⟩ := hrel
      go_wp2_with fail
      go_ret
      exact ⟨rfl, HB.out⟩
  · obtain ⟨gO, cO, eO, -, -, -⟩ := Kd.S_form S2.out (by rw [HN.out]; omega)
    have hA : A2 = some ⟨gO, 0, none⟩ := by injection eO
    clear eO
    subst hA
    go_wp2_with fail
    go_loopw [24] (fun v24 W => ∃ i : Nat, v24 = .int .i64 i ∧ i ≤ N ∧ Hid (Below w2.heap.size w2 W)) (fun v24 _ => N - (intOf v24).toNat)
    case atStart => exact ⟨0, rfl, Nat.zero_le _, Lib.hid (Below.refl _ _)⟩
    case round =>
      obtain ⟨i, rfl, hi, HB⟩ := hrel
      by_cases hin : i < N
      · have hii : (i : Int) < (N : Int) := by omega
        have hio : i < (olF l0).length := by rw [HN.out]; exact hin
        obtain ⟨A, ci, x0, x1, x2⟩ := inner_reads (Kd.S_below S2.out HB.out) i hio
        have hmem : (olF l0).getD i [] ∈ olF l0 := by rw [List.getD_eq_getElem?_getD, List.getElem?_eq_getElem hio]; exact List.getElem_mem _
        obtain ⟨c, hc⟩ : ∃ c, (olF l0).getD i [] = c := ⟨_, rfl⟩
        rw [hc] at x0 x1 x2 hmem
        obtain ⟨z1, z2, z3⟩ := GO.out.1 c hmem
        obtain ⟨n, hn⟩ : ∃ n, c.length = n := ⟨_, rfl⟩
        have hpos : 0 < n := by rw [← hn]; exact List.length_pos_iff.2 z1
        obtain ⟨ac, hac⟩ : ∃ ac, A = some ac := by
          obtain ⟨ad, e, _⟩ := at_T34 x2 0 (by omega) (by omega)
          exact ⟨ad, e⟩
        subst hac
        have RC := Lib.hid x2
        rw [hn] at x0 x1 z2
        rw [add_plain] at x0
        have HNC := Lib.hid hn
        have HOK := Lib.hid z3
        clear x2 hmem hc z1 z3 hn hio
        obtain ⟨wi, rfl⟩ : ∃ x : World, x = wr := ⟨_, rfl⟩
        go_wp2_with fail
        go_loopw [9, 10, 30] (fun v9 v10 v30 W => ∃ (k : Nat) (uf un : Value), v30 = .int .i64 k ∧ k ≤ n ∧ v9 = uf ∧ v10 = un ∧ Hid (Kd.R k34 34 W wi.heap.size (fun _ => True) un ((c.take k).map nv)) ∧ Hid (Kd.R k34 34 W wi.heap.size (fun _ => True) uf (((c.take k).map nv).map (shV dx dy))) ∧ Hid (∀ q, un.ownBlock = some q → uf.ownBlock ≠ some q) ∧ Hid (Below wi.heap.size wi W)) (fun _ _ v30 _ => n - (intOf v30).toNat)
        case atStart => exact ⟨0, _, _, rfl, Nat.zero_le _, rfl, rfl, Lib.hid (Kd.R_nil _ _ _ _ _), Lib.hid (Kd.R_nil _ _ _ _ _), Lib.hid (fun q hq => by simp [Value.ownBlock] at hq), Lib.hid (Below.refl _ _)⟩
        case round =>
          obtain ⟨k, uf, un, rfl, hk, rfl, rfl, HN2, HF2, HA2, HB2⟩ := hrel
          have hB2 := below_step HB.out HB2.out
          by_cases hkn : k < n
          · have hkk : (k : Int) < (n : Int) := by omega
            obtain ⟨q0, q1, q2⟩ := vert_at (Kd.C_below RC.out HB2.out) k (by rw [HNC.out]; exact hkn)
            obtain ⟨v, hv⟩ : ∃ v, c.getD k z34 = v := ⟨_, rfl⟩
            have hvc : c[k]'(by rw [HNC.out]; exact hkn) = v := by rw [← hv, List.getD_eq_getElem?_getD, List.getElem?_eq_getElem (by rw [HNC.out]; exact hkn)]; rfl
            have htk : c.take (k + 1) = c.take k ++ [v] := by rw [List.take_add_one, List.getElem?_eq_getElem (by rw [HNC.out]; exact hkn), hvc]; rfl
            have hbv := okV_b (HOK.out v (hvc ▸ List.getElem_mem _))
            rw [hv] at q0 q1 q2
            obtain ⟨vx, vy, vo⟩ := v
            have HTK := Lib.hid htk
            have hlk : ((c.take k).map nv).length = k := by rw [List.length_map, List.length_take, HNC.out]; omega
            have hlk2 : (((c.take k).map nv).map (shV dx dy)).length = k := by rw [List.length_map]; exact hlk
            obtain ⟨An, cn, en⟩ := Kd.R_slice HN2.out
            obtain ⟨Af, cf, ef⟩ := Kd.R_slice HF2.out
            rw [hlk] at en; rw [hlk2] at ef
            subst en; subst ef
            have HLK := Lib.hid hlk; have HLK2 := Lib.hid hlk2
            obtain ⟨⟨hb1, hb2⟩, hb3, hb4⟩ := hbv
            obtain ⟨qx, hqx⟩ : ∃ qx, Int.tdiv vx 3 = qx := ⟨_, rfl⟩
            obtain ⟨qy, hqy⟩ : ∃ qy, Int.tdiv vy 3 = qy := ⟨_, rfl⟩
            have bx : -85 ≤ qx ∧ qx ≤ 85 := by rw [← hqx]; exact tdiv_b vx hb1 hb2
            have bY : -85 ≤ qy ∧ qy ≤ 85 := by rw [← hqy]; exact tdiv_b vy hb3 hb4
            have HQ : Hid (nv ⟨vx, vy, vo⟩ = ⟨qx, qy, vo⟩) := Lib.hid (by simp only [nv, hqx, hqy])
            obtain ⟨bx1, bx2⟩ := bx; obtain ⟨by1, by2⟩ := bY
            have hwx : IntKind.i64.wrap qx = qx := by rw [IntKind.wrap_i64]; omega
            have hwy : IntKind.i64.wrap qy = qy := by rw [IntKind.wrap_i64]; omega
            clear hv hvc htk hlk hlk2
            go_upto_region 10 with (fail)
            have al := below_alloc (Below.refl _ wr) (.cells #[.int .i64 vx, .int .i64 vy, .bool vo] 34)
            have g0 := heap_alloc_new wr (.cells #[.int .i64 vx, .int .i64 vy, .bool vo] 34)
            have HNB : Hid (∀ q, (Value.slice An k cn).ownBlock = some q → q ≠ wr.heap.size) := Lib.hid (fun q hq e => by obtain ⟨inner, ho⟩ := Kd.R_own HN2.out; have := own_lt ho q hq; omega)
            have HFB : Hid (∀ q, (Value.slice Af k cf).ownBlock = some q → q ≠ wr.heap.size) := Lib.hid (fun q hq e => by obtain ⟨inner, ho⟩ := Kd.R_own HF2.out; have := own_lt ho q hq; omega)
            have HN3 := Lib.hid (Kd.R_below HN2.out al)
            have HF3 := Lib.hid (Kd.R_below HF2.out al)
            have HB3 := Lib.hid (below_step HB2.out al)
            have GX := Lib.hid (blk_below (blk_below G42.out hB2) al)
            have GY := Lib.hid (blk_below (blk_below G52.out hB2) al)
            clear q0 q1 q2 al hB2 HN2 HF2 HB2
            generalize wr.alloc (.cells #[.int .i64 vx, .int .i64 vy, .bool vo] 34) = W1 at *
            generalize wr.heap.size = bV at *
            have HG := Lib.hid g0; clear g0
            have s0 : W1.cell? ⟨bV, 0, none⟩ = some (.int .i64 vx) := (blk_cell HG.out 0).trans rfl
            have s1 : W1.cell? ⟨bV, 1, none⟩ = some (.int .i64 vy) := (blk_cell HG.out 1).trans rfl
            have s2 : W1.cell? ⟨bV, 2, none⟩ = some (.bool vo) := (blk_cell HG.out 2).trans rfl
            go_upto_region 11 with (at_builtin; refine Kd.R_append k34 (w0 := wi) wi.heap.size rfl (.tmp 34) (.tmp 44) 28 34 _ 24 rfl Try.underlying28 info34 rfl (by decide) (by omega) (.slice An k cn) ((c.take k).map nv) ⟨qx, qy, vo⟩ [.int .i64 qx, .int .i64 qy, .bool vo] (fun _ => True) (fun _ => False) rfl rfl ?aP (fun _ hk => hk.elim) (fun _ _ => trivial) HN3.out HB3.out HB3.out.size ?aL ?_; (case aP => exact k34_mkM _ _ _ ⟨qx, qy, vo⟩); (case aL => rw [HLK.out]; omega); intro v1 w4 ho hb hg hat; have n1 := Lib.hid ho; have n2 := Lib.hid (R34_keep HF3.out hg (fun q hq he => HA2.out q he.symm hq)); have n3 : Hid (∀ q, v1.ownBlock = some q → (Value.slice Af k cf).ownBlock ≠ some q) := Lib.hid (by
              intro q hq he
              rcases hat with h | ⟨b, h, hb'⟩
              · exact HA2.out q (h ▸ hq) he
              · obtain ⟨inner, hown⟩ := Kd.R_own HF3.out
                have := own_lt hown q he
                rw [h] at hq; injection hq with hq; omega); have n4 := Lib.hid (blk_grown HG.out hg (fun e => HNB.out bV e.symm rfl)); have n5 := Lib.hid (blk_grown GX.out hg (Kd.R_ne HN3.out GX.out (by decide))); have n6 := Lib.hid (blk_grown GY.out hg (Kd.R_ne HN3.out GY.out (by decide))); have n7 := Lib.hid hb; clear ho hb hg hat)
            have s0 : w4.cell? ⟨bV, 0, none⟩ = some (.int .i64 vx) := (blk_cell n4.out 0).trans rfl
            have s1 : w4.cell? ⟨bV, 1, none⟩ = some (.int .i64 vy) := (blk_cell n4.out 1).trans rfl
            have s2 : w4.cell? ⟨bV, 2, none⟩ = some (.bool vo) := (blk_cell n4.out 2).trans rfl
            have s3 : w4.cell? ⟨w.heap.size, 0, none⟩ = some (.int .i8 dx) := (blk_cell n5.out 0).trans rfl
            have s4 : w4.cell? ⟨w.heap.size + 1, 0, none⟩ = some (.int .i8 dy) := (blk_cell n6.out 0).trans rfl
            go_wp2_with (at_builtin; refine Kd.R_append k34 (w0 := wi) wi.heap.size rfl (.tmp 46) (.tmp 62) 28 34 _ 24 rfl Try.underlying28 info34 rfl (by decide) (by omega) (.slice Af k cf) (((c.take k).map nv).map (shV dx dy)) ⟨qx + dx, qy + dy, vo⟩ [.int .i64 (qx + dx), .int .i64 (qy + dy), .bool vo] (fun _ => True) (fun _ => False) rfl rfl ?aP (fun _ hk => hk.elim) (fun _ _ => trivial) n2.out n7.out n7.out.size ?aL ?_; (case aP => exact k34_mkM _ _ _ ⟨qx + dx, qy + dy, vo⟩); (case aL => rw [HLK2.out]; omega); intro v2 w5 ho hb hg hat; have m1 := Lib.hid ho; have m2 := Lib.hid (R34_keep n1.out hg (fun q hq he => n3.out q hq he.symm)); have m3 : Hid (∀ q, v1.ownBlock = some q → v2.ownBlock ≠ some q) := Lib.hid (by
              intro q hq he
              rcases hat with h | ⟨b, h, hb'⟩
              · exact n3.out q hq (h ▸ he)
              · obtain ⟨inner, hown⟩ := Kd.R_own n1.out
                have := own_lt hown q hq
                rw [h] at he; injection he with he; omega); have m4 := Lib.hid hb; clear ho hb hg hat)
            go_roundw
            case rel =>
              have e1 : (c.take (k + 1)).map nv = (c.take k).map nv ++ [⟨qx, qy, vo⟩] := by rw [HTK.out, List.map_append, List.map_singleton, HQ.out]
              have e2 : shV dx dy ⟨qx, qy, vo⟩ = ⟨qx + dx, qy + dy, vo⟩ := by
                have f1 : wrap64 (qx + dx) = qx + dx := by unfold wrap64; omega
                have f2 : wrap64 (qy + dy) = qy + dy := by unfold wrap64; omega
                simp only [shV, f1, f2]
              refine ⟨k + 1, v2, v1, by go_num, by omega, rfl, rfl, Lib.hid (by rw [e1]; exact m2.out), Lib.hid (by rw [e1, List.map_append, List.map_singleton, e2]; exact m1.out), m3, m4⟩
            case measure => simp [intOf]; omega
          · have hkk : ¬ (k : Int) < (n : Int) := by omega
            have hck : c.take k = c := List.take_of_length_le (by rw [HNC.out]; omega)
            rw [hck] at HN2 HF2
            obtain ⟨nr, hnr⟩ : ∃ nr, c.map nv = nr := ⟨_, rfl⟩
            rw [hnr] at HN2 HF2
            have hlr : nr.length = n := by rw [← hnr, List.length_map]; exact HNC.out
            obtain ⟨An, cn, en, ln, rn⟩ := Kd.R_reads HN2.out
            obtain ⟨Af, cf, ef, lf, rf⟩ := Kd.R_reads HF2.out
            rw [List.length_map, hlr] at ef lf
            rw [hlr] at en ln
            subst en; subst ef
            have RF := Lib.hid rf
            have HLR := Lib.hid hlr
            have sn := segs_c An cn nr wr rn (by rw [hlr]; exact ln) (by omega)
            rw [hlr] at sn
            have SN := Lib.hid sn
            clear hck hnr hlr rn rf sn HN2 HF2 HA2
            go_wp2_with fail
            refine SN.out.mono ?_
            rintro e w5 ⟨u5, rfl, ho5, hb5⟩
            have O5 := Lib.hid ho5
            have B5 := Lib.hid (below_step hB2 hb5)
            have hz5 := (below_step HB2.out hb5).size
            have RF5 := Lib.hid (Kd.C_below RF.out hb5)
            clear ho5 hb5 SN RF hB2 HB2
            have sf := segs_c Af cf (nr.map (shV dx dy)) w5 RF5.out (by rw [List.length_map, HLR.out]; exact lf) (by rw [List.length_map, HLR.out]; omega)
            rw [List.length_map, HLR.out, seg_move] at sf
            have SF := Lib.hid sf; clear sf RF5
            go_wp2_with fail
            refine SF.out.mono ?_
            rintro e w6 ⟨u6, rfl, ho6, hb6⟩
            obtain ⟨aA, ca, ea, la, ra⟩ := Kd.R_reads (Kd.R_below O5.out hb6)
            obtain ⟨aB, cb, eb, lb, rb⟩ := Kd.R_reads ho6
            subst ea; subst eb
            obtain ⟨sg, hsg⟩ : ∃ sg, segF nr = sg := ⟨_, rfl⟩
            rw [hsg] at ra rb
            rw [hsg]
            obtain ⟨M, hM⟩ : ∃ M, sg.length = M := ⟨_, rfl⟩
            have hMn : M ≤ n + 1 := by rw [← hM, ← hsg]; have := segF_len nr; rw [HLR.out] at this; exact this
            have hMp : 0 < M := by rw [← hM, ← hsg]; exact segF_pos nr (fun h => by have := HLR.out; rw [h] at this; simp at this; omega)
            have hMb : (sg.map (shS dx dy)).length = M := by rw [List.length_map]; exact hM
            rw [hM, hMb]
            have HM := Lib.hid hM; have HMb := Lib.hid hMb
            have RA := Lib.hid ra; have RB := Lib.hid rb
            have B6 := Lib.hid (below_step B5.out hb6)
            clear ra rb hM hMb hsg la lb ho6 hb6 O5 B5 SF
            obtain ⟨adA, hadA⟩ : ∃ ad, aA = some ad := by
              obtain ⟨ad, e, _⟩ := at_T38 RA.out 0 (by omega) (by have := HM.out; omega)
              exact ⟨ad, e⟩
            obtain ⟨adB, hadB⟩ : ∃ ad, aB = some ad := by
              obtain ⟨ad, e, _⟩ := at_T38 RB.out 0 (by omega) (by have := HMb.out; omega)
              exact ⟨ad, e⟩
            subst hadA; subst hadB
            have hMM : ((M : Int) == (M : Int)) = true := by simp
            have G46 := Lib.hid (blk_below G42.out B6.out)
            have G56 := Lib.hid (blk_below G52.out B6.out)
            go_wp2_with fail
            go_loopw [77] (fun v77 W => ∃ k : Nat, v77 = .int .i64 k ∧ k ≤ M ∧ Hid (Below w6.heap.size w6 W)) (fun v77 _ => M - (intOf v77).toNat)
            case atStart => exact ⟨0, rfl, Nat.zero_le _, Lib.hid (Below.refl _ _)⟩
            case round =>
              obtain ⟨k, rfl, hk3, HB7⟩ := hrel
              by_cases hkM : k < M
              · have hkk3 : (k : Int) < (M : Int) := by omega
                obtain ⟨p0, p1, p2, p3, p4, p5, p6⟩ := seg_at (Kd.C_below RA.out HB7.out) k (by rw [HM.out]; exact hkM)
                obtain ⟨t, ht⟩ : ∃ t, sg.getD k z38 = t := ⟨_, rfl⟩
                have htb : (sg.map (shS dx dy)).getD k z38 = shS dx dy t := by rw [← ht, List.getD_eq_getElem?_getD, List.getD_eq_getElem?_getD, List.getElem?_map, List.getElem?_eq_getElem (by rw [HM.out]; exact hkM)]; rfl
                rw [ht] at p0 p1 p2 p3 p4 p5 p6
                obtain ⟨⟨x0, y0⟩, ⟨x1, y1⟩, ⟨x2, y2⟩, fc⟩ := t
                have al := below_alloc (Below.refl _ wr) (.cells #[.int .i64 x0, .int .i64 y0, .int .i64 x1, .int .i64 y1, .int .i64 x2, .int .i64 y2, .bool fc] 38)
                have g0 := heap_alloc_new wr (.cells #[.int .i64 x0, .int .i64 y0, .int .i64 x1, .int .i64 y1, .int .i64 x2, .int .i64 y2, .bool fc] 38)
                obtain ⟨r0, r1, r2, r3, r4, r5, r6⟩ := seg_at (Kd.C_below (Kd.C_below RB.out HB7.out) al) k (by rw [HMb.out]; exact hkM)
                rw [htb] at r0 r1 r2 r3 r4 r5 r6
                have HB8 := Lib.hid (below_step HB7.out al)
                have GX := Lib.hid (blk_below (blk_below G46.out HB7.out) al)
                have GY := Lib.hid (blk_below (blk_below G56.out HB7.out) al)
                clear ht htb al
                go_upto_region 20 with (fail)
                generalize wr.alloc (.cells #[.int .i64 x0, .int .i64 y0, .int .i64 x1, .int .i64 y1, .int .i64 x2, .int .i64 y2, .bool fc] 38) = W1 at *
                generalize wr.heap.size = bV at *
                have s0 : W1.cell? ⟨bV, 0, none⟩ = some (.int .i64 x0) := (blk_cell g0 0).trans rfl
                have R0 : W1.cell? (adB.add (k * 7)) = some (.int .i64 (shP dx dy ⟨x0, y0⟩).f0) := r0
                have s1 : W1.cell? ⟨bV, 1, none⟩ = some (.int .i64 y0) := (blk_cell g0 1).trans rfl
                have R1 : W1.cell? ⟨(adB.add (k * 7)).block, (adB.add (k * 7)).off + 1, none⟩ = some (.int .i64 (shP dx dy ⟨x0, y0⟩).f1) := r1
                have s2 : W1.cell? ⟨bV, 2, none⟩ = some (.int .i64 x1) := (blk_cell g0 2).trans rfl
                have R2 : W1.cell? ⟨(adB.add (k * 7)).block, (adB.add (k * 7)).off + 2, none⟩ = some (.int .i64 (shP dx dy ⟨x1, y1⟩).f0) := r2
                have s3 : W1.cell? ⟨bV, 3, none⟩ = some (.int .i64 y1) := (blk_cell g0 3).trans rfl
                have R3 : W1.cell? ⟨(adB.add (k * 7)).block, (adB.add (k * 7)).off + 3, none⟩ = some (.int .i64 (shP dx dy ⟨x1, y1⟩).f1) := r3
                have s4 : W1.cell? ⟨bV, 4, none⟩ = some (.int .i64 x2) := (blk_cell g0 4).trans rfl
                have R4 : W1.cell? ⟨(adB.add (k * 7)).block, (adB.add (k * 7)).off + 4, none⟩ = some (.int .i64 (shP dx dy ⟨x2, y2⟩).f0) := r4
                have s5 : W1.cell? ⟨bV, 5, none⟩ = some (.int .i64 y2) := (blk_cell g0 5).trans rfl
                have R5 : W1.cell? ⟨(adB.add (k * 7)).block, (adB.add (k * 7)).off + 5, none⟩ = some (.int .i64 (shP dx dy ⟨x2, y2⟩).f1) := r5
                have s6 : W1.cell? ⟨bV, 6, none⟩ = some (.bool fc) := (blk_cell g0 6).trans rfl
                have R6 : W1.cell? ⟨(adB.add (k * 7)).block, (adB.add (k * 7)).off + 6, none⟩ = some (.bool fc) := r6
                clear p0 p1 p2 p3 p4 p5 p6 r0 r1 r2 r3 r4 r5 r6 g0
                go_region_held3 (fun w' => Below W1.heap.size W1 w' ∧ w'.cell? (adB.add (k * 7)) = some (.int .i64 (shP dx dy ⟨x0, y0⟩).f0) ∧ w'.cell? ⟨(adB.add (k * 7)).block, (adB.add (k * 7)).off + 1, none⟩ = some (.int .i64 (shP dx dy ⟨x0, y0⟩).f1) ∧ w'.cell? ⟨(adB.add (k * 7)).block, (adB.add (k * 7)).off + 2, none⟩ = some (.int .i64 (shP dx dy ⟨x1, y1⟩).f0) ∧ w'.cell? ⟨(adB.add (k * 7)).block, (adB.add (k * 7)).off + 3, none⟩ = some (.int .i64 (shP dx dy ⟨x1, y1⟩).f1) ∧ w'.cell? ⟨(adB.add (k * 7)).block, (adB.add (k * 7)).off + 4, none⟩ = some (.int .i64 (shP dx dy ⟨x2, y2⟩).f0) ∧ w'.cell? ⟨(adB.add (k * 7)).block, (adB.add (k * 7)).off + 5, none⟩ = some (.int .i64 (shP dx dy ⟨x2, y2⟩).f1) ∧ w'.cell? ⟨(adB.add (k * 7)).block, (adB.add (k * 7)).off + 6, none⟩ = some (.bool fc) ∧ w'.cell? ⟨bV, 0, none⟩ = some (.int .i64 x0) ∧ w'.cell? ⟨bV, 1, none⟩ = some (.int .i64 y0) ∧ w'.cell? ⟨bV, 2, none⟩ = some (.int .i64 x1) ∧ w'.cell? ⟨bV, 3, none⟩ = some (.int .i64 y1) ∧ w'.cell? ⟨bV, 4, none⟩ = some (.int .i64 x2) ∧ w'.cell? ⟨bV, 5, none⟩ = some (.int .i64 y2) ∧ w'.cell? ⟨bV, 6, none⟩ = some (.bool fc)) (((try go_split_ands); refine ⟨?_, ?_, ?_, ?_, ?_, ?_, ?_, ?_, ?_, ?_, ?_, ?_, ?_, ?_, ?_⟩ <;> first | assumption | exact below_drew (Below.refl _ _) | exact below_step (by assumption) hb9 | exact pw_cell_below hb9 (by assumption))) (first
                  | (go_at_call 20; ((with_reducible refine (m_c dx dy w.heap.size (w.heap.size + 1) ⟨x0, y0⟩ _ ?_ ?_ hx hy).mono ?_); (exact blk_below GX.out (by first | assumption | exact (show _ ∧ _ from by assumption).1 | exact below_drew (Below.refl _ _))); (exact blk_below GY.out (by first | assumption | exact (show _ ∧ _ from by assumption).1 | exact below_drew (Below.refl _ _))); rintro e w' ⟨rfl, hb9⟩))
                  | (go_at_call 20; ((with_reducible refine (m_c dx dy w.heap.size (w.heap.size + 1) ⟨x1, y1⟩ _ ?_ ?_ hx hy).mono ?_); (exact blk_below GX.out (by first | assumption | exact (show _ ∧ _ from by assumption).1 | exact below_drew (Below.refl _ _))); (exact blk_below GY.out (by first | assumption | exact (show _ ∧ _ from by assumption).1 | exact below_drew (Below.refl _ _))); rintro e w' ⟨rfl, hb9⟩))
                  | (go_at_call 20; ((with_reducible refine (m_c dx dy w.heap.size (w.heap.size + 1) ⟨x2, y2⟩ _ ?_ ?_ hx hy).mono ?_); (exact blk_below GX.out (by first | assumption | exact (show _ ∧ _ from by assumption).1 | exact below_drew (Below.refl _ _))); (exact blk_below GY.out (by first | assumption | exact (show _ ∧ _ from by assumption).1 | exact below_drew (Below.refl _ _))); rintro e w' ⟨rfl, hb9⟩)))
                all_goals
                  have HB9 := Lib.hid (show Below W1.heap.size W1 _ ∧ _ from by assumption).1
                  go_wp2_with fail
                  go_roundw
                  case rel => exact ⟨k + 1, by go_num, by omega, Lib.hid (below_step HB8.out HB9.out)⟩
                  case measure => simp [intOf]; omega
              · have hkk3 : ¬ (k : Int) < (M : Int) := by omega
                go_wp2_with fail
                go_roundw
                case rel => exact ⟨i + 1, by go_num, by omega, Lib.hid (below_step B6.out HB7.out)⟩
                case measure => simp [intOf]; omega
      · have hii : ¬ (i : Int) < (N : Int) := by omega
        go_wp2_with fail
        go_ret
        exact ⟨rfl, below_step B2.out HB.out⟩
end Go.Proofs.Ytjealbaomhjoaaa
