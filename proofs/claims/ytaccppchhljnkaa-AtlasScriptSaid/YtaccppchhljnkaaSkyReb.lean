/- Skylines: Rebuild. -/
import Derived.Test.YtaccppchhljnkaaSkyOf
set_option linter.unusedVariables false
set_option linter.unusedSimpArgs false
namespace Go.Proofs.Ytaccppchhljnkaa
open Go.RowKit Go.Proofs.YtaccppchhljnkaaW.PrintWords Go.Proofs.YtaccppchhljnkaaW.PrintLast Go.Proofs.YtaccppchhljnkaaW.PrintMore
/-- A rectangle: where it is, and its sides. -/
abbrev Rc := Int × Int × Int × Int
def krc : Kd Rc := Kd.pair (Kd.int .i64) (Kd.pair (Kd.int .i64) (Kd.pair (Kd.int .i64) (Kd.int .i64)))
theorem krc_open {w : World} {x : Rc} {cs : List Value} (h : krc.K w x cs) : cs = [.int .i64 x.1, .int .i64 x.2.1, .int .i64 x.2.2.1, .int .i64 x.2.2.2] := by
  obtain ⟨_, _, rfl, rfl, _, _, rfl, rfl, _, _, rfl, rfl, rfl⟩ := h
  rfl
theorem krc_mkM (w : World) (base : Nat) (ok : Nat → Prop) (x : Rc) : krc.M w base ok x [.int .i64 x.1, .int .i64 x.2.1, .int .i64 x.2.2.1, .int .i64 x.2.2.2] := ⟨[.int .i64 x.1], [.int .i64 x.2.1, .int .i64 x.2.2.1, .int .i64 x.2.2.2], rfl, rfl, [.int .i64 x.2.1], [.int .i64 x.2.2.1, .int .i64 x.2.2.2], rfl, rfl, [.int .i64 x.2.2.1], [.int .i64 x.2.2.2], rfl, rfl, rfl⟩
theorem rc_at {W : World} {ad : Addr} {n : Nat} {xs : List Rc} (h : Kd.C krc W (some ad) n xs) (i : Nat) (hi : i < n) (r : Rc) (hr : xs.getD i (0, 0, 0, 0) = r) :
    W.cell? (ad.add (i * 4)) = some (.int .i64 r.1) ∧ W.cell? ⟨(ad.add (i * 4)).block, (ad.add (i * 4)).off + 1, none⟩ = some (.int .i64 r.2.1) ∧ W.cell? ⟨(ad.add (i * 4)).block, (ad.add (i * 4)).off + 2, none⟩ = some (.int .i64 r.2.2.1) ∧ W.cell? ⟨(ad.add (i * 4)).block, (ad.add (i * 4)).off + 3, none⟩ = some (.int .i64 r.2.2.2) := by
  obtain ⟨ad', c, e, _, hK, hc0⟩ := Kd.C_get h (0, 0, 0, 0) (i : Int) (by omega) (by omega)
  injection e with e
  subst e
  subst hr
  have hc : ∀ j u, c[j]? = some u → W.cell? (ad.add (i * 4 + j)) = some u := hc0
  obtain rfl := krc_open hK
  exact ⟨hc 0 _ rfl, by rw [← add_field _ _ 1 (by omega)]; exact hc 1 _ rfl, by rw [← add_field _ _ 2 (by omega)]; exact hc 2 _ rfl, by rw [← add_field _ _ 3 (by omega)]; exact hc 3 _ rfl⟩
def rbF (h x : Int) : Int → List Rc → Int
  | y, [] => y
  | y, r :: rs => rbF h x (if r.1 ≤ x ∧ x - r.1 < r.2.2.1 then max y (min h (r.2.1 + r.2.2.2)) else y) rs
def rbL (w h : Nat) (rs : List Rc) : List Int := (List.range w).map fun x : Nat => rbF h x 0 rs
theorem rb_bound (h x : Int) (hh : 0 ≤ h) : ∀ (rs : List Rc) (y : Int), 0 ≤ y → y ≤ h → 0 ≤ rbF h x y rs ∧ rbF h x y rs ≤ h
  | [], y, h0, h1 => ⟨h0, h1⟩
  | r :: rs, y, h0, h1 => by
    rw [rbF]
    split
    · exact rb_bound h x hh rs _ (by omega) (by omega)
    · exact rb_bound h x hh rs y h0 h1
theorem rb_snoc (w h : Nat) (rs : List Rc) (k : Nat) (hk : k < w) : (rbL w h rs).take (k + 1) = (rbL w h rs).take k ++ [rbF h k 0 rs] := by
  have hl : (rbL w h rs).length = w := by simp [rbL]
  rw [List.take_succ_eq_append_getElem (by omega)]
  congr 1
  simp [rbL]
theorem stL_pF (a : List Int) (y : Int) (k : Nat) (hk : a.length = k) : stL 0 none (a ++ [y]) = pF (stL 0 none a) ((k : Int), y) := by
  rw [stL_snoc, hk, Nat.zero_add, steps_last a 0 none]
  unfold pF
  cases h : (stL 0 none a).getLast? with
  | none => simp
  | some q =>
    by_cases hq : q.2 = y
    · simp [hq]
    · simp [hq]
theorem cell_alloc {w : World} {a : Addr} {v : Value} {o : Obj} (h : w.cell? a = some v) : (w.alloc o).cell? a = some v := pw_cell_below (below_alloc (Below.refl _ w) o) h
attribute [local go_sem] cell_alloc
attribute [local go_sem] max2_max min2_min max_two min_two
set_option maxHeartbeats 4000000 in
set_option maxRecDepth 100000 in
theorem rebuild_c (W : World) (a b : Int) (A : Option Addr) (c : Nat) (rs : List Rc) (rd : Kd.C krc W A rs.length rs) (hlen : rs.length ≤ 100000)
    (hbd : ∀ r ∈ rs, -10000000 ≤ r.1 ∧ r.1 ≤ 10000000 ∧ -10000000 ≤ r.2.1 ∧ r.2.1 ≤ 10000000 ∧ -10000000 ≤ r.2.2.1 ∧ r.2.2.1 ≤ 10000000 ∧ -10000000 ≤ r.2.2.2 ∧ r.2.2.2 ≤ 10000000) :
    Calls Try.prog 40 #[.int .i64 a, .int .i64 b, .slice A rs.length c] W fun e w' => ∃ g, e = .returned (.pointer (some ⟨g, 0, none⟩)) ∧ W.heap.size ≤ g ∧ SkyAt w' g (side a) (side b) (rbL (side a) (side b) rs) ∧ Below W.heap.size W w' := by
  have HOF := Lib.hid (of_c W a b)
  have hw64 := side_le a
  have hh64 := side_le b
  obtain ⟨w, hw⟩ : ∃ w, side a = w := ⟨_, rfl⟩
  obtain ⟨h, hh⟩ : ∃ h, side b = h := ⟨_, rfl⟩
  rw [hw] at HOF hw64 ⊢
  rw [hh] at HOF hh64 ⊢
  have HRD := Lib.hid rd
  have HBD := Lib.hid hbd
  obtain ⟨m, hm⟩ : ∃ m, rs.length = m := ⟨_, rfl⟩
  rw [hm] at hlen HRD ⊢
  have HM := Lib.hid hm
  clear hw hh rd hbd hm
  go_enter Try.func40, Try.ntmps40
  go_wp2_with fail
  refine HOF.out.mono ?_
  rintro e w1 ⟨g, rfl, hg, hs, hb⟩
  obtain ⟨u0, hu0, -⟩ := hs.row
  have q0 := (blk_cell hu0 0).trans rfl
  have q1 := (blk_cell hu0 1).trans rfl
  have q2 := (blk_cell hu0 2).trans rfl
  have q3 := blk_frozen hu0 2
  have HG1 := Lib.hid hu0
  have HB1 := Lib.hid hb
  clear hs hu0 hb HOF
  go_upto_region 3 with (fail)
  have HG2 : Hid ((w1.setCell ⟨g, 2, none⟩ (.slice none 0 0)).heap[g]? = some (.cells #[.int .i64 w, .int .i64 h, .slice none 0 0] 82 (0, 0))) := Lib.hid (by simpa using blk_set HG1.out 2 (.slice none 0 0))
  have HB2 : Hid (Below W.heap.size W (w1.setCell ⟨g, 2, none⟩ (.slice none 0 0))) := Lib.hid (HB1.out.setCell hg _)
  clear q0 q1 q2 q3 HG1 HB1
  generalize w1.setCell ⟨g, 2, none⟩ (.slice none 0 0) = W2 at *
  have q0 : W2.cell? ⟨g, 0, none⟩ = some (.int .i64 w) := (blk_cell HG2.out 0).trans rfl
  go_wp2_with fail
  go_loopw [22] (fun v22 W' => ∃ (k : Nat) (u : Value), v22 = .int .i64 k ∧ k ≤ w ∧ Hid (W'.heap[g]? = some (.cells #[.int .i64 w, .int .i64 h, u] 82 (0, 0))) ∧ Hid (Kd.R kst 84 W' W.heap.size (fun _ => True) u (stL 0 none ((rbL w h rs).take k))) ∧ Hid (Below W.heap.size W W')) (fun v22 _ => w - (intOf v22).toNat)
  case atStart => exact ⟨0, _, rfl, Nat.zero_le _, HG2, Lib.hid (Kd.R_nil _ _ _ _ _), HB2⟩
  case round =>
    obtain ⟨k, u, rfl, hk, HG, HO, HB⟩ := hrel
    by_cases hkw : k < w
    · have hkk : (k : Int) < (w : Int) := by omega
      obtain ⟨wo, rfl⟩ : ∃ wo : World, wo = wr := ⟨_, rfl⟩
      go_wp2_with fail
      go_loopw [9, 27] (fun v9 v27 W' => ∃ (j : Nat) (y : Int), v9 = .int .i64 y ∧ v27 = .int .i64 j ∧ j ≤ m ∧ 0 ≤ y ∧ y ≤ h ∧ Hid (rbF h k y (rs.drop j) = rbF h k 0 rs) ∧ Hid (Below wo.heap.size wo W')) (fun _ v27 _ => m - (intOf v27).toNat)
      case atStart => exact ⟨0, 0, rfl, rfl, Nat.zero_le _, Int.le_refl _, by omega, Lib.hid rfl, Lib.hid (Below.refl _ _)⟩
      case round =>
        obtain ⟨j, y, rfl, rfl, hj, hy0, hy1, HE, HI⟩ := hrel
        by_cases hjm : j < m
        · have hjj : (j : Int) < (m : Int) := by omega
          obtain ⟨ad, eA⟩ := C_some HRD.out (by omega)
          subst eA
          obtain ⟨⟨rX, rY, rW, rH⟩, hr⟩ : ∃ r, rs.getD j (0, 0, 0, 0) = r := ⟨_, rfl⟩
          obtain ⟨p0, p1, p2, p3⟩ := rc_at (Kd.C_below (Kd.C_below HRD.out HB.out) HI.out) j hjm _ hr
          have hdr : rs.drop j = (rX, rY, rW, rH) :: rs.drop (j + 1) := by
            rw [List.drop_eq_getElem_cons (by rw [HM.out]; exact hjm)]
            rw [List.getD_eq_getElem?_getD, List.getElem?_eq_getElem (by rw [HM.out]; exact hjm), Option.getD_some] at hr
            rw [hr]
          have hmem : (rX, rY, rW, rH) ∈ rs := List.mem_of_mem_drop (by rw [hdr]; simp)
          obtain ⟨b1, b2, b3, b4, b5, b6, b7, b8⟩ := HBD.out _ hmem
          have b1 : -10000000 ≤ rX := b1
          have b2 : rX ≤ 10000000 := b2
          have b3 : -10000000 ≤ rY := b3
          have b4 : rY ≤ 10000000 := b4
          have b5 : -10000000 ≤ rW := b5
          have b6 : rW ≤ 10000000 := b6
          have b7 : -10000000 ≤ rH := b7
          have b8 : rH ≤ 10000000 := b8
          have he := HE.out
          rw [hdr, rbF] at he
          have al := below_alloc (Below.refl _ wr) (.cells #[.int .i64 rX, .int .i64 rY, .int .i64 rW, .int .i64 rH] 39)
          have g1 := heap_alloc_new wr (.cells #[.int .i64 rX, .int .i64 rY, .int .i64 rW, .int .i64 rH] 39)
          have HI1 := Lib.hid (below_step HI.out al)
          have HE1 := Lib.hid he
          clear he hdr hmem hr HE
          go_upto_region 10 with (fail)
          generalize wr.alloc (.cells #[.int .i64 rX, .int .i64 rY, .int .i64 rW, .int .i64 rH] 39) = W1 at *
          generalize wr.heap.size = bP at *
          have s0 : W1.cell? ⟨bP, 0, none⟩ = some (.int .i64 rX) := (blk_cell g1 0).trans rfl
          have s1 : W1.cell? ⟨bP, 1, none⟩ = some (.int .i64 rY) := (blk_cell g1 1).trans rfl
          have s2 : W1.cell? ⟨bP, 2, none⟩ = some (.int .i64 rW) := (blk_cell g1 2).trans rfl
          have s3 : W1.cell? ⟨bP, 3, none⟩ = some (.int .i64 rH) := (blk_cell g1 3).trans rfl
          have s4 : W1.cell? ⟨g, 1, none⟩ = some (.int .i64 h) := (blk_cell (blk_below HG.out HI1.out) 1).trans rfl
          clear p0 p1 p2 p3 al g1
          by_cases h1 : rX ≤ (k : Int)
          · by_cases h2 : (k : Int) - rX < rW
            · rw [if_pos ⟨h1, h2⟩] at HE1
              go_wp2_with fail
              go_quiet (fail)
              go_wp2_with fail
              go_roundw
              case rel => exact ⟨j + 1, max y (min h (rY + rH)), rfl, by go_num, by omega, by omega, by omega, HE1, Lib.hid (pw_below_drewN HI1.out nq)⟩
              case measure => simp [intOf]; omega
            · rw [if_neg (fun h => h2 h.2)] at HE1
              go_wp2_with fail
              go_roundw
              case rel => exact ⟨j + 1, y, rfl, by go_num, by omega, hy0, hy1, HE1, HI1⟩
              case measure => simp [intOf]; omega
          · rw [if_neg (fun h => h1 h.1)] at HE1
            go_wp2_with fail
            go_roundw
            case rel => exact ⟨j + 1, y, rfl, by go_num, by omega, hy0, hy1, HE1, HI1⟩
            case measure => simp [intOf]; omega
        · have hjj : ¬ (j : Int) < (m : Int) := by omega
          have he := HE.out
          rw [List.drop_eq_nil_of_le (by rw [HM.out]; omega), rbF] at he
          have hsn := rb_snoc w h rs k hkw
          rw [← he] at hsn
          have HSN := Lib.hid hsn
          clear he hsn HE
          have hlr : (rbL w h rs).length = w := by simp [rbL]
          have hlk : ((rbL w h rs).take k).length = k := by rw [List.length_take]; omega
          clear hlr
          have hpf := stL_pF ((rbL w h rs).take k) y k hlk
          rw [← HSN.out] at hpf
          have hst := stL_len ((rbL w h rs).take k) 0 none
          rw [hlk] at hst
          obtain ⟨out, hout⟩ : ∃ out, stL 0 none ((rbL w h rs).take k) = out := ⟨_, rfl⟩
          rw [hout] at hpf HO hst
          have HSN := Lib.hid hpf
          clear hpf hlk hout
          obtain ⟨Au, cu, eu⟩ := Kd.R_slice HO.out
          subst eu
          obtain ⟨n, hn⟩ : ∃ n, out.length = n := ⟨_, rfl⟩
          rw [hn] at hst
          have HO1 := Lib.hid (Kd.R_below HO.out HI.out)
          have HG1 := Lib.hid (blk_below HG.out HI.out)
          have HB1 := Lib.hid (below_step HB.out HI.out)
          rw [hn] at HO1 HG1 HG
          have HN := Lib.hid hn
          clear hn
          have o0 : wr.cell? ⟨g, 2, none⟩ = some (.slice Au n cu) := (blk_cell HG1.out 2).trans rfl
          have o1 := blk_frozen HG1.out 2
          have o2 : wr.cell? ⟨g, 0, none⟩ = some (.int .i64 w) := (blk_cell HG1.out 0).trans rfl
          go_wp2_with fail
          by_cases h0 : n = 0
          · have hb0 : ((n : Int) == 0) = true := by simp; omega
            have hp : Hid (pF out ((k : Int), y) = out ++ [((k : Int), y)]) := Lib.hid (by
              have : out = [] := List.eq_nil_of_length_eq_zero (by rw [HN.out]; exact h0)
              subst this; rfl)
            clear h0
            go_quiet (fail)
            have HR2 := Lib.hid (Kd.R_below HO1.out (pw_below_drewN (Below.refl _ wr) nq))
            have HU2 := Lib.hid (blk_below HG1.out (pw_below_drewN (Below.refl _ wr) nq))
            have HB2 := Lib.hid (pw_below_drewN HB1.out nq)
            clear o0 o1 o2 HO1 HG1 HB1 
            generalize wr.drewN nq = W2 at *
            have o0 : W2.cell? ⟨g, 2, none⟩ = some (.slice Au n cu) := (blk_cell HU2.out 2).trans rfl
            go_wp2_with (at_builtin; refine Kd.R_append kst (w0 := W) W.heap.size rfl (.tmp 84) (.tmp 88) 80 84 _ 16 rfl Try.underlying80 infoStep rfl (by decide) (by omega) (.slice Au n cu) out ((k : Int), y) [.int .i64 (k : Int), .int .i64 y] (fun _ => True) (fun _ => False) rfl rfl ?aP (fun _ hk => hk.elim) (fun _ _ => trivial) HR2.out HB2.out HB2.out.size ?aL ?_; (case aP => exact kst_mkM _ _ _ ((k : Int), y)); (case aL => rw [HN.out]; omega); intro v1 w6 ho hb hg6 hat; have m1 := Lib.hid ho; have m2 := Lib.hid hb; have m3 := Lib.hid (blk_grown HU2.out hg6 (Kd.R_ne HR2.out HU2.out (show 84 ≠ 82 by decide))); clear ho hb hg6 hat; obtain ⟨A5, c5, e5⟩ := Kd.R_slice m1.out; rw [List.length_append, HN.out, List.length_singleton] at e5; subst e5; have q2 := (blk_cell m3.out 2).trans rfl; have q3 := blk_frozen m3.out 2)
            go_roundw
            case rel => exact ⟨k + 1, .slice A5 (n + 1) c5, by go_num, by omega, Lib.hid (by simpa using blk_set m3.out 2 (.slice A5 (n + 1) c5)), Lib.hid (by rw [HSN.out, hp.out]; exact Kd.R_set m1.out m3.out (by decide) 2 _), Lib.hid (m2.out.setCell hg _)⟩
            case measure => simp [intOf]; omega
          · have hb0 : ((n : Int) == 0) = false := by simp; omega
            obtain ⟨q, hq⟩ : ∃ q, n = q + 1 := ⟨n - 1, by omega⟩
            have hnw : IntKind.i64.wrap ((n : Int) - 1) = (q : Int) := by rw [IntKind.wrap_i64]; omega
            have hq0 : (0 : Int) ≤ (q : Int) := by omega
            have hqn : (q : Int) < (n : Int) := by omega
            obtain ⟨gu, cg, e, -, -, -⟩ := Kd.R_form HO1.out (by rw [HN.out]; omega)
            rw [HN.out] at e
            injection e with e1 _ e2
            subst e1
            clear e2
            have HC1 := (Kd.R_reads' HO1.out).2.2
            rw [HN.out] at HC1
            obtain ⟨p0, p1⟩ := st_at HC1 q (by omega)
            simp only [add_plain] at p0 p1
            obtain ⟨ly, hly⟩ : ∃ ly, (out.getD q (0, 0)).2 = ly := ⟨_, rfl⟩
            rw [hly] at p1
            have hlast : out.getLast?.map (·.2) = some ly := by
              rw [List.getLast?_eq_getElem?, HN.out, show n - 1 = q by omega, ← hly, List.getD_eq_getElem?_getD, List.getElem?_eq_getElem (by rw [HN.out]; omega)]; rfl
            have HL := Lib.hid hlast
            clear hlast hly hq p0 h0 HC1
            by_cases hy : ly = y
            · have hp : Hid (pF out ((k : Int), y) = out) := Lib.hid (by unfold pF; rw [HL.out, hy, if_pos rfl])
              have hb1 : (ly == y) = true := by simp [hy]
              have hb2 : (ly != y) = false := by simp [hy]
              clear hy
              go_quiet (fail)
              go_wp2_with fail
              go_roundw
              case rel => exact ⟨k + 1, _, by go_num, by omega, Lib.hid HG1.out, Lib.hid (by rw [HSN.out, hp.out]; exact Kd.R_below HO1.out (pw_below_drewN (Below.refl _ wr) nq)), Lib.hid (pw_below_drewN HB1.out nq)⟩
              case measure => simp [intOf]; omega
            · have hp : Hid (pF out ((k : Int), y) = out ++ [((k : Int), y)]) := Lib.hid (by unfold pF; rw [HL.out, if_neg (fun e => hy (by injection e))])
              have hb1 : (ly == y) = false := by simp [hy]
              have hb2 : (ly != y) = true := by simp [hy]
              clear hy
              go_quiet (fail)
              have HR2 := Lib.hid (Kd.R_below HO1.out (pw_below_drewN (Below.refl _ wr) nq))
              have HU2 := Lib.hid (blk_below HG1.out (pw_below_drewN (Below.refl _ wr) nq))
              have HB2 := Lib.hid (pw_below_drewN HB1.out nq)
              clear o0 o1 o2 HO1 HG1 HB1 p1
              generalize wr.drewN nq = W2 at *
              have o0 : W2.cell? ⟨g, 2, none⟩ = some (.slice (some ⟨gu, 0, none⟩) n cu) := (blk_cell HU2.out 2).trans rfl
              go_wp2_with (at_builtin; refine Kd.R_append kst (w0 := W) W.heap.size rfl (.tmp 84) (.tmp 88) 80 84 _ 16 rfl Try.underlying80 infoStep rfl (by decide) (by omega) (.slice (some ⟨gu, 0, none⟩) n cu) out ((k : Int), y) [.int .i64 (k : Int), .int .i64 y] (fun _ => True) (fun _ => False) rfl rfl ?aP (fun _ hk => hk.elim) (fun _ _ => trivial) HR2.out HB2.out HB2.out.size ?aL ?_; (case aP => exact kst_mkM _ _ _ ((k : Int), y)); (case aL => rw [HN.out]; omega); intro v1 w6 ho hb hg6 hat; have m1 := Lib.hid ho; have m2 := Lib.hid hb; have m3 := Lib.hid (blk_grown HU2.out hg6 (Kd.R_ne HR2.out HU2.out (show 84 ≠ 82 by decide))); clear ho hb hg6 hat; obtain ⟨A5, c5, e5⟩ := Kd.R_slice m1.out; rw [List.length_append, HN.out, List.length_singleton] at e5; subst e5; have q2 := (blk_cell m3.out 2).trans rfl; have q3 := blk_frozen m3.out 2)
              go_roundw
              case rel => exact ⟨k + 1, .slice A5 (n + 1) c5, by go_num, by omega, Lib.hid (by simpa using blk_set m3.out 2 (.slice A5 (n + 1) c5)), Lib.hid (by rw [HSN.out, hp.out]; exact Kd.R_set m1.out m3.out (by decide) 2 _), Lib.hid (m2.out.setCell hg _)⟩
              case measure => simp [intOf]; omega
    · have hkk : ¬ (k : Int) < (w : Int) := by omega
      go_wp2_with fail
      go_ret
      have ho := HO.out
      have hl : (rbL w h rs).length = w := by simp [rbL]
      rw [List.take_of_length_le (by omega)] at ho
      refine ⟨g, rfl, hg, ⟨⟨u, HG.out, Kd.R_lower ho (Nat.zero_le _)⟩, hl, hw64, hh64, fun y hy => ?_⟩, HB.out⟩
      obtain ⟨x, _, rfl⟩ := List.mem_map.1 hy
      exact rb_bound h x (by omega) rs 0 (Int.le_refl _) (by omega)
end Go.Proofs.Ytaccppchhljnkaa
