/- SkyGrows: the walk. -/
import Derived.Test.YtphclfcidgljkaaSkyApart
set_option linter.unusedVariables false
set_option linter.unusedSimpArgs false
namespace Go.Proofs.Ytphclfcidgljkaa
open Go.RowKit Go.Proofs.YtphclfcidgljkaaW.PrintWords Go.Proofs.YtphclfcidgljkaaW.PrintLast Go.Proofs.YtphclfcidgljkaaW.PrintMore
theorem infoInt : (Try.prog.info? 3).map (fun i => (i.zero, i.size, i.bytes)) = some (some (.int .i64 0), 1, 8) := by kernel_rfl
/-- Block b is just these numbers. -/
def RowAt (W : World) (b : Nat) (xs : List Int) : Prop := W.heap[b]? = some (.cells (nums .i64 xs).toArray 3 (0, 0))
theorem made_nums (k : IntKind) (m : Nat) : madeCells #[Value.int k 0] m = (nums k (List.replicate m 0)).toArray := by
  apply Array.ext'
  apply List.ext_getElem
  · simp [nums, madeCells]
  · intro i h1 h2
    simp [nums, madeCells, Nat.mod_one]
theorem RowAt.cell {W : World} {b : Nat} {xs : List Int} (h : RowAt W b xs) (i : Nat) (hi : i < xs.length) : W.cell? ⟨b, i, none⟩ = some (.int .i64 (xs.getD i 0)) := by
  rw [blk_cell h i]
  simp [nums, List.getElem?_eq_getElem hi, List.getD_eq_getElem?_getD]
theorem RowAt.set {W : World} {b : Nat} {xs : List Int} (h : RowAt W b xs) (i : Nat) (x : Int) : RowAt (W.setCell ⟨b, i, none⟩ (.int .i64 x)) b (xs.set i x) := by
  have := blk_set h i (.int .i64 x)
  unfold RowAt
  rw [this]
  congr 2
  simp [nums, List.map_set]
theorem putN_ge {a b : Nat} {hs : List Int} {X Y M N : Int} (hok : PutOk a b hs X Y M N) (hl : hs.length = a) (i : Nat) (hi : i < a) : hs.getD i 0 ≤ (putN hs X.toNat M.toNat (Y + N)).getD i 0 := by
  obtain ⟨h1, h2, h3, h4, h5, h6, h7, h8⟩ := hok
  rw [putN_get hs _ _ _ (by omega) i (by omega)]
  split
  · have := mx_ge X M hs 0 i 0 (by omega) (by omega) (by omega)
    omega
  · exact Int.le_refl _
attribute [local go_sem] cell_alloc max2_max min2_min max_two min_two
set_option maxHeartbeats 4000000 in
set_option maxRecDepth 100000 in
theorem skyGrows_core (x y : Int) (hx : -128 ≤ x ∧ x ≤ 127) (hy : -128 ≤ y ∧ y ≤ 127) (A : Option Addr) (cap : Nat) (l : List Bx) (W : World) (rd : Kd.C kbx W A l.length l) (le : l.length ≤ cap)
    (wf : ∀ p ∈ l, (Lit.int .u8 p.1).wf = true ∧ (Lit.int .u8 p.2.1).wf = true ∧ (Lit.int .u8 p.2.2.1).wf = true ∧ (Lit.int .u8 p.2.2.2.1).wf = true) :
    Calls Try.prog 9 #[.int .i8 x, .int .i8 y, .slice A l.length cap] W fun e w' => e = .returned (.bool true) ∧ Below W.heap.size W w' := by
  obtain ⟨hx0, hx1⟩ := hx
  obtain ⟨hy0, hy1⟩ := hy
  have HOF := Lib.hid (fun W' => of_c W' x y)
  have hsx := mm_side x
  have hax := side_le x
  have hbx := side_le y
  obtain ⟨a, ha⟩ : ∃ a, side x = a := ⟨_, rfl⟩
  obtain ⟨b, hb⟩ : ∃ b, side y = b := ⟨_, rfl⟩
  rw [ha] at HOF hsx hax
  rw [hb] at HOF hbx
  clear ha hb
  have hmx := rd.2.1
  obtain ⟨n, hn⟩ : ∃ n, l.length = n := ⟨_, rfl⟩
  rw [hn] at rd le hmx ⊢
  have RD := Lib.hid rd; have HN := Lib.hid hn; have WF := Lib.hid wf
  clear rd hn wf
  obtain ⟨M, hM, hMn, hM60⟩ := min_cut n 40
  have hM' : min (n : Int) 40 = (M : Int) := hM
  clear hM
  have hMc : M ≤ cap := by omega
  have hMi : (M : Int) ≤ (cap : Int) := by omega
  have hM0 : (0 : Int) ≤ (M : Int) := by omega
  have hmk := print_make (P := Try.prog) 27 3 .i64 8 Try.underlying27 infoInt (by omega) a (by omega)
  go_enter Try.func9, Try.ntmps9
  go_wp2_with fail
  refine (awake_c W).mono ?_
  rintro e w1 ⟨rfl, hb1⟩
  have B1 := Lib.hid hb1; clear hb1
  go_wp2_with fail
  refine (HOF.out w1).mono ?_
  rintro e w2 ⟨g, rfl, hg, hs, hb2⟩
  have al := below_alloc (Below.refl _ w2) (.cells (madeCells #[.int .i64 0] a) 3)
  have B2 := Lib.hid (below_step (below_step B1.out hb2) al)
  have S2 := Lib.hid (hs.below al)
  have hgW : W.heap.size ≤ g := by have := B1.out.size; omega
  have hwW : W.heap.size ≤ w2.heap.size := by have := (below_step B1.out hb2).size; omega
  have R2 : Hid (RowAt (w2.alloc (.cells (madeCells #[.int .i64 0] a) 3)) w2.heap.size (List.replicate a 0)) := Lib.hid (by
    have := heap_alloc_new w2 (.cells (madeCells #[.int .i64 0] a) 3)
    unfold RowAt
    rw [this, made_nums])
  clear hb2 hs HOF al
  obtain ⟨w0, rfl⟩ : ∃ w0 : World, w0 = W := ⟨_, rfl⟩
  go_upto_region 7 with (fail)
  generalize w2.alloc (.cells (madeCells #[.int .i64 0] a) 3) = W2 at *
  generalize w2.heap.size = gw at *
  clear hmk
  go_wp2_with fail
  go_loopw [32] (fun v32 W => ∃ (k : Nat) (hs : List Int), v32 = .int .i64 k ∧ k ≤ M ∧ Hid (SkyAt W g a b hs) ∧ Hid (RowAt W gw hs) ∧ Hid (Below w0.heap.size w0 W)) (fun v32 _ => M - (intOf v32).toNat)
  case atStart => exact ⟨0, _, rfl, Nat.zero_le _, S2, R2, B2⟩
  case round =>
    obtain ⟨k, hs, rfl, hk, HS, HR, HB⟩ := hrel
    by_cases hkM : k < M
    · have hkk : (k : Int) < (M : Int) := by omega
      obtain ⟨ad, eA⟩ := C_some RD.out (by omega)
      subst eA
      obtain ⟨bx, hbx⟩ : ∃ bx, l.getD k (0, 0, 0, 0, false) = bx := ⟨_, rfl⟩
      obtain ⟨p0, p1, p2, p3, p4⟩ := bx_at (Kd.C_below RD.out HB.out) k (by omega) bx hbx
      have hmem : bx ∈ l := by
        rw [← hbx, List.getD_eq_getElem?_getD, List.getElem?_eq_getElem (by rw [HN.out]; omega)]
        exact List.getElem_mem _
      obtain ⟨v0, v1, v2, v3⟩ := WF.out bx hmem
      obtain ⟨bW, bH, bX, bY, bF⟩ := bx
      have v00 : 0 ≤ bW := (wf8 v0).1
      have v01 : bW ≤ 255 := (wf8 v0).2
      have v10 : 0 ≤ bH := (wf8 v1).1
      have v11 : bH ≤ 255 := (wf8 v1).2
      have v20 : 0 ≤ bX := (wf8 v2).1
      have v21 : bX ≤ 255 := (wf8 v2).2
      have v30 : 0 ≤ bY := (wf8 v3).1
      have v31 : bY ≤ 255 := (wf8 v3).2
      have al := below_alloc (Below.refl _ wr) (.cells #[.int .u8 bW, .int .u8 bH, .int .u8 bX, .int .u8 bY, .bool bF] 29)
      have g1 := heap_alloc_new wr (.cells #[.int .u8 bW, .int .u8 bH, .int .u8 bX, .int .u8 bY, .bool bF] 29)
      have HS1 := Lib.hid (HS.out.below al)
      have HR1 : Hid (RowAt _ gw hs) := Lib.hid (blk_below HR.out al)
      have HB1 := Lib.hid (below_step HB.out al)
      clear v0 v1 v2 v3 hmem hbx HS HR HB
      go_upto_region 10 with (fail)
      generalize wr.alloc (.cells #[.int .u8 bW, .int .u8 bH, .int .u8 bX, .int .u8 bY, .bool bF] 29) = W1 at *
      generalize wr.heap.size = bP at *
      have s0 : W1.cell? ⟨bP, 0, none⟩ = some (.int .u8 bW) := (blk_cell g1 0).trans rfl
      have s1 : W1.cell? ⟨bP, 1, none⟩ = some (.int .u8 bH) := (blk_cell g1 1).trans rfl
      have s2 : W1.cell? ⟨bP, 2, none⟩ = some (.int .u8 bX) := (blk_cell g1 2).trans rfl
      have s3 : W1.cell? ⟨bP, 3, none⟩ = some (.int .u8 bY) := (blk_cell g1 3).trans rfl
      clear p0 p1 p2 p3 p4 al g1
      have HF := Lib.hid (put_c W1 g a b hs HS1.out (bX % 70 - 2) (bY % 70 - 2) (bW % 20) (bH % 20))
      go_wp2_with fail
      refine HF.out.mono ?_
      rintro e w5 ⟨rfl, hp1, hp2⟩
      obtain ⟨hs', HS5, HR5, HB5, HGE⟩ : ∃ hs', Hid (SkyAt w5 g a b hs') ∧ Hid (RowAt w5 gw hs) ∧ Hid (Below w0.heap.size w0 w5) ∧ Hid (∀ i, i < a → hs.getD i 0 ≤ hs'.getD i 0) := by
        obtain ⟨ug, hug, -⟩ := HS1.out.row
        by_cases hok : PutOk a b hs (bX % 70 - 2) (bY % 70 - 2) (bW % 20) (bH % 20)
        · obtain ⟨q1, q2⟩ := hp1 hok
          exact ⟨_, Lib.hid q1, Lib.hid (q2.get HR1.out (blk_ne HR1.out hug (by decide))), Lib.hid (HB1.out.trans (q2.below HB1.out.size (fun k hk => by subst hk; exact hgW))), Lib.hid (fun i hi => putN_ge hok HS1.out.len i hi)⟩
        · have q2 := hp2 hok
          exact ⟨hs, Lib.hid (HS1.out.below q2), Lib.hid (blk_below HR1.out q2), Lib.hid (below_step HB1.out q2), Lib.hid (fun i hi => Int.le_refl _)⟩
      have hla := HS1.out.len
      have HLA := Lib.hid hla
      clear hp1 hp2 s0 s1 s2 s3 HF HS1 HR1 HB1 hla
      obtain ⟨D, hD⟩ : ∃ D, decide (PutOk a b hs (bX % 70 - 2) (bY % 70 - 2) (bW % 20) (bH % 20)) = D := ⟨_, rfl⟩
      rw [hD]
      clear hD
      go_wp2_with fail
      go_loopw [59] (fun v59 W => ∃ j : Nat, v59 = .int .i64 j ∧ j ≤ a ∧ Hid (SkyAt W g a b hs') ∧ Hid (RowAt W gw (hs'.take j ++ hs.drop j)) ∧ Hid (Below w0.heap.size w0 W)) (fun v59 _ => a - (intOf v59).toNat)
      case atStart => exact ⟨0, rfl, Nat.zero_le _, HS5, HR5, HB5⟩
      case round =>
        obtain ⟨j, rfl, hj, HS, HR, HB⟩ := hrel
        have hl' := HS.out.len
        have hl0 := HLA.out
        by_cases hja : j < a
        · have hjj : (j : Int) < (a : Int) := by omega
          have hlen : (hs'.take j ++ hs.drop j).length = a := by simp; omega
          have hgj : (hs'.take j ++ hs.drop j).getD j 0 = hs.getD j 0 := by
            rw [List.getD_eq_getElem?_getD, List.getElem?_append_right (by simp; omega), List.getD_eq_getElem?_getD, List.getElem?_drop]
            congr 2
            simp; omega
          have hset : (hs'.take j ++ hs.drop j).set j (hs'.getD j 0) = hs'.take (j + 1) ++ hs.drop (j + 1) := by
            apply List.ext_getElem?
            intro i
            rw [List.getElem?_set, List.getElem?_append, List.getElem?_append]
            simp only [List.length_append, List.length_take, List.length_drop]
            by_cases h1 : j = i
            · subst h1
              rw [if_pos rfl, if_pos (by omega), if_pos (by omega), List.getElem?_take_of_lt (by omega), List.getD_eq_getElem?_getD, List.getElem?_eq_getElem (by omega)]; rfl
            · rw [if_neg h1]
              by_cases h2 : i < j
              · rw [if_pos (by omega), if_pos (by omega), List.getElem?_take_of_lt h2, List.getElem?_take_of_lt (by omega)]
              · rw [if_neg (by omega), if_neg (by omega), List.getElem?_drop, List.getElem?_drop]
                congr 1
                omega
          have c0 := HR.out.cell j (by rw [hlen]; exact hja)
          rw [hgj] at c0
          have c1 := blk_frozen HR.out j
          have hhi : hiR a hs' j = hs'.getD j 0 := by unfold hiR; rw [if_neg (by omega), Int.toNat_natCast]
          have hge := HGE.out j hja
          have h64 : hs'.getD j 0 ≤ 64 := by
            rw [List.getD_eq_getElem?_getD, List.getElem?_eq_getElem (by omega)]
            have := (HS.out.ys _ (List.getElem_mem (show j < hs'.length by omega))).2
            simp only [Option.getD_some]; omega
          have HH := Lib.hid (fun W' hb => high_c W' g a b hs' (HS.out.below hb) j)
          rw [hhi] at HH
          have HSET := Lib.hid hset
          obtain ⟨P, hP⟩ : ∃ P, hs'.getD j 0 = P := ⟨_, rfl⟩
          obtain ⟨Q, hQ⟩ : ∃ Q, hs.getD j 0 = Q := ⟨_, rfl⟩
          rw [hP] at HH HSET hge h64
          rw [hQ] at c0 hge
          clear hP hQ hhi hset hgj hlen hl' hl0
          have d1 : decide (P < Q) = false := by simp; omega
          have d2 : decide (64 < P) = false := by simp; omega
          have HBr : Hid (Below wr.heap.size wr wr.drew) := Lib.hid (below_drew (Below.refl _ wr))
          go_wp2_with fail
          go_cut [75] (fun v75 W => v75 = .bool false ∧ Hid (Below wr.heap.size wr W))
          case first =>
            go_region_held3 (fun w' => w'.cell? ⟨gw, j, none⟩ = some (.int .i64 Q)) (first | assumption | exact pw_cell_below hb8 (by assumption)) ((go_at_call 19; refine (HH.out _ HBr.out).mono ?_; rintro e w8 ⟨rfl, hb8⟩; have HBq := Lib.hid (below_step HBr.out hb8); clear HBr; have HBr := HBq; clear HBq))
            all_goals
              go_wp2_with fail
              go_meet
              case rel => exact ⟨rfl, HBr⟩
          case rest =>
            obtain ⟨rfl, HBw⟩ := hcut
            have HH2 := Lib.hid (HH.out wc HBw.out)
            clear d1 d2 HH HBr
            go_wp2_with fail
            refine HH2.out.mono ?_
            rintro e w9 ⟨rfl, hb9⟩
            have HB9 := Lib.hid (below_step HBw.out hb9)
            have e0 : w9.cell? ⟨gw, j, none⟩ = some (.int .i64 Q) := pw_cell_below HB9.out c0
            have HR9 : Hid (RowAt w9 gw (hs'.take j ++ hs.drop j)) := Lib.hid (blk_below HR.out HB9.out)
            have HS9 := Lib.hid (HS.out.below HB9.out)
            have HBB := Lib.hid (below_step HB.out HB9.out)
            have e1 := blk_frozen HR9.out j
            clear hb9 c0 c1
            go_wp2_with fail
            go_roundw
            case rel =>
              obtain ⟨ug, hug, -⟩ := HS9.out.row
              refine ⟨j + 1, by go_num, by omega, Lib.hid (HS9.out.kept (Kept.setCell (· = gw) w9 ⟨gw, j, none⟩ (.int .i64 P) rfl) (blk_ne hug HR9.out (by decide)) (fun k hk cells hc => ?_)), Lib.hid (by rw [← HSET.out]; exact HR9.out.set j P), Lib.hid (HBB.out.setCell hwW _)⟩
              subst hk
              exact absurd rfl (blk_ne hc HR9.out (by decide))
            case measure => simp [intOf]; omega
        · have hjj : ¬ (j : Int) < (a : Int) := by omega
          have hr := HR.out
          rw [List.take_of_length_le (by omega), List.drop_eq_nil_of_le (by omega), List.append_nil] at hr
          have HR2 := Lib.hid hr
          clear hl' hl0 hr HR
          go_wp2_with fail
          go_roundw
          case rel => exact ⟨k + 1, hs', by go_num, by omega, HS, HR2, HB⟩
          case measure => simp [intOf]; omega
    · have hkk : ¬ (k : Int) < (M : Int) := by omega
      have hhi : hiR a hs a = -1 := by unfold hiR; rw [if_pos (by omega)]
      have HH := Lib.hid (high_c wr g a b hs HS.out a)
      rw [hhi] at HH
      clear hhi
      go_wp2_with fail
      refine HH.out.mono ?_
      rintro e w5 ⟨rfl, hb5⟩
      have HB5 := Lib.hid (below_step HB.out hb5)
      clear hb5
      go_wp2_with fail
      go_ret
      exact ⟨rfl, HB5.out⟩
end Go.Proofs.Ytphclfcidgljkaa
