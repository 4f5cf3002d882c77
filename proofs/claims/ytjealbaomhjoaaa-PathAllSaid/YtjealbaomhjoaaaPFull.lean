/- punchcutlaw05.full: its walk. -/
import Derived.Test.YtjealbaomhjoaaaPRefF
import Derived.Test.YtjealbaomhjoaaaPAwake
import Derived.Deep.RegionLaw
set_option linter.unusedVariables false
set_option linter.unusedSimpArgs false
namespace Go.Proofs.Ytjealbaomhjoaaa
open Go.RowKit Go.Proofs.Ytjealbaomhjoaaa.G Go.Proofs.YtjealbaomhjoaaaW.PrintWords Go.Proofs.YtjealbaomhjoaaaW.PrintMore
theorem allL_snoc (c : List S34) (k : Nat) (hk : k < c.length) : allL c 0 (k + 1) = allL c 0 k ++ exV (c.getD k z34) (c.getD ((k + 1) % c.length) z34) := by
  rw [allL_add c k 0 1, Nat.zero_add]
  simp only [allL, List.append_nil]
  rw [Nat.mod_eq_of_lt hk]
theorem exV_len (v w : S34) : (exV v w).length ≤ 2 := by unfold exV; split <;> simp
theorem allL_len (c : List S34) : ∀ (d i : Nat), (allL c i d).length ≤ 2 * d
  | 0, i => by simp [allL]
  | d + 1, i => by
    rw [allL, List.length_append]
    have := allL_len c d (i + 1); have := exV_len (c.getD (i % c.length) z34) (c.getD ((i + 1) % c.length) z34); omega
theorem allL_ge (c : List S34) : ∀ (d i : Nat), d ≤ (allL c i d).length
  | 0, i => Nat.zero_le _
  | d + 1, i => by
    rw [allL, List.length_append]
    have := allL_ge c d (i + 1)
    have h : 1 ≤ (exV (c.getD (i % c.length) z34) (c.getD ((i + 1) % c.length) z34)).length := by unfold exV; split <;> simp
    omega
theorem exV_len1 (v w : S34) (h : w.f2 = true) : (exV v w).length = 1 := by simp [exV, h]
theorem exV_len2 (v w : S34) (h1 : v.f2 = false) (h2 : w.f2 = false) : (exV v w).length = 2 := by simp [exV, h1, h2]
theorem below_grown_nil {W w1 : World} (hg : W.grownBy w1 (Value.slice none 0 0).ownBlock) : Below W.heap.size W w1 := (Below.refl _ _).grown hg (Nat.le_refl _) (fun k hk => by simp [Value.ownBlock] at hk)
attribute [local go_sem] cell_alloc in
set_option maxHeartbeats 4000000 in
set_option maxRecDepth 100000 in
theorem full_c (ad : Addr) (cap : Nat) (c : List S34) (w : World) (rd : Kd.C k34 w (some ad) c.length c) (hle : c.length ≤ cap) (hn : c.length ≤ 1000) (hpos : 0 < c.length) :
    Calls Try.prog 35 #[.slice (some ad) c.length cap] w fun e w' => ∃ u, e = .returned u ∧ Kd.R k34 34 w' w.heap.size (fun _ => True) u (fullF c) ∧ Below w.heap.size w w' := by
  have RD := Lib.hid rd; clear rd
  obtain ⟨n, hN⟩ : ∃ n, c.length = n := ⟨_, rfl⟩
  rw [hN] at hpos hle hn ⊢
  have HN := Lib.hid hN; clear hN
  go_enter Try.func35, Try.ntmps35
  go_wp2_with fail
  go_loopw [3, 15] (fun v3 v15 W => ∃ (k : Nat) (u : Value), v15 = .int .i64 k ∧ v3 = u ∧ k ≤ n ∧ Hid (Kd.R k34 34 W w.heap.size (fun _ => True) u (allL c 0 k)) ∧ Hid (Below w.heap.size w W)) (fun _ v15 _ => n - (intOf v15).toNat)
  case atStart => exact ⟨0, _, rfl, rfl, Nat.zero_le _, Lib.hid (Kd.R_nil _ _ _ _ _), Lib.hid (Below.refl _ _)⟩
  case round =>
    obtain ⟨k, u, rfl, rfl, hk, HO, HB⟩ := hrel
    obtain ⟨A3, c3, e3⟩ := Kd.R_slice HO.out
    obtain ⟨m, hm⟩ : ∃ m, (allL c 0 k).length = m := ⟨_, rfl⟩
    rw [hm] at e3
    subst e3
    have hm2 : m ≤ 2 * k := by rw [← hm]; exact allL_len c k 0
    have HM := Lib.hid hm; clear hm
    by_cases hkn : k < n
    · have hkk : (k : Int) < (n : Int) := by omega
      obtain ⟨I, hI⟩ : ∃ I, (k + 1) % n = I := ⟨_, rfl⟩
      have hIn : I < n := hI ▸ Nat.mod_lt _ hpos
      have hIi : (I : Int) < (n : Int) := by omega
      have htm : Int.tmod ((k : Int) + 1) (n : Int) = (I : Int) := by rw [← hI]; rfl
      have hn0 : ((n : Int) == 0) = false := by simp; omega
      have hn1 : ((n : Int) = 0) = False := by simp; omega
      have hsn := allL_snoc c k (by rw [HN.out]; exact hkn)
      obtain ⟨v, hv⟩ : ∃ v, c.getD k z34 = v := ⟨_, rfl⟩
      obtain ⟨x, hx⟩ : ∃ x, c.getD I z34 = x := ⟨_, rfl⟩
      rw [HN.out, hI, hv, hx] at hsn
      have HSN := Lib.hid hsn
      obtain ⟨p0, p1, p2⟩ := vert_at (Kd.C_below RD.out HB.out) k (by rw [HN.out]; exact hkn)
      rw [hv] at p0 p1 p2
      have al := below_alloc (Below.refl _ wr) (.cells #[.int .i64 v.f0, .int .i64 v.f1, .bool v.f2] 34)
      obtain ⟨q0, q1, q2⟩ := vert_at (Kd.C_below (Kd.C_below RD.out HB.out) al) I (by rw [HN.out]; exact hIn)
      rw [hx] at q0 q1 q2
      clear hv hx hsn hI
      go_upto_region 5 with (fail)
      have g1 := heap_alloc_new wr (.cells #[.int .i64 v.f0, .int .i64 v.f1, .bool v.f2] 34)
      have HO1 := Lib.hid (Kd.R_below HO.out al)
      have HB1 := Lib.hid (below_step HB.out al)
      have hnb : Hid (∀ q, (Value.slice A3 m c3).ownBlock = some q → q ≠ wr.heap.size) := Lib.hid (fun q hq e => by obtain ⟨inner, ho⟩ := Kd.R_own HO.out; have := own_lt ho q hq; omega)
      clear p0 p1 p2 al HO HB
      generalize wr.alloc (.cells #[.int .i64 v.f0, .int .i64 v.f1, .bool v.f2] 34) = W1 at *
      generalize wr.heap.size = b5 at *
      have HG1 := Lib.hid g1; clear g1
      go_upto_region 6 with (fail)
      have al := below_alloc (Below.refl _ W1) (.cells #[.int .i64 x.f0, .int .i64 x.f1, .bool x.f2] 34)
      have g2 := heap_alloc_new W1 (.cells #[.int .i64 x.f0, .int .i64 x.f1, .bool x.f2] 34)
      have HG2 := Lib.hid (blk_below HG1.out al)
      have HO2 := Lib.hid (Kd.R_below HO1.out al)
      have HB2 := Lib.hid (below_step HB1.out al)
      have hnb2 : Hid (∀ q, (Value.slice A3 m c3).ownBlock = some q → q ≠ W1.heap.size) := Lib.hid (fun q hq e => by obtain ⟨inner, ho⟩ := Kd.R_own HO1.out; have := own_lt ho q hq; omega)
      clear q0 q1 q2 al HO1 HB1 HG1
      generalize W1.alloc (.cells #[.int .i64 x.f0, .int .i64 x.f1, .bool x.f2] 34) = W2 at *
      generalize W1.heap.size = b6 at *
      have HX := Lib.hid g2; clear g2
      obtain ⟨vx, vy, vo⟩ := v
      obtain ⟨xx, xy, xo⟩ := x
      have s0 : W2.cell? ⟨b5, 0, none⟩ = some (.int .i64 vx) := (blk_cell HG2.out 0).trans rfl
      have s1 : W2.cell? ⟨b5, 1, none⟩ = some (.int .i64 vy) := (blk_cell HG2.out 1).trans rfl
      have s2 : W2.cell? ⟨b5, 2, none⟩ = some (.bool vo) := (blk_cell HG2.out 2).trans rfl
      go_upto_region 7 with (at_builtin; refine Kd.R_append k34 (w0 := w) w.heap.size rfl (.tmp 28) (.tmp 38) 28 34 _ 24 rfl Try.underlying28 info34 rfl (by decide) (by omega) (.slice A3 m c3) (allL c 0 k) (dbl ⟨vx, vy, vo⟩) [.int .i64 (wrap64 (2 * vx)), .int .i64 (wrap64 (2 * vy)), .bool vo] (fun _ => True) (fun _ => False) rfl rfl ?aP (fun _ hk => hk.elim) (fun _ _ => trivial) HO2.out HB2.out HB2.out.size ?aL ?_; (case aP => exact k34_mkM _ _ _ (dbl ⟨vx, vy, vo⟩)); (case aL => rw [HM.out]; omega); intro v1 w4 ho hb hg hat; have n1 := Lib.hid ho; have n2 := Lib.hid hb; have n3 := Lib.hid (blk_grown HG2.out hg (fun e => hnb.out b5 e.symm rfl)); have n4 := Lib.hid (blk_grown HX.out hg (fun e => hnb2.out b6 e.symm rfl)); have n5 : Hid (∀ q, v1.ownBlock = some q → q ≠ b5 ∧ q ≠ b6) := Lib.hid (by
        intro q hq
        have l5 := blk_lt HG2.out; have l6 := blk_lt HX.out
        rcases hat with h | ⟨b, h, hb'⟩
        · exact ⟨hnb.out q (h ▸ hq), hnb2.out q (h ▸ hq)⟩
        · rw [h] at hq; injection hq with hq; omega); clear ho hb hg hat)
      have t0 : w4.cell? ⟨b5, 0, none⟩ = some (.int .i64 vx) := (blk_cell n3.out 0).trans rfl
      have t1 : w4.cell? ⟨b5, 1, none⟩ = some (.int .i64 vy) := (blk_cell n3.out 1).trans rfl
      have t2 : w4.cell? ⟨b5, 2, none⟩ = some (.bool vo) := (blk_cell n3.out 2).trans rfl
      have t3 : w4.cell? ⟨b6, 0, none⟩ = some (.int .i64 xx) := (blk_cell n4.out 0).trans rfl
      have t4 : w4.cell? ⟨b6, 1, none⟩ = some (.int .i64 xy) := (blk_cell n4.out 1).trans rfl
      have t5 : w4.cell? ⟨b6, 2, none⟩ = some (.bool xo) := (blk_cell n4.out 2).trans rfl
      by_cases hoo : vo = false ∧ xo = false
      · obtain ⟨rfl, rfl⟩ := hoo
        obtain ⟨A4, c4, e4⟩ := Kd.R_slice n1.out
        rw [List.length_append, HM.out, List.length_singleton] at e4
        subst e4
        go_wp2_with (at_builtin; refine Kd.R_append k34 (w0 := w) w.heap.size rfl (.tmp 48) (.tmp 60) 28 34 _ 24 rfl Try.underlying28 info34 rfl (by decide) (by omega) (.slice A4 (m + 1) c4) (allL c 0 k ++ [dbl ⟨vx, vy, false⟩]) (mid ⟨vx, vy, false⟩ ⟨xx, xy, false⟩) [.int .i64 (wrap64 (vx + xx)), .int .i64 (wrap64 (vy + xy)), .bool true] (fun _ => True) (fun _ => False) rfl rfl ?aP (fun _ hk => hk.elim) (fun _ _ => trivial) n1.out n2.out n2.out.size ?aL ?_; (case aP => exact k34_mkM _ _ _ (mid ⟨vx, vy, false⟩ ⟨xx, xy, false⟩)); (case aL => rw [List.length_append, HM.out, List.length_singleton]; omega); intro v2 w5 ho hb hg hat; have m1 := Lib.hid ho; have m2 := Lib.hid hb; clear ho hb hg hat)
        go_roundw
        case rel => exact ⟨k + 1, v2, by go_num, rfl, by omega, Lib.hid (by rw [HSN.out]; have := m1.out; rw [List.append_assoc] at this; exact this), m2⟩
        case measure => simp [intOf]; omega
      · have hex : exV ⟨vx, vy, vo⟩ ⟨xx, xy, xo⟩ = [dbl ⟨vx, vy, vo⟩] := by
          unfold exV
          rw [if_neg]
          intro h
          simp at h
          exact hoo h
        rw [hex] at HSN
        cases vo with
        | true =>
          go_wp2_with fail
          go_roundw
          case rel => exact ⟨k + 1, v1, by go_num, rfl, by omega, Lib.hid (by rw [HSN.out]; exact n1.out), n2⟩
          case measure => simp [intOf]; omega
        | false =>
          cases xo with
          | false => exact absurd ⟨rfl, rfl⟩ hoo
          | true =>
            go_wp2_with fail
            go_roundw
            case rel => exact ⟨k + 1, v1, by go_num, rfl, by omega, Lib.hid (by rw [HSN.out]; exact n1.out), n2⟩
            case measure => simp [intOf]; omega
    · have hkk : ¬ (k : Int) < (n : Int) := by omega
      have hkn2 : k = n := by omega
      subst hkn2
      obtain ⟨fi, hF⟩ : ∃ fi, fiOn c = fi := ⟨_, rfl⟩
      have hfi : fi ≤ k := by rw [← hF, ← HN.out]; exact fi_le c
      have HF := Lib.hid hF; clear hF
      have hn0 : ((k : Int) == 0) = false := by simp; omega
      have hn1 : ((k : Int) = 0) = False := by simp; omega
      obtain ⟨L, hL⟩ : ∃ L, (allL c 0 fi).length = L := ⟨_, rfl⟩
      have hLm : L ≤ m := by
        have := allL_add c fi 0 (k - fi)
        rw [show fi + (k - fi) = k by omega] at this
        have h2 := congrArg List.length this
        rw [List.length_append, HM.out, hL] at h2
        omega
      have HL := Lib.hid hL; clear hL
      obtain ⟨wi, rfl⟩ : ∃ x : World, x = wr := ⟨_, rfl⟩
      go_wp2_with fail
      go_loopw [7, 8, 65] (fun v7 v8 v65 W => ∃ j : Nat, v65 = .int .i64 j ∧ j ≤ k ∧ ((j ≤ fi ∧ v7 = .int .i64 (0 : Int) ∧ v8 = .bool false) ∨ (fi < j ∧ v7 = .int .i64 (L : Int) ∧ v8 = .bool true)) ∧ Hid (Below wi.heap.size wi W)) (fun _ _ v65 _ => k - (intOf v65).toNat)
      case atStart => exact ⟨0, rfl, Nat.zero_le _, .inl ⟨Nat.zero_le _, rfl, rfl⟩, Lib.hid (Below.refl _ _)⟩
      case round =>
        obtain ⟨j, rfl, hj, hcase, HB3⟩ := hrel
        by_cases hjk : j < k
        · have hjj : (j : Int) < (k : Int) := by omega
          obtain ⟨v, hv⟩ : ∃ v, c.getD j z34 = v := ⟨_, rfl⟩
          obtain ⟨p0, p1, p2⟩ := vert_at (Kd.C_below (Kd.C_below RD.out HB.out) HB3.out) j (by rw [HN.out]; exact hjk)
          rw [hv] at p0 p1 p2
          have hon : (j < fi → v.f2 = false) ∧ (j = fi → v.f2 = true) := by
            refine ⟨fun h => ?_, fun h => ?_⟩
            · rw [← hv]; exact fi_off c j (by rw [HF.out]; exact h)
            · rw [← hv, h, ← HF.out]; exact fi_on c (by rw [HF.out, HN.out]; omega)
          have al := below_alloc (Below.refl _ wr) (.cells #[.int .i64 v.f0, .int .i64 v.f1, .bool v.f2] 34)
          have g1 := heap_alloc_new wr (.cells #[.int .i64 v.f0, .int .i64 v.f1, .bool v.f2] 34)
          have HB4 := Lib.hid (below_step HB3.out al)
          have HON := Lib.hid hon; clear hon hv al
          go_upto_region 14 with (fail)
          generalize wr.alloc (.cells #[.int .i64 v.f0, .int .i64 v.f1, .bool v.f2] 34) = W1 at *
          generalize wr.heap.size = b5 at *
          obtain ⟨vx, vy, vo⟩ := v
          have s2 : W1.cell? ⟨b5, 2, none⟩ = some (.bool vo) := (blk_cell g1 2).trans rfl
          clear p0 p1 p2 g1
          rcases hcase with ⟨hjf, rfl, rfl⟩ | ⟨hjf, rfl, rfl⟩
          · by_cases hje : j < fi
            · obtain rfl : vo = false := HON.out.1 hje
              go_wp2_with fail
              go_roundw
              case rel => exact ⟨j + 1, by go_num, by omega, .inl ⟨by omega, rfl, rfl⟩, HB4⟩
              case measure => simp [intOf]; omega
            · have hje2 : j = fi := by omega
              obtain rfl : vo = true := HON.out.2 hje2
              subst hje2
              go_wp2_with fail
              go_loopw [11, 12] (fun v11 v12 W => ∃ i : Nat, v12 = .int .i64 i ∧ i ≤ j ∧ v11 = .int .i64 (((allL c 0 i).length : Nat) : Int) ∧ W = W1) (fun _ v12 _ => j - (intOf v12).toNat)
              case atStart => exact ⟨0, rfl, Nat.zero_le _, rfl, by trivial⟩
              case round =>
                obtain ⟨i, rfl, hi, rfl, hWW⟩ := hrel
                obtain ⟨D, hD⟩ : ∃ D, (allL c 0 i).length = D := ⟨_, rfl⟩
                rw [hD]
                have hD2 : D ≤ 2 * i := by rw [← hD]; exact allL_len c i 0
                subst hWW
                by_cases hij : i < j
                · have hii : (i : Int) < (j : Int) := by omega
                  have hik : (i : Int) < (k : Int) := by omega
                  obtain ⟨I, hI⟩ : ∃ I, (i + 1) % k = I := ⟨_, rfl⟩
                  have hI1 : I = i + 1 := by rw [← hI]; exact Nat.mod_eq_of_lt (by omega)
                  have htm : Int.tmod ((i : Int) + 1) (k : Int) = (I : Int) := by rw [← hI]; rfl
                  have hi1 : (I : Int) < (k : Int) := by omega
                  have hsn := allL_snoc c i (by rw [HN.out]; omega)
                  rw [HN.out, hI] at hsn
                  have hoff := fi_off c i (by rw [HF.out]; exact hij)
                  obtain ⟨-, -, q2⟩ := vert_at (Kd.C_below (Kd.C_below RD.out HB.out) HB4.out) i (by rw [HN.out]; omega)
                  obtain ⟨-, -, r2⟩ := vert_at (Kd.C_below (Kd.C_below RD.out HB.out) HB4.out) I (by rw [HN.out]; omega)
                  rw [hoff] at q2
                  have HI1 := Lib.hid hI1
                  by_cases hlast : i + 1 = j
                  · have hon2 : (c.getD I z34).f2 = true := by rw [hI1, hlast, ← HF.out]; exact fi_on c (by rw [HF.out, HN.out]; omega)
                    rw [hon2] at r2
                    have hl : (allL c 0 (i + 1)).length = D + 1 := by rw [hsn, List.length_append, hD, exV_len1 _ _ hon2]
                    have HL1 := Lib.hid hl
                    clear hl hsn hoff hon2 hI1 hI
                    go_wp2_with fail
                    go_roundw
                    case rel => exact ⟨i + 1, by go_num, by omega, by rw [HL1.out]; go_num, by trivial⟩
                    case measure => simp [intOf]; omega
                  · have hoff2 : (c.getD I z34).f2 = false := fi_off c I (by rw [HF.out, hI1]; omega)
                    rw [hoff2] at r2
                    have hl : (allL c 0 (i + 1)).length = D + 2 := by rw [hsn, List.length_append, hD, exV_len2 _ _ hoff hoff2]
                    have HL1 := Lib.hid hl
                    clear hl hsn hoff hoff2 hI1 hI
                    go_wp2_with fail
                    go_roundw
                    case rel => exact ⟨i + 1, by go_num, by omega, by rw [HL1.out]; go_num, by trivial⟩
                    case measure => simp [intOf]; omega
                · have hii : ¬ (i : Int) < (j : Int) := by omega
                  have e : i = j := by omega
                  have hDL : D = L := by rw [← hD, e]; exact HL.out
                  go_wp2_with fail
                  go_roundw
                  case rel => exact ⟨j + 1, by go_num, by omega, (by first | exact .inr ⟨by omega, by rw [hDL], rfl⟩ | (rw [hDL]; simp; omega)), HB4⟩
                  case measure => simp [intOf]; omega
          · cases vo <;>
            · go_wp2_with fail
              go_roundw
              case rel => exact ⟨j + 1, by go_num, by omega, (by first | exact .inr ⟨by omega, rfl, rfl⟩ | exact .inr (by omega) | omega), HB4⟩
              case measure => simp [intOf]; omega
        · have hjj : ¬ (j : Int) < (k : Int) := by omega
          obtain ⟨FF, hFF⟩ : ∃ FF, firstF c = FF := ⟨_, rfl⟩
          have hge : k ≤ m := by have := allL_ge c k 0; rw [HM.out] at this; exact this
          have hFl : FF < m ∧ ((j ≤ fi → FF = m - 1) ∧ (fi < j → FF = L)) := by
            unfold firstF at hFF
            rw [HF.out, HN.out, HM.out] at hFF
            have := allL_ge c (k - fi) fi
            have h1 := allL_add c fi 0 (k - fi)
            rw [show fi + (k - fi) = k by omega, Nat.zero_add] at h1
            have h2 := congrArg List.length h1
            rw [List.length_append, HM.out, HL.out] at h2
            by_cases hf : fi < k
            · rw [if_pos hf, HL.out] at hFF
              exact ⟨by omega, fun h => by omega, fun _ => hFF.symm⟩
            · rw [if_neg hf] at hFF
              exact ⟨by omega, fun _ => hFF.symm, fun h => by omega⟩
          obtain ⟨hFm, hF1, hF2⟩ := hFl
          have hfull : fullF c = (allL c 0 k).drop FF ++ (allL c 0 k).take FF := by unfold fullF; rw [hFF, HN.out]
          obtain ⟨A9, c9, e9, l9, r9⟩ := Kd.R_reads (Kd.R_below HO.out HB3.out)
          rw [HM.out] at e9 l9
          injection e9 with e9 _ e10
          subst e9; subst e10
          obtain ⟨g, cg, eg, -, hgl, -⟩ := Kd.R_form HO.out (by rw [HM.out]; omega)
          rw [HM.out] at eg
          injection eg with eg _ _
          subst eg
          have HR9 := Lib.hid r9
          have HFU := Lib.hid hfull
          have hFmi : (FF : Int) < (m : Int) := by omega
          have hFci : (FF : Int) < (c3 : Int) := by omega
          clear r9 hfull hgl
          rcases hcase with ⟨hjf, rfl, rfl⟩ | ⟨hjf, rfl, rfl⟩
          · have hq : (m : Int) - 1 = (FF : Int) := by have := hF1 hjf; omega
            have hq2 : IntKind.i64.wrap ((m : Int) - 1) = (FF : Int) := by rw [IntKind.wrap_i64]; omega
            clear hF1 hF2
            go_wp2_with fail
            have hFc : ¬ cg = FF := by omega
            have hd := Kd.C_drop HR9.out (m := FF) (c := cg) (by rw [HM.out]; omega) (by rw [HM.out]; omega)
            rw [if_neg hFc, List.length_drop, HM.out] at hd
            have hdd : Kd.C k34 wr (some ⟨g, FF * 3, none⟩) (m - FF) ((allL c 0 k).drop FF) := by have := hd; rw [Option.map_some, add_plain] at this; exact this
            have ht : Kd.C k34 wr (some ⟨g, 0, none⟩) FF ((allL c 0 k).take FF) := by
              have := Kd.C_take HR9.out (m := FF) (by rw [HM.out]; omega)
              rw [List.length_take, HM.out, Nat.min_eq_left (by omega)] at this
              exact this
            have HDD := Lib.hid (Kd.C_below hdd (below_drew (Below.refl _ wr)))
            have HT := Lib.hid (Kd.C_below ht (below_drew (Below.refl _ wr)))
            have HBD := Lib.hid (below_drew (below_step HB.out HB3.out))
            have hmF : m - FF ≤ 4000 := by omega
            have hFF4 : FF ≤ 2000 := by omega
            have HDL : Hid (((allL c 0 k).drop FF).length = m - FF) := Lib.hid (by rw [List.length_drop, HM.out])
            clear hd hdd ht
            have hc0 : (0 : Int) ≤ (FF : Int) := by omega
            have hc1 : (FF : Int) ≤ (m : Int) := by omega
            have hc2 : (m : Int) ≤ (cg : Int) := by omega
            have hc3 : (FF : Int) ≤ (cg : Int) := by omega
            have hc4 : FF ≤ m := by omega
            have hc5 : FF ≤ cg := by omega
            go_region_law (first
              | ((refine Kd.R_append_rows_step k34 (Rr := k34.K wr.drew) (w0 := w) w.heap.size (by rfl) (.const (.slice none 0 0)) (.tmp 112) 28 34 _ 24 (by rfl) Try.underlying28 info34 rfl (by decide) (by omega) (.slice none 0 0) [] ((allL c 0 k).drop FF) (some ⟨g, FF * 3, none⟩) (m - FF) (cg - FF) (fun _ => True) (fun _ => False) (by rfl) (by rfl) (Kd.R_nil _ _ _ _ _) HDD.out (fun x cs h => by obtain rfl := k34_open h; exact k34_mkM _ _ _ _) (fun _ h => h.elim) (fun _ _ => trivial) HBD.out HBD.out.size (by show (0 + (m - FF)) * 24 ≤ _; omega) ?_); intro v1 w4 ho hb hg hat; have n1 := Lib.hid ho; have n2 := Lib.hid hb; have n3 := Lib.hid (below_grown_nil hg); clear ho hb hg hat)
              | ((refine Kd.R_append_rows_step k34 (Rr := k34.K w4) (w0 := w) w.heap.size (by rfl) (.tmp 113) (.tmp 116) 28 34 _ 24 (by rfl) Try.underlying28 info34 rfl (by decide) (by omega) v1 ([] ++ (allL c 0 k).drop FF) ((allL c 0 k).take FF) (some ⟨g, 0, none⟩) FF cg (fun _ => True) (fun _ => False) (by rfl) (by rfl) n1.out (Kd.C_below HT.out n3.out) (fun x cs h => by obtain rfl := k34_open h; exact k34_mkM _ _ _ _) (fun _ h => h.elim) (fun _ _ => trivial) n2.out n2.out.size (by rw [List.nil_append, HDL.out]; omega) ?_); intro v2 w5 ho hb hg hat; have m1 := Lib.hid ho; have m2 := Lib.hid hb; clear ho hb hg hat))
            all_goals
              go_wp2_with fail
              go_ret
              exact ⟨v2, rfl, by rw [HFU.out]; have := m1.out; rw [List.nil_append] at this; exact this, m2.out⟩
          · have e : L = FF := (hF2 hjf).symm
            obtain rfl := e
            clear hF1 hF2 hjf HL hLm
            go_wp2_with fail
            have hFc : ¬ cg = L := by omega
            have hd := Kd.C_drop HR9.out (m := L) (c := cg) (by rw [HM.out]; omega) (by rw [HM.out]; omega)
            rw [if_neg hFc, List.length_drop, HM.out] at hd
            have hdd : Kd.C k34 wr (some ⟨g, L * 3, none⟩) (m - L) ((allL c 0 k).drop L) := by have := hd; rw [Option.map_some, add_plain] at this; exact this
            have ht : Kd.C k34 wr (some ⟨g, 0, none⟩) L ((allL c 0 k).take L) := by
              have := Kd.C_take HR9.out (m := L) (by rw [HM.out]; omega)
              rw [List.length_take, HM.out, Nat.min_eq_left (by omega)] at this
              exact this
            have HDD := Lib.hid (Kd.C_below hdd (below_drew (Below.refl _ wr)))
            have HT := Lib.hid (Kd.C_below ht (below_drew (Below.refl _ wr)))
            have HBD := Lib.hid (below_drew (below_step HB.out HB3.out))
            have hmF : m - L ≤ 4000 := by omega
            have hL4 : L ≤ 2000 := by omega
            have HDL : Hid (((allL c 0 k).drop L).length = m - L) := Lib.hid (by rw [List.length_drop, HM.out])
            clear hd hdd ht
            have hc0 : (0 : Int) ≤ (L : Int) := by omega
            have hc1 : (L : Int) ≤ (m : Int) := by omega
            have hc2 : (m : Int) ≤ (cg : Int) := by omega
            have hc3 : (L : Int) ≤ (cg : Int) := by omega
            have hc4 : L ≤ m := by omega
            have hc5 : L ≤ cg := by omega
            go_region_law (first
              | ((refine Kd.R_append_rows_step k34 (Rr := k34.K wr.drew) (w0 := w) w.heap.size (by rfl) (.const (.slice none 0 0)) (.tmp 112) 28 34 _ 24 (by rfl) Try.underlying28 info34 rfl (by decide) (by omega) (.slice none 0 0) [] ((allL c 0 k).drop L) (some ⟨g, L * 3, none⟩) (m - L) (cg - L) (fun _ => True) (fun _ => False) (by rfl) (by rfl) (Kd.R_nil _ _ _ _ _) HDD.out (fun x cs h => by obtain rfl := k34_open h; exact k34_mkM _ _ _ _) (fun _ h => h.elim) (fun _ _ => trivial) HBD.out HBD.out.size (by show (0 + (m - L)) * 24 ≤ _; omega) ?_); intro v1 w4 ho hb hg hat; have n1 := Lib.hid ho; have n2 := Lib.hid hb; have n3 := Lib.hid (below_grown_nil hg); clear ho hb hg hat)
              | ((refine Kd.R_append_rows_step k34 (Rr := k34.K w4) (w0 := w) w.heap.size (by rfl) (.tmp 113) (.tmp 116) 28 34 _ 24 (by rfl) Try.underlying28 info34 rfl (by decide) (by omega) v1 ([] ++ (allL c 0 k).drop L) ((allL c 0 k).take L) (some ⟨g, 0, none⟩) L cg (fun _ => True) (fun _ => False) (by rfl) (by rfl) n1.out (Kd.C_below HT.out n3.out) (fun x cs h => by obtain rfl := k34_open h; exact k34_mkM _ _ _ _) (fun _ h => h.elim) (fun _ _ => trivial) n2.out n2.out.size (by rw [List.nil_append, HDL.out]; omega) ?_); intro v2 w5 ho hb hg hat; have m1 := Lib.hid ho; have m2 := Lib.hid hb; clear ho hb hg hat))
            all_goals
              go_wp2_with fail
              go_ret
              exact ⟨v2, rfl, by rw [HFU.out]; have := m1.out; rw [List.nil_append] at this; exact this, m2.out⟩
end Go.Proofs.Ytjealbaomhjoaaa
