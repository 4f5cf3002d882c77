/- AtlasMany: its walk. -/
import Derived.Test.YtaccppchhljnkaaAwk
import Derived.Test.YtaccppchhljnkaaAtN
set_option linter.unusedVariables false
set_option linter.unusedSimpArgs false
namespace Go.Proofs.Ytaccppchhljnkaa
open Go.RowKit Go.Shelf Go.Proofs.YtaccppchhljnkaaW.PrintWords Go.Proofs.YtaccppchhljnkaaW.PrintLast Go.Proofs.YtaccppchhljnkaaW.PrintMore
attribute [local go_sem] max2_max min2_min max_two min_two
theorem str_nm (j : Nat) (hj : j < 60) : strOfNums [(65 + j : Int)] = ⟨#[UInt8.ofNat (65 + j)]⟩ := by
  have : (65 + (j : Int)).toNat = 65 + j := by omega
  simp [strOfNums, this]
set_option maxHeartbeats 4000000 in
set_option maxRecDepth 100000 in
theorem atlasMany_core (n v : Int) (hn : 0 ≤ n ∧ n ≤ 255) (hv : 0 ≤ v ∧ v ≤ 255) (W : World) :
    Calls Try.prog 5 #[.int .u8 n, .int .u8 v] W fun e w' => e = .returned (.bool true) ∧ Below W.heap.size W w' := by
  obtain ⟨n0, n1⟩ := hn
  obtain ⟨v0, v1⟩ := hv
  have HAW := Lib.hid (awake16 W)
  have HOF := Lib.hid (fun w => ofA_c w 64 64 0)
  obtain ⟨i0, hi0, hz0, hz1, hz2⟩ := info_parts Try.info_strO
  go_enter Try.func5, Try.ntmps5
  go_wp2_with fail
  refine HAW.out.mono ?_
  rintro e w1 ⟨rfl, hb1⟩
  have HB1 := Lib.hid hb1
  clear hb1 HAW
  go_wp2_with fail
  refine (HOF.out w1).mono ?_
  rintro e w2 ⟨b, c, rfl, (hA : AtAt w2 b 64 64 0 (zeroS 64) c), ho, hb⟩
  have HB2 := Lib.hid (below_step HB1.out hb)
  have HS2 : Hid (W.heap.size ≤ w2.heap.size) := Lib.hid HB2.out.size
  have HA2 : Hid (AtOn (fun q => q < W.heap.size ∨ (Value.slice none 0 0).ownBlock = some q) w2 w2 b 64 64 0 (zeroS 64)) := Lib.hid ⟨c, hA, fun q hq e => by
    rcases hq with hq | hq
    · have := ho q e; have := HB1.out.size; omega
    · simp [Value.ownBlock] at hq, fun q hq => by
    rcases hq with hq | hq
    · have := HB2.out.size; omega
    · simp [Value.ownBlock] at hq, Kept.refl _ _⟩
  clear hA ho hb c HOF HB1
  obtain ⟨v', hv'⟩ : ∃ v' : Nat, (v' : Int) = 1 + v % 4 := ⟨(1 + v % 4).toNat, by omega⟩
  have hv1' : 1 ≤ v' := by omega
  have hv4 : v' ≤ 4 := by omega
  have hvt : v.tmod 4 = v % 4 := Int.tmod_eq_emod_of_nonneg v0
  have hvw : IntKind.i64.wrap (v % 4) = v % 4 := by rw [IntKind.wrap_i64]; omega
  have hvw2 : IntKind.i64.wrap (1 + v % 4) = 1 + v % 4 := by rw [IntKind.wrap_i64]; omega
  have hmk : ∀ W', (Instr.makeSlice 42 (.int .i64 (1 + v % 4)) (.int .i64 (1 + v % 4))).run Try.prog W' = .ok (.slice (some ⟨W'.heap.size, 0, none⟩) v' v') (W'.alloc (.cells (Array.replicate v' (.int .u8 0)) 5)) := fun W' => by
    rw [← hv']; exact make8 v' (by omega) W'
  obtain ⟨N, hN⟩ : ∃ N : Nat, (N : Int) = n % 60 := ⟨(n % 60).toNat, by omega⟩
  have hN60 : N < 60 := by omega
  go_upto_region 8 with (fail)
  go_loopw [6, 7] (fun v6 v7 wr => ∃ (j : Nat) (s : AtS), v7 = .int .i64 j ∧ j ≤ N ∧ Hid (ManyI j s) ∧ Hid (SlO wr 9 1 v6 j ((nmL j).map Value.string)) ∧ Hid (AtOn (fun q => q < W.heap.size ∨ v6.ownBlock = some q) wr wr b 64 64 0 s) ∧ Hid (Below W.heap.size W wr) ∧ Hid (∀ q, v6.ownBlock = some q → W.heap.size ≤ q)) (fun _ v7 _ => N - (intOf v7).toNat)
  case atStart => exact ⟨0, zeroS 64, rfl, Nat.zero_le _, Lib.hid ManyI.zero, Lib.hid (SlO.nil _ _ _), HA2, HB2, Lib.hid (fun q hq => by simp [Value.ownBlock] at hq)⟩
  case round =>
    obtain ⟨j, s, rfl, hj, HM, HSL, HA, HB, HO⟩ := hrel
    obtain ⟨A6, cap6, rfl, hc6⟩ := HSL.out.isSlice
    by_cases hjn : j < N
    · have hjn' : (j : Int) < n % 60 := by omega
      have hj60 : j < 60 := by omega
      have hlit := slO_C8 (by omega) (slO_lit (t := [(65 + j : Int)]) (n := 1) (heap_alloc_new wr (.cells #[.int .u8 (65 + j)] 5)) rfl (by omega))
      have hcv := Kd.C_string (P := Try.prog) (c := 1) Try.underlying42 Try.underlying5 Try.underlying9 hlit.1
      rw [str_nm j hj60] at hcv
      obtain ⟨x, hx⟩ : ∃ x, UInt8.ofNat (65 + j) = x := ⟨_, rfl⟩
      rw [hx] at hcv
      have HX : Hid ((⟨#[110]⟩ : ByteArray) ++ ⟨#[x]⟩ = nmS j) := Lib.hid (by rw [← hx]; rfl)
      clear hlit hx
      go_upto_region 11 with (at_builtin; refine wpList_append_sl _ rfl (.tmp 23) (.tmp 30) 29 rfl 9 i0 (.string ByteArray.empty) 1 16 Try.underlying29 hi0 hz0 hz1 hz2 rfl (by decide) _ j _ rfl ((HSL.out.kept (Kept.alloc (fun _ => False) _ _) (by simp)).kept (Kept.alloc (fun _ => False) _ _) (by simp)) ⟨wr.heap.size + 1, 0, none⟩ 1 1 [.string (⟨#[110]⟩ ++ ⟨#[x]⟩)] rfl rfl ?c1 ?c2 ?c3 ?c4 ?_)
      case c1 =>
        intro j' u hj'
        match j', hj' with
        | 0, hj' => simp at hj'; subst hj'; simp [Addr.add]
      case c2 => intro u hu; simp at hu; subst hu; rfl
      case c3 => unfold maxLen; omega
      case c4 => omega
      · intro A' cap' w5 hs5 hg5 ho5 _
        have hxs := HX.out
        rw [hxs] at hs5
        have hxs2 : (nmL j).map Value.string ++ [.string (nmS j)] = (nmL (j + 1)).map Value.string := by rw [nmL_succ, List.map_append]; rfl
        rw [hxs2] at hs5
        have hk5 : Kept (fun q => (Value.slice A6 j cap6).ownBlock = some q) wr w5 := ((Kept.alloc _ wr _).trans (Kept.alloc _ _ _)).trans (Kept.of_grownBy hg5)
        have hsz5 := hk5.size
        have hown5 : ∀ q, (Value.slice A' (j + 1) cap').ownBlock = some q → (Value.slice A6 j cap6).ownBlock = some q ∨ wr.heap.size ≤ q := fun q hq => by
          rcases ho5 with h | h
          · exact .inl (h ▸ hq)
          · rw [h] at hq; injection hq with hq; exact .inr (by omega)
        have hA5 := HA.out.wrote (Q := fun q => q < W.heap.size ∨ (Value.slice A' (j + 1) cap').ownBlock = some q) hk5 (fun q hq _ => .inr hq) (fun q hq cells hc => by
          obtain ⟨cur, hcur⟩ := HSL.out.blk hq
          rw [hc] at hcur; injection hcur with hcur; injection hcur with _ hcur; exact absurd hcur (by decide)) (fun q hq => by
          rcases hq with hq | hq
          · have := HB.out.size; exact ⟨by omega, .inl (.inl hq)⟩
          · obtain ⟨cur, hcur⟩ := hs5.blk hq
            exact ⟨lt_in hcur, (hown5 q hq).imp (fun h => .inr h) id⟩)
        have hB5 : Below W.heap.size W w5 := HB.out.trans (hk5.below HB.out.size (fun q hq => HO.out q hq))
        have HO5 : Hid (∀ q, (Value.slice A' (j + 1) cap').ownBlock = some q → W.heap.size ≤ q) := Lib.hid (fun q hq => (hown5 q hq).elim (HO.out q) (fun h => Nat.le_trans HB.out.size h))
        obtain ⟨g6, cur6, e6', hcur6, hce6⟩ : ∃ g6 cur6, A' = some ⟨g6, 0, none⟩ ∧ w5.heap[g6]? = some (.cells cur6 9 (0, 0)) ∧ w5.cell? ⟨g6, j, none⟩ = some (.string (nmS j)) := by
          have hs5' := hs5
          rcases hs5.2 with ⟨_, h0⟩ | ⟨g, cap, cur, e, hg, h3, h4, h5, h6⟩
          · omega
          · injection e with e1 e2 e3
            refine ⟨g, cur, e1, hg, ?_⟩
            rw [blk_cell hg j]
            have h7 : (cur.toList.take ((j + 1) * 1))[j]? = ((nmL (j + 1)).map Value.string)[j]? := by rw [h6]
            rw [List.getElem?_take_of_lt (by omega), nmL_succ, List.map_append, List.getElem?_append_right (by simp [nmL_len])] at h7
            simpa [nmL_len] using h7
        subst e6'
        have HSL5 := Lib.hid hs5; have HA5 := Lib.hid hA5; have HB5 := Lib.hid hB5
        clear hs5 hg5 ho5 hxs hxs2 hk5 hsz5 hown5 hA5 hB5 HSL HA HB HO hcur6 cur6 hcv HX hc6
        obtain ⟨s', hld, hM'⟩ := many_step j hj60 s HM.out v' ⟨hv1', hv4⟩
        rw [hv'] at hld
        have hgl : s.gone.length ≤ 100000 := by rw [HM.out.gn, List.length_take, nmL_len]; omega
        have HLD : Hid (∀ w7, w7 = w5.drew.alloc (.cells (Array.replicate v' (.int .u8 0)) 5) → Calls Try.prog 15 #[.pointer (some ⟨b, 0, none⟩), .string (nmS j), .agg #[.int .i64 (1 + v % 4), .int .i64 1, .slice (some ⟨w5.heap.size, 0, none⟩) v' v']] w7 fun e w'' => e = .returned (.int .i64 0) ∧ AtOn (fun q => q < W.heap.size ∨ (Value.slice (some ⟨g6, 0, none⟩) (j + 1) cap').ownBlock = some q) w5 w'' b 64 64 0 s') := Lib.hid (fun w7 he => by
          subst he
          have h0 := load_new HA5.out (below_alloc (below_drew (Below.refl _ _)) (.cells (Array.replicate v' (.int .u8 0)) 5)) (nmS j) (by rw [show (nmS j).size = 2 from rfl]; unfold maxLen; omega) (1 + v % 4) 1 (by omega) (by omega) (some ⟨w5.heap.size, 0, none⟩) v' v' (List.replicate v' 0) (by simp) (by omega) (slO_lit (by have := heap_alloc_new w5.drew (.cells (Array.replicate v' (.int .u8 0)) 5); simpa using this) (by simp) (by omega)) (fun q hq => Nat.le_of_eq (by simpa [Value.ownBlock] using hq)) (fun x hx => by have := (List.mem_replicate.1 hx).2; omega) hgl
          rw [hld] at h0
          exact h0)
        have HM' := Lib.hid hM'
        clear hld hM' hgl HM
        go_upto_region 11 with (fail)
        refine wp_region_noPanic ?_
        have hS0 : (fun w' : World => w'.cell? ⟨g6, j, none⟩ = some (.string (nmS j))) w5.drew := hce6
        refine wp_region_held_drew (S := fun w' : World => w'.cell? ⟨g6, j, none⟩ = some (.string (nmS j))) (by kernel_rfl) hS0 (fun _ => ?_)
        refine wpAnyH_take (i := 0) (oi := _) (v := (.pointer (some ⟨b, 0, none⟩))) rfl (by kernel_rfl) (by kernel_rfl) (by kernel_rfl) (fun _ _ _ h => h) (Or.inl ⟨by rfl, ?_⟩) hS0 ?_
        · intro w' hSw; go_simp; try (intro hbad; exact absurd hbad (by omega))
        try simp only [Act.put, List.setIfInBounds_toArray, List.set_cons_zero, List.set_cons_succ]
        refine wpAnyH_take (i := 1) (oi := _) (v := (.slice (some ⟨g6, 0, none⟩) (j + 1) cap')) rfl (by kernel_rfl) (by kernel_rfl) (by kernel_rfl) (fun _ _ _ h => h) (Or.inl ⟨by rfl, ?_⟩) hS0 ?_
        · intro w' hSw; go_simp; try (intro hbad; exact absurd hbad (by omega))
        try simp only [Act.put, List.setIfInBounds_toArray, List.set_cons_zero, List.set_cons_succ]
        refine wpAnyH_take (i := 2) (oi := _) (v := (.int .i64 j)) rfl (by kernel_rfl) (by kernel_rfl) (by kernel_rfl) (fun _ _ _ h => h) (Or.inl ⟨by rfl, ?_⟩) hS0 ?_
        · intro w' hSw; go_simp; try (intro hbad; exact absurd hbad (by omega))
        try simp only [Act.put, List.setIfInBounds_toArray, List.set_cons_zero, List.set_cons_succ]
        refine wpAnyH_take (i := 3) (oi := _) (v := (.pointer (some ⟨g6, j, none⟩))) rfl (by kernel_rfl) (by kernel_rfl) (by kernel_rfl) (fun _ _ _ h => h) (Or.inl ⟨by rfl, ?_⟩) hS0 ?_
        · intro w' hSw; go_simp; try (intro hbad; exact absurd hbad (by omega))
        try simp only [Act.put, List.setIfInBounds_toArray, List.set_cons_zero, List.set_cons_succ]
        refine wpAnyH_take (i := 4) (oi := _) (v := (.string (nmS j))) rfl (by kernel_rfl) (by kernel_rfl) (by kernel_rfl) (fun _ _ _ h => h) (Or.inl ⟨by rfl, ?_⟩) hS0 ?_
        · intro w' hSw; go_simp; try (intro hbad; exact absurd hbad (by omega))
        try simp only [Act.put, List.setIfInBounds_toArray, List.set_cons_zero, List.set_cons_succ]
        refine wpAnyH_take (i := 5) (oi := _) (v := (.int .u8 v)) rfl (by kernel_rfl) (by kernel_rfl) (by kernel_rfl) (fun _ _ _ h => h) (Or.inl ⟨by rfl, ?_⟩) hS0 ?_
        · intro w' hSw; go_simp; try (intro hbad; exact absurd hbad (by omega))
        try simp only [Act.put, List.setIfInBounds_toArray, List.set_cons_zero, List.set_cons_succ]
        refine wpAnyH_take (i := 6) (oi := _) (v := (.int .u8 (v % 4))) rfl (by kernel_rfl) (by kernel_rfl) (by kernel_rfl) (fun _ _ _ h => h) (Or.inl ⟨by rfl, ?_⟩) hS0 ?_
        · intro w' hSw; go_simp; try (intro hbad; exact absurd hbad (by omega))
        try simp only [Act.put, List.setIfInBounds_toArray, List.set_cons_zero, List.set_cons_succ]
        refine wpAnyH_take (i := 7) (oi := _) (v := (.int .i64 (v % 4))) rfl (by kernel_rfl) (by kernel_rfl) (by kernel_rfl) (fun _ _ _ h => h) (Or.inl ⟨by rfl, ?_⟩) hS0 ?_
        · intro w' hSw; go_simp; try (intro hbad; exact absurd hbad (by omega))
        try simp only [Act.put, List.setIfInBounds_toArray, List.set_cons_zero, List.set_cons_succ]
        refine wpAnyH_take (i := 8) (oi := _) (v := (.int .i64 (1 + v % 4))) rfl (by kernel_rfl) (by kernel_rfl) (by kernel_rfl) (fun _ _ _ h => h) (Or.inl ⟨by rfl, ?_⟩) hS0 ?_
        · intro w' hSw; go_simp; try (intro hbad; exact absurd hbad (by omega))
        try simp only [Act.put, List.setIfInBounds_toArray, List.set_cons_zero, List.set_cons_succ]
        refine wpAnyH_take (i := 9) (oi := _) (v := (.int .u8 v)) rfl (by kernel_rfl) (by kernel_rfl) (by kernel_rfl) (fun _ _ _ h => h) (Or.inl ⟨by rfl, ?_⟩) hS0 ?_
        · intro w' hSw; go_simp; try (intro hbad; exact absurd hbad (by omega))
        try simp only [Act.put, List.setIfInBounds_toArray, List.set_cons_zero, List.set_cons_succ]
        refine wpAnyH_take (i := 10) (oi := _) (v := (.int .u8 (v % 4))) rfl (by kernel_rfl) (by kernel_rfl) (by kernel_rfl) (fun _ _ _ h => h) (Or.inl ⟨by rfl, ?_⟩) hS0 ?_
        · intro w' hSw; go_simp; try (intro hbad; exact absurd hbad (by omega))
        try simp only [Act.put, List.setIfInBounds_toArray, List.set_cons_zero, List.set_cons_succ]
        refine wpAnyH_take (i := 11) (oi := _) (v := (.int .i64 (v % 4))) rfl (by kernel_rfl) (by kernel_rfl) (by kernel_rfl) (fun _ _ _ h => h) (Or.inl ⟨by rfl, ?_⟩) hS0 ?_
        · intro w' hSw; go_simp; try (intro hbad; exact absurd hbad (by omega))
        try simp only [Act.put, List.setIfInBounds_toArray, List.set_cons_zero, List.set_cons_succ]
        refine wpAnyH_take (i := 12) (oi := _) (v := (.int .i64 (1 + v % 4))) rfl (by kernel_rfl) (by kernel_rfl) (by kernel_rfl) (fun _ _ _ h => h) (Or.inl ⟨by rfl, ?_⟩) hS0 ?_
        · intro w' hSw; go_simp; try (intro hbad; exact absurd hbad (by omega))
        try simp only [Act.put, List.setIfInBounds_toArray, List.set_cons_zero, List.set_cons_succ]
        refine wpAnyH_ready (rs := [13]) (by kernel_rfl) (by simp) ?_
        refine AllReadyH.cons (o := _) rfl (fun K hK => ?_) (AllReadyH.nil)
        go_simp
        refine gen_world (q := fun x => x = w5.drew.alloc (.cells (Array.replicate v' (.int .u8 0)) 5) ∧ x.cell? ⟨g6, j, none⟩ = some (.string (nmS j))) ⟨rfl, cell_alloc hce6⟩ (fun x1 hx => ?_)
        obtain ⟨hx1, hS1⟩ := hx
        have HX1 := Lib.hid hx1; clear hx1
        refine hK.out _ _ hS1 (fun _ => ?_)
        clear hK K
        try simp only [Act.put, List.setIfInBounds_toArray, List.set_cons_zero, List.set_cons_succ]
        refine wpAnyH_take (i := 14) (oi := _) (v := (.agg #[.int .i64 (1 + v % 4), .int .i64 1, .slice (some ⟨w5.heap.size, 0, none⟩) v' v'])) rfl (by kernel_rfl) (by kernel_rfl) (by kernel_rfl) (fun _ _ _ h => h) (Or.inl ⟨by rfl, ?_⟩) hS1 ?_
        · intro w' hSw; go_simp
        try simp only [Act.put, List.setIfInBounds_toArray, List.set_cons_zero, List.set_cons_succ]
        refine wpAnyH_ready (rs := [15]) (by kernel_rfl) (by simp) ?_
        refine AllReadyH.cons (o := _) rfl (fun K hK => ?_) (AllReadyH.nil)
        go_simp
        go_at_call 15; refine (HLD.out _ HX1.out).mono ?_; rintro e w8 ⟨rfl, hA8⟩
        have HA8 := Lib.hid hA8; clear hA8 HLD HX1
        go_wp2_with fail
        have hS8 : w8.cell? ⟨g6, j, none⟩ = some (.string (nmS j)) := HA8.out.keptP.cell (a := ⟨g6, j, none⟩) hce6 (fun hn => hn (.inr rfl))
        refine hK.out _ _ hS8 (fun _ => ?_)
        clear hK K
        try simp only [Act.put, List.setIfInBounds_toArray, List.set_cons_zero, List.set_cons_succ]
        refine wpAnyH_take (i := 16) (oi := _) (v := (.bool false)) rfl (by kernel_rfl) (by kernel_rfl) (by kernel_rfl) (fun _ _ _ h => h) (Or.inl ⟨by rfl, ?_⟩) hS8 ?_
        · intro w' hSw; go_simp
        try simp only [Act.put, List.setIfInBounds_toArray, List.set_cons_zero, List.set_cons_succ]
        refine wpAnyH_done (by kernel_rfl) ?_ _
        refine NoPanic.normal ?_
        have HSL8 := Lib.hid (HSL5.out.kept HA8.out.keptP (fun q hq hn => hn (.inr hq)))
        have HB8 : Hid (Below W.heap.size W w8) := Lib.hid (HB5.out.trans (HA8.out.out (fun q hq => .inl hq) HB5.out.size))
        have HA9 := Lib.hid (HA8.out.base (fun q hq => hq))
        clear HSL5 HA8 HB5 hS8 hS1 hS0
        go_wp2_with fail
        go_roundw
        case rel => exact ⟨j + 1, s', by go_num, by omega, HM', HSL8, HA9, HB8, HO5⟩
        case measure => simp [intOf]; omega
    · have hjn' : ¬ (j : Int) < n % 60 := by omega
      obtain rfl : j = N := by omega
      clear hmk hvt hvw hvw2 HA2 HB2 HS2
      go_wp2_with fail
      refine (keys_on HA.out).mono ?_
      rintro e w3 ⟨vo, rfl, hs3, hb3, -, hA3⟩
      have hkl : s.keys.length = j - (j - 32) := by rw [HM.out.ks, List.length_drop, nmL_len]
      have hgl : s.gone.length = min (j - 32) j := by rw [HM.out.gn, List.length_take, nmL_len]
      obtain ⟨A3, cap3, rfl, hc3⟩ := hs3.isSlice
      obtain ⟨K, hK⟩ : ∃ K, s.keys.length = K := ⟨_, rfl⟩
      rw [hK] at hs3 hc3 hkl ⊢
      have HS3 := Lib.hid hs3; have HA3 := Lib.hid hA3
      have HL3 := Lib.hid (HSL.out.kept (Kept.of_below (fun _ => False) hb3) (fun _ _ h => h))
      have HB3 : Hid (Below W.heap.size W w3) := Lib.hid (HB.out.trans (hb3.mono HB.out.size))
      have hne : ((K : Int) != min 32 (j : Int)) = false := by rw [bne_eq_false_iff_eq]; omega
      have hws : IntKind.i64.wrap ((j : Int) - 32) = (j : Int) - 32 := by rw [IntKind.wrap_i64]; omega
      have HKL := Lib.hid hkl; have HGL := Lib.hid hgl; have HNN := Lib.hid hN; have HKK := Lib.hid hK
      clear hs3 hA3 hb3 HSL HA HB HO hkl hgl hN hjn' hK hjn hj
      go_wp2_with fail
      refine (gone_on HA3.out (by rw [HGL.out]; omega)).mono ?_
      rintro e w4 ⟨vg, rfl, hs4, hb4, -, hA4⟩
      obtain ⟨A4, cap4, rfl, hc4⟩ := hs4.isSlice
      obtain ⟨G, hG⟩ : ∃ G, s.gone.length = G := ⟨_, rfl⟩
      rw [hG] at hs4 hc4 ⊢
      have hne2 : ((G : Int) != max 0 ((j : Int) - 32)) = false := by have := HGL.out; rw [bne_eq_false_iff_eq]; omega
      have HS4 := Lib.hid (HS3.out.kept (Kept.of_below (fun _ => False) hb4) (fun _ _ h => h))
      have HL4 := Lib.hid (HL3.out.kept (Kept.of_below (fun _ => False) hb4) (fun _ _ h => h))
      have HB4 : Hid (Below W.heap.size W w4) := Lib.hid (HB3.out.trans (hb4.mono HB3.out.size))
      clear hs4 hA4 hb4 HS3 HL3 HB3 HA3 hG
      go_upto_region 17 with (fail)
      go_loopw [69] (fun v69 wr => ∃ i : Nat, v69 = .int .i64 i ∧ i ≤ K ∧ wr = w4) (fun v69 _ => K - (intOf v69).toNat)
      case atStart => exact ⟨0, rfl, Nat.zero_le _, rfl⟩
      case round =>
        obtain ⟨i, rfl, hi, rfl⟩ := hrel
        by_cases hik : i < K
        · have hik' : (i : Int) < (K : Int) := by omega
          obtain ⟨m, hm⟩ : ∃ m, j - K + i = m := ⟨_, rfl⟩
          have hkj : K ≤ j := by have := HKL.out; omega
          have hmj : m < j := by omega
          obtain ⟨x, hx⟩ : ∃ x, (nmL j)[m]'(by rw [nmL_len]; exact hmj) = x := ⟨_, rfl⟩
          obtain ⟨g4, rfl, hc4, -⟩ := HL4.out.elem (i := m) (x := .string x) hmj (by rw [List.getElem?_map, List.getElem?_eq_getElem (by rw [nmL_len]; exact hmj), hx]; rfl)
          obtain ⟨g3, rfl, hc3', -⟩ := HS4.out.elem (i := i) (x := .string x) hik (by
            rw [HM.out.ks, List.getElem?_map, List.getElem?_drop, show j - 32 + i = m from by have := HKL.out; omega, List.getElem?_eq_getElem (by rw [nmL_len]; exact hmj), hx]; rfl)
          have hw1 : IntKind.i64.wrap ((j : Int) - (K : Int)) = ((j - K : Nat) : Int) := by rw [IntKind.wrap_i64]; omega
          have hw2 : IntKind.i64.wrap (((j - K : Nat) : Int) + (i : Int)) = (m : Int) := by rw [IntKind.wrap_i64]; omega
          have hmj' : (m : Int) < (j : Int) := by omega
          clear hx hm
          go_wp2_with fail
          go_roundw
          case rel => exact ⟨i + 1, by go_num, by omega, by first | rfl | trivial⟩
          case measure => simp [intOf]; omega
        · have hik' : ¬ (i : Int) < (K : Int) := by omega
          go_wp2_with fail
          go_ret
          exact ⟨rfl, HB4.out⟩
end Go.Proofs.Ytaccppchhljnkaa
