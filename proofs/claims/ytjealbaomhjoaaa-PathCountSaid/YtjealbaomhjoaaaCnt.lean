/- PathCount: the walk. -/
import Derived.Test.YtjealbaomhjoaaaPLines
import Derived.Test.YtjealbaomhjoaaaCntP
set_option linter.unusedVariables false
set_option linter.unusedSimpArgs false
namespace Go.Proofs.Ytjealbaomhjoaaa
open Go.RowKit Go.Proofs.Ytjealbaomhjoaaa.G Go.Proofs.YtjealbaomhjoaaaW.PrintWords Go.Proofs.YtjealbaomhjoaaaW.PrintMore
theorem olF_len8 (l : List (List S66)) : (∀ c ∈ olF l, c ≠ [] ∧ c.length ≤ 64) ∧ (olF l).length ≤ 8 :=
  ⟨fun c hc => ⟨(olF_good l).ne c hc, Nat.le_trans (List.sublist_flatten_of_mem hc).length_le (olF_good l).sum⟩, (olF_good l).eight⟩
theorem segF_len2 (c : List S34) : (segF c).length ≤ c.length + 1 := by
  have hc : ∀ (n i : Nat), (cyc c i n).length = n := by
    intro n
    induction n with
    | zero => intro i; rfl
    | succ n ih => intro i; rw [cyc, List.length_cons, ih]
  unfold segF
  split
  · simp
  · split
    · have := stS_len (cyc c (fiOn c + 1) (c.length - 1)) (at2 (c.getD (fiOn c) z34)) [] none
      rw [hc] at this
      simp [finS] at this ⊢; omega
    · have := stS_len (cyc c c.length c.length) (half2 (c.getD (c.length - 1) z34) (c.getD 0 z34)) [] none
      rw [hc] at this
      simp [finS] at this ⊢; omega
theorem segF_pos2 (c : List S34) (h : c ≠ []) : 0 < (segF c).length := by
  unfold segF
  rw [if_neg h]
  split <;> simp [finS]
theorem take_snoc {α : Type} (c : List α) (k : Nat) (d : α) (h : k < c.length) : c.take (k + 1) = c.take k ++ [c.getD k d] := by
  rw [List.take_add_one, List.getElem?_eq_getElem h, List.getD_eq_getElem?_getD, List.getElem?_eq_getElem h]; rfl
theorem offs_snoc (c : List S34) (v : S34) : (offs (c ++ [v])).map kn = if v.f2 then (offs c).map kn else (offs c).map kn ++ [kn (at2 v)] := by
  rw [offs_append]; cases h : v.f2 <;> simp [offs, h]
theorem cur_snoc (s : List S38) (t : S38) : (curB (s ++ [t])).map kn = if t.f3 then (curB s).map kn ++ [kn t.f1] else (curB s).map kn := by
  rw [curB_append]; cases h : t.f3 <;> simp [curB, h]
theorem cur_in (c : List S34) (t : S38) (h : t ∈ segF c) (h3 : t.f3 = true) : (kn t.f1).1 = t.f1 := by
  have h1 : t.f1 ∈ curB (segF c) := List.mem_map.2 ⟨t, List.mem_filter.2 ⟨h, h3⟩, rfl⟩
  obtain ⟨v, _, e⟩ := List.mem_map.1 ((curB_segF c).mem_iff.1 h1)
  rw [← e, kn_at2]
theorem below_kept {B q : Nat} {a b c : World} (h : Below B a b) (k : Kept (· = q) b c) (hq : B ≤ q) (hB : B ≤ b.heap.size) : Below B a c :=
  h.trans (k.below hB (fun k e => by omega))
theorem mapIs_at {κ ε : Type} {L : κ → Lit} {E : ε → Value} {D : DataW Value} {f : κ → Option ε} (h : ∀ x z, D.atKey (L x) (.held z) = .held (((f x).map E).getD z)) {x : κ} {kl : Lit} (hk : kl = L x) {c : Value} {y : DataW Value × List MemPlace} (hc : hv c = some y) (hat : ∀ zd, D.atKey kl zd = y.1) (z : Value) : c = ((f x).map E).getD z := by
  subst hk
  have h1 := h x z
  rw [hat] at h1
  obtain ⟨y1, y2⟩ := y
  have : y1 = .held (((f x).map E).getD z) := h1
  subst this
  exact hv_inv hc
attribute [local go_sem high] eqA36 eqA38
attribute [local go_sem] cell_alloc in
set_option maxHeartbeats 4000000 in
set_option maxRecDepth 100000 in
theorem pathCount_core (a0 : Option Addr) (c0 : Nat) (l0 : List (List S66)) (w : World) (rd0 : Kd.C (Kd.slice 66 k66) w a0 l0.length l0) (le0 : l0.length ≤ c0) :
    Calls Try.prog 5 #[.slice a0 l0.length c0] w fun e w' => e = .returned (.bool true) ∧ Below w.heap.size w w' := by
  have R0 := Lib.hid rd0; clear rd0
  have hmm := @run_makeMap Try.prog
  go_enter Try.func5, Try.ntmps5
  go_wp2_with fail
  refine (pawake_c w).mono ?_
  rintro e w1 ⟨rfl, hb1⟩
  have B1 := Lib.hid hb1; clear hb1
  go_wp2_with fail
  refine (outline_any l0 a0 c0 w1 (Kd.C_below R0.out B1.out) le0).mono ?_
  rintro e w2 ⟨A2, c2, rfl, hs2, hb2⟩
  have GO := Lib.hid (olF_len8 l0)
  have S2 := Lib.hid (Kd.S_lower hs2 B1.out.size)
  have B2 := Lib.hid (B1.out.trans (hb2.mono B1.out.size)); clear hs2 hb2
  have HZ : Hid (w.heap.size ≤ w2.heap.size) := Lib.hid B2.out.size
  obtain ⟨N, hN⟩ : ∃ N, (olF l0).length = N := ⟨_, rfl⟩
  rw [hN] at S2
  have HN := Lib.hid hN
  rw [hN]
  clear hN
  have hN8 : N ≤ 8 := by have := GO.out.2; have := HN.out; omega
  have hfd : ∀ W : World, (Instr.field 26 (.agg #[.slice A2 N c2]) 0).run Try.prog W = .ok (.slice A2 N c2) W := fun _ => by kernel_rfl
  by_cases hN0 : N = 0
  · subst hN0
    go_wp2_with fail
    go_loopw [19] (fun v19 W => v19 = .int .i64 (0 : Int) ∧ Hid (Below w.heap.size w W)) (fun _ _ => 0)
    case atStart => exact ⟨rfl, B2⟩
    case round =>
      obtain ⟨rfl, HB⟩ := hrel
      go_wp2_with fail
      go_ret
      exact ⟨rfl, HB.out⟩
  · obtain ⟨gO, cO, eO, -, -, -⟩ := Kd.S_form S2.out (by rw [HN.out]; omega)
    have hA : A2 = some ⟨gO, 0, none⟩ := by injection eO
    clear eO
    subst hA
    go_wp2_with fail
    go_loopw [19] (fun v19 W => ∃ i : Nat, v19 = .int .i64 i ∧ i ≤ N ∧ Hid (Below w2.heap.size w2 W)) (fun v19 _ => N - (intOf v19).toNat)
    case atStart => exact ⟨0, rfl, Nat.zero_le _, Lib.hid (Below.refl _ _)⟩
    case round =>
      obtain ⟨i, rfl, hi, HB⟩ := hrel
      by_cases hin : i < N
      · have hii : (i : Int) < (N : Int) := by omega
        have hio : i < (olF l0).length := by rw [HN.out]; exact hin
        obtain ⟨A, ci, x0, x1, x2⟩ := inner_reads (Kd.S_below S2.out HB.out) i hio
        have hmem : (olF l0).getD i [] ∈ olF l0 := by rw [List.getD_eq_getElem?_getD, List.getElem?_eq_getElem hio]; exact List.getElem_mem _
        obtain ⟨c, hc⟩ : ∃ c, (olF l0).getD i [] = c := ⟨_, rfl⟩
        rw [hc] at x0 x1 x2 hmem
        obtain ⟨z1, z2⟩ := GO.out.1 c hmem
        obtain ⟨n, hn⟩ : ∃ n, c.length = n := ⟨_, rfl⟩
        have hpos : 0 < n := by rw [← hn]; exact List.length_pos_iff.2 z1
        obtain ⟨ac, hac⟩ : ∃ ac, A = some ac := by
          obtain ⟨ad, e, _⟩ := at_T34 x2 0 (by omega) (by omega)
          exact ⟨ad, e⟩
        subst hac
        have RC := Lib.hid x2
        rw [hn] at x0 x1 z2
        rw [add_plain] at x0
        have HNC := Lib.hid hn
        clear x2 hmem hc hn hio
        obtain ⟨wi, rfl⟩ : ∃ x : World, x = wr := ⟨_, rfl⟩
        have C5 := Cnt.made wi
        have C6 := Cnt.made (wi.alloc (.map #[] 0))
        have k1 := below_alloc (Below.refl _ wi) (.map #[] 0)
        have k2 := below_alloc (Below.refl _ (wi.alloc (.map #[] 0))) (.map #[] 0)
        have hz6 : (wi.alloc (.map #[] 0)).heap.size = wi.heap.size + 1 := by simp
        rw [hz6] at C6
        have C5 := Lib.hid (C5.below k2 (by rw [hz6]; omega))
        have C6 := Lib.hid C6
        have hzi := HB.out.size
        have I2 : Hid (Below wi.heap.size wi ((wi.alloc (.map #[] 0)).alloc (.map #[] 0))) := Lib.hid (k1.trans (k2.mono (by rw [hz6]; omega)))
        have HCN := Lib.hid z1
        clear k1 k2 hz6
        go_upto_region 7 with (fail)
        generalize (wi.alloc (.map #[] 0)).alloc (.map #[] 0) = w4 at *
        generalize hb5 : wi.heap.size = b5 at *
        have HB5 := Lib.hid hb5
        clear hb5
        go_wp2_with fail
        go_loopw [27] (fun v27 W => ∃ k : Nat, v27 = .int .i64 k ∧ k ≤ n ∧ Hid (Cnt W b5 ((offs (c.take k)).map kn)) ∧ Hid (Cnt W (b5 + 1) []) ∧ Hid (Below b5 wi W)) (fun v27 _ => n - (intOf v27).toNat)
        case atStart => exact ⟨0, rfl, Nat.zero_le _, C5, C6, I2⟩
        case round =>
          obtain ⟨k, rfl, hk, D5, D6, HI⟩ := hrel
          by_cases hkn : k < n
          · have hkk : (k : Int) < (n : Int) := by omega
            obtain ⟨q0, q1, q2⟩ := vert_at (Kd.C_below RC.out (by rw [HB5.out]; exact HI.out)) k (by rw [HNC.out]; exact hkn)
            obtain ⟨v, hv⟩ : ∃ v, c.getD k z34 = v := ⟨_, rfl⟩
            have htk := take_snoc c k z34 (by rw [HNC.out]; exact hkn)
            rw [hv] at q0 q1 q2 htk
            have hts := offs_snoc (c.take k) v
            rw [← htk] at hts
            obtain ⟨vx, vy, vo⟩ := v
            have HTS := Lib.hid hts
            clear hv htk hts
            go_upto_region 10 with (fail)
            have al := below_alloc (Below.refl _ wr) (.cells #[.int .i64 vx, .int .i64 vy, .bool vo] 34)
            have g0 := heap_alloc_new wr (.cells #[.int .i64 vx, .int .i64 vy, .bool vo] 34)
            have D5' := Lib.hid (D5.out.below al (MapIs.lt D5.out))
            have D6' := Lib.hid (D6.out.below al (MapIs.lt D6.out))
            have HI' := Lib.hid (HI.out.trans (al.mono (Nat.le_of_lt (MapIs.lt D5.out))))
            have hbv5 : b5 ≠ wr.heap.size := Nat.ne_of_lt (MapIs.lt D5.out)
            clear q0 q1 q2 al D5 D6 HI
            generalize wr.alloc (.cells #[.int .i64 vx, .int .i64 vy, .bool vo] 34) = W1 at *
            generalize wr.heap.size = bV at *
            have s2 : W1.cell? ⟨bV, 2, none⟩ = some (.bool vo) := (blk_cell g0 2).trans rfl
            have HG := Lib.hid g0
            have HBV := Lib.hid hbv5
            clear g0 hbv5
            cases vo with
            | true =>
              go_wp2_with fail
              go_roundw
              case rel => exact ⟨k + 1, by go_num, by omega, Lib.hid (by rw [HTS.out]; exact D5'.out), D6', HI'⟩
              case measure => simp [intOf]; omega
            | false =>
              have hl5 : ((offs (c.take k)).map kn).length < maxLen := by
                have h1 := List.length_filter_le (fun v : S34 => !v.f2) (c.take k)
                have h2 : (c.take k).length ≤ n := by rw [List.length_take, HNC.out]; omega
                unfold offs maxLen; simp only [List.length_map]; omega
              obtain ⟨l5, e5⟩ : ∃ l5, (offs (c.take k)).map kn = l5 := ⟨_, rfl⟩
              rw [e5] at D5' HTS hl5
              obtain ⟨x, hx⟩ : ∃ x, kn (at2 ⟨vx, vy, false⟩) = x := ⟨_, rfl⟩
              rw [hx] at HTS
              have hx1 : x.1 = at2 ⟨vx, vy, false⟩ := by rw [← hx]; exact kn_at2 _
              have hpx : IntKind.i64.wrap (2 * vx) = x.1.f0 := by rw [hx1, IntKind.wrap_i64]; show _ = wrap64 (2 * vx); unfold wrap64; omega
              have hpy : IntKind.i64.wrap (2 * vy) = x.1.f1 := by rw [hx1, IntKind.wrap_i64]; show _ = wrap64 (2 * vy); unfold wrap64; omega
              obtain ⟨PX, hPX⟩ : ∃ p, x.1.f0 = p := ⟨_, rfl⟩
              obtain ⟨PY, hPY⟩ : ∃ p, x.1.f1 = p := ⟨_, rfl⟩
              have hVx : V36 x = .agg #[.int .i64 PX, .int .i64 PY] := by unfold V36; rw [hPX, hPY]
              rw [hPX] at hpx; rw [hPY] at hpy
              go_upto_region 11 with (fail)
              have E5 : Cnt W1.drew b5 l5 := D5'.out.kept (Kept.drew (fun _ => False) W1) (fun h => h)
              obtain ⟨v0, st, w5, w6, hme, hk5, hlk, hst, hM6, hk6⟩ := E5.entry hl5 x
              have hl0 := E5.look x
              obtain ⟨cn, hcn⟩ : ∃ cn, l5.count x = cn := ⟨_, rfl⟩
              have hcl : cn < maxLen := by rw [← hcn]; exact Nat.lt_of_le_of_lt List.count_le_length hl5
              have hwc : IntKind.i64.wrap ((cn : Int) + 1) = (cn : Int) + 1 := by unfold maxLen at hcl; rw [IntKind.wrap_i64]; omega
              rw [hVx] at hme hlk hl0
              rw [hcn] at hlk hst hl0
              rw [Int.natCast_add, Int.natCast_one] at hst
              obtain ⟨SM, hSM⟩ : ∃ SM : World → Prop, SM = fun w' => w'.heap[bV]? = some (.cells #[.int .i64 vx, .int .i64 vy, .bool false] 34 (0, 0)) := ⟨_, rfl⟩
              have HSM : Hid (∀ w', SM w' → w'.cell? ⟨bV, 0, none⟩ = some (.int .i64 vx) ∧ w'.cell? ⟨bV, 1, none⟩ = some (.int .i64 vy)) := Lib.hid (fun w' hw' => by
                rw [hSM] at hw'
                exact ⟨(blk_cell hw' 0).trans rfl, (blk_cell hw' 1).trans rfl⟩)
              have hS0 : SM W1.drew := by rw [hSM]; exact HG.out
              have hS1 : SM w5 := by rw [hSM] at hS0 ⊢; exact hk5.get hS0 (fun e => HBV.out e.symm)
              have hS3 : SM w6 := by rw [hSM] at hS1 ⊢; exact hk6.get hS1 (fun e => HBV.out e.symm)
              have kk := (Kept.drew (· = b5) W1).trans (hk5.trans hk6)
              have HM6 := Lib.hid hM6
              have HD6 := Lib.hid (D6'.out.kept kk (by omega))
              have HI6 := Lib.hid (below_kept HI'.out kk (Nat.le_refl _) (Nat.le_of_lt (MapIs.lt D5'.out)))
              clear hSM hM6 kk hk5 hk6 E5 hx hx1 hPX hPY hVx hcn hcl e5 D5' D6' HI' HBV HG hl5
              refine wp_region_noPanic ?_
              refine wp_region_held_drew (S := SM) (by kernel_rfl) hS0 (fun _ => ?_)
              refine wpAnyH_take (i := 0) (oi := _) (v := (.map (some b5))) rfl (by kernel_rfl) (by kernel_rfl) (by kernel_rfl) (fun _ _ _ h => h) (Or.inl ⟨by rfl, ?_⟩) hS0 ?_
              · intro w' hSw; obtain ⟨y1, y2⟩ := HSM.out w' hSw; go_simp
              try simp only [Act.put, List.setIfInBounds_toArray, List.set_cons_zero, List.set_cons_succ]
              refine wpAnyH_take (i := 1) (oi := _) (v := (.pointer (some ⟨bV, 0, none⟩))) rfl (by kernel_rfl) (by kernel_rfl) (by kernel_rfl) (fun _ _ _ h => h) (Or.inl ⟨by rfl, ?_⟩) hS0 ?_
              · intro w' hSw; obtain ⟨y1, y2⟩ := HSM.out w' hSw; go_simp
              try simp only [Act.put, List.setIfInBounds_toArray, List.set_cons_zero, List.set_cons_succ]
              refine wpAnyH_take (i := 2) (oi := _) (v := (.int .i64 vx)) rfl (by kernel_rfl) (by kernel_rfl) (by kernel_rfl) (fun _ _ _ h => h) (Or.inl ⟨by rfl, ?_⟩) hS0 ?_
              · intro w' hSw; obtain ⟨y1, y2⟩ := HSM.out w' hSw; go_simp
              try simp only [Act.put, List.setIfInBounds_toArray, List.set_cons_zero, List.set_cons_succ]
              refine wpAnyH_take (i := 3) (oi := _) (v := (.int .i64 PX)) rfl (by kernel_rfl) (by kernel_rfl) (by kernel_rfl) (fun _ _ _ h => h) (Or.inl ⟨by rfl, ?_⟩) hS0 ?_
              · intro w' hSw; obtain ⟨y1, y2⟩ := HSM.out w' hSw; go_simp
              try simp only [Act.put, List.setIfInBounds_toArray, List.set_cons_zero, List.set_cons_succ]
              refine wpAnyH_take (i := 4) (oi := _) (v := (.pointer (some ⟨bV, 1, none⟩))) rfl (by kernel_rfl) (by kernel_rfl) (by kernel_rfl) (fun _ _ _ h => h) (Or.inl ⟨by rfl, ?_⟩) hS0 ?_
              · intro w' hSw; obtain ⟨y1, y2⟩ := HSM.out w' hSw; go_simp
              try simp only [Act.put, List.setIfInBounds_toArray, List.set_cons_zero, List.set_cons_succ]
              refine wpAnyH_take (i := 5) (oi := _) (v := (.int .i64 vy)) rfl (by kernel_rfl) (by kernel_rfl) (by kernel_rfl) (fun _ _ _ h => h) (Or.inl ⟨by rfl, ?_⟩) hS0 ?_
              · intro w' hSw; obtain ⟨y1, y2⟩ := HSM.out w' hSw; go_simp
              try simp only [Act.put, List.setIfInBounds_toArray, List.set_cons_zero, List.set_cons_succ]
              refine wpAnyH_take (i := 6) (oi := _) (v := (.int .i64 PY)) rfl (by kernel_rfl) (by kernel_rfl) (by kernel_rfl) (fun _ _ _ h => h) (Or.inl ⟨by rfl, ?_⟩) hS0 ?_
              · intro w' hSw; obtain ⟨y1, y2⟩ := HSM.out w' hSw; go_simp
              try simp only [Act.put, List.setIfInBounds_toArray, List.set_cons_zero, List.set_cons_succ]
              refine wpAnyH_take (i := 7) (oi := _) (v := (.agg #[.int .i64 PX, .int .i64 PY])) rfl (by kernel_rfl) (by kernel_rfl) (by kernel_rfl) (fun _ _ _ h => h) (Or.inl ⟨by rfl, ?_⟩) hS0 ?_
              · intro w' hSw; obtain ⟨y1, y2⟩ := HSM.out w' hSw; go_simp
              try simp only [Act.put, List.setIfInBounds_toArray, List.set_cons_zero, List.set_cons_succ]
              refine wpAnyH_ready (rs := [8, 10]) (by kernel_rfl) (by simp) ?_
              refine AllReadyH.cons (o := _) rfl (fun K hK => ?_) (AllReadyH.cons (o := _) rfl (fun K hK => ?_) AllReadyH.nil)
              · go_simp
                refine hK.out _ _ hS0 (fun _ => ?_)
                clear hK K
                try simp only [Act.put, List.setIfInBounds_toArray, List.set_cons_zero, List.set_cons_succ]
                refine wpAnyH_take (i := 9) (oi := _) (v := (.int .i64 ((cn : Nat) + 1 : Int))) rfl (by kernel_rfl) (by kernel_rfl) (by kernel_rfl) (fun _ _ _ h => h) (Or.inl ⟨by rfl, ?_⟩) hS0 ?_
                · intro w' hSw; go_simp
                try simp only [Act.put, List.setIfInBounds_toArray, List.set_cons_zero, List.set_cons_succ]
                refine wpAnyH_ready (rs := [10]) (by kernel_rfl) (by simp) ?_
                refine AllReadyH.cons (o := _) rfl (fun K hK => ?_) (AllReadyH.nil)
                go_simp
                refine hK.out _ _ hS1 (fun _ => ?_)
                clear hK K
                try simp only [Act.put, List.setIfInBounds_toArray, List.set_cons_zero, List.set_cons_succ]
                refine wpAnyH_take (i := 11) (oi := _) (v := (.int .i64 st)) rfl (by kernel_rfl) (by kernel_rfl) (by kernel_rfl) (fun _ _ _ h => h) (Or.inl ⟨by rfl, ?_⟩) hS1 ?_
                · intro w' hSw; go_simp
                try simp only [Act.put, List.setIfInBounds_toArray, List.set_cons_zero, List.set_cons_succ]
                refine wpAnyH_ready (rs := [12]) (by kernel_rfl) (by simp) ?_
                refine AllReadyH.cons (o := _) rfl (fun K hK => ?_) (AllReadyH.nil)
                go_simp
                refine hK.out _ _ hS3 (fun _ => ?_)
                clear hK K
                try simp only [Act.put, List.setIfInBounds_toArray, List.set_cons_zero, List.set_cons_succ]
                refine wpAnyH_done (by kernel_rfl) ?_ _
                refine NoPanic.normal ?_
                clear hme hst hlk hl0 hS0 hS1 hS3
                go_wp2_with fail
                go_roundw
                case rel => exact ⟨k + 1, by go_num, by omega, Lib.hid (by rw [HTS.out]; exact HM6.out), HD6, HI6⟩
                case measure => simp [intOf]; omega
              · go_simp
                refine hK.out _ _ hS1 (fun _ => ?_)
                clear hK K
                try simp only [Act.put, List.setIfInBounds_toArray, List.set_cons_zero, List.set_cons_succ]
                refine wpAnyH_take (i := 11) (oi := _) (v := (.int .i64 st)) rfl (by kernel_rfl) (by kernel_rfl) (by kernel_rfl) (fun _ _ _ h => h) (Or.inl ⟨by rfl, ?_⟩) hS1 ?_
                · intro w' hSw; go_simp
                try simp only [Act.put, List.setIfInBounds_toArray, List.set_cons_zero, List.set_cons_succ]
                refine wpAnyH_ready (rs := [8]) (by kernel_rfl) (by simp) ?_
                refine AllReadyH.cons (o := _) rfl (fun K hK => ?_) (AllReadyH.nil)
                go_simp
                refine hK.out _ _ hS1 (fun _ => ?_)
                clear hK K
                try simp only [Act.put, List.setIfInBounds_toArray, List.set_cons_zero, List.set_cons_succ]
                refine wpAnyH_take (i := 9) (oi := _) (v := (.int .i64 ((cn : Nat) + 1 : Int))) rfl (by kernel_rfl) (by kernel_rfl) (by kernel_rfl) (fun _ _ _ h => h) (Or.inl ⟨by rfl, ?_⟩) hS1 ?_
                · intro w' hSw; go_simp
                try simp only [Act.put, List.setIfInBounds_toArray, List.set_cons_zero, List.set_cons_succ]
                refine wpAnyH_ready (rs := [12]) (by kernel_rfl) (by simp) ?_
                refine AllReadyH.cons (o := _) rfl (fun K hK => ?_) (AllReadyH.nil)
                go_simp
                refine hK.out _ _ hS3 (fun _ => ?_)
                clear hK K
                try simp only [Act.put, List.setIfInBounds_toArray, List.set_cons_zero, List.set_cons_succ]
                refine wpAnyH_done (by kernel_rfl) ?_ _
                refine NoPanic.normal ?_
                clear hme hst hlk hl0 hS0 hS1 hS3
                go_wp2_with fail
                go_roundw
                case rel => exact ⟨k + 1, by go_num, by omega, Lib.hid (by rw [HTS.out]; exact HM6.out), HD6, HI6⟩
                case measure => simp [intOf]; omega
          · have hkk : ¬ (k : Int) < (n : Int) := by omega
            rw [List.take_of_length_le (by rw [HNC.out]; omega)] at D5
            have RC7 := Lib.hid (Kd.C_below RC.out (by rw [HB5.out]; exact HI.out))
            have hsg := segs_c (some ac) ci c wr RC7.out (by rw [HNC.out]; exact x1) (by rw [HNC.out]; omega)
            rw [HNC.out] at hsg
            have SG := Lib.hid hsg; clear hsg RC7
            go_wp2_with fail
            refine SG.out.mono ?_
            rintro e w7 ⟨u7, rfl, ho7, hb7⟩
            obtain ⟨aA, ca, ea, la, ra⟩ := Kd.R_reads ho7
            subst ea
            have F5 := Lib.hid (D5.out.below hb7 (MapIs.lt D5.out))
            have F6 := Lib.hid (D6.out.below hb7 (MapIs.lt D6.out))
            have I7 := Lib.hid (HI.out.trans (hb7.mono (Nat.le_of_lt (MapIs.lt D5.out))))
            have HBS : Hid (b5 + 1 < wr.heap.size) := Lib.hid (MapIs.lt D6.out)
            generalize wr.heap.size = bS at *
            obtain ⟨sg, hsg⟩ : ∃ sg, segF c = sg := ⟨_, rfl⟩
            have HPM : Hid (((curB sg).map kn).Perm ((offs c).map kn)) := Lib.hid (by rw [← hsg]; exact (curB_segF c).map kn)
            have HIN : Hid (∀ t ∈ sg, t.f3 = true → (kn t.f1).1 = t.f1) := Lib.hid (by rw [← hsg]; exact fun t => cur_in c t)
            have HSL : Hid (0 < sg.length ∧ sg.length ≤ 65) := Lib.hid (by rw [← hsg]; have := segF_len2 c; rw [HNC.out] at this; exact ⟨segF_pos2 c HCN.out, by omega⟩)
            rw [hsg] at ho7 la ra
            rw [hsg]
            obtain ⟨M, hM⟩ : ∃ M, sg.length = M := ⟨_, rfl⟩
            rw [hM] at ho7 la ra ⊢
            have HM := Lib.hid hM
            obtain ⟨adA, hadA⟩ : ∃ ad, aA = some ad := by
              obtain ⟨ad, e, _⟩ := at_T38 ra 0 (by omega) (by have := HM.out; have := HSL.out.1; omega)
              exact ⟨ad, e⟩
            subst hadA
            have RA := Lib.hid ho7
            have hM65 : M ≤ 65 := by have := HSL.out; omega
            clear ra hM hsg la ho7 hb7 SG D5 D6 HI
            go_wp2_with fail
            go_loopw [50] (fun v50 W => ∃ k : Nat, v50 = .int .i64 k ∧ k ≤ M ∧ Hid (Cnt W b5 ((offs c).map kn)) ∧ Hid (Cnt W (b5 + 1) ((curB (sg.take k)).map kn)) ∧ Hid (Below b5 wi W) ∧ Hid (Kd.R k38 38 W bS (fun _ => True) (.slice (some adA) M ca) sg)) (fun v50 _ => M - (intOf v50).toNat)
            case atStart => exact ⟨0, rfl, Nat.zero_le _, F5, F6, I7, RA⟩
            case round =>
              obtain ⟨k, rfl, hk, D5, D6, HI, HR⟩ := hrel
              by_cases hkM : k < M
              · have hkk : (k : Int) < (M : Int) := by omega
                have hkl : k < sg.length := by rw [HM.out]; exact hkM
                obtain ⟨p0, p1, p2, p3, p4, p5, p6⟩ := seg_at (Kd.R_reads' HR.out).2.2 k hkl
                obtain ⟨t, ht⟩ : ∃ t, sg.getD k z38 = t := ⟨_, rfl⟩
                have htk := take_snoc sg k z38 hkl
                have htm : t ∈ sg := by rw [← ht, List.getD_eq_getElem?_getD, List.getElem?_eq_getElem hkl]; exact List.getElem_mem _
                rw [ht] at p0 p1 p2 p3 p4 p5 p6 htk
                have hts := cur_snoc (sg.take k) t
                rw [← htk] at hts
                have HTI : Hid (t.f3 = true → (kn t.f1).1 = t.f1) := Lib.hid (HIN.out t htm)
                obtain ⟨⟨x0, y0⟩, ⟨x1, y1⟩, ⟨x2, y2⟩, fc⟩ := t
                have HTS := Lib.hid hts
                clear ht htk hts htm
                go_upto_region 16 with (fail)
                have al := below_alloc (Below.refl _ wr) (.cells #[.int .i64 x0, .int .i64 y0, .int .i64 x1, .int .i64 y1, .int .i64 x2, .int .i64 y2, .bool fc] 38)
                have g0 := heap_alloc_new wr (.cells #[.int .i64 x0, .int .i64 y0, .int .i64 x1, .int .i64 y1, .int .i64 x2, .int .i64 y2, .bool fc] 38)
                have D5' := Lib.hid (D5.out.below al (MapIs.lt D5.out))
                have D6' := Lib.hid (D6.out.below al (MapIs.lt D6.out))
                have HI' := Lib.hid (HI.out.trans (al.mono (Nat.le_of_lt (MapIs.lt D5.out))))
                have HR' := Lib.hid (Kd.R_below HR.out al)
                have hbv6 : b5 + 1 ≠ wr.heap.size := Nat.ne_of_lt (MapIs.lt D6.out)
                clear p0 p1 p2 p3 p4 p5 p6 al D5 D6 HI HR
                generalize wr.alloc (.cells #[.int .i64 x0, .int .i64 y0, .int .i64 x1, .int .i64 y1, .int .i64 x2, .int .i64 y2, .bool fc] 38) = W1 at *
                generalize wr.heap.size = bV at *
                have s6 : W1.cell? ⟨bV, 6, none⟩ = some (.bool fc) := (blk_cell g0 6).trans rfl
                have HG := Lib.hid g0
                have HBV := Lib.hid hbv6
                clear g0 hbv6
                cases fc with
                | false =>
                  go_wp2_with fail
                  go_roundw
                  case rel => exact ⟨k + 1, by go_num, by omega, D5', Lib.hid (by rw [HTS.out]; exact D6'.out), HI', HR'⟩
                  case measure => simp [intOf]; omega
                | true =>
                  have hl6 : ((curB (sg.take k)).map kn).length < maxLen := by
                    have h1 := List.length_filter_le (fun v : S38 => v.f3) (sg.take k)
                    have h2 : (sg.take k).length ≤ 65 := by rw [List.length_take, HM.out]; omega
                    unfold curB maxLen; simp only [List.length_map]; omega
                  obtain ⟨l6, e6⟩ : ∃ l6, (curB (sg.take k)).map kn = l6 := ⟨_, rfl⟩
                  rw [e6] at D6' HTS hl6
                  obtain ⟨x, hx⟩ : ∃ x, kn ⟨x1, y1⟩ = x := ⟨_, rfl⟩
                  have hx1 : x.1 = ⟨x1, y1⟩ := by rw [← hx]; exact HTI.out rfl
                  have HTS : Hid ((curB (sg.take (k + 1))).map kn = l6 ++ [x]) := Lib.hid (by rw [← hx]; exact HTS.out)
                  have hVx : V36 x = .agg #[.int .i64 x1, .int .i64 y1] := by unfold V36; rw [hx1]
                  go_upto_region 17 with (fail)
                  have E6 : Cnt W1.drew (b5 + 1) l6 := D6'.out.kept (Kept.drew (fun _ => False) W1) (fun h => h)
                  obtain ⟨v0, st, w5, w6, hme, hk5, hlk, hst, hM6, hk6⟩ := E6.entry hl6 x
                  have hl0 := E6.look x
                  obtain ⟨cn, hcn⟩ : ∃ cn, l6.count x = cn := ⟨_, rfl⟩
                  have hcl : cn < maxLen := by rw [← hcn]; exact Nat.lt_of_le_of_lt List.count_le_length hl6
                  have hwc : IntKind.i64.wrap ((cn : Int) + 1) = (cn : Int) + 1 := by unfold maxLen at hcl; rw [IntKind.wrap_i64]; omega
                  rw [hVx] at hme hlk hl0
                  rw [hcn] at hlk hst hl0
                  rw [Int.natCast_add, Int.natCast_one] at hst
                  obtain ⟨SM, hSM⟩ : ∃ SM : World → Prop, SM = fun w' => w'.heap[bV]? = some (.cells #[.int .i64 x0, .int .i64 y0, .int .i64 x1, .int .i64 y1, .int .i64 x2, .int .i64 y2, .bool true] 38 (0, 0)) := ⟨_, rfl⟩
                  have HSM : Hid (∀ w', SM w' → w'.cell? ⟨bV, 2, none⟩ = some (.int .i64 x1) ∧ w'.cell? ⟨bV, 3, none⟩ = some (.int .i64 y1)) := Lib.hid (fun w' hw' => by
                    rw [hSM] at hw'
                    exact ⟨(blk_cell hw' 2).trans rfl, (blk_cell hw' 3).trans rfl⟩)
                  have hS0 : SM W1.drew := by rw [hSM]; exact HG.out
                  have hS1 : SM w5 := by rw [hSM] at hS0 ⊢; exact hk5.get hS0 (fun e => HBV.out e.symm)
                  have hS3 : SM w6 := by rw [hSM] at hS1 ⊢; exact hk6.get hS1 (fun e => HBV.out e.symm)
                  have kk := (Kept.drew (· = b5 + 1) W1).trans (hk5.trans hk6)
                  have HM6 := Lib.hid hM6
                  have HD5 := Lib.hid (D5'.out.kept kk (by omega))
                  have HI6 := Lib.hid (below_kept HI'.out kk (by omega) (Nat.le_of_lt (MapIs.lt D5'.out)))
                  have HR6 := Lib.hid (Kd.R_mono (Kd.R_step (Kd.R_bound HR'.out) (fun q hq hlt => kk.block q hlt (by have := hq.2.1; have := HBS.out; omega))) (fun q hq => hq.1))
                  clear hSM hM6 kk hk5 hk6 E6 hx hx1 hVx hcn hcl e6 D5' D6' HI' HR' HBV HG hl6
                  refine wp_region_noPanic ?_
                  refine wp_region_held_drew (S := SM) (by kernel_rfl) hS0 (fun _ => ?_)
                  refine wpAnyH_take (i := 0) (oi := _) (v := (.map (some (b5 + 1)))) rfl (by kernel_rfl) (by kernel_rfl) (by kernel_rfl) (fun _ _ _ h => h) (Or.inl ⟨by rfl, ?_⟩) hS0 ?_
                  · intro w' hSw; obtain ⟨y1, y2⟩ := HSM.out w' hSw; go_simp
                  try simp only [Act.put, List.setIfInBounds_toArray, List.set_cons_zero, List.set_cons_succ]
                  refine wpAnyH_take (i := 1) (oi := _) (v := (.pointer (some ⟨bV, 2, none⟩))) rfl (by kernel_rfl) (by kernel_rfl) (by kernel_rfl) (fun _ _ _ h => h) (Or.inl ⟨by rfl, ?_⟩) hS0 ?_
                  · intro w' hSw; obtain ⟨y1, y2⟩ := HSM.out w' hSw; go_simp
                  try simp only [Act.put, List.setIfInBounds_toArray, List.set_cons_zero, List.set_cons_succ]
                  refine wpAnyH_take (i := 2) (oi := _) (v := (.agg #[.int .i64 x1, .int .i64 y1])) rfl (by kernel_rfl) (by kernel_rfl) (by kernel_rfl) (fun _ _ _ h => h) (Or.inl ⟨by rfl, ?_⟩) hS0 ?_
                  · intro w' hSw; obtain ⟨y1, y2⟩ := HSM.out w' hSw; go_simp
                  try simp only [Act.put, List.setIfInBounds_toArray, List.set_cons_zero, List.set_cons_succ]
                  refine wpAnyH_ready (rs := [3, 5]) (by kernel_rfl) (by simp) ?_
                  refine AllReadyH.cons (o := _) rfl (fun K hK => ?_) (AllReadyH.cons (o := _) rfl (fun K hK => ?_) AllReadyH.nil)
                  · go_simp
                    refine hK.out _ _ hS0 (fun _ => ?_)
                    clear hK K
                    try simp only [Act.put, List.setIfInBounds_toArray, List.set_cons_zero, List.set_cons_succ]
                    refine wpAnyH_take (i := 4) (oi := _) (v := (.int .i64 ((cn : Nat) + 1 : Int))) rfl (by kernel_rfl) (by kernel_rfl) (by kernel_rfl) (fun _ _ _ h => h) (Or.inl ⟨by rfl, ?_⟩) hS0 ?_
                    · intro w' hSw; go_simp
                    try simp only [Act.put, List.setIfInBounds_toArray, List.set_cons_zero, List.set_cons_succ]
                    refine wpAnyH_ready (rs := [5]) (by kernel_rfl) (by simp) ?_
                    refine AllReadyH.cons (o := _) rfl (fun K hK => ?_) (AllReadyH.nil)
                    go_simp
                    refine hK.out _ _ hS1 (fun _ => ?_)
                    clear hK K
                    try simp only [Act.put, List.setIfInBounds_toArray, List.set_cons_zero, List.set_cons_succ]
                    refine wpAnyH_take (i := 6) (oi := _) (v := (.int .i64 st)) rfl (by kernel_rfl) (by kernel_rfl) (by kernel_rfl) (fun _ _ _ h => h) (Or.inl ⟨by rfl, ?_⟩) hS1 ?_
                    · intro w' hSw; go_simp
                    try simp only [Act.put, List.setIfInBounds_toArray, List.set_cons_zero, List.set_cons_succ]
                    refine wpAnyH_ready (rs := [7]) (by kernel_rfl) (by simp) ?_
                    refine AllReadyH.cons (o := _) rfl (fun K hK => ?_) (AllReadyH.nil)
                    go_simp
                    refine hK.out _ _ hS3 (fun _ => ?_)
                    clear hK K
                    try simp only [Act.put, List.setIfInBounds_toArray, List.set_cons_zero, List.set_cons_succ]
                    refine wpAnyH_done (by kernel_rfl) ?_ _
                    refine NoPanic.normal ?_
                    clear hme hst hlk hl0 hS0 hS1 hS3
                    go_wp2_with fail
                    go_roundw
                    case rel => exact ⟨k + 1, by go_num, by omega, HD5, Lib.hid (by rw [HTS.out]; exact HM6.out), HI6, HR6⟩
                    case measure => simp [intOf]; omega
                  · go_simp
                    refine hK.out _ _ hS1 (fun _ => ?_)
                    clear hK K
                    try simp only [Act.put, List.setIfInBounds_toArray, List.set_cons_zero, List.set_cons_succ]
                    refine wpAnyH_take (i := 6) (oi := _) (v := (.int .i64 st)) rfl (by kernel_rfl) (by kernel_rfl) (by kernel_rfl) (fun _ _ _ h => h) (Or.inl ⟨by rfl, ?_⟩) hS1 ?_
                    · intro w' hSw; go_simp
                    try simp only [Act.put, List.setIfInBounds_toArray, List.set_cons_zero, List.set_cons_succ]
                    refine wpAnyH_ready (rs := [3]) (by kernel_rfl) (by simp) ?_
                    refine AllReadyH.cons (o := _) rfl (fun K hK => ?_) (AllReadyH.nil)
                    go_simp
                    refine hK.out _ _ hS1 (fun _ => ?_)
                    clear hK K
                    try simp only [Act.put, List.setIfInBounds_toArray, List.set_cons_zero, List.set_cons_succ]
                    refine wpAnyH_take (i := 4) (oi := _) (v := (.int .i64 ((cn : Nat) + 1 : Int))) rfl (by kernel_rfl) (by kernel_rfl) (by kernel_rfl) (fun _ _ _ h => h) (Or.inl ⟨by rfl, ?_⟩) hS1 ?_
                    · intro w' hSw; go_simp
                    try simp only [Act.put, List.setIfInBounds_toArray, List.set_cons_zero, List.set_cons_succ]
                    refine wpAnyH_ready (rs := [7]) (by kernel_rfl) (by simp) ?_
                    refine AllReadyH.cons (o := _) rfl (fun K hK => ?_) (AllReadyH.nil)
                    go_simp
                    refine hK.out _ _ hS3 (fun _ => ?_)
                    clear hK K
                    try simp only [Act.put, List.setIfInBounds_toArray, List.set_cons_zero, List.set_cons_succ]
                    refine wpAnyH_done (by kernel_rfl) ?_ _
                    refine NoPanic.normal ?_
                    clear hme hst hlk hl0 hS0 hS1 hS3
                    go_wp2_with fail
                    go_roundw
                    case rel => exact ⟨k + 1, by go_num, by omega, HD5, Lib.hid (by rw [HTS.out]; exact HM6.out), HI6, HR6⟩
                    case measure => simp [intOf]; omega
              · have hkk : ¬ (k : Int) < (M : Int) := by omega
                rw [List.take_of_length_le (by rw [HM.out]; omega)] at D6
                unfold Cnt at D5 D6
                obtain ⟨n5, hn5⟩ : ∃ n5, (offs c).map kn = n5 := ⟨_, rfl⟩
                obtain ⟨n6, hn6⟩ : ∃ n6, (curB sg).map kn = n6 := ⟨_, rfl⟩
                have hpm := HPM.out
                rw [hn5, hn6] at hpm
                rw [hn5] at D5
                rw [hn6] at D6
                obtain ⟨dl, hdl⟩ : ∃ dl, (dst n5).length = dl := ⟨_, rfl⟩
                rw [hdl] at D5
                rw [dst_perm hpm, hdl, cnt_perm hpm] at D6
                obtain ⟨m6, hm6⟩ : ∃ m6, n6.length = m6 := ⟨_, rfl⟩
                rw [hm6] at D6
                obtain ⟨Dm, hown, hhas, hatk, hsz⟩ := D5.out
                have HOW := Lib.hid hown; have HHA := Lib.hid hhas; have HAT := Lib.hid hatk
                have hdd : ((dl : Int) != (dl : Int)) = false := by simp
                clear hown hhas hatk hsz hpm hn5 hn6 hdl hm6 HR HPM
                go_wp2_with (first
                  | (at_len; refine wpList_len_is _ rfl (.tmp 64) 39 rfl 36 3 Try.underlying39 L36 vI b5 _ _ _ rfl D5.out ?_)
                  | (at_len; refine wpList_len_is _ rfl (.tmp 66) 39 rfl 36 3 Try.underlying39 L36 vI (b5 + 1) _ _ _ rfl D6.out ?_)
                  | (at_range; refine wpList_range_own _ rfl _ 39 rfl 36 3 keyed36 Try.underlying39 hv b5 n5.length Dm rfl HOW.out ?_; intro w0 hrg0 hg0 hs0))
                try go_frame
                have RG0 := Lib.hid hrg0
                have HI0 := Lib.hid (HI.out.trans ((Kept.of_grownBy hg0).below (Nat.le_of_lt (MapIs.lt D5.out)) (fun q hq => by cases hq)))
                have E6 : Hid (MapIs Try.prog 36 w0 (b5 + 1) L36 vI m6 (cntM n5) dl) := Lib.hid (D6.out.kept (Kept.of_grownBy hg0) (fun hq => by cases hq))
                have HRB : Hid (b5 + 1 < wr.heap.size) := Lib.hid (MapIs.lt D6.out)
                generalize wr.heap.size = bR at *
                clear hrg0 hg0 hs0 D5 D6 HI HOW
                go_loopw [71] (fun v71 W => ∃ left cnt, Hid (W.ranges Try.prog 36 hv b5 bR n5.length Dm left cnt) ∧ Hid (MapIs Try.prog 36 W (b5 + 1) L36 vI m6 (cntM n5) dl) ∧ Hid (Below b5 wi W)) (fun _ W => W.rangeLeft b5 bR)
                case atStart => exact ⟨_, _, RG0, E6, HI0⟩
                case round =>
                  obtain ⟨left, cnt, RG, E6, HI⟩ := hrel
                  go_wp2_with (at_next; go_must (refine wpList_next_ranges _ rfl _ rfl 36 keyed36 hv V36 (fun v : Value => v) (fun key kl hk => by obtain ⟨x, h, _⟩ := inv36 hk; exact ⟨x, h⟩) (fun v y _ => ⟨v, rfl⟩) b5 bR _ _ _ _ rfl RG.out ?cDone ?cMore))
                  case cDone =>
                    intro hc0 hl0
                    go_wp2_with fail
                    go_roundw
                    case rel => exact ⟨i + 1, by go_num, by omega, Lib.hid (HB.out.trans (HI.out.mono (by rw [← HB5.out]; exact HB.out.size)))⟩
                    case measure => simp [intOf]; omega
                  case cMore =>
                    intro px hpx cv kl y1 y2 w9 cnt9 hkey hlk hv hat hrg9 hlt hg9 hs9 hen
                    have hkl : kl = L36 ⟨px, hpx⟩ := by have := (key36 ⟨px, hpx⟩).symm.trans hkey; injection this with this; exact this.symm
                    have hcv := mapIs_at (y := (y1, y2)) HAT.out hkl hv hat (vI 0)
                    obtain ⟨q, hq⟩ : ∃ q, (cntM n5 ⟨px, hpx⟩).getD 0 = q := ⟨_, rfl⟩
                    have hcq : ((cntM n5 ⟨px, hpx⟩).map vI).getD (vI 0) = .int .i64 q := by rw [← hq]; cases cntM n5 ⟨px, hpx⟩ <;> rfl
                    rw [hcq] at hcv
                    subst hcv
                    obtain ⟨PX, PY⟩ := px
                    have hVx : V36 ⟨⟨PX, PY⟩, hpx⟩ = .agg #[.int .i64 PX, .int .i64 PY] := rfl
                    rw [hVx] at hen
                    rw [hVx]
                    have E9 := E6.out.kept (Kept.of_grownBy hg9) (fun hq => by injection hq with hq; have := HRB.out; omega)
                    have hlook := MapIs.look (w := w9.alloc (.cells #[.int .i64 PX, .int .i64 PY] 36)) (E9.kept (Kept.alloc (fun _ => False) _ _) (fun h => h)) keyed36 Try.underlying39 (zeroInt _) (key36 ⟨⟨PX, PY⟩, hpx⟩)
                    rw [hcq, hVx] at hlook
                    have RG9 := Lib.hid (hrg9.alloc (.cells #[.int .i64 PX, .int .i64 PY] 36))
                    have E10 := Lib.hid (E9.kept (Kept.alloc (fun _ => False) w9 (.cells #[.int .i64 PX, .int .i64 PY] 36)) (fun h => h))
                    have HL := Lib.hid hlt
                    have hqq : ((q : Int) != (q : Int)) = false := by simp
                    have I9 := (Kept.of_grownBy hg9).below (Nat.le_trans (Nat.le_succ _) (Nat.le_of_lt (MapIs.lt E6.out))) (fun q hq => by injection hq with hq; have := HRB.out; omega)
                    have I10 := Lib.hid (HI.out.trans (I9.trans ((below_alloc (Below.refl _ w9) (.cells #[.int .i64 PX, .int .i64 PY] 36)).mono (by rw [hs9]; exact Nat.le_trans (Nat.le_succ _) (Nat.le_of_lt (MapIs.lt E6.out))))))
                    have HLQ := Lib.hid hlook
                    have hrl := hrg9.left_eq
                    clear hkey hlk hv hat hrg9 hlt hg9 hs9 hkl hcq hq E9 I9 hlook hVx
                    go_upto_region 24 with (fail)
                    have g0 := heap_alloc_new w9 (.cells #[.int .i64 PX, .int .i64 PY] 36)
                    have s0 : (w9.alloc (.cells #[.int .i64 PX, .int .i64 PY] 36)).cell? ⟨w9.heap.size, 0, none⟩ = some (.int .i64 PX) := (blk_cell g0 0).trans rfl
                    have s1 : (w9.alloc (.cells #[.int .i64 PX, .int .i64 PY] 36)).cell? ⟨w9.heap.size, 1, none⟩ = some (.int .i64 PY) := (blk_cell g0 1).trans rfl
                    have hl := HLQ.out
                    generalize w9.alloc (.cells #[.int .i64 PX, .int .i64 PY] 36) = wB at *
                    generalize w9.heap.size = bV at *
                    clear g0 hen
                    go_wp2_with fail
                    go_roundw
                    case rel => exact ⟨_, cnt9, RG9, E10, I10⟩
                    case measure => rw [RG9.out.left_eq, RG.out.left_eq]; exact HL.out
      · have hii : ¬ (i : Int) < (N : Int) := by omega
        go_wp2_with fail
        go_ret
        exact ⟨rfl, B2.out.trans (HB.out.mono HZ.out)⟩
end Go.Proofs.Ytjealbaomhjoaaa
