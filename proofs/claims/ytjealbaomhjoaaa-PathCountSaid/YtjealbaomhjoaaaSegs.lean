/- path.Segs: what it computes, and its walk. -/
import Derived.Test.YtjealbaomhjoaaaSegEnd
set_option linter.unusedVariables false
set_option linter.unusedSimpArgs false
namespace Go.Proofs.Ytjealbaomhjoaaa
open Go.RowKit Go.Proofs.Ytjealbaomhjoaaa.G Go.Proofs.YtjealbaomhjoaaaW.PrintWords Go.Proofs.YtjealbaomhjoaaaW.PrintMore
def fiOn (c : List S34) : Nat := c.findIdx fun x => x.f2
def cyc (c : List S34) : Nat → Nat → List S34
  | _, 0 => []
  | i, n + 1 => c.getD (i % c.length) z34 :: cyc c (i + 1) n
def stS (hr : S36) (out : List S38) (pl : Option S34) : List S34 → S36 × List S38 × Option S34
  | [] => (hr, out, pl)
  | v :: vs => if v.f2 then stS (at2 v) (out ++ [segE hr pl (at2 v)]) none vs
    else match pl with
      | some u => stS (half2 u v) (out ++ [segE hr (some u) (half2 u v)]) (some v) vs
      | none => stS hr out (some v) vs
def finS (bg : S36) (r : S36 × List S38 × Option S34) : List S38 := r.2.1 ++ [segE r.1 r.2.2 bg]
def segF (c : List S34) : List S38 :=
  if c = [] then [] else
  if fiOn c < c.length then finS (at2 (c.getD (fiOn c) z34)) (stS (at2 (c.getD (fiOn c) z34)) [] none (cyc c (fiOn c + 1) (c.length - 1)))
  else finS (half2 (c.getD (c.length - 1) z34) (c.getD 0 z34)) (stS (half2 (c.getD (c.length - 1) z34) (c.getD 0 z34)) [] none (cyc c c.length c.length))
theorem fi_le (c : List S34) : fiOn c ≤ c.length := List.findIdx_le_length
theorem fi_off (c : List S34) (i : Nat) (h : i < fiOn c) : (c.getD i z34).f2 = false := by
  have hl : i < c.length := Nat.lt_of_lt_of_le h (fi_le c)
  have := List.not_of_lt_findIdx h
  rw [List.getD_eq_getElem?_getD, List.getElem?_eq_getElem hl]
  simpa using this
theorem fi_on (c : List S34) (h : fiOn c < c.length) : (c.getD (fiOn c) z34).f2 = true := by
  have := List.findIdx_getElem (xs := c) (p := fun x : S34 => x.f2) (w := h)
  rw [List.getD_eq_getElem?_getD, List.getElem?_eq_getElem h]
  exact this
theorem vert_at {W : World} {ad : Addr} {c : List S34} (h : Kd.C k34 W (some ad) c.length c) (i : Nat) (hi : i < c.length) :
    W.cell? (ad.add (i * 3)) = some (.int .i64 (c.getD i z34).f0) ∧ W.cell? ⟨(ad.add (i * 3)).block, (ad.add (i * 3)).off + 1, none⟩ = some (.int .i64 (c.getD i z34).f1) ∧ W.cell? ⟨(ad.add (i * 3)).block, (ad.add (i * 3)).off + 2, none⟩ = some (.bool (c.getD i z34).f2) := by
  obtain ⟨ad', e, h0, h1, h2⟩ := at_T34 h (i : Int) (by omega) (by omega)
  injection e with e
  subst e
  exact ⟨h0, h1, h2⟩
theorem Sv.setP {w W : World} {bH bO bB bP : Nat} {bg hr : S36} {u : Value} {out : List S38} {pl : Option (Nat × S34)} (h : Sv w W bH bO bB bP bg hr u out pl) (pl' : Option (Nat × S34)) (hV : ∀ b v, pl' = some (b, v) → W.heap[b]? = some (.cells (cs34 v) 34 (0, 0))) :
    Sv w (W.setCell ⟨bP, 0, none⟩ (.pointer (pl'.map fun x => ⟨x.1, 0, none⟩))) bH bO bB bP bg hr u out pl' := by
  have far : ∀ {g : Nat} {t : TypeId} {cs : Array Value}, W.heap[g]? = some (.cells cs t (0, 0)) → g ≠ bP → (W.setCell ⟨bP, 0, none⟩ (.pointer (pl'.map fun x => ⟨x.1, 0, none⟩))).heap[g]? = some (.cells cs t (0, 0)) := fun e hne => blk_far e (p := ⟨bP, 0, none⟩) hne _
  exact ⟨far h.hH (blk_ne h.hH h.hP (by decide)), far h.hO (blk_ne h.hO h.hP (by decide)), far h.hB (blk_ne h.hB h.hP (by decide)), by simpa using blk_set h.hP 0 _, fun b v e => far (hV b v e) (blk_ne (hV b v e) h.hP (by decide)), Kd.R_set h.row h.hP (by decide) 0 _, h.ne, h.le, h.bel.setCell h.le.2.2.2 _⟩
theorem stS_on (hr : S36) (out : List S38) (pl : Option S34) (v : S34) (vs : List S34) (h : v.f2 = true) : stS hr out pl (v :: vs) = stS (at2 v) (out ++ [segE hr pl (at2 v)]) none vs := by rw [stS.eq_def]; simp [h]
theorem stS_none (hr : S36) (out : List S38) (v : S34) (vs : List S34) (h : v.f2 = false) : stS hr out none (v :: vs) = stS hr out (some v) vs := by rw [stS.eq_def]; simp [h]
theorem stS_some (hr : S36) (out : List S38) (u v : S34) (vs : List S34) (h : v.f2 = false) : stS hr out (some u) (v :: vs) = stS (half2 u v) (out ++ [segE hr (some u) (half2 u v)]) (some v) vs := by rw [stS.eq_def]; simp [h]
theorem stS_len : ∀ (vs : List S34) (hr : S36) (out : List S38) (pl : Option S34), (stS hr out pl vs).2.1.length ≤ out.length + vs.length
  | [], hr, out, pl => Nat.le_refl _
  | v :: vs, hr, out, pl => by
    unfold stS
    split
    · have := stS_len vs (at2 v) (out ++ [segE hr pl (at2 v)]) none; simp at this ⊢; omega
    · cases pl with
      | none => have := stS_len vs hr out (some v); simp at this ⊢; omega
      | some u => have := stS_len vs (half2 u v) (out ++ [segE hr (some u) (half2 u v)]) (some v); simp at this ⊢; omega

theorem add_zero_ad (ad : Addr) : ad.add 0 = ad := by unfold Addr.add; split <;> simp_all
attribute [local go_sem] cell_alloc in
set_option maxHeartbeats 4000000 in
set_option maxRecDepth 100000 in
theorem segs_c (A : Option Addr) (cap : Nat) (c : List S34) (w : World) (rd : Kd.C k34 w A c.length c) (hle : c.length ≤ cap) (hn : c.length ≤ 1000) :
    Calls Try.prog 18 #[.slice A c.length cap] w fun e w' => ∃ u, e = .returned u ∧ Kd.R k38 38 w' w.heap.size (fun _ => True) u (segF c) ∧ Below w.heap.size w w' := by
  by_cases hc : c = []
  · subst hc
    rw [show ([] : List S34).length = 0 from rfl]
    go_enter Try.func18, Try.ntmps18
    go_wp2_with fail
    go_ret
    exact ⟨_, rfl, Kd.R_nil _ _ _ _ _, Below.refl _ _⟩
  · have hpos : 0 < c.length := by cases c with | nil => exact absurd rfl hc | cons _ _ => simp
    obtain ⟨ad, hA⟩ : ∃ ad, A = some ad := by obtain ⟨ad, e, _⟩ := at_T34 rd 0 (by omega) (by omega); exact ⟨ad, e⟩
    subst hA
    have RD := Lib.hid rd; clear rd
    obtain ⟨n, hN⟩ : ∃ n, c.length = n := ⟨_, rfl⟩
    obtain ⟨fi, hF⟩ : ∃ fi, fiOn c = fi := ⟨_, rfl⟩
    have hfi : fi ≤ n := by rw [← hF, ← hN]; exact fi_le c
    rw [hN] at hpos hle hn ⊢
    have HN := Lib.hid hN; have HF := Lib.hid hF; clear hN hF
    have HC := Lib.hid hc; clear hc
    have hn0 : ((n : Int) == 0) = false := by simp; omega
    go_enter Try.func18, Try.ntmps18
    go_upto_block 0 with fail
    go_cut [4] (fun v4 wc => v4 = .int .i64 (fi : Int) ∧ wc = w)
    case first =>
      go_wp2_with fail
      go_loopw [4] (fun v4 W => ∃ i : Nat, v4 = .int .i64 i ∧ i ≤ fi ∧ W = w) (fun v4 _ => fi - (intOf v4).toNat)
      case atStart => exact ⟨0, rfl, Nat.zero_le _, rfl⟩
      case round =>
        obtain ⟨i, rfl, hi, rfl⟩ := hrel
        by_cases hin : i < n
        · obtain ⟨q0, q1, q2⟩ := vert_at RD.out i (by rw [HN.out]; exact hin)
          have hii : (i : Int) < (n : Int) := by omega
          by_cases hif : i < fi
          · rw [fi_off c i (by rw [HF.out]; exact hif)] at q2
            go_wp2_with fail
            go_roundw
            case rel => exact ⟨i + 1, by go_num, by omega, by trivial⟩
            case measure => simp [intOf]; omega
          · have e : i = fi := by omega
            subst e
            rw [show (c.getD i z34).f2 = true by have := fi_on c (by rw [HF.out, HN.out]; exact hin); rwa [HF.out] at this] at q2
            go_wp2_with fail
            go_meet
            case rel => exact ⟨by trivial, by trivial⟩
        · have e : i = fi := by omega
          subst e
          have hii : ¬ (i : Int) < (n : Int) := by omega
          go_wp2_with fail
          go_meet
          case rel => exact ⟨by trivial, by trivial⟩
    case rest =>
      obtain ⟨rfl, rfl⟩ := hcut
      obtain ⟨m, hm⟩ : ∃ m, n = m + 1 := ⟨n - 1, by omega⟩
      have hnw : IntKind.i64.wrap ((n : Int) - 1) = (m : Int) := by rw [IntKind.wrap_i64]; omega
      have hm0 : (0 : Int) ≤ (m : Int) := by omega
      have hmn : (m : Int) < (n : Int) := by omega
      have h0n : (0 : Int) < (n : Int) := by omega
      have hwm : IntKind.i64.wrap (m : Int) = (m : Int) := by rw [IntKind.wrap_i64]; omega
      have HM := Lib.hid hm
      obtain ⟨a0, a1, a2⟩ := vert_at RD.out m (by rw [HN.out]; omega)
      obtain ⟨b0, b1, b2⟩ := vert_at RD.out 0 (by rw [HN.out]; omega)
      rw [Nat.zero_mul, show ad.add 0 = ad from add_zero_ad ad] at b0 b1 b2
      clear hm
      have lE1 := World.block_lt_of_cell? wc _ a0
      have lE2 := World.block_lt_of_cell? wc _ b0
      have nE1 : (ad.add (m * 3)).block ≠ wc.heap.size := by omega
      have nE2 : ad.block ≠ wc.heap.size := by omega
      obtain ⟨vm, hvm⟩ : ∃ x, c.getD m z34 = x := ⟨_, rfl⟩
      obtain ⟨v0, hv0⟩ : ∃ x, c.getD 0 z34 = x := ⟨_, rfl⟩
      rw [hvm] at a0 a1 a2; rw [hv0] at b0 b1 b2
      have HVM := Lib.hid hvm; have HV0 := Lib.hid hv0; clear hvm hv0
      go_wp2_with fail
      obtain ⟨w0, rfl⟩ : ∃ w0 : World, w0 = wc := ⟨_, rfl⟩
      go_cut [6] (fun v6 W => ∃ bH, v6 = .pointer (some ⟨bH, 0, none⟩) ∧ Hid (W.heap[bH]? = some (.cells (cs36 (half2 vm v0)) 36 (0, 0))) ∧ Hid (Below w0.heap.size w0 W) ∧ Hid (w0.heap.size ≤ bH))
      case first =>
        -- DEVCUT
        go_region_held3 (fun w' => w'.cell? (ad.add (m * 3)) = some (.int .i64 vm.f0) ∧ w'.cell? ⟨(ad.add (m * 3)).block, (ad.add (m * 3)).off + 1, none⟩ = some (.int .i64 vm.f1) ∧ w'.cell? ⟨(ad.add (m * 3)).block, (ad.add (m * 3)).off + 2, none⟩ = some (.bool vm.f2) ∧ w'.cell? ad = some (.int .i64 v0.f0) ∧ w'.cell? ⟨ad.block, ad.off + 1, none⟩ = some (.int .i64 v0.f1) ∧ w'.cell? ⟨ad.block, ad.off + 2, none⟩ = some (.bool v0.f2)) (((try go_split_ands); refine ⟨?_, ?_, ?_, ?_, ?_, ?_⟩ <;> first | assumption | exact pw_cell_below hb7 (by assumption) | exact cell_alloc (by assumption) | exact cell_set_ne (by assumption) (cell_set_ne (by assumption) (by first | assumption | exact cell_alloc (by assumption))))) (first
          | (go_at_call 32; ((with_reducible refine (half_c vm v0 _).mono ?_); rintro e w' ⟨rfl, hb7⟩; have a0' := pw_cell_below hb7 (by first | exact a0 | exact cell_alloc a0); have a1' := pw_cell_below hb7 (by first | exact a1 | exact cell_alloc a1); have a2' := pw_cell_below hb7 (by first | exact a2 | exact cell_alloc a2); have b0' := pw_cell_below hb7 (by first | exact b0 | exact cell_alloc b0); have b1' := pw_cell_below hb7 (by first | exact b1 | exact cell_alloc b1); have b2' := pw_cell_below hb7 (by first | exact b2 | exact cell_alloc b2); have hz7 : w0.heap.size ≤ w'.heap.size := (by have h := hb7.size; first | exact h | (have h2 : (w0.alloc (.cells #[.int .i64 0, .int .i64 0] 36)).heap.size ≤ w'.heap.size := h; rw [World.size_alloc] at h2; omega)); have nE3 : (ad.add (m * 3)).block ≠ w'.heap.size := (by omega); have nE4 : ad.block ≠ w'.heap.size := (by omega); (try (have G6 : w'.heap[w0.heap.size]? = some (.cells #[.int .i64 0, .int .i64 0] 36 (0, 0)) := blk_below (heap_alloc_new w0.drew (.cells #[.int .i64 0, .int .i64 0] 36)) hb7; have e0 := (blk_cell G6 0).trans rfl; have e1 := (blk_cell G6 1).trans rfl; have e2 := blk_frozen G6 0; have e3 := blk_frozen G6 1)))))
        all_goals
          go_wp2_with fail
          go_meet
          case rel => first
            | exact ⟨_, rfl, Lib.hid (heap_alloc_new w' _), Lib.hid (below_alloc (below_step (below_drew (Below.refl _ w0)) hb7) _), Lib.hid hz7⟩
            | exact ⟨_, rfl, Lib.hid (by simpa [cs36] using blk_set (blk_set G6 0 (.int .i64 (half2 vm v0).f0)) 1 (.int .i64 (half2 vm v0).f1)), Lib.hid (((below_step (below_drew (below_alloc (Below.refl _ w0) (.cells #[.int .i64 0, .int .i64 0] 36))) hb7).setCell (Nat.le_refl _) _).setCell (Nat.le_refl _) _), Lib.hid (Nat.le_refl _)⟩
        -- DEVEND
      case rest =>
        obtain ⟨bH, rfl, HH, HB, HbH⟩ := hcut
        have hB0 := HB.out
        obtain ⟨F, KK, bg, hFK, hseg⟩ : ∃ (F KK : Nat) (bg : S36), (F ≤ n ∧ KK ≤ n ∧ (fi < n → F = fi + 1 ∧ KK = m ∧ bg = at2 (c.getD fi z34)) ∧ (¬ fi < n → F = n ∧ KK = n ∧ bg = half2 vm v0)) ∧ segF c = finS bg (stS bg [] none (cyc c F KK)) := by
          by_cases hf : fi < n
          · refine ⟨fi + 1, m, at2 (c.getD fi z34), ⟨by omega, by have := HM.out; omega, fun _ => ⟨rfl, rfl, rfl⟩, fun h => absurd hf h⟩, ?_⟩
            unfold segF
            rw [if_neg HC.out, HF.out, HN.out, if_pos hf, show n - 1 = m by have := HM.out; omega]
          · refine ⟨n, n, half2 vm v0, ⟨Nat.le_refl _, Nat.le_refl _, fun h => absurd h hf, fun _ => ⟨rfl, rfl, rfl⟩⟩, ?_⟩
            unfold segF
            rw [if_neg HC.out, HF.out, HN.out, if_neg hf, show n - 1 = m by have := HM.out; omega, HVM.out, HV0.out]
        have HFK := Lib.hid hFK; have HSEG := Lib.hid hseg; clear hFK hseg
        go_upto_if 42 with fail
        go_cut [4, 5] (fun v4 v5 W => v4 = .int .i64 (F : Int) ∧ v5 = .int .i64 (KK : Int) ∧ Hid (W.heap[bH]? = some (.cells (cs36 bg) 36 (0, 0))) ∧ Hid (Below w0.heap.size w0 W))
        case first =>
          by_cases hf : fi < n
          · have hff : (fi : Int) < (n : Int) := by omega
            obtain ⟨h1, h2, h3⟩ := HFK.out.2.2.1 hf
            obtain ⟨vf, hvf⟩ : ∃ x, c.getD fi z34 = x := ⟨_, rfl⟩
            rw [hvf] at h3
            have H1 := Lib.hid h1; have H2 := Lib.hid h2; subst h3; clear h1 h2
            obtain ⟨f0, f1, f2⟩ := vert_at (Kd.C_below RD.out hB0) fi (by rw [HN.out]; exact hf)
            rw [hvf] at f0 f1 f2
            clear hvf
            go_wp2_with fail
            refine (at_c vf _).mono ?_
            rintro e w7 ⟨rfl, hb7⟩
            have H7 := Lib.hid (blk_below HH.out hb7)
            have e0 : w7.cell? ⟨bH, 0, none⟩ = some (.int .i64 (half2 vm v0).f0) := (blk_cell H7.out 0).trans rfl
            have e1 : w7.cell? ⟨bH, 1, none⟩ = some (.int .i64 (half2 vm v0).f1) := (blk_cell H7.out 1).trans rfl
            have e2 := blk_frozen H7.out 0
            have e3 := blk_frozen H7.out 1
            go_wp2_with fail
            go_meet
            case rel => exact ⟨by rw [H1.out]; go_num, by rw [H2.out], Lib.hid (by simpa [cs36] using blk_set (blk_set H7.out 0 (.int .i64 (at2 vf).f0)) 1 (.int .i64 (at2 vf).f1)), Lib.hid (((below_step HB.out hb7).setCell HbH.out _).setCell HbH.out _)⟩
          · have hff : ¬ (fi : Int) < (n : Int) := by omega
            obtain ⟨h1, h2, rfl⟩ := HFK.out.2.2.2 hf
            have H1 := Lib.hid h1; have H2 := Lib.hid h2; clear h1 h2
            go_wp2_with fail
            go_meet
            case rel => exact ⟨by rw [H1.out]; congr 1; omega, by rw [H2.out], HH, HB⟩
        case rest =>
          obtain ⟨rfl, rfl, HH2, HB2⟩ := hcut
          have d0 : wc.cell? ⟨bH, 0, none⟩ = some (.int .i64 bg.f0) := (blk_cell HH2.out 0).trans rfl
          have d1 : wc.cell? ⟨bH, 1, none⟩ = some (.int .i64 bg.f1) := (blk_cell HH2.out 1).trans rfl
          go_upto_region 16 with (fail)
          have n1 := heap_alloc_new wc (.cells #[.slice none 0 0] 30)
          have n2 := heap_alloc_new (wc.alloc (.cells #[.slice none 0 0] 30)) (.cells #[.int .i64 bg.f0, .int .i64 bg.f1] 36)
          have n3 := heap_alloc_new ((wc.alloc (.cells #[.slice none 0 0] 30)).alloc (.cells #[.int .i64 bg.f0, .int .i64 bg.f1] 36)) (.cells #[.pointer none] 69)
          rw [World.size_alloc] at n2
          rw [World.size_alloc, World.size_alloc] at n3
          have hs : Sv w0 (((wc.alloc (.cells #[.slice none 0 0] 30)).alloc (.cells #[.int .i64 bg.f0, .int .i64 bg.f1] 36)).alloc (.cells #[.pointer none] 69)) bH wc.heap.size (wc.heap.size + 1) (wc.heap.size + 1 + 1) bg bg (.slice none 0 0) [] none := by
            have k1 : Below wc.heap.size wc (((wc.alloc (.cells #[.slice none 0 0] 30)).alloc (.cells #[.int .i64 bg.f0, .int .i64 bg.f1] 36)).alloc (.cells #[.pointer none] 69)) := below_alloc (below_alloc (below_alloc (Below.refl _ wc) _) _) _
            have k2 := below_alloc (Below.refl _ ((wc.alloc (.cells #[.slice none 0 0] 30)).alloc (.cells #[.int .i64 bg.f0, .int .i64 bg.f1] 36))) (.cells #[.pointer none] 69)
            have k3 := below_alloc (below_alloc (Below.refl _ (wc.alloc (.cells #[.slice none 0 0] 30))) (.cells #[.int .i64 bg.f0, .int .i64 bg.f1] 36)) (.cells #[.pointer none] 69)
            have hz := HB2.out.size
            have hH := blk_lt HH2.out
            refine ⟨blk_below HH2.out k1, blk_below n1 k3, blk_below n2 k2, n3, fun b v e => (by cases e), Kd.R_nil _ _ _ _ _, by omega, ⟨HbH.out, hz, by omega, by omega⟩, below_step HB2.out k1⟩
          have HS := Lib.hid hs; clear hs n1 n2 n3 d0 d1 HH2 HB2 HH HB hB0
          generalize ((wc.alloc (.cells #[.slice none 0 0] 30)).alloc (.cells #[.int .i64 bg.f0, .int .i64 bg.f1] 36)).alloc (.cells #[.pointer none] 69) = W8 at *
          generalize wc.heap.size = bO at *
          go_wp2_with fail
          go_loopw [55] (fun v55 W => ∃ (k : Nat) (hr : S36) (out : List S38) (pl : Option (Nat × S34)) (u : Value), v55 = .int .i64 k ∧ k ≤ KK ∧ Hid (Sv w0 W bH bO (bO + 1) (bO + 1 + 1) bg hr u out pl) ∧ Hid (finS bg (stS hr out (pl.map fun x => x.2) (cyc c (F + k) (KK - k))) = segF c) ∧ Hid (out.length ≤ k)) (fun v55 _ => KK - (intOf v55).toNat)
          case atStart => exact ⟨0, bg, [], none, _, rfl, Nat.zero_le _, HS, Lib.hid HSEG.out.symm, Lib.hid (Nat.le_refl _)⟩
          case round =>
            obtain ⟨k, hr, out, pl, u, rfl, hk, HS1, HE, HL⟩ := hrel
            by_cases hlt : k < KK
            · have hkk : (k : Int) < (KK : Int) := by omega
              obtain ⟨hF1, hK1, -, -⟩ := HFK.out
              obtain ⟨I, hI⟩ : ∃ I, (F + k) % n = I := ⟨_, rfl⟩
              have hIn : I < n := hI ▸ Nat.mod_lt _ hpos
              have hIi : (I : Int) < (n : Int) := by omega
              have hw2 : IntKind.i64.wrap ((F : Int) + (k : Int)) = (F : Int) + (k : Int) := by rw [IntKind.wrap_i64]; omega
              have htm : Int.tmod ((F : Int) + (k : Int)) (n : Int) = (I : Int) := by rw [← hI]; rfl
              obtain ⟨d, hd⟩ : ∃ d, KK - k = d + 1 := ⟨KK - k - 1, by omega⟩
              obtain ⟨v, hv⟩ : ∃ v, c.getD I z34 = v := ⟨_, rfl⟩
              have he := HE.out
              rw [hd, cyc, HN.out, hI, hv] at he
              have HE1 := Lib.hid he; clear he
              obtain ⟨q0, q1, q2⟩ := vert_at (Kd.C_below RD.out HS1.out.bel) I (by rw [HN.out]; exact hIn)
              rw [hv] at q0 q1 q2
              have HI := Lib.hid hI; clear hI hv
              go_upto_region 21 with (fail)
              obtain ⟨vx, vy, vo⟩ := v
              have HS2 := Lib.hid (HS1.out.below (below_alloc (Below.refl _ wr) (.cells (cs34 ⟨vx, vy, vo⟩) 34)))
              have GV := Lib.hid (heap_alloc_new wr (.cells (cs34 ⟨vx, vy, vo⟩) 34))
              have hWW : wr.alloc (.cells #[.int .i64 vx, .int .i64 vy, .bool vo] 34) = wr.alloc (.cells (cs34 ⟨vx, vy, vo⟩) 34) := rfl
              rw [hWW]
              clear hWW HS1 q0 q1 q2 hw2 htm HE
              generalize wr.alloc (.cells (cs34 ⟨vx, vy, vo⟩) 34) = W1 at *
              generalize wr.heap.size = bV at *
              have x0 : W1.cell? ⟨bV, 0, none⟩ = some (.int .i64 vx) := (blk_cell GV.out 0).trans rfl
              have x1 : W1.cell? ⟨bV, 1, none⟩ = some (.int .i64 vy) := (blk_cell GV.out 1).trans rfl
              have x2 : W1.cell? ⟨bV, 2, none⟩ = some (.bool vo) := (blk_cell GV.out 2).trans rfl
              have hd2 : KK - (k + 1) = d := by omega
              cases vo with
              | true =>
                go_wp2_with fail
                refine (at_c ⟨vx, vy, true⟩ _).mono ?_
                rintro e w2 ⟨rfl, hb2⟩
                have HS3 := Lib.hid (HS2.out.below hb2)
                clear HS2 GV x0 x1 x2
                go_wp2_with fail
                refine (end_c w0 w2 bH bO (bO + 1) (bO + 1 + 1) bg hr (at2 ⟨vx, vy, true⟩) u out pl HS3.out (by have := HL.out; omega)).mono ?_
                rintro e w3 ⟨rfl, ⟨u', hs3⟩, h34⟩
                have HS4 := Lib.hid hs3; clear hs3 h34
                have y0 : w3.cell? ⟨bO + 1 + 1, 0, none⟩ = some (.pointer (pl.map fun x => ⟨x.1, 0, none⟩)) := (blk_cell HS4.out.hP 0).trans rfl
                have y1 := blk_frozen HS4.out.hP 0
                go_wp2_with fail
                go_roundw
                case rel =>
                  refine ⟨k + 1, at2 ⟨vx, vy, true⟩, _, none, u', by go_num, by omega, Lib.hid (HS4.out.setP none (fun _ _ e => by cases e)), ?_, Lib.hid (by have := HL.out; simp; omega)⟩
                  have he := HE1.out
                  rw [stS_on _ _ _ _ _ rfl] at he
                  rw [hd2, show F + (k + 1) = F + k + 1 by omega]
                  exact Lib.hid he
                case measure => simp [intOf]; omega
              | false =>
                cases pl with
                | none =>
                  have y0 : W1.cell? ⟨bO + 1 + 1, 0, none⟩ = some (.pointer none) := (blk_cell HS2.out.hP 0).trans rfl
                  have y1 := blk_frozen HS2.out.hP 0
                  go_wp2_with fail
                  go_roundw
                  case rel =>
                    refine ⟨k + 1, hr, out, some (bV, ⟨vx, vy, false⟩), u, by go_num, by omega, Lib.hid (HS2.out.setP (some (bV, ⟨vx, vy, false⟩)) (fun b v e => by cases e; exact GV.out)), ?_, Lib.hid (by have := HL.out; omega)⟩
                    have he := HE1.out
                    rw [show (Option.map (fun x : Nat × S34 => x.2) none) = none from rfl, stS_none _ _ _ _ rfl] at he
                    rw [hd2, show F + (k + 1) = F + k + 1 by omega]
                    exact Lib.hid he
                  case measure => simp [intOf]; omega
                | some bv =>
                  obtain ⟨bq, qx, qy, qo⟩ := bv
                  have y0 : W1.cell? ⟨bO + 1 + 1, 0, none⟩ = some (.pointer (some ⟨bq, 0, none⟩)) := (blk_cell HS2.out.hP 0).trans rfl
                  have y1 : W1.cell? ⟨bq, 0, none⟩ = some (.int .i64 qx) := (blk_cell (HS2.out.hV bq ⟨qx, qy, qo⟩ rfl) 0).trans rfl
                  have y2 : W1.cell? ⟨bq, 1, none⟩ = some (.int .i64 qy) := (blk_cell (HS2.out.hV bq ⟨qx, qy, qo⟩ rfl) 1).trans rfl
                  have y3 : W1.cell? ⟨bq, 2, none⟩ = some (.bool qo) := (blk_cell (HS2.out.hV bq ⟨qx, qy, qo⟩ rfl) 2).trans rfl
                  go_wp2_with fail
                  have HD := Lib.hid (HS2.out.below (below_drew (Below.refl _ W1)))
                  have GD := Lib.hid (blk_below GV.out (below_drew (Below.refl _ W1)))
                  go_region_held3 (fun w' => w'.cell? ⟨bO + 1 + 1, 0, none⟩ = some (.pointer (some ⟨bq, 0, none⟩)) ∧ w'.cell? ⟨bq, 0, none⟩ = some (.int .i64 qx) ∧ w'.cell? ⟨bq, 1, none⟩ = some (.int .i64 qy) ∧ w'.cell? ⟨bq, 2, none⟩ = some (.bool qo) ∧ w'.cell? ⟨bV, 0, none⟩ = some (.int .i64 vx) ∧ w'.cell? ⟨bV, 1, none⟩ = some (.int .i64 vy) ∧ w'.cell? ⟨bV, 2, none⟩ = some (.bool false)) (((try go_split_ands); refine ⟨?_, ?_, ?_, ?_, ?_, ?_, ?_⟩ <;> first | assumption | exact pw_cell_below hb2 (by assumption))) (first
                    | (go_at_call 32; ((with_reducible refine (half_c ⟨qx, qy, qo⟩ ⟨vx, vy, false⟩ _).mono ?_); rintro e w2 ⟨rfl, hb2⟩; have HS3 := Lib.hid (HD.out.below hb2); have GV3 := Lib.hid (blk_below GD.out hb2)))
                    | (go_at_call 34; ((with_reducible refine (end_c w0 w2 bH bO (bO + 1) (bO + 1 + 1) bg hr (half2 ⟨qx, qy, qo⟩ ⟨vx, vy, false⟩) u out (some (bq, ⟨qx, qy, qo⟩)) HS3.out (by have := HL.out; omega)).mono ?_); rintro e w3 ⟨rfl, ⟨u', hs3⟩, h34⟩; have HS4 := Lib.hid hs3; have GV4 := Lib.hid (h34 bV ⟨vx, vy, false⟩ GV3.out); clear hs3 h34; have z0 : w3.cell? ⟨bO + 1 + 1, 0, none⟩ = some (.pointer (some ⟨bq, 0, none⟩)) := (blk_cell HS4.out.hP 0).trans rfl; have z1 : w3.cell? ⟨bq, 0, none⟩ = some (.int .i64 qx) := (blk_cell (HS4.out.hV bq ⟨qx, qy, qo⟩ rfl) 0).trans rfl; have z2 : w3.cell? ⟨bq, 1, none⟩ = some (.int .i64 qy) := (blk_cell (HS4.out.hV bq ⟨qx, qy, qo⟩ rfl) 1).trans rfl; have z3 : w3.cell? ⟨bq, 2, none⟩ = some (.bool qo) := (blk_cell (HS4.out.hV bq ⟨qx, qy, qo⟩ rfl) 2).trans rfl; have z4 : w3.cell? ⟨bV, 0, none⟩ = some (.int .i64 vx) := (blk_cell GV4.out 0).trans rfl; have z5 : w3.cell? ⟨bV, 1, none⟩ = some (.int .i64 vy) := (blk_cell GV4.out 1).trans rfl; have z6 : w3.cell? ⟨bV, 2, none⟩ = some (.bool false) := (blk_cell GV4.out 2).trans rfl)))
                  all_goals
                    have z7 := blk_frozen HS4.out.hP 0
                    go_wp2_with fail
                    go_roundw
                    case rel =>
                      refine ⟨k + 1, half2 ⟨qx, qy, qo⟩ ⟨vx, vy, false⟩, _, some (bV, ⟨vx, vy, false⟩), u', by go_num, by omega, Lib.hid (HS4.out.setP (some (bV, ⟨vx, vy, false⟩)) (fun b v e => by cases e; exact GV4.out)), ?_, Lib.hid (by have := HL.out; simp; omega)⟩
                      have he := HE1.out
                      rw [show (Option.map (fun x : Nat × S34 => x.2) (some (bq, (⟨qx, qy, qo⟩ : S34)))) = some ⟨qx, qy, qo⟩ from rfl, stS_some _ _ _ _ _ rfl] at he
                      rw [hd2, show F + (k + 1) = F + k + 1 by omega]
                      exact Lib.hid he
                    case measure => simp [intOf]; omega
            · have hkk : ¬ (k : Int) < (KK : Int) := by omega
              have he := HE.out
              rw [show KK - k = 0 by omega, cyc, stS] at he
              have HE1 := Lib.hid he; clear he HE
              have y0 : wr.cell? ⟨bO + 1, 0, none⟩ = some (.int .i64 bg.f0) := (blk_cell HS1.out.hB 0).trans rfl
              have y1 : wr.cell? ⟨bO + 1, 1, none⟩ = some (.int .i64 bg.f1) := (blk_cell HS1.out.hB 1).trans rfl
              go_wp2_with fail
              refine (end_c w0 wr bH bO (bO + 1) (bO + 1 + 1) bg hr bg u out pl HS1.out (by have := HL.out; have := HFK.out.2.1; omega)).mono ?_
              rintro e w3 ⟨rfl, ⟨u', hs3⟩, h34⟩
              have HS4 := Lib.hid hs3; clear hs3 h34
              have y2 : w3.cell? ⟨bO, 0, none⟩ = some u' := (blk_cell HS4.out.hO 0).trans rfl
              go_wp2_with fail
              go_ret
              exact ⟨u', rfl, by rw [← HE1.out]; exact HS4.out.row, HS4.out.bel⟩
end Go.Proofs.Ytjealbaomhjoaaa
