/- The law's fit: the walk. -/
import Derived.Test.YtphclfcidgljkaaSkyShows
set_option linter.unusedVariables false
set_option linter.unusedSimpArgs false
namespace Go.Proofs.Ytphclfcidgljkaa
open Go.RowKit Go.Proofs.YtphclfcidgljkaaW.PrintWords Go.Proofs.YtphclfcidgljkaaW.PrintLast Go.Proofs.YtphclfcidgljkaaW.PrintMore
def bestL (m n : Int) : Option (Int × Int) → Array Value
  | none => #[.int .i64 0, .int .i64 0, .int .i64 0, .int .i64 0]
  | some b => #[.int .i64 b.1, .int .i64 b.2, .int .i64 m, .int .i64 n]
def okL : Option (Int × Int) → Bool
  | none => false
  | some _ => true
attribute [local go_sem high] eqTwo
set_option maxHeartbeats 2000000 in
set_option maxRecDepth 100000 in
theorem lfit_c (W : World) (gw a h : Nat) (l : List Int) (hR : RowAt W gw l) (hl : l.length = a) (ha : a ≤ 64) (hh : h ≤ 64) (hys : ∀ y ∈ l, 0 ≤ y ∧ y ≤ (h : Int)) (m n : Int) :
    Calls Try.prog 13 #[.slice (some ⟨gw, 0, none⟩) a a, .int .i64 h, .int .i64 m, .int .i64 n] W fun e w' => e = .returned (fitV m n (fitQ a h l m n)) ∧ Below W.heap.size W w' := by
  have HST := Lib.hid (fun W' hb => lsteps_c W' gw l (blk_below hR hb) (by omega))
  rw [hl] at HST
  have HOV := Lib.hid (fun W' hb (x : Int) (h0 : 0 ≤ x) (h1 : x ≤ 64) (m0 : 0 ≤ m) (m1 : m ≤ 64) => lover_c W' gw l (blk_below hR hb) (by omega) x m h0 (by omega) (by omega) (by omega))
  rw [hl] at HOV
  have hbd : ∀ i, i < (stepsOf l).length → 0 ≤ ((stepsOf l).getD i (0, 0)).1 ∧ ((stepsOf l).getD i (0, 0)).1 ≤ 64 := fun i hi => by
    have hm := List.getElem_mem hi
    have := stL_ge _ _ _ _ hm
    rw [List.getD_eq_getElem?_getD, List.getElem?_eq_getElem hi]
    simp only [Option.getD_some]
    omega
  have hmx : ∀ x, 0 ≤ mxF x m 0 0 l ∧ mxF x m 0 0 l ≤ h := fun x => mx_bound x m h l 0 0 (fun y hy => (hys y hy).2) (by omega)
  have hsl := stL_len l 0 none
  rw [hl] at hsl
  have HBD := Lib.hid hbd; have HMX := Lib.hid hmx; have HSL : Hid ((stepsOf l).length ≤ a) := Lib.hid hsl
  obtain ⟨R, hR'⟩ : ∃ R, fitQ a h l m n = R := ⟨_, rfl⟩
  have HQ := Lib.hid hR'
  rw [hR']
  clear hR hys hbd hmx hsl hl hR'
  have b1 := below_alloc (Below.refl _ W) (.cells #[.int .i64 0, .int .i64 0, .int .i64 0, .int .i64 0] 31)
  have B2 := Lib.hid (below_alloc b1 (.cells #[.int .i64 0, .int .i64 0, .int .i64 0, .int .i64 0] 31))
  have g6 := Lib.hid (blk_below (heap_alloc_new W (.cells #[.int .i64 0, .int .i64 0, .int .i64 0, .int .i64 0] 31)) (below_alloc (Below.refl _ _) (.cells #[.int .i64 0, .int .i64 0, .int .i64 0, .int .i64 0] 31)))
  have g8 := Lib.hid (heap_alloc_new (W.alloc (.cells #[.int .i64 0, .int .i64 0, .int .i64 0, .int .i64 0] 31)) (.cells #[.int .i64 0, .int .i64 0, .int .i64 0, .int .i64 0] 31))
  rw [World.size_alloc] at g8
  clear b1
  go_enter Try.func13, Try.ntmps13
  go_upto_region 2 with (fail)
  obtain ⟨w0, rfl⟩ : ∃ w0 : World, w0 = W := ⟨_, rfl⟩
  generalize (w0.alloc (.cells #[.int .i64 0, .int .i64 0, .int .i64 0, .int .i64 0] 31)).alloc (.cells #[.int .i64 0, .int .i64 0, .int .i64 0, .int .i64 0] 31) = W2 at *
  obtain ⟨b6, hb6⟩ : ∃ b6, w0.heap.size = b6 := ⟨_, rfl⟩
  have hb6' : Hid (w0.heap.size = b6) := Lib.hid hb6
  rw [hb6] at g6 g8
  rw [hb6]
  clear hb6
  by_cases hno : m < 1 ∨ n < 1 ∨ (a : Int) < m ∨ (h : Int) < n
  · have hq := HQ.out
    unfold fitQ at hq
    rw [if_pos hno] at hq
    subst hq
    clear HQ
    have z0 : W2.cell? ⟨b6 + 1, 0, none⟩ = some (.int .i64 0) := (blk_cell g8.out 0).trans rfl
    have z1 : W2.cell? ⟨b6 + 1, 1, none⟩ = some (.int .i64 0) := (blk_cell g8.out 1).trans rfl
    have z2 : W2.cell? ⟨b6 + 1, 2, none⟩ = some (.int .i64 0) := (blk_cell g8.out 2).trans rfl
    have z3 : W2.cell? ⟨b6 + 1, 3, none⟩ = some (.int .i64 0) := (blk_cell g8.out 3).trans rfl
    have y0 : W2.cell? ⟨b6, 0, none⟩ = some (.int .i64 0) := (blk_cell g6.out 0).trans rfl
    have y1 : W2.cell? ⟨b6, 1, none⟩ = some (.int .i64 0) := (blk_cell g6.out 1).trans rfl
    have y2 : W2.cell? ⟨b6, 2, none⟩ = some (.int .i64 0) := (blk_cell g6.out 2).trans rfl
    have y3 : W2.cell? ⟨b6, 3, none⟩ = some (.int .i64 0) := (blk_cell g6.out 3).trans rfl
    have t0 := blk_frozen g6.out 0; have t1 := blk_frozen g6.out 1; have t2 := blk_frozen g6.out 2; have t3 := blk_frozen g6.out 3
    have hle : w0.heap.size ≤ b6 := by rw [hb6'.out]; omega
    by_cases h1 : m < 1
    all_goals by_cases h2 : n < 1
    all_goals by_cases h3 : (a : Int) < m
    all_goals by_cases h4 : (h : Int) < n
    all_goals first
      | (exfalso; omega)
      | (clear hno
         go_wp2_with fail
         obtain ⟨m1, m2⟩ := set4 W2 b6 _ _ _ _ (.int .i64 0) (.int .i64 0) (.int .i64 0) (.int .i64 0) _ g6.out
         refine bodyPost_ret (res_ct rfl _ _ b6 31 #[.int .i64 0, .int .i64 0, .int .i64 0, .int .i64 0] _ rfl m1 Try.underlying31 rfl (by kernel_rfl)) rfl ?_
         exact ⟨rfl, (((B2.out.setCell hle _).setCell hle _).setCell hle _).setCell hle _⟩)
  · have hfit := HQ.out
    unfold fitQ at hfit
    rw [if_neg hno] at hfit
    have HF := Lib.hid hfit
    have h1 : ¬ m < 1 := by omega
    have h2 : ¬ n < 1 := by omega
    have h3 : ¬ (a : Int) < m := by omega
    have h4 : ¬ (h : Int) < n := by omega
    clear hno hfit HQ
    go_wp2_with fail
    refine (HST.out W2 B2.out).mono ?_
    rintro e w3 ⟨u, rfl, ho, hb3⟩
    obtain ⟨Au, cu, eu⟩ := Kd.R_slice ho
    subst eu
    have HC : Hid (Kd.R kst 44 w3 0 (fun _ => True) (.slice Au (stepsOf l).length cu) (stepsOf l)) := Lib.hid (Kd.R_lower ho (Nat.zero_le _))
    have B3 := Lib.hid (below_step B2.out hb3)
    have G63 := Lib.hid (blk_below g6.out hb3)
    have G83 := Lib.hid (blk_below g8.out hb3)
    clear ho hb3 B2 g6 g8 HST
    generalize stepsOf l = st at *
    obtain ⟨N, hn⟩ : ∃ N, st.length = N := ⟨_, rfl⟩
    rw [hn] at HC HBD HSL ⊢
    have HN := Lib.hid hn
    have hNa := HSL.out
    clear hn HSL
    go_wp2_with fail
    go_loopw [11, 37] (fun v11 v37 W => ∃ (k : Nat) (best : Option (Int × Int)), v37 = .int .i64 k ∧ v11 = .bool (okL best) ∧ k ≤ N ∧ Hid (W.heap[b6]? = some (.cells #[.int .i64 0, .int .i64 0, .int .i64 0, .int .i64 0] 31 (0, 0))) ∧ Hid (W.heap[b6 + 1]? = some (.cells (bestL m n best) 31 (0, 0))) ∧ Hid (fitF a h m n (fun x => mxF x m 0 0 l) best (st.drop k) = R) ∧ Hid (∀ b, best = some b → 0 ≤ b.2 ∧ b.2 ≤ h) ∧ Hid (Below w0.heap.size w0 W) ∧ Hid (Kd.R kst 44 W 0 (fun _ => True) (.slice Au N cu) st)) (fun _ v37 _ => N - (intOf v37).toNat)
    case atStart => exact ⟨0, none, rfl, rfl, Nat.zero_le _, G63, G83, HF, Lib.hid (fun b e => by cases e), B3, HC⟩
    case round =>
      obtain ⟨k, best, rfl, rfl, hk, G6, G8, HE, HP, HB, HO⟩ := hrel
      have hle6 : w0.heap.size ≤ b6 := by rw [hb6'.out]; omega
      have hle : w0.heap.size ≤ b6 + 1 := by rw [hb6'.out]; omega
      by_cases hkn : k < N
      · have hkk : (k : Int) < (N : Int) := by omega
        have hC := (Kd.R_reads' HO.out).2.2
        rw [HN.out] at hC
        obtain ⟨ad, eA⟩ := C_some hC (by omega)
        subst eA
        obtain ⟨p0, p1⟩ := st_at hC k hkn
        clear hC
        obtain ⟨px, hpx⟩ : ∃ px, (st.getD k (0, 0)).1 = px := ⟨_, rfl⟩
        obtain ⟨py, hpy⟩ : ∃ py, (st.getD k (0, 0)).2 = py := ⟨_, rfl⟩
        obtain ⟨hb1, hb2⟩ := HBD.out k hkn
        rw [hpx] at p0 hb1 hb2; rw [hpy] at p1
        have hst : st.drop k = (px, py) :: st.drop (k + 1) := by
          rw [List.drop_eq_getElem_cons (by rw [HN.out]; exact hkn)]
          rw [List.getD_eq_getElem?_getD, List.getElem?_eq_getElem (by rw [HN.out]; exact hkn)] at hpx hpy
          simp only [Option.getD_some] at hpx hpy
          rw [← hpx, ← hpy]
        have he := HE.out
        rw [hst, fitF] at he
        have al := below_alloc (Below.refl _ wr) (.cells #[.int .i64 px, .int .i64 py] 44)
        have g1 := heap_alloc_new wr (.cells #[.int .i64 px, .int .i64 py] 44)
        have B1 := Lib.hid (below_step HB.out al)
        have K6 := Lib.hid (blk_below G6.out al)
        have K8 := Lib.hid (blk_below G8.out al)
        have HO1 := Lib.hid (Kd.R_below HO.out al)
        have HE1 := Lib.hid he
        clear he hst hpx hpy HE G6 G8 HO
        have hpy' := py
        go_upto_region 7 with (fail)
        generalize wr.alloc (.cells #[.int .i64 px, .int .i64 py] 44) = W1 at *
        generalize wr.heap.size = bP at *
        have s0 : W1.cell? ⟨bP, 0, none⟩ = some (.int .i64 px) := (blk_cell g1 0).trans rfl
        clear p0 p1 al g1 hpy'
        obtain ⟨Y, hY⟩ : ∃ Y, mxF px m 0 0 l = Y := ⟨_, rfl⟩
        have hYb := HMX.out px
        have HOv := Lib.hid (HOV.out W1 B1.out px hb1 hb2 (by omega) (by omega))
        rw [hY] at hYb HOv
        simp only [hY] at HE1
        obtain ⟨hY0, hY1⟩ := hYb
        clear hY
        go_wp2_with fail
        refine HOv.out.mono ?_
        rintro e w5 ⟨rfl, rfl⟩
        clear HOv
        have hno : ∀ best', Hid (fitF a h m n (fun x => mxF x m 0 0 l) best' (st.drop (k + 1)) = R) → True := fun _ _ => trivial
        clear hno
        by_cases q1 : px + m ≤ (a : Int)
        · by_cases q2 : Y + n ≤ (h : Int)
          · cases best with
            | none =>
              rw [if_pos ⟨q1, q2, fun b e => by cases e⟩] at HE1
              have y0 : w5.cell? ⟨b6 + 1, 0, none⟩ = some (.int .i64 0) := (blk_cell K8.out 0).trans rfl
              have y1 : w5.cell? ⟨b6 + 1, 1, none⟩ = some (.int .i64 0) := (blk_cell K8.out 1).trans rfl
              have y2 : w5.cell? ⟨b6 + 1, 2, none⟩ = some (.int .i64 0) := (blk_cell K8.out 2).trans rfl
              have y3 : w5.cell? ⟨b6 + 1, 3, none⟩ = some (.int .i64 0) := (blk_cell K8.out 3).trans rfl
              have t0 := blk_frozen K8.out 0; have t1 := blk_frozen K8.out 1; have t2 := blk_frozen K8.out 2; have t3 := blk_frozen K8.out 3
              have hok : okL (none : Option (Int × Int)) = false := rfl
              go_wp2_with fail
              go_roundw
              case rel =>
                obtain ⟨m1, m2⟩ := set4 w5 (b6 + 1) _ _ _ _ (.int .i64 px) (.int .i64 Y) (.int .i64 m) (.int .i64 n) _ K8.out
                have hne := Kd.R_ne HO1.out K8.out (by decide)
                exact ⟨k + 1, some (px, Y), by go_num, rfl, by omega, Lib.hid (m2.get K6.out (by omega)), Lib.hid m1, HE1, Lib.hid (fun b e => by injection e with e; subst e; exact ⟨hY0, hY1⟩), Lib.hid ((((B1.out.setCell hle _).setCell hle _).setCell hle _).setCell hle _), Lib.hid (Kd.R_mono (Kd.R_step (Kd.R_tight rfl HO1.out) (fun q hq hlt => m2.block q hlt (fun e => hne ((congrArg some e.symm).trans hq)))) (fun _ _ => trivial))⟩
              case measure => simp [intOf]; omega
            | some b =>
              obtain ⟨bx, by'⟩ := b
              obtain ⟨hby0, hby1⟩ := HP.out _ rfl
              have hby0 : 0 ≤ by' := hby0
              have y0 : w5.cell? ⟨b6 + 1, 0, none⟩ = some (.int .i64 bx) := (blk_cell K8.out 0).trans rfl
              have y1 : w5.cell? ⟨b6 + 1, 1, none⟩ = some (.int .i64 by') := (blk_cell K8.out 1).trans rfl
              have y2 : w5.cell? ⟨b6 + 1, 2, none⟩ = some (.int .i64 m) := (blk_cell K8.out 2).trans rfl
              have y3 : w5.cell? ⟨b6 + 1, 3, none⟩ = some (.int .i64 n) := (blk_cell K8.out 3).trans rfl
              have t0 := blk_frozen K8.out 0; have t1 := blk_frozen K8.out 1; have t2 := blk_frozen K8.out 2; have t3 := blk_frozen K8.out 3
              have hok : okL (some (bx, by')) = true := rfl
              by_cases q3 : Y < by'
              · rw [if_pos ⟨q1, q2, fun b e => by injection e with e; subst e; exact q3⟩] at HE1
                go_wp2_with fail
                go_roundw
                case rel =>
                  obtain ⟨m1, m2⟩ := set4 w5 (b6 + 1) _ _ _ _ (.int .i64 px) (.int .i64 Y) (.int .i64 m) (.int .i64 n) _ K8.out
                  have hne := Kd.R_ne HO1.out K8.out (by decide)
                  exact ⟨k + 1, some (px, Y), by go_num, rfl, by omega, Lib.hid (m2.get K6.out (by omega)), Lib.hid m1, HE1, Lib.hid (fun b e => by injection e with e; subst e; exact ⟨hY0, hY1⟩), Lib.hid ((((B1.out.setCell hle _).setCell hle _).setCell hle _).setCell hle _), Lib.hid (Kd.R_mono (Kd.R_step (Kd.R_tight rfl HO1.out) (fun q hq hlt => m2.block q hlt (fun e => hne ((congrArg some e.symm).trans hq)))) (fun _ _ => trivial))⟩
                case measure => simp [intOf]; omega
              · rw [if_neg (fun h => q3 (h.2.2 _ rfl))] at HE1
                go_wp2_with fail
                go_roundw
                case rel => exact ⟨k + 1, some (bx, by'), by go_num, rfl, by omega, K6, K8, HE1, HP, B1, HO1⟩
                case measure => simp [intOf]; omega
          · rw [if_neg (fun h => q2 h.2.1)] at HE1
            go_wp2_with fail
            go_roundw
            case rel => exact ⟨k + 1, best, by go_num, rfl, by omega, K6, K8, HE1, HP, B1, HO1⟩
            case measure => simp [intOf]; omega
        · rw [if_neg (fun h => q1 h.1)] at HE1
          go_wp2_with fail
          go_roundw
          case rel => exact ⟨k + 1, best, by go_num, rfl, by omega, K6, K8, HE1, HP, B1, HO1⟩
          case measure => simp [intOf]; omega
      · have hkk : ¬ (k : Int) < (N : Int) := by omega
        have he := HE.out
        rw [List.drop_eq_nil_of_le (by rw [HN.out]; omega), fitF] at he
        subst he
        clear HE
        have z0 : wr.cell? ⟨b6, 0, none⟩ = some (.int .i64 0) := (blk_cell G6.out 0).trans rfl
        have z1 : wr.cell? ⟨b6, 1, none⟩ = some (.int .i64 0) := (blk_cell G6.out 1).trans rfl
        have z2 : wr.cell? ⟨b6, 2, none⟩ = some (.int .i64 0) := (blk_cell G6.out 2).trans rfl
        have z3 : wr.cell? ⟨b6, 3, none⟩ = some (.int .i64 0) := (blk_cell G6.out 3).trans rfl
        have t0 := blk_frozen G6.out 0; have t1 := blk_frozen G6.out 1; have t2 := blk_frozen G6.out 2; have t3 := blk_frozen G6.out 3
        cases best with
        | none =>
          have y0 : wr.cell? ⟨b6 + 1, 0, none⟩ = some (.int .i64 0) := (blk_cell G8.out 0).trans rfl
          have y1 : wr.cell? ⟨b6 + 1, 1, none⟩ = some (.int .i64 0) := (blk_cell G8.out 1).trans rfl
          have y2 : wr.cell? ⟨b6 + 1, 2, none⟩ = some (.int .i64 0) := (blk_cell G8.out 2).trans rfl
          have y3 : wr.cell? ⟨b6 + 1, 3, none⟩ = some (.int .i64 0) := (blk_cell G8.out 3).trans rfl
          have hok : okL (none : Option (Int × Int)) = false := rfl
          go_wp2_with fail
          obtain ⟨m1, m2⟩ := set4 wr b6 _ _ _ _ (.int .i64 0) (.int .i64 0) (.int .i64 0) (.int .i64 0) _ G6.out
          refine bodyPost_ret (res_ct rfl _ _ b6 31 #[.int .i64 0, .int .i64 0, .int .i64 0, .int .i64 0] _ rfl m1 Try.underlying31 rfl (by kernel_rfl)) rfl ?_
          exact ⟨rfl, (((HB.out.setCell hle6 _).setCell hle6 _).setCell hle6 _).setCell hle6 _⟩
        | some b =>
          obtain ⟨X, Y⟩ := b
          have y0 : wr.cell? ⟨b6 + 1, 0, none⟩ = some (.int .i64 X) := (blk_cell G8.out 0).trans rfl
          have y1 : wr.cell? ⟨b6 + 1, 1, none⟩ = some (.int .i64 Y) := (blk_cell G8.out 1).trans rfl
          have y2 : wr.cell? ⟨b6 + 1, 2, none⟩ = some (.int .i64 m) := (blk_cell G8.out 2).trans rfl
          have y3 : wr.cell? ⟨b6 + 1, 3, none⟩ = some (.int .i64 n) := (blk_cell G8.out 3).trans rfl
          have hok : okL (some (X, Y)) = true := rfl
          go_wp2_with fail
          obtain ⟨m1, m2⟩ := set4 wr b6 _ _ _ _ (.int .i64 X) (.int .i64 Y) (.int .i64 m) (.int .i64 n) _ G6.out
          refine bodyPost_ret (res_ct rfl _ _ b6 31 #[.int .i64 X, .int .i64 Y, .int .i64 m, .int .i64 n] _ rfl m1 Try.underlying31 rfl (by kernel_rfl)) rfl ?_
          exact ⟨rfl, (((HB.out.setCell hle6 _).setCell hle6 _).setCell hle6 _).setCell hle6 _⟩
end Go.Proofs.Ytphclfcidgljkaa
