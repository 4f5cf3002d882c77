/- Skylines: Fit. -/
import Derived.Test.YtaccppchhljnkaaSkyHigh
set_option linter.unusedVariables false
set_option linter.unusedSimpArgs false
namespace Go.Proofs.Ytaccppchhljnkaa
open Go.RowKit Go.Proofs.YtaccppchhljnkaaW.PrintWords Go.Proofs.YtaccppchhljnkaaW.PrintLast Go.Proofs.YtaccppchhljnkaaW.PrintMore
def fitQ (W H : Int) (l : List Int) (m n : Int) : Option (Int × Int) :=
  if m < 1 ∨ n < 1 ∨ W < m ∨ H < n then none else fitF W H m n (fun x => mxF x m 0 0 l) none (stepsOf l)
def fitV (m n : Int) : Option (Int × Int) → Value
  | none => .tuple #[.agg #[.int .i64 0, .int .i64 0, .int .i64 0, .int .i64 0], .bool false]
  | some b => .tuple #[.agg #[.int .i64 b.1, .int .i64 b.2, .int .i64 m, .int .i64 n], .bool true]
def bestC (m n : Int) : Option (Int × Int) → Array Value
  | none => #[.int .i64 0, .int .i64 (-1), .int .i64 0, .int .i64 0]
  | some b => #[.int .i64 b.1, .int .i64 b.2, .int .i64 m, .int .i64 n]
theorem res_ct {P : Program} {fn : Func} {p u : Tmp} {ty : TypeId} (h : fn.results = #[.cell p ty, .tmp u]) (tmps : Array Value) (w : World) (g : Nat) (t : TypeId) (cs : Array Value) (d : TypeDesc)
    (hp : tmps.getD p undef = .pointer (some ⟨g, 0, none⟩)) (hg : w.heap[g]? = some (.cells cs t (0, 0)))
    (hu : P.underlying ty = some d) (hd : (match d with | .struct _ | .array _ _ => true | _ => false) = true) (hi : (P.info? ty).map (·.size) = some cs.size) :
    (results fn tmps).run P w = .ok (.tuple #[.agg cs, tmps.getD u undef]) w := by
  have hp' : tmps[p]?.getD undef = .pointer (some ⟨g, 0, none⟩) := by simpa using hp
  simp [results, h, hp', asAddr, run_loadVar_row w g t ty cs (0, 0) d hg hu hd hi]
theorem set4 (W : World) (g : Nat) (a0 a1 a2 a3 b0 b1 b2 b3 : Value) (t : TypeId) (h : W.heap[g]? = some (.cells #[a0, a1, a2, a3] t (0, 0))) :
    ((((W.setCell ⟨g, 0, none⟩ b0).setCell ⟨g, 1, none⟩ b1).setCell ⟨g, 2, none⟩ b2).setCell ⟨g, 3, none⟩ b3).heap[g]? = some (.cells #[b0, b1, b2, b3] t (0, 0)) ∧
    Kept (· = g) W ((((W.setCell ⟨g, 0, none⟩ b0).setCell ⟨g, 1, none⟩ b1).setCell ⟨g, 2, none⟩ b2).setCell ⟨g, 3, none⟩ b3) := by
  refine ⟨?_, ?_⟩
  · exact blk_set (blk_set (blk_set (blk_set h 0 b0) 1 b1) 2 b2) 3 b3
  · exact (((Kept.setCell (· = g) W ⟨g, 0, none⟩ b0 rfl).trans (Kept.setCell _ _ ⟨g, 1, none⟩ b1 rfl)).trans (Kept.setCell _ _ ⟨g, 2, none⟩ b2 rfl)).trans (Kept.setCell _ _ ⟨g, 3, none⟩ b3 rfl)
set_option maxHeartbeats 1000000 in
set_option maxRecDepth 100000 in
theorem fit_no (W : World) (g w h : Nat) (l : List Int) (hS : SkyAt W g w h l) (m n : Int) (hno : m < 1 ∨ n < 1 ∨ (w : Int) < m ∨ (h : Int) < n) :
    Calls Try.prog 34 #[.pointer (some ⟨g, 0, none⟩), .int .i64 m, .int .i64 n] W fun e w' => e = .returned (fitV m n (fitQ w h l m n)) ∧ Below W.heap.size W w' := by
  obtain ⟨A, c, c0, c1, c2, hl, hr, hlen⟩ := hS.open
  have hR : fitQ w h l m n = none := by unfold fitQ; rw [if_pos hno]
  rw [hR]
  have hg := World.block_lt_of_cell? W _ c0
  clear hR hr hS
  have b1 := below_alloc (Below.refl _ W) (.cells #[.int .i64 0, .int .i64 0, .int .i64 0, .int .i64 0] 39)
  have e0 := pw_cell_below b1 c0
  have e1 := pw_cell_below b1 c1
  have B1 := Lib.hid b1
  have g6 := Lib.hid (heap_alloc_new W (.cells #[.int .i64 0, .int .i64 0, .int .i64 0, .int .i64 0] 39))
  clear b1
  by_cases h1 : m < 1
  all_goals by_cases h2 : n < 1
  all_goals by_cases h3 : (w : Int) < m
  all_goals by_cases h4 : (h : Int) < n
  all_goals first
    | (exfalso; omega)
    | (clear hno
       go_enter Try.func34, Try.ntmps34
       go_wp2_with fail
       refine bodyPost_ret (res_ct rfl _ _ W.heap.size 39 #[.int .i64 0, .int .i64 0, .int .i64 0, .int .i64 0] _ rfl (blk_below g6.out (below_alloc (Below.refl _ _) _)) Try.underlying39 rfl (by kernel_rfl)) rfl ?_
       exact ⟨rfl, below_alloc B1.out _⟩)
set_option maxHeartbeats 2000000 in
set_option maxRecDepth 100000 in
theorem fit_yes (W : World) (g w h : Nat) (l : List Int) (hS : SkyAt W g w h l) (m n : Int) (h1 : ¬ m < 1) (h2 : ¬ n < 1) (h3 : ¬ (w : Int) < m) (h4 : ¬ (h : Int) < n) :
    Calls Try.prog 34 #[.pointer (some ⟨g, 0, none⟩), .int .i64 m, .int .i64 n] W fun e w' => e = .returned (fitV m n (fitQ w h l m n)) ∧ Below W.heap.size W w' := by
  obtain ⟨A, c, c0, c1, c2, hl, hr, hlen⟩ := hS.open
  have hfit : fitQ w h l m n = fitF w h m n (fun x => mxF x m 0 0 l) none (stepsOf l) := by unfold fitQ; rw [if_neg (by omega)]
  have hbd : ∀ i, i < (stepsOf l).length → 0 ≤ ((stepsOf l).getD i (0, 0)).1 ∧ ((stepsOf l).getD i (0, 0)).1 ≤ 64 := fun i hi => by
    have hm := List.getElem_mem hi
    have := stL_ge _ _ _ _ hm
    rw [List.getD_eq_getElem?_getD, List.getElem?_eq_getElem hi]
    have := hS.len; have := hS.w64
    simp only [Option.getD_some]
    omega
  have hw64 := hS.w64
  have hh64 := hS.h64
  have hov : ∀ W' x, Below W.heap.size W W' → 0 ≤ x → x ≤ 64 → Calls Try.prog 45 #[.pointer (some ⟨g, 0, none⟩), .int .i64 x, .int .i64 m] W' fun e w' => e = .returned (.int .i64 (mxF x m 0 0 l)) ∧ Below W'.heap.size W' w' :=
    fun W' x hb h0 h1 => over_c W' g w h l (hS.below hb) x m (by omega) (by omega) (by omega) (by omega)
  have hmx : ∀ x, 0 ≤ mxF x m 0 0 l ∧ mxF x m 0 0 l ≤ h := fun x => mx_bound x m h l 0 0 (fun y hy => (hS.ys y hy).2) (by omega)
  obtain ⟨R, hR⟩ : ∃ R, fitQ w h l m n = R := ⟨_, rfl⟩
  rw [hR] at hfit ⊢
  clear hR
  generalize stepsOf l = st at *
  obtain ⟨N, hn⟩ : ∃ N, st.length = N := ⟨_, rfl⟩
  rw [hn] at c2 hl hr hlen hbd
  have HN := Lib.hid hn; have HR := Lib.hid hr; have HF := Lib.hid hfit.symm; have HBD := Lib.hid hbd; have HOV := Lib.hid hov; have HMX := Lib.hid hmx
  clear hn hr hfit hbd hov hmx hS
  have hg := World.block_lt_of_cell? W _ c0
  have b1 := below_alloc (Below.refl _ W) (.cells #[.int .i64 0, .int .i64 0, .int .i64 0, .int .i64 0] 39)
  have b2 := below_alloc b1 (.cells #[.int .i64 0, .int .i64 (-1), .int .i64 0, .int .i64 0] 39)
  have e0 := pw_cell_below b2 c0
  have e1 := pw_cell_below b2 c1
  have e2 := pw_cell_below b2 c2
  have f0 := pw_cell_below b1 c0
  have f1 := pw_cell_below b1 c1
  have f2 := pw_cell_below b1 c2
  have B2 := Lib.hid b2
  have g6 := Lib.hid (blk_below (heap_alloc_new W (.cells #[.int .i64 0, .int .i64 0, .int .i64 0, .int .i64 0] 39)) (below_alloc (Below.refl _ _) (.cells #[.int .i64 0, .int .i64 (-1), .int .i64 0, .int .i64 0] 39)))
  have g8 := Lib.hid (heap_alloc_new (W.alloc (.cells #[.int .i64 0, .int .i64 0, .int .i64 0, .int .i64 0] 39)) (.cells #[.int .i64 0, .int .i64 (-1), .int .i64 0, .int .i64 0] 39))
  rw [World.size_alloc] at g8
  clear b1 b2
  go_enter Try.func34, Try.ntmps34
  go_upto_region 4 with (fail)
  obtain ⟨w0, rfl⟩ : ∃ w0 : World, w0 = W := ⟨_, rfl⟩
  obtain ⟨W2, hW2⟩ : ∃ W2, (w0.alloc (.cells #[.int .i64 0, .int .i64 0, .int .i64 0, .int .i64 0] 39)).alloc (.cells #[.int .i64 0, .int .i64 (-1), .int .i64 0, .int .i64 0] 39) = W2 := ⟨_, rfl⟩
  rw [hW2] at e0 e1 e2 B2 g6 g8
  rw [hW2]
  clear hW2 f0 f1 f2
  obtain ⟨b6, hb6⟩ : ∃ b6, w0.heap.size = b6 := ⟨_, rfl⟩
  have hb6' : Hid (w0.heap.size = b6) := Lib.hid hb6
  rw [hb6] at g6 g8
  rw [hb6]
  clear hb6
  go_wp2_with fail
  go_loopw [41] (fun v41 W => ∃ (k : Nat) (best : Option (Int × Int)), v41 = .int .i64 k ∧ k ≤ N ∧ Hid (W.heap[b6]? = some (.cells #[.int .i64 0, .int .i64 0, .int .i64 0, .int .i64 0] 39 (0, 0))) ∧ Hid (W.heap[b6 + 1]? = some (.cells (bestC m n best) 39 (0, 0))) ∧ Hid (fitF w h m n (fun x => mxF x m 0 0 l) best (st.drop k) = R) ∧ Hid (∀ b, best = some b → 0 ≤ b.2 ∧ b.2 ≤ h) ∧ Hid (Below w0.heap.size w0 W)) (fun v41 _ => N - (intOf v41).toNat)
  case atStart => exact ⟨0, none, rfl, Nat.zero_le _, g6, g8, HF, Lib.hid (fun b e => by cases e), B2⟩
  case round =>
    obtain ⟨k, best, rfl, hk, G6, G8, HE, HP, HB⟩ := hrel
    have d0 : wr.cell? ⟨g, 0, none⟩ = some (.int .i64 w) := pw_cell_below HB.out c0
    have d1 : wr.cell? ⟨g, 1, none⟩ = some (.int .i64 h) := pw_cell_below HB.out c1
    by_cases hkn : k < N
    · have hkk : (k : Int) < (N : Int) := by omega
      obtain ⟨ad, eA⟩ := C_some HR.out (by omega)
      subst eA
      obtain ⟨p0, p1⟩ := st_at (Kd.C_below HR.out HB.out) k hkn
      obtain ⟨px, hpx⟩ : ∃ px, (st.getD k (0, 0)).1 = px := ⟨_, rfl⟩
      obtain ⟨py, hpy⟩ : ∃ py, (st.getD k (0, 0)).2 = py := ⟨_, rfl⟩
      obtain ⟨hb1, hb2⟩ := HBD.out k hkn
      rw [hpx] at p0 hb1 hb2; rw [hpy] at p1
      have hst : st.drop k = (px, py) :: st.drop (k + 1) := by
        rw [List.drop_eq_getElem_cons (by rw [HN.out]; exact hkn)]
        rw [List.getD_eq_getElem?_getD, List.getElem?_eq_getElem (by rw [HN.out]; exact hkn)] at hpx hpy
        simp only [Option.getD_some] at hpx hpy
        rw [← hpx, ← hpy]
      have he := HE.out
      rw [hst, fitF] at he
      have al := below_alloc (Below.refl _ wr) (.cells #[.int .i64 px, .int .i64 py] 84)
      have g1 := heap_alloc_new wr (.cells #[.int .i64 px, .int .i64 py] 84)
      have e0 := pw_cell_below al d0
      have e1 := pw_cell_below al d1
      have B1 := Lib.hid (below_step HB.out al)
      have K6 := Lib.hid (blk_below G6.out al)
      have K8 := Lib.hid (blk_below G8.out al)
      have HE1 := Lib.hid he
      clear he hst hpx hpy HE G6 G8
      have hpy' := py
      go_upto_region 7 with (fail)
      generalize wr.alloc (.cells #[.int .i64 px, .int .i64 py] 84) = W1 at *
      generalize wr.heap.size = bP at *
      have s0 : W1.cell? ⟨bP, 0, none⟩ = some (.int .i64 px) := (blk_cell g1 0).trans rfl
      have GP := Lib.hid g1
      clear p0 p1 d0 d1 al g1 hpy'
      obtain ⟨Y, hY⟩ : ∃ Y, mxF px m 0 0 l = Y := ⟨_, rfl⟩
      have hYb := HMX.out px
      have HO := Lib.hid (fun W' hb => HOV.out W' px hb hb1 hb2)
      rw [hY] at hYb HO
      simp only [hY] at HE1
      obtain ⟨hY0, hY1⟩ := hYb
      clear hY
      by_cases q1 : px + m ≤ (w : Int)
      · have q1' : ¬ (w : Int) < px + m := by omega
        go_quiet (fail)
        go_wp2_with fail
        refine (HO.out _ (pw_below_drewN B1.out nq)).mono ?_
        rintro e w5 ⟨rfl, hb5⟩
        have x1 : w5.cell? ⟨g, 1, none⟩ = some (.int .i64 h) := pw_cell_below hb5 e1
        have x2 : w5.cell? ⟨bP, 0, none⟩ = some (.int .i64 px) := pw_cell_below hb5 s0
        have K65 := Lib.hid (blk_below (w := W1.drewN nq) K6.out hb5)
        have K85 := Lib.hid (blk_below (w := W1.drewN nq) K8.out hb5)
        have B5 := Lib.hid (below_step (pw_below_drewN B1.out nq) hb5)
        have hle : w0.heap.size ≤ b6 + 1 := by rw [hb6'.out]; omega
        have hne : b6 ≠ b6 + 1 := by omega
        clear hb5 e0 e1 s0
        by_cases q2 : Y + n ≤ (h : Int)
        · cases best with
          | none =>
            rw [if_pos ⟨q1, q2, fun b e => by cases e⟩] at HE1
            have y0 : w5.cell? ⟨b6 + 1, 0, none⟩ = some (.int .i64 0) := (blk_cell K85.out 0).trans rfl
            have y1 : w5.cell? ⟨b6 + 1, 1, none⟩ = some (.int .i64 (-1)) := (blk_cell K85.out 1).trans rfl
            have y2 : w5.cell? ⟨b6 + 1, 2, none⟩ = some (.int .i64 0) := (blk_cell K85.out 2).trans rfl
            have y3 : w5.cell? ⟨b6 + 1, 3, none⟩ = some (.int .i64 0) := (blk_cell K85.out 3).trans rfl
            have t0 := blk_frozen K85.out 0; have t1 := blk_frozen K85.out 1; have t2 := blk_frozen K85.out 2; have t3 := blk_frozen K85.out 3
            go_wp2_with fail
            go_roundw
            case rel =>
              obtain ⟨m1, m2⟩ := set4 w5 (b6 + 1) _ _ _ _ (.int .i64 px) (.int .i64 Y) (.int .i64 m) (.int .i64 n) _ K85.out
              exact ⟨k + 1, some (px, Y), by go_num, by omega, Lib.hid (m2.get K65.out (by omega)), Lib.hid m1, HE1, Lib.hid (fun b e => by injection e with e; subst e; exact ⟨hY0, hY1⟩), Lib.hid ((((B5.out.setCell hle _).setCell hle _).setCell hle _).setCell hle _)⟩
            case measure => simp [intOf]; omega
          | some b =>
            obtain ⟨bx, by'⟩ := b
            obtain ⟨hby0, hby1⟩ := HP.out _ rfl
            have hby0 : 0 ≤ by' := hby0
            have hnb : ¬ by' < 0 := by omega
            have y0 : w5.cell? ⟨b6 + 1, 0, none⟩ = some (.int .i64 bx) := (blk_cell K85.out 0).trans rfl
            have y1 : w5.cell? ⟨b6 + 1, 1, none⟩ = some (.int .i64 by') := (blk_cell K85.out 1).trans rfl
            have y2 : w5.cell? ⟨b6 + 1, 2, none⟩ = some (.int .i64 m) := (blk_cell K85.out 2).trans rfl
            have y3 : w5.cell? ⟨b6 + 1, 3, none⟩ = some (.int .i64 n) := (blk_cell K85.out 3).trans rfl
            have t0 := blk_frozen K85.out 0; have t1 := blk_frozen K85.out 1; have t2 := blk_frozen K85.out 2; have t3 := blk_frozen K85.out 3
            by_cases q3 : Y < by'
            · rw [if_pos ⟨q1, q2, fun b e => by injection e with e; subst e; exact q3⟩] at HE1
              go_wp2_with fail
              go_roundw
              case rel =>
                obtain ⟨m1, m2⟩ := set4 w5 (b6 + 1) _ _ _ _ (.int .i64 px) (.int .i64 Y) (.int .i64 m) (.int .i64 n) _ K85.out
                exact ⟨k + 1, some (px, Y), by go_num, by omega, Lib.hid (m2.get K65.out (by omega)), Lib.hid m1, HE1, Lib.hid (fun b e => by injection e with e; subst e; exact ⟨hY0, hY1⟩), Lib.hid ((((B5.out.setCell hle _).setCell hle _).setCell hle _).setCell hle _)⟩
              case measure => simp [intOf]; omega
            · rw [if_neg (fun h => q3 (h.2.2 _ rfl))] at HE1
              go_wp2_with fail
              go_roundw
              case rel => exact ⟨k + 1, some (bx, by'), by go_num, by omega, K65, K85, HE1, HP, B5⟩
              case measure => simp [intOf]; omega
        · rw [if_neg (fun h => q2 h.2.1)] at HE1
          go_wp2_with fail
          go_roundw
          case rel => exact ⟨k + 1, best, by go_num, by omega, K65, K85, HE1, HP, B5⟩
          case measure => simp [intOf]; omega
      · have q1' : (w : Int) < px + m := by omega
        rw [if_neg (fun h => q1 h.1)] at HE1
        go_quiet (fail)
        go_wp2_with fail
        go_roundw
        case rel => exact ⟨k + 1, best, by go_num, by omega, Lib.hid K6.out, Lib.hid K8.out, HE1, HP, Lib.hid (pw_below_drewN B1.out nq)⟩
        case measure => simp [intOf]; omega
    · have hkk : ¬ (k : Int) < (N : Int) := by omega
      have he := HE.out
      rw [List.drop_eq_nil_of_le (by rw [HN.out]; omega), fitF] at he
      subst he
      clear HE
      cases best with
      | none =>
        have s1 : wr.cell? ⟨b6 + 1, 1, none⟩ = some (.int .i64 (-1)) := (blk_cell G8.out 1).trans rfl
        have z0 : wr.cell? ⟨b6, 0, none⟩ = some (.int .i64 0) := (blk_cell G6.out 0).trans rfl
        have z1 : wr.cell? ⟨b6, 1, none⟩ = some (.int .i64 0) := (blk_cell G6.out 1).trans rfl
        have z2 : wr.cell? ⟨b6, 2, none⟩ = some (.int .i64 0) := (blk_cell G6.out 2).trans rfl
        have z3 : wr.cell? ⟨b6, 3, none⟩ = some (.int .i64 0) := (blk_cell G6.out 3).trans rfl
        have t0 := blk_frozen G6.out 0; have t1 := blk_frozen G6.out 1; have t2 := blk_frozen G6.out 2; have t3 := blk_frozen G6.out 3
        go_wp2_with fail
        obtain ⟨m1, m2⟩ := set4 wr b6 _ _ _ _ (.int .i64 0) (.int .i64 0) (.int .i64 0) (.int .i64 0) _ G6.out
        have hle : w0.heap.size ≤ b6 := by rw [hb6'.out]; omega
        refine bodyPost_ret (res_ct rfl _ _ b6 39 #[.int .i64 0, .int .i64 0, .int .i64 0, .int .i64 0] _ rfl m1 Try.underlying39 rfl (by kernel_rfl)) rfl ?_
        exact ⟨rfl, (((HB.out.setCell hle _).setCell hle _).setCell hle _).setCell hle _⟩
      | some b =>
        obtain ⟨X, Y⟩ := b
        obtain ⟨hY0, hY1⟩ := HP.out _ rfl
        have hY0 : 0 ≤ Y := hY0
        have hnb : ¬ Y < 0 := by omega
        have y0 : wr.cell? ⟨b6 + 1, 0, none⟩ = some (.int .i64 X) := (blk_cell G8.out 0).trans rfl
        have y1 : wr.cell? ⟨b6 + 1, 1, none⟩ = some (.int .i64 Y) := (blk_cell G8.out 1).trans rfl
        have y2 : wr.cell? ⟨b6 + 1, 2, none⟩ = some (.int .i64 m) := (blk_cell G8.out 2).trans rfl
        have y3 : wr.cell? ⟨b6 + 1, 3, none⟩ = some (.int .i64 n) := (blk_cell G8.out 3).trans rfl
        have z0 : wr.cell? ⟨b6, 0, none⟩ = some (.int .i64 0) := (blk_cell G6.out 0).trans rfl
        have z1 : wr.cell? ⟨b6, 1, none⟩ = some (.int .i64 0) := (blk_cell G6.out 1).trans rfl
        have z2 : wr.cell? ⟨b6, 2, none⟩ = some (.int .i64 0) := (blk_cell G6.out 2).trans rfl
        have z3 : wr.cell? ⟨b6, 3, none⟩ = some (.int .i64 0) := (blk_cell G6.out 3).trans rfl
        have t0 := blk_frozen G6.out 0; have t1 := blk_frozen G6.out 1; have t2 := blk_frozen G6.out 2; have t3 := blk_frozen G6.out 3
        go_wp2_with fail
        obtain ⟨m1, m2⟩ := set4 wr b6 _ _ _ _ (.int .i64 X) (.int .i64 Y) (.int .i64 m) (.int .i64 n) _ G6.out
        have hle : w0.heap.size ≤ b6 := by rw [hb6'.out]; omega
        refine bodyPost_ret (res_ct rfl _ _ b6 39 #[.int .i64 X, .int .i64 Y, .int .i64 m, .int .i64 n] _ rfl m1 Try.underlying39 rfl (by kernel_rfl)) rfl ?_
        exact ⟨rfl, (((HB.out.setCell hle _).setCell hle _).setCell hle _).setCell hle _⟩
theorem fit_c (W : World) (g w h : Nat) (l : List Int) (hS : SkyAt W g w h l) (m n : Int) :
    Calls Try.prog 34 #[.pointer (some ⟨g, 0, none⟩), .int .i64 m, .int .i64 n] W fun e w' => e = .returned (fitV m n (fitQ w h l m n)) ∧ Below W.heap.size W w' := by
  by_cases hno : m < 1 ∨ n < 1 ∨ (w : Int) < m ∨ (h : Int) < n
  · exact fit_no W g w h l hS m n hno
  · exact fit_yes W g w h l hS m n (by omega) (by omega) (by omega) (by omega)
end Go.Proofs.Ytaccppchhljnkaa
