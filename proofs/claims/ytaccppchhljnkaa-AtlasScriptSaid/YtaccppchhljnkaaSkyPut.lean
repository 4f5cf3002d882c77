/- Skylines: Put. -/
import Derived.Test.YtaccppchhljnkaaSkyPutK
set_option linter.unusedVariables false
set_option linter.unusedSimpArgs false
namespace Go.Proofs.Ytaccppchhljnkaa
open Go.RowKit Go.Proofs.YtaccppchhljnkaaW.PrintWords Go.Proofs.YtaccppchhljnkaaW.PrintLast Go.Proofs.YtaccppchhljnkaaW.PrintMore
def PutOk (w h : Int) (l : List Int) (X Y M N : Int) : Prop := 1 ≤ M ∧ 1 ≤ N ∧ 0 ≤ X ∧ M ≤ w ∧ X ≤ w - M ∧ N ≤ h ∧ Y ≤ h - N ∧ mxF X M 0 0 l ≤ Y
instance (w h : Int) (l : List Int) (X Y M N : Int) : Decidable (PutOk w h l X Y M N) := by unfold PutOk; infer_instance
/-- What Put does. -/
def PutPost (W : World) (g w h : Nat) (l : List Int) (X Y M N : Int) (e : Ending) (w' : World) : Prop :=
  e = .returned (.bool (decide (PutOk w h l X Y M N))) ∧ (PutOk w h l X Y M N → SkyAt w' g w h (putN l X.toNat M.toNat (Y + N)) ∧ Kept (· = g) W w') ∧ (¬ PutOk w h l X Y M N → Below W.heap.size W w')
theorem put_ret_no {W : World} {g w h : Nat} {l : List Int} {X Y M N : Int} {w' : World} (hno : ¬ PutOk w h l X Y M N) (hb : Below W.heap.size W w') : PutPost W g w h l X Y M N (.returned (.bool false)) w' :=
  ⟨by rw [decide_eq_false hno], fun h => absurd h hno, fun _ => hb⟩
theorem pF_len (q : List (Int × Int)) : ∀ out : List (Int × Int), (q.foldl pF out).length ≤ out.length + q.length := by
  induction q with
  | nil => intro out; simp
  | cons p r ih =>
    intro out
    rw [List.foldl_cons]
    have h1 := ih (pF out p)
    have h2 : (pF out p).length ≤ out.length + 1 := by unfold pF; split <;> simp
    simp only [List.length_cons]; omega
theorem filt_snoc (st : List (Int × Int)) (f : Int × Int → Bool) (k : Nat) (hk : k < st.length) (p : Int × Int) (hp : st.getD k (0, 0) = p) (o : List (Int × Int)) :
    ((st.take (k + 1)).filter f).foldl pF o = if f p then pF (((st.take k).filter f).foldl pF o) p else ((st.take k).filter f).foldl pF o := by
  rw [List.getD_eq_getElem?_getD, List.getElem?_eq_getElem hk, Option.getD_some] at hp
  rw [List.take_succ_eq_append_getElem hk, hp, List.filter_append, List.foldl_append]
  by_cases h : f p = true
  · simp [h]
  · simp [h]
def outM (w : Int) (O : List (Int × Int)) (X M BH : Int) : List (Int × Int) := if X + M < w then pF O (X + M, BH) else O
theorem put_stepsI (l : List Int) (X M v w : Int) (hw : (l.length : Int) = w) (hX : 0 ≤ X) (hM : 1 ≤ M) (h : X + M ≤ w) (BH : Int) (hBH : (if X + M < w then l.getD (X + M).toNat 0 else -1) = BH) :
    ((stepsOf l).filter (fun q => decide (X + M < q.1))).foldl pF (outM w (pF (((stepsOf l).filter (fun q => decide (q.1 < X))).foldl pF []) (X, v)) X M BH) = stepsOf (putN l X.toNat M.toNat v) := by
  obtain ⟨x, rfl⟩ := Int.eq_ofNat_of_zero_le hX
  obtain ⟨m, rfl⟩ := Int.eq_ofNat_of_zero_le (show 0 ≤ M by omega)
  have hs := put_steps l x m v (by omega) (by omega)
  have e : ((x : Int) + (m : Int)) = ((x + m : Nat) : Int) := by omega
  rw [Int.toNat_natCast, Int.toNat_natCast, ← hs, List.foldl_append, List.foldl_append, List.foldl_append, List.foldl_cons, List.foldl_nil, e]
  congr 1
  unfold outM
  rw [e]
  by_cases hq : x + m < l.length
  · rw [if_pos (by omega), if_pos hq, List.foldl_cons, List.foldl_nil]
    rw [e, if_pos (by omega), Int.toNat_natCast] at hBH
    rw [hBH]
  · rw [if_neg (by omega), if_neg hq, List.foldl_nil]
theorem putN_ys (l : List Int) (x m : Nat) (v h : Int) (hl : ∀ y ∈ l, 0 ≤ y ∧ y ≤ h) (hv : 0 ≤ v ∧ v ≤ h) : ∀ y ∈ putN l x m v, 0 ≤ y ∧ y ≤ h := by
  intro y hy
  unfold putN at hy
  rcases List.mem_append.1 hy with hy | hy
  · exact hl y (List.mem_of_mem_take hy)
  · rcases List.mem_append.1 hy with hy | hy
    · rw [List.eq_of_mem_replicate hy]; exact hv
    · exact hl y (List.mem_of_mem_drop hy)
set_option maxHeartbeats 4000000 in
set_option maxRecDepth 100000 in
theorem put_c (W : World) (g w h : Nat) (l : List Int) (hS : SkyAt W g w h l) (X Y M N : Int) :
    Calls Try.prog 36 #[.pointer (some ⟨g, 0, none⟩), .agg #[.int .i64 X, .int .i64 Y, .int .i64 M, .int .i64 N]] W (PutPost W g w h l X Y M N) := by
  obtain ⟨A, c, c0, c1, c2, hl, hr, hlen⟩ := hS.open
  have hw64 := hS.w64
  have hh64 := hS.h64
  have b1 := below_alloc (Below.refl _ W) (.cells #[.int .i64 X, .int .i64 Y, .int .i64 M, .int .i64 N] 39)
  have e0 := pw_cell_below b1 c0
  have e1 := pw_cell_below b1 c1
  have e2 := pw_cell_below b1 c2
  have g3 := heap_alloc_new W (.cells #[.int .i64 X, .int .i64 Y, .int .i64 M, .int .i64 N] 39)
  have HOV := Lib.hid (fun W' (hb : Below (W.alloc (.cells #[.int .i64 X, .int .i64 Y, .int .i64 M, .int .i64 N] 39)).heap.size (W.alloc (.cells #[.int .i64 X, .int .i64 Y, .int .i64 M, .int .i64 N] 39)) W') hm1 hm2 hx1 hx2 => over_c W' g w h l ((hS.below b1).below hb) X M hx1 hx2 hm1 hm2)
  have HS1 := Lib.hid (hS.below b1)
  have B1 := Lib.hid b1
  have hg := World.block_lt_of_cell? W _ c0
  have hiff : Hid (PutOk w h l X Y M N ↔ 1 ≤ M ∧ 1 ≤ N ∧ 0 ≤ X ∧ M ≤ w ∧ X ≤ w - M ∧ N ≤ h ∧ Y ≤ h - N ∧ mxF X M 0 0 l ≤ Y) := Lib.hid Iff.rfl
  obtain ⟨R, hR⟩ : ∃ R, mxF X M 0 0 l = R := ⟨_, rfl⟩
  rw [hR] at HOV hiff
  have HRX := Lib.hid hR
  clear b1 hS hl hr hlen hR
  by_cases h1 : M < 1
  ·
    -- DEVCUT
    as_aux_lemma =>
      have hd1 : decide (M < 1) = true := by simpa using h1
      go_enter Try.func36, Try.ntmps36
      go_wp2_with fail
      go_quiet (fail)
      go_wp2_with fail
      go_ret
      exact put_ret_no (by rw [hiff.out]; omega) (pw_below_drewN B1.out nq)
    -- DEVEND
  have hd1 : decide (M < 1) = false := by simpa using h1
  by_cases h2 : N < 1
  ·
    -- DEVCUT
    as_aux_lemma =>
      have hd2 : decide (N < 1) = true := by simpa using h2
      go_enter Try.func36, Try.ntmps36
      go_wp2_with fail
      go_quiet (fail)
      go_wp2_with fail
      go_ret
      exact put_ret_no (by rw [hiff.out]; omega) (pw_below_drewN B1.out nq)
    -- DEVEND
  have hd2 : decide (N < 1) = false := by simpa using h2
  by_cases h3 : X < 0
  ·
    -- DEVCUT
    as_aux_lemma =>
      have hd3 : decide (X < 0) = true := by simpa using h3
      go_enter Try.func36, Try.ntmps36
      go_wp2_with fail
      go_quiet (fail)
      go_wp2_with fail
      go_ret
      exact put_ret_no (by rw [hiff.out]; omega) (pw_below_drewN B1.out nq)
    -- DEVEND
  have hd3 : decide (X < 0) = false := by simpa using h3
  by_cases h4 : (w : Int) < M
  ·
    -- DEVCUT
    as_aux_lemma =>
      have hd4 : decide ((w : Int) < M) = true := by simpa using h4
      go_enter Try.func36, Try.ntmps36
      go_wp2_with fail
      go_quiet (fail)
      go_wp2_with fail
      go_ret
      exact put_ret_no (by rw [hiff.out]; omega) (pw_below_drewN B1.out nq)
    -- DEVEND
  have hd4 : decide ((w : Int) < M) = false := by simpa using h4
  have hm1 : 1 ≤ M := by omega
  have hm2 : M ≤ 64 := by omega
  by_cases h5 : (w : Int) - M < X
  ·
    -- DEVCUT
    as_aux_lemma =>
      have hd5 : decide ((w : Int) - M < X) = true := by simpa using h5
      go_enter Try.func36, Try.ntmps36
      go_wp2_with fail
      go_quiet (fail)
      go_wp2_with fail
      go_ret
      exact put_ret_no (by rw [hiff.out]; omega) (pw_below_drewN B1.out nq)
    -- DEVEND
  have hd5 : decide ((w : Int) - M < X) = false := by simpa using h5
  by_cases h6 : (h : Int) < N
  ·
    -- DEVCUT
    as_aux_lemma =>
      have hd6 : decide ((h : Int) < N) = true := by simpa using h6
      go_enter Try.func36, Try.ntmps36
      go_wp2_with fail
      go_quiet (fail)
      go_wp2_with fail
      go_ret
      exact put_ret_no (by rw [hiff.out]; omega) (pw_below_drewN B1.out nq)
    -- DEVEND
  have hd6 : decide ((h : Int) < N) = false := by simpa using h6
  have hn1 : 1 ≤ N := by omega
  have hn2 : N ≤ 64 := by omega
  by_cases h7 : (h : Int) - N < Y
  ·
    -- DEVCUT
    as_aux_lemma =>
      have hd7 : decide ((h : Int) - N < Y) = true := by simpa using h7
      go_enter Try.func36, Try.ntmps36
      go_wp2_with fail
      go_quiet (fail)
      go_wp2_with fail
      go_ret
      exact put_ret_no (by rw [hiff.out]; omega) (pw_below_drewN B1.out nq)
    -- DEVEND
  have hd7 : decide ((h : Int) - N < Y) = false := by simpa using h7
  have HO := Lib.hid (fun W' hb => HOV.out W' hb hm1 (by omega) (by omega) (by omega))
  clear HOV
  go_enter Try.func36, Try.ntmps36
  go_wp2_with fail
  have x0 : (W.alloc (.cells #[.int .i64 X, .int .i64 Y, .int .i64 M, .int .i64 N] 39)).cell? ⟨W.heap.size, 0, none⟩ = some (.int .i64 X) := (blk_cell g3 0).trans rfl
  have x1 : (W.alloc (.cells #[.int .i64 X, .int .i64 Y, .int .i64 M, .int .i64 N] 39)).cell? ⟨W.heap.size, 1, none⟩ = some (.int .i64 Y) := (blk_cell g3 1).trans rfl
  have x2 : (W.alloc (.cells #[.int .i64 X, .int .i64 Y, .int .i64 M, .int .i64 N] 39)).cell? ⟨W.heap.size, 2, none⟩ = some (.int .i64 M) := (blk_cell g3 2).trans rfl
  have x3 : (W.alloc (.cells #[.int .i64 X, .int .i64 Y, .int .i64 M, .int .i64 N] 39)).cell? ⟨W.heap.size, 3, none⟩ = some (.int .i64 N) := (blk_cell g3 3).trans rfl
  clear c0 c1 c2 e2
  generalize W.alloc (.cells #[.int .i64 X, .int .i64 Y, .int .i64 M, .int .i64 N] 39) = W1 at *
  obtain ⟨b3, hb3⟩ : ∃ b3, W.heap.size = b3 := ⟨_, rfl⟩
  have HB3 := Lib.hid hb3
  rw [hb3] at x0 x1 x2 x3 g3 ⊢
  clear hb3
  have hw1 : IntKind.i64.wrap ((w : Int) - M) = (w : Int) - M := by rw [IntKind.wrap_i64]; omega
  have hw2 : IntKind.i64.wrap ((h : Int) - N) = (h : Int) - N := by rw [IntKind.wrap_i64]; omega
  have HG3 := Lib.hid g3
  clear g3
  have HS2 := HS1
  go_cut [77] (fun v77 Wc => v77 = .bool (decide (Y < R)) ∧ Hid (SkyAt Wc g w h l) ∧ Hid (Wc.heap[b3]? = some (.cells #[.int .i64 X, .int .i64 Y, .int .i64 M, .int .i64 N] 39 (0, 0))) ∧ Hid (Below W.heap.size W Wc))
  case first =>
    -- DEVCUT
    as_aux_lemma =>
      have HBD : Hid (Below W1.heap.size W1 W1.drew) := Lib.hid (below_drew (Below.refl _ W1))
      go_region_held3 (fun w' => w'.cell? ⟨g, 0, none⟩ = some (.int .i64 w) ∧ w'.cell? ⟨g, 1, none⟩ = some (.int .i64 h) ∧ w'.cell? ⟨b3, 0, none⟩ = some (.int .i64 X) ∧ w'.cell? ⟨b3, 1, none⟩ = some (.int .i64 Y) ∧ w'.cell? ⟨b3, 2, none⟩ = some (.int .i64 M) ∧ w'.cell? ⟨b3, 3, none⟩ = some (.int .i64 N)) (((try go_split_ands); refine ⟨?_, ?_, ?_, ?_, ?_, ?_⟩ <;> first | assumption | exact pw_cell_below hb5 (by assumption))) ((go_at_call 45; refine (HO.out _ HBD.out).mono ?_; rintro e w5 ⟨rfl, hb5⟩))
      go_wp2_with fail
      go_meet
      case rel => exact ⟨rfl, Lib.hid (HS1.out.below (below_step HBD.out hb5)), Lib.hid (blk_below HG3.out (below_step HBD.out hb5)), Lib.hid (below_step B1.out (below_step HBD.out hb5))⟩
    -- DEVEND
  case rest =>
    obtain ⟨rfl, HSc, HGc, HBc⟩ := hcut
    clear e0 e1 x0 x1 x2 x3 HS1 HS2 HO B1 HG3
    by_cases h8 : Y < R
    · have hd8 : decide (Y < R) = true := by simpa using h8
      go_wp2_with fail
      go_ret
      exact put_ret_no (by rw [hiff.out]; omega) HBc.out
    · have hd8 : decide (Y < R) = false := by simpa using h8
      have hok : Hid (PutOk w h l X Y M N) := Lib.hid (by rw [hiff.out]; omega)
      have hb : 0 ≤ X ∧ X + M ≤ w ∧ 0 ≤ R := by
        have hmx := (mx_bound X M h l 0 0 (fun y hy => (HSc.out.ys y hy).2) (by omega)).1
        rw [HRX.out] at hmx
        omega
      obtain ⟨hX0, hXM, hR0⟩ := hb
      have hY0 : 0 ≤ Y := by omega
      obtain ⟨BH, hBH⟩ : ∃ BH : Int, (if X + M < w then l.getD (X + M).toNat 0 else -1) = BH := ⟨_, rfl⟩
      have HBH := Lib.hid hBH
      clear hBH
      have d0 : wc.cell? ⟨g, 0, none⟩ = some (.int .i64 w) := by obtain ⟨_, _, d0, _⟩ := HSc.out.open; exact d0
      have x0 : wc.cell? ⟨b3, 0, none⟩ = some (.int .i64 X) := (blk_cell HGc.out 0).trans rfl
      have x2 : wc.cell? ⟨b3, 2, none⟩ = some (.int .i64 M) := (blk_cell HGc.out 2).trans rfl
      go_wp2_with fail
      go_cut [87] (fun v87 W => v87 = .bool (decide (X + M < (w : Int))) ∧ ∃ nq, W = wc.drewN nq)
      case first =>
        by_cases hq : X + M < (w : Int)
        · have hqd : decide (X + M < (w : Int)) = true := by simpa using hq
          go_quiet (fail)
          go_wp2_with fail
          go_meet
          case rel => exact ⟨by first | rfl | rw [hqd] | trivial, nq, rfl⟩
        · have hqd : decide (X + M < (w : Int)) = false := by simpa using hq
          go_quiet (fail)
          go_wp2_with fail
          go_meet
          case rel => exact ⟨by first | rfl | rw [hqd] | trivial, nq, rfl⟩
      case rest =>
        obtain ⟨rfl, nq, rfl⟩ := hcut
        have HSd := Lib.hid (HSc.out.below (pw_below_drewN (Below.refl _ wc) nq))
        have HGd := Lib.hid (blk_below HGc.out (pw_below_drewN (Below.refl _ wc) nq))
        have HBd := Lib.hid (pw_below_drewN HBc.out nq)
        clear d0 x0 x2 HSc HGc HBc
        generalize wc.drewN nq = W4 at *
        clear wc nq
        go_upto_if 87 with fail
        go_cut [5] (fun v5 W => v5 = .int .i64 BH ∧ Hid (Below W4.heap.size W4 W))
        case first =>
          by_cases hq : X + M < (w : Int)
          · have hqd : decide (X + M < (w : Int)) = true := by simpa using hq
            have hBH : hiR w l (X + M) = BH := by
              unfold hiR
              rw [if_neg (by omega), ← HBH.out, if_pos hq]
            have HHI := Lib.hid (high_c W4 g w h l HSd.out (X + M))
            rw [hBH] at HHI
            have x0 : W4.cell? ⟨b3, 0, none⟩ = some (.int .i64 X) := (blk_cell HGd.out 0).trans rfl
            have x2 : W4.cell? ⟨b3, 2, none⟩ = some (.int .i64 M) := (blk_cell HGd.out 2).trans rfl
            clear hBH
            go_wp2_with fail
            refine HHI.out.mono ?_
            rintro e w5 ⟨rfl, hb5⟩
            go_wp2_with fail
            go_meet
            case rel => exact ⟨rfl, Lib.hid hb5⟩
          · have hqd : decide (X + M < (w : Int)) = false := by simpa using hq
            have hBH : BH = -1 := by rw [← HBH.out, if_neg hq]
            subst hBH
            go_wp2_with fail
            go_meet
            case rel => exact ⟨rfl, Lib.hid (Below.refl _ _)⟩
        case rest =>
          obtain ⟨rfl, HB5⟩ := hcut
          have HS5 := Lib.hid (HSd.out.below HB5.out)
          have HG5 := Lib.hid (blk_below HGd.out HB5.out)
          have HBW := Lib.hid (below_step HBd.out HB5.out)
          obtain ⟨A, c, c0, c1, c2, hl, hr, hlen⟩ := HS5.out.open
          obtain ⟨st, hst⟩ : ∃ st, stepsOf l = st := ⟨_, rfl⟩
          rw [hst] at c2 hl hr hlen
          obtain ⟨n, hn⟩ : ∃ n, st.length = n := ⟨_, rfl⟩
          rw [hn] at c2 hl hr hlen
          have HST := Lib.hid hst; have HN := Lib.hid hn; have HR := Lib.hid hr
          clear hst hn hr
          have x0 : wc.cell? ⟨b3, 0, none⟩ = some (.int .i64 X) := (blk_cell HG5.out 0).trans rfl
          have x1 : wc.cell? ⟨b3, 1, none⟩ = some (.int .i64 Y) := (blk_cell HG5.out 1).trans rfl
          have x2 : wc.cell? ⟨b3, 2, none⟩ = some (.int .i64 M) := (blk_cell HG5.out 2).trans rfl
          have x3 : wc.cell? ⟨b3, 3, none⟩ = some (.int .i64 N) := (blk_cell HG5.out 3).trans rfl
          have HB6 := Lib.hid (below_alloc (Below.refl _ wc) (.cells #[.slice none 0 0] 80))
          have c2' := pw_cell_below HB6.out c2
          have HO6 : Hid (OutAt (wc.alloc (.cells #[.slice none 0 0] 80)) wc.heap.size []) := Lib.hid ⟨_, heap_alloc_new wc _, Kd.R_nil _ _ _ _ _⟩
          clear HSd HGd HBd HB5
          go_upto_region 8 with fail
          generalize wc.alloc (.cells #[.slice none 0 0] 80) = W6 at *
          obtain ⟨bO, hbO⟩ : ∃ bO, wc.heap.size = bO := ⟨_, rfl⟩
          have HBO := Lib.hid hbO
          rw [hbO] at HO6
          rw [hbO]
          clear hbO
          obtain ⟨W5, rfl⟩ : ∃ W5 : World, W5 = wc := ⟨_, rfl⟩
          have LIFT : Hid (∀ W W', Below W5.heap.size W5 W → Below bO W W' → Below W5.heap.size W5 W') := Lib.hid (fun W W' h1 h2 => by rw [HBO.out] at *; exact h1.trans h2)
          go_wp2_with fail
          go_loopw [101] (fun v101 W => ∃ k : Nat, v101 = .int .i64 k ∧ k ≤ n ∧ Hid (OutAt W bO (((st.take k).filter (fun q => decide (q.1 < X))).foldl pF [])) ∧ Hid (Below W5.heap.size W5 W)) (fun v101 _ => n - (intOf v101).toNat)
          case atStart => exact ⟨0, rfl, Nat.zero_le _, HO6, HB6⟩
          case round =>
            obtain ⟨k, rfl, hk, HO, HB⟩ := hrel
            by_cases hkn : k < n
            ·
             as_aux_lemma =>
              have hkk : (k : Int) < (n : Int) := by omega
              obtain ⟨ad, eA⟩ := C_some HR.out (by omega)
              subst eA
              obtain ⟨p0, p1⟩ := st_at (Kd.C_below HR.out HB.out) k hkn
              obtain ⟨px, hpx⟩ : ∃ px, (st.getD k (0, 0)).1 = px := ⟨_, rfl⟩
              obtain ⟨py, hpy⟩ : ∃ py, (st.getD k (0, 0)).2 = py := ⟨_, rfl⟩
              rw [hpx] at p0; rw [hpy] at p1
              have hsn := filt_snoc st (fun q => decide (q.1 < X)) k (by rw [HN.out]; exact hkn) (px, py) (by rw [← hpx, ← hpy]) []
              have hlo := pF_len ((st.take k).filter (fun q => decide (q.1 < X))) []
              have hlo2 := List.length_filter_le (fun q : Int × Int => decide (q.1 < X)) (st.take k)
              rw [List.length_take] at hlo2
              obtain ⟨out, hout⟩ : ∃ out, ((st.take k).filter (fun q => decide (q.1 < X))).foldl pF [] = out := ⟨_, rfl⟩
              rw [hout] at HO hsn hlo
              have hlo3 : out.length ≤ 100000 := by have : ([] : List (Int × Int)).length = 0 := rfl; omega
              have y0 : wr.cell? ⟨b3, 0, none⟩ = some (.int .i64 X) := pw_cell_below HB.out x0
              have al := below_alloc (Below.refl _ wr) (.cells #[.int .i64 px, .int .i64 py] 84)
              have z0 := pw_cell_below al y0
              have HO1 := Lib.hid (HO.out.below al)
              have HB1 := Lib.hid (below_step HB.out al)
              have g1 := heap_alloc_new wr (.cells #[.int .i64 px, .int .i64 py] 84)
              have HSN := Lib.hid hsn
              clear hpx hpy hsn hlo hlo2 hout
              go_upto_region 11 with (fail)
              generalize wr.alloc (.cells #[.int .i64 px, .int .i64 py] 84) = W1 at *
              generalize wr.heap.size = bP at *
              have s0 : W1.cell? ⟨bP, 0, none⟩ = some (.int .i64 px) := (blk_cell g1 0).trans rfl
              have s1 : W1.cell? ⟨bP, 1, none⟩ = some (.int .i64 py) := (blk_cell g1 1).trans rfl
              clear p0 p1 y0 al g1
              by_cases h1 : px < X
              · have HPK := Lib.hid (putk_c W1 bO out HO1.out px py hlo3)
                go_wp2_with fail
                refine HPK.out.mono ?_
                rintro e w7 ⟨rfl, ho7, hb7⟩
                have HO7 := Lib.hid ho7
                have HB7 := Lib.hid (LIFT.out _ _ HB1.out hb7)
                clear ho7 hb7 z0 s0 s1
                go_wp2_with fail
                go_roundw
                case rel => exact ⟨k + 1, by go_num, by omega, Lib.hid (by rw [HSN.out, if_pos (by simpa using h1)]; exact HO7.out), HB7⟩
                case measure => simp [intOf]; omega
              · go_wp2_with fail
                go_roundw
                case rel => exact ⟨k + 1, by go_num, by omega, Lib.hid (by rw [HSN.out, if_neg (by simpa using h1)]; exact HO1.out), HB1⟩
                case measure => simp [intOf]; omega
            · have hkk : ¬ (k : Int) < (n : Int) := by omega
              have hO1 : OutAt wr bO ((st.filter (fun q => decide (q.1 < X))).foldl pF []) := by
                have := HO.out
                rw [List.take_of_length_le (by rw [HN.out]; omega)] at this
                exact this
              obtain ⟨O1, hO1e⟩ : ∃ O1, (st.filter (fun q => decide (q.1 < X))).foldl pF [] = O1 := ⟨_, rfl⟩
              have hO1l : O1.length ≤ n := by
                rw [← hO1e]
                have h1 := pF_len (st.filter (fun q => decide (q.1 < X))) []
                have h2 := List.length_filter_le (fun q : Int × Int => decide (q.1 < X)) st
                rw [HN.out] at h2
                simp at h1; omega
              rw [hO1e] at hO1
              have HO1 := Lib.hid hO1
              have HO1E := Lib.hid hO1e
              clear hO1 hO1e HO
              have y0 : wr.cell? ⟨b3, 0, none⟩ = some (.int .i64 X) := pw_cell_below HB.out x0
              have y1 : wr.cell? ⟨b3, 1, none⟩ = some (.int .i64 Y) := pw_cell_below HB.out x1
              have y3 : wr.cell? ⟨b3, 3, none⟩ = some (.int .i64 N) := pw_cell_below HB.out x3
              have HPK := Lib.hid (putk_c wr bO O1 HO1.out X (Y + N) (by omega))
              go_wp2_with fail
              refine HPK.out.mono ?_
              rintro e w7 ⟨rfl, ho7, hb7⟩
              have HO7 := Lib.hid ho7
              have HB7 := Lib.hid (LIFT.out _ _ HB.out hb7)
              have hO2l : (pF O1 (X, Y + N)).length ≤ n + 1 := by
                have := pF_len [(X, Y + N)] O1
                simp at this; omega
              obtain ⟨O2, hO2⟩ : ∃ O2, pF O1 (X, Y + N) = O2 := ⟨_, rfl⟩
              rw [hO2] at HO7 hO2l
              have HO2E := Lib.hid hO2
              clear ho7 hb7 hO2 y0 y1 y3
              go_upto_if 125 with fail
              go_cut [126] (fun _ W => Hid (OutAt W bO (outM w O2 X M BH)) ∧ Hid (Below W5.heap.size W5 W))
              case first =>
                by_cases hq : X + M < (w : Int)
                · have hBH0 : 0 ≤ BH := by
                    have h := HBH.out
                    rw [if_pos hq] at h
                    rw [← h]
                    have hlt : (X + M).toNat < l.length := by have := HS5.out.len; omega
                    rw [List.getD_eq_getElem?_getD, List.getElem?_eq_getElem hlt]
                    exact (HS5.out.ys _ (List.getElem_mem hlt)).1
                  have hBHd : decide (BH < 0) = false := by simp; omega
                  have y0 : w7.cell? ⟨b3, 0, none⟩ = some (.int .i64 X) := pw_cell_below HB7.out x0
                  have y2 : w7.cell? ⟨b3, 2, none⟩ = some (.int .i64 M) := pw_cell_below HB7.out x2
                  have HPM := Lib.hid (putk_c w7 bO O2 HO7.out (X + M) BH (by omega))
                  go_wp2_with fail
                  refine HPM.out.mono ?_
                  rintro e w8 ⟨rfl, ho8, hb8⟩
                  go_wp2_with fail
                  go_meet
                  case rel => exact ⟨Lib.hid (by unfold outM; rw [if_pos hq]; exact ho8), Lib.hid (LIFT.out _ _ HB7.out hb8)⟩
                · have hBH0 : BH = -1 := by
                    have h := HBH.out
                    rw [if_neg hq] at h
                    exact h.symm
                  have HBHE := Lib.hid hBH0
                  have hBHn : ¬ 0 ≤ BH := by omega
                  clear hBH0
                  go_wp2_with fail
                  go_meet
                  case rel => exact ⟨Lib.hid (by unfold outM; rw [if_neg (by omega)]; exact HO7.out), HB7⟩
              case rest =>
                obtain ⟨HO8, HB8⟩ := hcut
                obtain ⟨O3, hO3⟩ : ∃ O3, outM w O2 X M BH = O3 := ⟨_, rfl⟩
                have hO3l : O3.length ≤ n + 2 := by
                  rw [← hO3]; unfold outM
                  split
                  · have := pF_len [(X + M, BH)] O2
                    simp at this; omega
                  · omega
                rw [hO3] at HO8
                have HO3E := Lib.hid hO3
                clear hO3 HO7 HB7 HPK HO1 HB
                obtain ⟨W8, rfl⟩ : ∃ W8 : World, W8 = wc := ⟨_, rfl⟩
                have e2 : W8.cell? ⟨g, 2, none⟩ = some (.slice A n c) := pw_cell_below HB8.out c2
                go_wp2_with fail
                go_loopw [140] (fun v140 W => ∃ k : Nat, v140 = .int .i64 k ∧ k ≤ n ∧ Hid (OutAt W bO (((st.take k).filter (fun q => decide (X + M < q.1))).foldl pF O3)) ∧ Hid (Below W5.heap.size W5 W)) (fun v140 _ => n - (intOf v140).toNat)
                case atStart => exact ⟨0, rfl, Nat.zero_le _, HO8, HB8⟩
                case round =>
                 as_aux_lemma =>
                  obtain ⟨k, rfl, hk, HO, HB⟩ := hrel
                  by_cases hkn : k < n
                  · have hkk : (k : Int) < (n : Int) := by omega
                    obtain ⟨ad, eA⟩ := C_some HR.out (by omega)
                    subst eA
                    obtain ⟨p0, p1⟩ := st_at (Kd.C_below HR.out HB.out) k hkn
                    obtain ⟨px, hpx⟩ : ∃ px, (st.getD k (0, 0)).1 = px := ⟨_, rfl⟩
                    obtain ⟨py, hpy⟩ : ∃ py, (st.getD k (0, 0)).2 = py := ⟨_, rfl⟩
                    rw [hpx] at p0; rw [hpy] at p1
                    have hsn := filt_snoc st (fun q => decide (X + M < q.1)) k (by rw [HN.out]; exact hkn) (px, py) (by rw [← hpx, ← hpy]) O3
                    have hlo := pF_len ((st.take k).filter (fun q => decide (X + M < q.1))) O3
                    have hlo2 := List.length_filter_le (fun q : Int × Int => decide (X + M < q.1)) (st.take k)
                    rw [List.length_take] at hlo2
                    obtain ⟨out, hout⟩ : ∃ out, ((st.take k).filter (fun q => decide (X + M < q.1))).foldl pF O3 = out := ⟨_, rfl⟩
                    rw [hout] at HO hsn hlo
                    have hlo3 : out.length ≤ 100000 := by omega
                    have y0 : wr.cell? ⟨b3, 0, none⟩ = some (.int .i64 X) := pw_cell_below HB.out x0
                    have y2 : wr.cell? ⟨b3, 2, none⟩ = some (.int .i64 M) := pw_cell_below HB.out x2
                    have al := below_alloc (Below.refl _ wr) (.cells #[.int .i64 px, .int .i64 py] 84)
                    have z0 := pw_cell_below al y0
                    have z2 := pw_cell_below al y2
                    have HO1 := Lib.hid (HO.out.below al)
                    have HB1 := Lib.hid (below_step HB.out al)
                    have g1 := heap_alloc_new wr (.cells #[.int .i64 px, .int .i64 py] 84)
                    have HSN := Lib.hid hsn
                    clear hpx hpy hsn hlo hlo2 hout
                    go_upto_region 20 with (fail)
                    generalize wr.alloc (.cells #[.int .i64 px, .int .i64 py] 84) = W1 at *
                    generalize wr.heap.size = bP at *
                    have s0 : W1.cell? ⟨bP, 0, none⟩ = some (.int .i64 px) := (blk_cell g1 0).trans rfl
                    have s1 : W1.cell? ⟨bP, 1, none⟩ = some (.int .i64 py) := (blk_cell g1 1).trans rfl
                    clear p0 p1 y0 y2 al g1
                    by_cases h1 : X + M < px
                    · have HPK := Lib.hid (putk_c W1 bO out HO1.out px py hlo3)
                      go_wp2_with fail
                      refine HPK.out.mono ?_
                      rintro e w7 ⟨rfl, ho7, hb7⟩
                      have HO7 := Lib.hid ho7
                      have HB7 := Lib.hid (LIFT.out _ _ HB1.out hb7)
                      clear ho7 hb7 z0 z2 s0 s1
                      go_wp2_with fail
                      go_roundw
                      case rel => exact ⟨k + 1, by go_num, by omega, Lib.hid (by rw [HSN.out, if_pos (by simpa using h1)]; exact HO7.out), HB7⟩
                      case measure => simp [intOf]; omega
                    · go_wp2_with fail
                      go_roundw
                      case rel => exact ⟨k + 1, by go_num, by omega, Lib.hid (by rw [HSN.out, if_neg (by simp; omega)]; exact HO1.out), HB1⟩
                      case measure => simp [intOf]; omega
                  · have hkk : ¬ (k : Int) < (n : Int) := by omega
                    have ho := HO.out
                    rw [List.take_of_length_le (by rw [HN.out]; omega)] at ho
                    have hfin := put_stepsI l X M (Y + N) w (by rw [HS5.out.len]) hX0 hm1 hXM BH HBH.out
                    rw [HST.out, HO1E.out, HO2E.out, HO3E.out] at hfin
                    rw [hfin] at ho
                    obtain ⟨u, hu, hr⟩ := ho
                    obtain ⟨Au, cu, eu⟩ := Kd.R_slice hr
                    subst eu
                    have HU := Lib.hid hu
                    have HRU := Lib.hid hr
                    have q0 : wr.cell? ⟨bO, 0, none⟩ = some (.slice Au (stepsOf (putN l X.toNat M.toNat (Y + N))).length cu) := (blk_cell hu 0).trans rfl
                    obtain ⟨ug, hug, -⟩ := HS5.out.row
                    have hug9 := blk_below hug HB.out
                    have HUG := Lib.hid hug9
                    have q1 := blk_frozen hug9 2
                    have q2 := (blk_cell hug9 2).trans rfl
                    clear hu hr hug hug9 hfin
                    go_wp2_with fail
                    go_ret
                    have hbw := below_step HBW.out HB.out
                    have hlen2 : X.toNat + M.toNat ≤ l.length := by have := HS5.out.len; omega
                    refine ⟨by rw [decide_eq_true hok.out]; rfl, fun _ => ⟨⟨⟨_, by simpa using blk_set HUG.out 2 (.slice Au (stepsOf (putN l X.toNat M.toNat (Y + N))).length cu), Kd.R_set (Kd.R_lower HRU.out (Nat.zero_le _)) HUG.out (by decide) 2 _⟩, by rw [putN_len _ _ _ _ hlen2]; exact HS5.out.len, hw64, hh64, putN_ys l _ _ _ h HS5.out.ys (by omega)⟩, (Kept.of_below (· = g) hbw).trans (Kept.setCell _ _ _ _ rfl)⟩, fun h => absurd hok.out h⟩
end Go.Proofs.Ytaccppchhljnkaa
