/- Skylines in memory; package sky's over and High. -/
import Derived.Test.YtaccppchhljnkaaProg
import Derived.Test.YtaccppchhljnkaaBase
import Derived.Test.YtaccppchhljnkaaSkyP
import Derived.Test.YtaccppchhljnkaaWMore
import Derived.Test.YtaccppchhljnkaaWNEv
import Derived.Below
import Derived.Deep.Draws
import Derived.Deep.AppendLies
import Derived.Maps.AppendAt
import Derived.OwnWalk
import Derived.Laws.OwnMore
import Derived.Deep.OwnRows
import Derived.Tactics
import Derived.Laws.Slices
import Derived.WalkKit
import Derived.KernelRfl
import Derived.RowKit3
import Derived.Deep.LoopGhost
import Derived.Deep.QuietTactic
import Derived.BigQuiet
import Derived.WideLaws
import Derived.Deep.DeepCutAuto
import Derived.Deep.CutBlock
import Derived.Deep.CutRange
import Derived.Deep.RegionHeld3
import Derived.Deep.RegionLaw
import Derived.Laws.Rows
import Derived.Laws.ByValue
import Derived.Outline
set_option linter.unusedVariables false
set_option linter.unusedSimpArgs false
namespace Go.Proofs.Ytaccppchhljnkaa
open Go.RowKit Go.Proofs.YtaccppchhljnkaaW.PrintWords Go.Proofs.YtaccppchhljnkaaW.PrintLast Go.Proofs.YtaccppchhljnkaaW.PrintMore
theorem infoStep : (Try.prog.info? 84).map (fun i => (i.zero, i.size, i.bytes)) = some (some (.agg #[(.int .i64 0), (.int .i64 0)]), 2, 16) := by kernel_rfl
/-- Pairs of whole numbers. -/
def kst : Kd (Int × Int) := Kd.pair (Kd.int .i64) (Kd.int .i64)
theorem kst_open {w : World} {x : Int × Int} {cs : List Value} (h : kst.K w x cs) : cs = [.int .i64 x.1, .int .i64 x.2] := by
  obtain ⟨_, _, rfl, rfl, rfl⟩ := h
  rfl
theorem kst_mkM (w : World) (base : Nat) (ok : Nat → Prop) (x : Int × Int) : kst.M w base ok x [.int .i64 x.1, .int .i64 x.2] := ⟨[.int .i64 x.1], [.int .i64 x.2], rfl, rfl, rfl⟩
theorem kst_mk (w : World) (x : Int × Int) : kst.K w x [.int .i64 x.1, .int .i64 x.2] := ⟨[.int .i64 x.1], [.int .i64 x.2], rfl, rfl, rfl⟩
theorem st_at {W : World} {ad : Addr} {n : Nat} {xs : List (Int × Int)} (h : Kd.C kst W (some ad) n xs) (i : Nat) (hi : i < n) :
    W.cell? (ad.add (i * 2)) = some (.int .i64 (xs.getD i (0, 0)).1) ∧ W.cell? ⟨(ad.add (i * 2)).block, (ad.add (i * 2)).off + 1, none⟩ = some (.int .i64 (xs.getD i (0, 0)).2) := by
  obtain ⟨ad', c, e, _, hK, hc0⟩ := Kd.C_get h (0, 0) (i : Int) (by omega) (by omega)
  injection e with e
  subst e
  have hc : ∀ j u, c[j]? = some u → W.cell? (ad.add (i * 2 + j)) = some u := hc0
  obtain rfl := kst_open hK
  exact ⟨hc 0 _ rfl, by rw [← add_field _ _ 1 (by omega)]; exact hc 1 _ rfl⟩
theorem C_some {α : Type} {d : Kd α} {W : World} {A : Option Addr} {n : Nat} {xs : List α} (h : d.C W A n xs) (hn : 0 < n) : ∃ ad, A = some ad := by
  obtain ⟨ad, e, _⟩ := h.2.2 hn
  exact ⟨ad, e⟩
/-- Block g is a skyline of a page w wide and h high, with these heights. -/
structure SkyAt (W : World) (g w h : Nat) (l : List Int) : Prop where
  row : ∃ u, W.heap[g]? = some (.cells #[.int .i64 w, .int .i64 h, u] 82 (0, 0)) ∧ Kd.R kst 84 W 0 (fun _ => True) u (stepsOf l)
  len : l.length = w
  w64 : w ≤ 64
  h64 : h ≤ 64
  ys : ∀ y ∈ l, 0 ≤ y ∧ y ≤ h
theorem SkyAt.below {W W' : World} {g w h : Nat} {l : List Int} (s : SkyAt W g w h l) (hb : Below W.heap.size W W') : SkyAt W' g w h l := by
  obtain ⟨u, h1, h2⟩ := s.row
  exact ⟨⟨u, blk_below h1 hb, Kd.R_below h2 hb⟩, s.len, s.w64, s.h64, s.ys⟩
theorem SkyAt.lt {W : World} {g w h : Nat} {l : List Int} (s : SkyAt W g w h l) : g < W.heap.size := by
  obtain ⟨u, h1, _⟩ := s.row
  exact blk_lt h1
theorem R_far2 {W W' : World} {α : Type} {d : Kd α} {e base : Nat} {ok : Nat → Prop} {u : Value} {xs : List α} {S : Nat → Prop} (h : Kd.R d e W base ok u xs) (hk : Kept S W W') (hS : ∀ k, S k → ∀ q, q ∈ e :: d.E → ∀ cells, W.heap[k]? ≠ some (.cells cells q (0, 0))) : Kd.R d e W' base ok u xs :=
  Kd.R_mono (Kd.R_step (Kd.R_bound h) (fun k hkk hlt => by
    obtain ⟨_, _, _, q, hq, cells, hc⟩ := hkk
    exact hk.block k hlt (fun hs => hS k hs q hq cells hc))) (fun k hk => hk.1)
/-- It stays where other blocks are written, none of them one of steps. -/
theorem SkyAt.kept {W W' : World} {g w h : Nat} {l : List Int} {S : Nat → Prop} (s : SkyAt W g w h l) (hk : Kept S W W') (hg : ¬ S g) (hS : ∀ k, S k → ∀ cells, W.heap[k]? ≠ some (.cells cells 84 (0, 0))) : SkyAt W' g w h l := by
  obtain ⟨u, h1, h2⟩ := s.row
  exact ⟨⟨u, hk.get h1 hg, R_far2 h2 hk (fun k hs q hq cells => by
    obtain rfl : q = 84 := by simpa [kst, Kd.pair, Kd.int, Kd.scalar] using hq
    exact hS k hs cells)⟩, s.len, s.w64, s.h64, s.ys⟩
theorem ret_num {k : IntKind} {a b : Int} (h : a = b) : Ending.returned (.int k a) = .returned (.int k b) := by rw [h]
theorem mx_if (a b : Int) : (if a < b then b else a) = max a b := by split <;> omega
/-- What the walk needs of a skyline: its cells. -/
theorem SkyAt.open {W : World} {g w h : Nat} {l : List Int} (s : SkyAt W g w h l) : ∃ A c, W.cell? ⟨g, 0, none⟩ = some (.int .i64 w) ∧ W.cell? ⟨g, 1, none⟩ = some (.int .i64 h) ∧ W.cell? ⟨g, 2, none⟩ = some (.slice A (stepsOf l).length c) ∧ (stepsOf l).length ≤ c ∧ Kd.C kst W A (stepsOf l).length (stepsOf l) ∧ (stepsOf l).length ≤ 64 := by
  obtain ⟨u, h1, h2⟩ := s.row
  obtain ⟨A, c, e, hl, hr⟩ := Kd.R_reads h2
  subst e
  refine ⟨A, c, (blk_cell h1 0).trans rfl, (blk_cell h1 1).trans rfl, (blk_cell h1 2).trans rfl, hl, hr, ?_⟩
  have := stL_len l 0 none
  have := s.len; have := s.w64
  unfold stepsOf; omega

attribute [local go_sem] max2_int min2_int max_two min_two
set_option maxHeartbeats 1000000 in
set_option maxRecDepth 100000 in
theorem over_c (W : World) (g w h : Nat) (l : List Int) (hS : SkyAt W g w h l) (x m : Int) (hx0 : -1000000 ≤ x) (hx1 : x ≤ 1000000) (hm1 : 1 ≤ m) (hm2 : m ≤ 1000000) :
    Calls Try.prog 45 #[.pointer (some ⟨g, 0, none⟩), .int .i64 x, .int .i64 m] W fun e w' => e = .returned (.int .i64 (mxF x m 0 0 l)) ∧ Below W.heap.size W w' := by
  obtain ⟨A, c, c0, c1, c2, hl, hr, hlen⟩ := hS.open
  have hov := ov_steps l x m hm1
  rw [hS.len] at hov
  have hbd : ∀ i, i < (stepsOf l).length → 0 ≤ ((stepsOf l).getD i (0, 0)).1 ∧ ((stepsOf l).getD i (0, 0)).1 ≤ 64 := fun i hi => by
    have hm := List.getElem_mem hi
    have := stL_ge _ _ _ _ hm
    rw [List.getD_eq_getElem?_getD, List.getElem?_eq_getElem hi]
    have := hS.len; have := hS.w64
    simp only [Option.getD_some]
    omega
  obtain ⟨R, hR⟩ : ∃ R, mxF x m 0 0 l = R := ⟨_, rfl⟩
  rw [hR] at hov ⊢
  clear hR
  have hw64 := hS.w64
  generalize stepsOf l = st at *
  obtain ⟨n, hn⟩ : ∃ n, st.length = n := ⟨_, rfl⟩
  rw [hn] at c2 hl hr hlen hbd
  have HN := Lib.hid hn; have HR := Lib.hid hr; have HOV := Lib.hid hov; have HBD := Lib.hid hbd
  clear hn hr hov hbd hS
  have hg := World.block_lt_of_cell? W _ c0
  go_enter Try.func45, Try.ntmps45
  go_wp2_with fail
  obtain ⟨w0, rfl⟩ : ∃ w0 : World, w0 = W := ⟨_, rfl⟩
  go_loopw [7, 16] (fun v7 v16 W => ∃ (k : Nat) (out : Int), v7 = .int .i64 out ∧ v16 = .int .i64 k ∧ k ≤ n ∧ Hid (ovF w x m out (st.drop k) = R) ∧ Hid (Below w0.heap.size w0 W)) (fun _ v16 _ => n - (intOf v16).toNat)
  case atStart => exact ⟨0, 0, rfl, rfl, Nat.zero_le _, HOV, Lib.hid (Below.refl _ _)⟩
  case round =>
    obtain ⟨k, out, rfl, rfl, hk, HE, HB⟩ := hrel
    have d0 : wr.cell? ⟨g, 0, none⟩ = some (.int .i64 w) := pw_cell_below HB.out c0
    have d2 : wr.cell? ⟨g, 2, none⟩ = some (.slice A n c) := pw_cell_below HB.out c2
    by_cases hkn : k < n
    · have hkk : (k : Int) < (n : Int) := by omega
      obtain ⟨ad, eA⟩ := C_some HR.out (by omega)
      subst eA
      obtain ⟨p0, p1⟩ := st_at (Kd.C_below HR.out HB.out) k hkn
      obtain ⟨px, hpx⟩ : ∃ px, (st.getD k (0, 0)).1 = px := ⟨_, rfl⟩
      obtain ⟨py, hpy⟩ : ∃ py, (st.getD k (0, 0)).2 = py := ⟨_, rfl⟩
      obtain ⟨hb1, hb2⟩ := HBD.out k hkn
      rw [hpx] at p0 hb1 hb2; rw [hpy] at p1
      have hst : st.drop k = (px, py) :: st.drop (k + 1) := by
        rw [List.drop_eq_getElem_cons (by rw [HN.out]; exact hkn)]
        rw [List.getD_eq_getElem?_getD, List.getElem?_eq_getElem (by rw [HN.out]; exact hkn)] at hpx hpy
        simp only [Option.getD_some] at hpx hpy
        rw [← hpx, ← hpy]
      have he := HE.out
      rw [hst, ovF] at he
      have al := below_alloc (Below.refl _ wr) (.cells #[.int .i64 px, .int .i64 py] 84)
      have g1 := heap_alloc_new wr (.cells #[.int .i64 px, .int .i64 py] 84)
      have e0 := pw_cell_below al d0
      have e2 := pw_cell_below al d2
      have s0 : (wr.alloc (.cells #[.int .i64 px, .int .i64 py] 84)).cell? ⟨wr.heap.size, 0, none⟩ = some (.int .i64 px) := (blk_cell g1 0).trans rfl
      have s1 : (wr.alloc (.cells #[.int .i64 px, .int .i64 py] 84)).cell? ⟨wr.heap.size, 1, none⟩ = some (.int .i64 py) := (blk_cell g1 1).trans rfl
      have B1 := Lib.hid (below_step HB.out al)
      have HE1 := Lib.hid he
      have HST := Lib.hid hst
      have C1 := Lib.hid (Kd.C_below HR.out B1.out)
      clear he hst hpx hpy HE
      go_upto_region 5 with (fail)
      generalize wr.alloc (.cells #[.int .i64 px, .int .i64 py] 84) = W1 at *
      generalize wr.heap.size = bP at *
      clear p0 p1 d0 d2 al g1
      obtain ⟨E, hE⟩ : ∃ E, endOf w (st.drop (k + 1)) = E := ⟨_, rfl⟩
      have HE2 := HE1.out
      rw [hE] at HE2
      have HE3 := Lib.hid HE2
      clear HE2 HE1
      by_cases hk1 : k + 1 < n
      · have hkk1 : (k : Int) + 1 < (n : Int) := by omega
        obtain ⟨q0, -⟩ := st_at C1.out (k + 1) hk1
        have hq : (st.getD (k + 1) (0, 0)).1 = E := by
          rw [← hE, List.drop_eq_getElem_cons (by rw [HN.out]; exact hk1), List.getD_eq_getElem?_getD, List.getElem?_eq_getElem (by rw [HN.out]; exact hk1)]; rfl
        rw [hq] at q0
        clear hq hE
        by_cases h1 : px < x + m
        · by_cases h2 : x < E
          · rw [if_pos ⟨h1, h2⟩] at HE3
            go_wp2_with fail
            all_goals
              go_roundw
              case rel => exact ⟨k + 1, _, rfl, by go_num, by omega, Lib.hid (by rw [mx_if]; exact HE3.out), B1⟩
              case measure => simp [intOf]; omega
          · rw [if_neg (fun h => h2 h.2)] at HE3
            go_wp2_with fail
            go_roundw
            case rel => exact ⟨k + 1, _, rfl, by go_num, by omega, HE3, B1⟩
            case measure => simp [intOf]; omega
        · rw [if_neg (fun h => h1 h.1)] at HE3
          go_wp2_with fail
          go_roundw
          case rel => exact ⟨k + 1, _, rfl, by go_num, by omega, HE3, B1⟩
          case measure => simp [intOf]; omega
      · have hkk1 : ¬ (k : Int) + 1 < (n : Int) := by omega
        have hq : (w : Int) = E := by
          rw [← hE, List.drop_eq_nil_of_le (by rw [HN.out]; omega)]; rfl
        subst hq
        clear hE
        by_cases h1 : px < x + m
        · by_cases h2 : x < (w : Int)
          · rw [if_pos ⟨h1, h2⟩] at HE3
            go_wp2_with fail
            all_goals
              go_roundw
              case rel => exact ⟨k + 1, _, rfl, by go_num, by omega, Lib.hid (by rw [mx_if]; exact HE3.out), B1⟩
              case measure => simp [intOf]; omega
          · rw [if_neg (fun h => h2 h.2)] at HE3
            go_wp2_with fail
            go_roundw
            case rel => exact ⟨k + 1, _, rfl, by go_num, by omega, HE3, B1⟩
            case measure => simp [intOf]; omega
        · rw [if_neg (fun h => h1 h.1)] at HE3
          go_wp2_with fail
          go_roundw
          case rel => exact ⟨k + 1, _, rfl, by go_num, by omega, HE3, B1⟩
          case measure => simp [intOf]; omega
    · have hkk : ¬ (k : Int) < (n : Int) := by omega
      have he := HE.out
      rw [List.drop_eq_nil_of_le (by rw [HN.out]; omega), ovF] at he
      have HE1 := Lib.hid he
      clear he HE
      go_wp2_with fail
      go_ret
      exact ⟨ret_num HE1.out, HB.out⟩
end Go.Proofs.Ytaccppchhljnkaa
