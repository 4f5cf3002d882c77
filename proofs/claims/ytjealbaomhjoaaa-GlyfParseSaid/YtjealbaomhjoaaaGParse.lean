/- GlyfParse: the walk. -/
import Derived.Test.YtjealbaomhjoaaaGlS
import Derived.Test.YtjealbaomhjoaaaInner
import Derived.Test.YtjealbaomhjoaaaGOut
import Derived.Test.YtjealbaomhjoaaaGAwake
import Derived.Deep.QuietTactic
import Derived.BigQuiet
import Derived.RegionTactic
import Derived.BigRegion
import Derived.StillTailTactics
import Derived.Deep.RegionHeld3
import Derived.Deep.DeepCutAuto
import Derived.Deep.CutBlock
import Derived.Deep.CutRange
import Derived.Test.YtjealbaomhjoaaaGlA
import Derived.Test.YtjealbaomhjoaaaFew
import Derived.Test.YtjealbaomhjoaaaParseA
import Derived.Deep.RegionHeldLaw
set_option linter.unusedVariables false
set_option linter.unusedSimpArgs false
namespace Go.Proofs.Ytjealbaomhjoaaa
open Go.RowKit Go.Proofs.Ytjealbaomhjoaaa.G Go.Proofs.YtjealbaomhjoaaaW.PrintWords Go.Proofs.YtjealbaomhjoaaaW.PrintMore
theorem encode_good (a : List (List S34)) (hg : Good a) (A : Option Addr) (ca na : Nat) (w : World) (ea : na = a.length) (ra : Kd.C (Kd.slice 34 k34) w A a.length a) (la : a.length ≤ ca) :
    Calls Try.prog 25 #[.agg #[.slice A na ca]] w fun e w' => ∃ B c, e = .returned (.tuple #[.slice B (encL a).length c, .int .i64 0]) ∧ Kd.R (Kd.int .u8) 5 w' w.heap.size (fun _ => True) (.slice B (encL a).length c) (encL a) ∧ Below w.heap.size w w' := by
  subst ea
  obtain ⟨K, hK⟩ := en_f hg
  refine (glyf_Encode.calls K A ca a _ _ w ra la (hK K (Nat.le_refl _))).mono ?_
  rintro e w' ⟨v, rfl, hr, hbl⟩
  obtain ⟨B, c, rfl⟩ := Kd.R_slice hr
  exact ⟨B, c, rfl, hr, hbl⟩
theorem parse_any (A : Option Addr) (n c : Nat) (l : List Int) (w : World) (en : n = l.length) (hr : Kd.C (Kd.int .u8) w A l.length l) (hc : l.length ≤ c) (hw : ∀ x ∈ l, 0 ≤ x ∧ x ≤ 255) :
    Calls Try.prog 27 #[.slice A n c] w fun e w' => ∃ B cb, e = .returned (.tuple #[.agg #[.slice B (prF l).1.length cb], .int .i64 (prF l).2]) ∧ Kd.S (Kd.slice 34 k34) 28 w' w.heap.size (fun _ => True) (.slice B (prF l).1.length cb) (prF l).1 ∧ Below w.heap.size w w' := by
  subst en
  refine (parse_calls A c l (prF l).1 (prF l).2 w hr hc (parseO_eq hw)).mono ?_
  rintro e w' ⟨v, rfl, hs, hb⟩
  obtain ⟨B, cb, rfl⟩ := Kd.S_slice hs
  exact ⟨B, cb, rfl, hs, hb⟩
theorem info_u8 : (Try.prog.info? 5).map (fun i => (i.zero, i.size, i.bytes)) = some (some (.int .u8 0), 1, 1) := by kernel_rfl

theorem rsame_any (a b : List (List S34)) (ha : Small a) (A B : Option Addr) (ca cb na nb : Nat) (w : World) (ea : na = a.length) (eb : nb = b.length) (ra : Kd.C (Kd.slice 34 k34) w A a.length a) (la : a.length ≤ ca) (rb : Kd.C (Kd.slice 34 k34) w B b.length b) (lb : b.length ≤ cb) :
    Calls Try.prog 29 #[.agg #[.slice A na ca], .agg #[.slice B nb cb]] w fun e w' => e = .returned (.bool (eqO a b)) ∧ Below w.heap.size w w' := by
  subst ea; subst eb
  obtain ⟨K, hK⟩ := rsame_f a b ha
  exact punchcutlaw04_same.calls K A ca a B cb b _ w ra la rb lb (hK K (Nat.le_refl _))

theorem C_one8 {W : World} {b : Nat} {y : Int} (h : W.heap[b]? = some (.cells #[.int .u8 y] 5 (0, 0))) : Kd.C (Kd.int .u8) W (some ⟨b, 0, none⟩) 1 [y] := by
  refine ⟨rfl, by decide, fun _ => ⟨_, rfl, fun j p hj => ?_⟩⟩
  match j, hj with
  | 0, hj =>
    obtain rfl : y = p := by simpa using hj
    refine ⟨[.int .u8 y], rfl, rfl, fun i u hi => ?_⟩
    match i, hi with
    | 0, hi =>
      obtain rfl : .int .u8 y = u := by simpa using hi
      exact (blk_cell h 0).trans rfl
abbrev R8 (W : World) (A : Option Addr) (n : Nat) (l : List Int) : Prop := ReadsRow (fun (x : Int) cs => cs = [Value.int .u8 x]) 1 W A n l
theorem R8_below {W W' : World} {A : Option Addr} {n : Nat} {l : List Int} (h : R8 W A n l) (hb : Below W.heap.size W W') : R8 W' A n l := ReadsRow.imp_ h hb (fun _ _ h => h)
theorem below_grownN {w w' : World} (h : w.grownBy w' none) : Below w.heap.size w w' := ⟨h.os, h.tape, h.output, h.size, fun k hk => h.block k hk (by simp)⟩

set_option maxHeartbeats 40000000 in
set_option maxRecDepth 100000 in
theorem glyfParse_core (a0 a1 : Option Addr) (c0 c1 : Nat) (l0 : List Int) (l1 : List (List S66)) (n y q : Int) (w : World) (rd0 : Kd.C (Kd.int .u8) w a0 l0.length l0) (le0 : l0.length ≤ c0) (wf0 : ∀ x ∈ l0, 0 ≤ x ∧ x ≤ 255) (y0 : l0.length * 1 ≤ 140737488351232)
    (rd1 : Kd.C (Kd.slice 66 k66) w a1 l1.length l1) (le1 : l1.length ≤ c1) (hn : 0 ≤ n ∧ n ≤ 255) (hy : 0 ≤ y ∧ y ≤ 255) (hq : 0 ≤ q ∧ q ≤ 255) :
    Calls Try.prog 10 #[.slice a0 l0.length c0, .slice a1 l1.length c1, .int .u8 n, .int .u8 y, .int .u8 q] w fun e w' => e = .returned (.bool true) ∧ Below w.heap.size w w' := by
  have R0 := Lib.hid rd0; have R1 := Lib.hid rd1; have W0 := Lib.hid wf0; clear rd0 rd1 wf0
  have hg := olF_good l1
  have HG := Lib.hid hg; clear hg
  obtain ⟨n, rfl⟩ := Int.eq_ofNat_of_zero_le hn.1
  go_enter Try.func10, Try.ntmps10
  go_wp2_with fail
  refine (awake_c _).mono ?_
  rintro e w1 ⟨rfl, hb1⟩
  have B1 := Lib.hid hb1; clear hb1
  go_wp2_with fail
  have hol := outline_any l1 a1 c1 w1 (Kd.C_below R1.out B1.out) le1
  obtain ⟨N, hN⟩ : ∃ N, (olF l1).length = N := ⟨_, rfl⟩
  rw [hN] at hol
  have HN := Lib.hid hN; clear hN
  refine hol.mono ?_
  clear hol
  rintro e w3 ⟨A3, c3, rfl, hs3, hb3⟩
  have T3 := Lib.hid (Kd.S_reads' hs3)
  have B3 := Lib.hid (below_step B1.out hb3)
  clear hs3 hb3
  go_wp2_with fail
  obtain ⟨E, hE⟩ : ∃ E, (encL (olF l1)).length = E := ⟨_, rfl⟩
  have hen := encode_good (olF l1) HG.out A3 c3 N w3 HN.out.symm T3.out.2.2 (by rw [HN.out]; exact T3.out.2.1)
  rw [hE] at hen
  have hE0 : 0 < E := by rw [← hE]; unfold encL; simp
  have hE1 : E ≤ 1000 := by
    rw [← hE]
    have h1 := rle_len (olF l1).flatten.length (fsL 0 0 (olF l1).flatten)
    rw [fsL_len] at h1
    have h2 := stL_len 0 0 (olF l1).flatten
    have h3 := HG.out.sum
    have h4 := HG.out.eight
    unfold encL
    rw [List.length_append, List.length_append, List.length_cons, List.length_map]; omega
  have HE := Lib.hid hE; clear hE
  refine hen.mono ?_
  clear hen
  rintro e w5 ⟨A5, c5, rfl, hr5, hb5⟩
  have B5 := Lib.hid (below_step B3.out hb5)
  obtain ⟨g, c5', e5, l5, hg5, hgl, ⟨cur, hcur⟩, hcell⟩ := (ints_form hr5).resolve_left (by intro h; have := congrArg List.length h.2; rw [HE.out] at this; simp at this; omega)
  have e5' : A5 = some ⟨g, 0, none⟩ := by injection e5
  subst e5'
  have hEc : E ≤ c5 := by have := (Kd.R_reads' hr5).2.1; exact this
  have hE3 : ((E : Int) == 0) = false := by simp; omega
  have R5 := Lib.hid hr5; have CC5 := Lib.hid (Kd.R_reads' hr5).2.2
  clear hr5 hb5 e5 l5 hcell hcur cur
  obtain ⟨w0, rfl⟩ : ∃ w0 : World, w0 = w := ⟨_, rfl⟩
  go_upto_region 6 with (fail)
  rw [HE.out] at CC5
  go_upto_region 7 with (at_builtin; refine Kd.R_append_rows (Kd.int .u8) (Rr := (Kd.int .u8).K w5) (w0 := w5) w5.heap.size rfl (.const (.slice none 0 0)) (.tmp 31) 48 5 (.int .u8 0) 1 rfl Try.underlying48 info_u8 rfl (by decide) (by omega) (.slice none 0 0) [] (encL (olF l1)) (some ⟨g, 0, none⟩) E c5 (fun _ => True) (fun _ => False) rfl rfl (Kd.R_nil _ _ _ _ _) CC5.out (fun x cs h => h) (fun _ h => h.elim) (fun _ _ => trivial) (Below.refl _ _) (Nat.le_refl _) (by simp; omega) ?_; intro v1 w6 ho hb hg hat; have n1 := Lib.hid ho; have n2 := Lib.hid hb; clear ho hb hg hat)
  have hr6 := n1.out
  rw [List.nil_append] at hr6
  obtain ⟨A6, c6, e6⟩ := Kd.R_slice hr6
  rw [HE.out] at e6
  subst e6
  obtain ⟨g6, c6', e6, l6, hg6, hgl6, ⟨cur6, hcur6⟩, hcell6⟩ := (ints_form hr6).resolve_left (by intro h; have := congrArg List.length h.2; rw [HE.out] at this; simp at this; omega)
  have e6' : A6 = some ⟨g6, 0, none⟩ := by injection e6
  subst e6'
  have hEc6 : E ≤ c6 := by have := (Kd.R_reads' hr6).2.1; exact this
  obtain ⟨I, hI⟩ : ∃ I, n % E = I := ⟨_, rfl⟩
  have hIE : I < E := hI ▸ Nat.mod_lt _ hE0
  have hmI : Int.tmod (n : Int) (E : Int) = (I : Int) := by rw [← hI]; rfl
  obtain ⟨x, hx⟩ : ∃ x, (encL (olF l1)).getD I 0 = x := ⟨_, rfl⟩
  have hcI := hcell6 I (by rw [HE.out]; exact hIE)
  rw [hx] at hcI
  have hfI : w6.frozen? ⟨g6, I, none⟩ = false := blk_frozen hcur6 I
  obtain ⟨z, hz⟩ : ∃ z, bits .xor .u8 x y = z := ⟨_, rfl⟩
  have hzw := xor_u8 x y
  rw [hz] at hzw
  have R6 := Lib.hid hr6; have HI := Lib.hid hI; have HX := Lib.hid hx; have HZW := Lib.hid hzw
  clear hr6 n1 hI hx hzw e6 l6 hcell6 hcur6 cur6
  go_upto_region 8 with (fail)
  clear hcI hfI hz hmI hE3
  have hR7 := Kd.R_putn (h1 := fun _ => rfl) R6.out (I : Int) z
  rw [Int.toNat_natCast] at hR7
  have B6 := Lib.hid (((B5.out.trans (n2.out.mono B5.out.size)).setCell (p := ⟨g6, I, none⟩) (by have := B5.out.size; show w0.heap.size ≤ g6; omega) (.int .u8 z)))
  have C7 := Lib.hid (Kd.C_below CC5.out (n2.out.setCell (p := ⟨g6, I, none⟩) hg6 (.int .u8 z)))
  generalize hw7 : w6.setCell ⟨g6, I, none⟩ (.int .u8 z) = w7 at *
  clear hw7
  have R7 := Lib.hid hR7; clear hR7
  obtain ⟨q, rfl⟩ := Int.eq_ofNat_of_zero_le hq.1
  obtain ⟨J, hJ⟩ : ∃ J, q % E = J := ⟨_, rfl⟩
  have hJE : J < E := hJ ▸ Nat.mod_lt _ hE0
  have hmJ : Int.tmod (q : Int) (E : Int) = (J : Int) := by rw [← hJ]; rfl
  clear hJ
  have hE3 : ((E : Int) == 0) = false := by simp; omega
  have hEn : ¬ E = 0 := by omega
  have hwq : IntKind.i64.wrap (q : Int) = (q : Int) := by rw [IntKind.wrap_i64]; omega
  have hJc : (J : Int) ≤ (c5 : Int) := by omega
  have hJ0 : (0 : Int) ≤ (J : Int) := by omega
  have hJn : J ≤ c5 := by omega
  obtain ⟨ll, hll⟩ : ∃ ll, encL (olF l1) = ll := ⟨_, rfl⟩
  have HLL := Lib.hid hll
  rw [hll] at R7 C7 HE
  have W5 : Hid (∀ x ∈ ll, 0 ≤ x ∧ x ≤ 255) := Lib.hid (fun x hx => encL_in HG.out x (hll ▸ hx))
  clear hll
  go_cut [59, 60, 61] (fun v59 v60 v61 W => ∃ b : Nat, v59 = .slice (some ⟨b, 0, none⟩) 5 5 ∧ v60 = .int .i64 5 ∧ v61 = .int .i64 0 ∧ Hid (Below w7.heap.size w7 W) ∧ Hid (∃ (A8 : Option Addr) (c8 : Nat), W.heap[b]? = some (.cells #[.slice a0 l0.length c0, .slice (some ⟨g, 0, none⟩) E c5, .slice (some ⟨g6, 0, none⟩) E c6, .slice (some ⟨g, 0, none⟩) J c5, .slice A8 (E + 1) c8] 48 (0, 0)) ∧ Kd.C (Kd.int .u8) W A8 (E + 1) (ll ++ [y]) ∧ E + 1 ≤ c8))
  case first =>
    go_region_held_law (fun w' => Below w7.heap.size w7 w') (first
      | assumption
      | exact below_drew (Below.refl _ _)
      | exact below_drew (below_alloc (Below.refl _ _) _)
      | exact below_alloc (show Below w7.heap.size w7 _ from by assumption) _) (first
      | ((refine Kd.R_append_rows_step (Kd.int .u8) (Rr := fun (x : Int) cs => cs = [Value.int .u8 x]) (w0 := w7) w7.heap.size (by rfl) (.const (.slice none 0 0)) (.tmp 54) 48 5 (.int .u8 0) 1 (by rfl) Try.underlying48 info_u8 rfl (by decide) (by omega) (.slice none 0 0) [] ll (some ⟨g, 0, none⟩) E c5 (fun _ => True) (fun _ => False) (by rfl) (by rfl) (Kd.R_nil _ _ _ _ _) (R8_below C7.out (show Below w7.heap.size w7 _ from by assumption)) (fun x cs h => h) (fun _ h => h.elim) (fun _ _ => trivial) (show Below w7.heap.size w7 _ from by assumption) (show Below w7.heap.size w7 _ from by assumption).size (by simp; omega) ?_); intro v1 w8 ho hb hg hat; have m1 := Lib.hid ho; (try have hy8 := blk_below (w := (w7.alloc (.cells #[.int .u8 y] 5)).drew) (heap_alloc_new w7 (.cells #[.int .u8 y] 5)) (below_grownN hg)); clear ho hg hat)
      | ((refine Kd.R_append_rows_step (Kd.int .u8) (Rr := fun (x : Int) cs => cs = [Value.int .u8 x]) (w0 := w7) w7.heap.size (by rfl) (.tmp 55) (.tmp 57) 48 5 (.int .u8 0) 1 (by rfl) Try.underlying48 info_u8 rfl (by decide) (by omega) v1 ([] ++ ll) [y] (some ⟨_, 0, none⟩) 1 1 (fun _ => True) (fun _ => False) (by rfl) (by rfl) (by first | exact m1.out | exact Kd.R_below m1.out (below_alloc (Below.refl _ _) _)) (by first | exact C_one8 (by assumption) | exact C_one8 (heap_alloc_new _ _)) (fun x cs h => h) (fun _ h => h.elim) (fun _ _ => trivial) (show Below w7.heap.size w7 _ from by assumption) (show Below w7.heap.size w7 _ from by assumption).size (by rw [List.nil_append, HE.out]; omega) ?_); intro v2 w9 ho hb hg hat; obtain ⟨A8, c8, e8⟩ := Kd.R_slice ho; (have e9 : ([] ++ ll ++ [y] : List Int).length = E + 1 := by rw [List.nil_append, List.length_append, HE.out]; rfl); rw [e9] at e8; subst e8; clear e9; have k1 := Lib.hid ho; clear ho hg hat))
    all_goals
      have HW9 := Lib.hid (show Below w7.heap.size w7 w9 from by assumption)
      go_wp2_with fail
      go_meet
      case rel =>
        obtain ⟨z1, z2, z3⟩ := Kd.R_reads' (Kd.R_below k1.out (below_alloc (Below.refl _ _) (.cells #[.slice a0 l0.length c0, .slice (some ⟨g, 0, none⟩) E c5, .slice (some ⟨g6, 0, none⟩) E c6, .slice (some ⟨g, 0, none⟩) J c5, .slice A8 (E + 1) c8] 48)))
        rw [List.nil_append] at z1 z3
        rw [← z1] at z3
        exact ⟨w9.heap.size, rfl, rfl, rfl, Lib.hid (below_alloc HW9.out _), Lib.hid ⟨A8, c8, heap_alloc_new _ _, z3, z2⟩⟩
  case rest =>
    obtain ⟨b8, rfl, rfl, rfl, HB8, HC8⟩ := hcut
    obtain ⟨A9, c9, hA9, k9, l9⟩ := HC8.out
    have B8 := Lib.hid (below_step B6.out HB8.out)
    have items : ∀ k, k < 5 → ∃ (A : Option Addr) (m c : Nat) (l : List Int), wc.cell? ⟨b8, k, none⟩ = some (.slice A m c) ∧ m = l.length ∧ l.length ≤ c ∧ Kd.C (Kd.int .u8) wc A l.length l ∧ (∀ x ∈ l, 0 ≤ x ∧ x ≤ 255) ∧ l.length ≤ 140737488351232 := by
      intro k hk
      have hEl := HE.out
      match k, hk with
      | 0, _ => exact ⟨a0, _, c0, l0, (blk_cell hA9 0).trans rfl, rfl, le0, Kd.C_below R0.out B8.out, W0.out, by omega⟩
      | 1, _ => exact ⟨_, E, c5, ll, (blk_cell hA9 1).trans rfl, hEl.symm, by omega, by rw [hEl]; exact Kd.C_below C7.out HB8.out, W5.out, by omega⟩
      | 2, _ =>
        obtain ⟨q1, q2, q3⟩ := Kd.R_reads' R7.out
        refine ⟨_, E, c6, ll.set I z, (blk_cell hA9 2).trans rfl, q1, by omega, Kd.C_below q3 HB8.out, fun x hx => ?_, by omega⟩
        rcases List.mem_or_eq_of_mem_set hx with h | h
        · exact W5.out x h
        · rw [h]; exact HZW.out
      | 3, _ =>
        have hJl : (ll.take J).length = J := by rw [List.length_take]; omega
        refine ⟨_, J, c5, ll.take J, (blk_cell hA9 3).trans rfl, hJl.symm, by omega, ?_, fun x hx => W5.out x (List.mem_of_mem_take hx), by omega⟩
        have h7 := Kd.C_below C7.out HB8.out
        rw [← hEl] at h7
        have h9 := Go.Proofs.YtjealbaomhjoaaaW.PrintWords.Kd.C_take h7 (m := J) (by omega)
        exact h9
      | 4, _ =>
        have hl9 : (ll ++ [y]).length = E + 1 := by rw [List.length_append, hEl]; rfl
        refine ⟨A9, E + 1, c9, ll ++ [y], (blk_cell hA9 4).trans rfl, hl9.symm, by omega, by rw [hl9]; exact k9, fun x hx => ?_, by omega⟩
        rcases List.mem_append.1 hx with h | h
        · exact W5.out x h
        · rw [List.mem_singleton.1 h]; exact hy
    have IT := Lib.hid items; clear items hA9 k9 l9
    go_wp2_with fail
    go_loopw [61] (fun v61 W => ∃ k : Nat, v61 = .int .i64 k ∧ k ≤ 5 ∧ Hid (Below wc.heap.size wc W)) (fun v61 _ => 5 - (intOf v61).toNat)
    case atStart => exact ⟨0, rfl, by omega, Lib.hid (Below.refl _ _)⟩
    case round =>
      obtain ⟨k, rfl, hk, HBW⟩ := hrel
      by_cases hk2 : k < 5
      · have hk3 : decide ((k : Int) < 5) = true := decide_eq_true (by omega)
        obtain ⟨A, m, c, l, q1, qm, q2, q3, q4, q5⟩ := IT.out k hk2
        have qc := pw_cell_below HBW.out q1
        have QM := Lib.hid qm; have Q3 := Lib.hid (Kd.C_below q3 HBW.out); have Q4 := Lib.hid q4; have Q2 := Lib.hid q2
        clear q1 qm q2 q3 q4 q5
        go_wp2_with fail
        obtain ⟨o, e, hoe⟩ : ∃ o e, prF l = (o, e) := ⟨_, _, rfl⟩
        have hpa := parse_any A m c l wr QM.out Q3.out Q2.out Q4.out
        rw [hoe] at hpa
        obtain ⟨O, hO⟩ : ∃ O, o.length = O := ⟨_, rfl⟩
        simp only at hpa
        rw [hO] at hpa
        refine hpa.mono ?_
        clear hpa
        rintro e' w8 ⟨A8, c8, rfl, hs8, hb8⟩
        have HO := Lib.hid hO; clear hO
        have HOE := Lib.hid hoe; clear hoe
        have S8 := Lib.hid (Kd.S_reads' (Kd.S_alloc hs8 (.cells #[.slice A8 O c8] 26)))
        have hb8' := below_alloc hb8 (.cells #[.slice A8 O c8] 26)
        have B8 := Lib.hid (below_step HBW.out hb8')
        have Q38 := Lib.hid (Kd.C_below Q3.out hb8')
        have G8 := Lib.hid (heap_alloc_new w8 (.cells #[.slice A8 O c8] 26))
        clear hs8 hb8 hb8'
        go_upto_region 12 with (fail)
        generalize hw9 : w8.alloc (.cells #[.slice A8 O c8] 26) = w9 at *
        clear hw9 qc
        go_wp2_with fail
        have hpa := rparse_any A m c l w9 QM.out Q38.out Q2.out Q4.out
        rw [HOE.out] at hpa
        simp only at hpa
        rw [HO.out] at hpa
        refine hpa.mono ?_
        clear hpa
        rintro e' w11 ⟨A11, c11, rfl, hs11, hb11⟩
        have S11 := Lib.hid (Kd.S_reads' (Kd.S_alloc hs11 (.cells #[.slice A11 O c11] 26)))
        have hb11' := below_alloc hb11 (.cells #[.slice A11 O c11] 26)
        have B11 := Lib.hid (below_step B8.out hb11')
        have G11 := Lib.hid (blk_below G8.out hb11')
        have T11 := Lib.hid (Kd.C_below S8.out.2.2 hb11')
        have G12 := Lib.hid (heap_alloc_new w11 (.cells #[.slice A11 O c11] 26))
        clear hs11 hb11 hb11'
        go_upto_region 13 with (fail)
        generalize hw12 : w11.alloc (.cells #[.slice A11 O c11] 26) = w12 at *
        clear hw12
        have cA : w12.cell? ⟨w8.heap.size, 0, none⟩ = some (.slice A8 O c8) := (blk_cell G11.out 0).trans rfl
        have cB : w12.cell? ⟨w11.heap.size, 0, none⟩ = some (.slice A11 O c11) := (blk_cell G12.out 0).trans rfl
        have hsm : Hid (Small o) := Lib.hid (by
          by_cases he : e = 0
          · subst he
            exact (prF_good Q4.out HOE.out).1.small
          · rw [prF_bad HOE.out he]; exact ⟨by simp, fun c hc => by simp at hc⟩)
        have e1 : (e != e) = false := by simp
        go_wp2_with fail
        have hsa := rsame_any o o hsm.out A8 A11 c8 c11 O O w12 HO.out.symm HO.out.symm T11.out (by rw [HO.out]; exact S8.out.2.1) S11.out.2.2 (by rw [HO.out]; exact S11.out.2.1)
        rw [(eqO_iff o o).2 rfl] at hsa
        refine hsa.mono ?_
        clear hsa
        rintro e' w13 ⟨rfl, hb13⟩
        have B13 := Lib.hid (below_step B11.out hb13); clear hb13 cA cB
        go_wp2_with fail
        go_roundw
        case rel => exact ⟨k + 1, by go_num, by omega, B13⟩
        case measure => simp [intOf]; omega
      · have hk3 : k = 5 := by omega
        subst hk3
        go_wp2_with fail
        go_ret
        exact ⟨rfl, below_step B8.out HBW.out⟩
end Go.Proofs.Ytjealbaomhjoaaa
