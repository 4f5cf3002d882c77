/- GlyfEncode: the walk. -/
import Derived.Test.YtjealbaomhjoaaaGOut
import Derived.Test.YtjealbaomhjoaaaGAwake
import Derived.Test.YtjealbaomhjoaaaFew
import Derived.Deep.RegionHeld3
import Derived.Deep.DeepCutAuto
import Derived.Deep.CutBlock
import Derived.Deep.CutRange
import Derived.Test.YtjealbaomhjoaaaGlR
set_option linter.unusedVariables false
set_option linter.unusedSimpArgs false
namespace Go.Proofs.Ytjealbaomhjoaaa
open Go.RowKit Go.Proofs.Ytjealbaomhjoaaa.G Go.Proofs.YtjealbaomhjoaaaW.PrintWords Go.Proofs.YtjealbaomhjoaaaW.PrintMore

/-- An outline's bytes: none, if something is wrong of it. -/
def encO (a : List (List S34)) : List Int := if ckO a = 0 then encL a else []
theorem encode_any (a : List (List S34)) (hb : ∀ c ∈ a, c.length ≤ 140737488355328) (A : Option Addr) (ca na : Nat) (w : World) (ea : na = a.length) (ra : Kd.C (Kd.slice 34 k34) w A a.length a) (la : a.length ≤ ca) :
    Calls Try.prog 25 #[.agg #[.slice A na ca]] w fun e w' => ∃ B c, e = .returned (.tuple #[.slice B (encO a).length c, .int .i64 (ckO a)]) ∧ Kd.R (Kd.int .u8) 5 w' w.heap.size (fun _ => True) (.slice B (encO a).length c) (encO a) ∧ Below w.heap.size w w' := by
  subst ea
  have key : ∃ K, ∀ k, K ≤ k → glyf_Encode.f k a = some (encO a, ckO a) := by
    unfold encO
    by_cases h : ckO a = 0
    · rw [if_pos h, h]; exact en_f (ckO_only h)
    · rw [if_neg h]; exact en_bad hb h
  obtain ⟨K, hK⟩ := key
  refine (glyf_Encode.calls K A ca a _ _ w ra la (hK K (Nat.le_refl _))).mono ?_
  rintro e w' ⟨v, rfl, hr, hbl⟩
  obtain ⟨B, c, rfl⟩ := Kd.R_slice hr
  exact ⟨B, c, rfl, hr, hbl⟩
theorem rencode_any (a : List (List S34)) (hg : Good a) (A : Option Addr) (ca na : Nat) (w : World) (ea : na = a.length) (ra : Kd.C (Kd.slice 34 k34) w A a.length a) (la : a.length ≤ ca) :
    Calls Try.prog 26 #[.agg #[.slice A na ca]] w fun e w' => e = .returned (.string (strOfNums (encL a))) ∧ Below w.heap.size w w' := by
  subst ea
  obtain ⟨K, hK⟩ := rn_f hg
  exact punchcutlaw04_encode.calls K A ca a _ w ra la (hK K (Nat.le_refl _))
theorem conv_any {w W : World} {base : Nat} {ok : Nat → Prop} {A : Option Addr} {n c : Nat} {xs : List Int} (h : Kd.R (Kd.int .u8) 5 w base ok (.slice A n c) xs) (hb : Below w.heap.size w W) :
    (convert 48 9 (.slice A n c)).run Try.prog W = .ok (.string (strOfNums xs)) W :=
  own_string (P := Try.prog) Try.underlying48 Try.underlying5 Try.underlying9 (Kd.own_of_R (Kd.R_below h hb))

set_option maxHeartbeats 4000000 in
set_option maxRecDepth 100000 in
theorem glyfEncode_core (a0 a1 : Option Addr) (c0 c1 : Nat) (l1 : List (List S66)) (l0 : List (List S34)) (w : World) (rd1 : Kd.C (Kd.slice 66 k66) w a0 l1.length l1) (le1 : l1.length ≤ c0) (rd0 : Kd.C (Kd.slice 34 k34) w a1 l0.length l0) (le0 : l0.length ≤ c1) :
    Calls Try.prog 9 #[.slice a0 l1.length c0, .slice a1 l0.length c1] w fun e w' => e = .returned (.bool true) ∧ Below w.heap.size w w' := by
  obtain ⟨ad, A, C, ha, hraw⟩ := rawIn' rd0
  have R1 := Lib.hid rd1; have HA := Lib.hid ha; have HRW := Lib.hid hraw; clear rd0 rd1 ha hraw
  have hg := olF_good l1
  have ckb : ∀ c ∈ olF l1, c.length ≤ 140737488355328 := fun c hc => by have h1 := (List.sublist_flatten_of_mem hc).length_le; have h2 := hg.sum; omega
  have CKB := Lib.hid ckb; have HG := Lib.hid hg; clear ckb hg
  go_enter Try.func9, Try.ntmps9
  go_wp2_with fail
  refine (awake_c _).mono ?_
  rintro e w1 ⟨rfl, hb1⟩
  have B1 := Lib.hid hb1; clear hb1
  go_wp2_with fail
  have hol := outline_any l1 a0 c0 w1 (Kd.C_below R1.out B1.out) le1
  obtain ⟨N, hN⟩ : ∃ N, (olF l1).length = N := ⟨_, rfl⟩
  rw [hN] at hol
  have HN := Lib.hid hN; clear hN
  refine hol.mono ?_
  clear hol
  rintro e w3 ⟨A3, c3, rfl, hs3, hb3⟩
  have S3 := Lib.hid (Kd.S_alloc hs3 (.cells #[.slice A3 N c3] 26))
  have B3 := Lib.hid (below_alloc (below_step B1.out hb3) (.cells #[.slice A3 N c3] 26))
  have G4 := Lib.hid (heap_alloc_new w3 (.cells #[.slice A3 N c3] 26))
  clear hs3 hb3
  have hu26 := Try.underlying26
  go_upto_region 4 with (fail)
  generalize hw4 : w3.alloc (.cells #[.slice A3 N c3] 26) = w4 at *
  clear hw4
  have T4 := Lib.hid (Kd.S_reads' S3.out)
  have cA : w4.cell? ⟨w3.heap.size, 0, none⟩ = some (.slice A3 N c3) := (blk_cell G4.out 0).trans rfl
  go_wp2_with fail
  have hen := encode_any (olF l1) CKB.out A3 c3 N w4 HN.out.symm T4.out.2.2 (by rw [HN.out]; exact T4.out.2.1)
  have he0 : encO (olF l1) = encL (olF l1) := by unfold encO; rw [if_pos HG.out.ck]
  rw [HG.out.ck, he0] at hen
  obtain ⟨E, hE⟩ : ∃ E, (encL (olF l1)).length = E := ⟨_, rfl⟩
  rw [hE] at hen
  have HE := Lib.hid hE; clear hE he0
  refine hen.mono ?_
  clear hen cA
  rintro e w5 ⟨B5, c5, rfl, hr5, hb5⟩
  have R5 := Lib.hid hr5
  have B5' := Lib.hid (below_step B3.out hb5)
  have T5 := Lib.hid (Kd.C_below T4.out.2.2 hb5)
  have G5 := Lib.hid (blk_below G4.out hb5)
  clear hr5 hb5
  have cA : w5.cell? ⟨w3.heap.size, 0, none⟩ = some (.slice A3 N c3) := (blk_cell G5.out 0).trans rfl
  obtain ⟨s, hs⟩ : ∃ s, strOfNums (encL (olF l1)) = s := ⟨_, rfl⟩
  have hcv : ∀ W, Below w5.heap.size w5 W → (convert 48 9 (.slice B5 E c5)).run Try.prog W = .ok (.string s) W := fun W hb => by rw [← hs]; exact conv_any R5.out hb
  have hre := fun W (hb : Below w5.heap.size w5 W) => rencode_any (olF l1) HG.out A3 c3 N W HN.out.symm (Kd.C_below T5.out hb) (by rw [HN.out]; exact T4.out.2.1)
  rw [hs] at hre
  have HCV := Lib.hid hcv; have HRE := Lib.hid hre; have HS := Lib.hid hs; clear hcv hre hs
  go_upto_region 5 with (fail)
  go_cut [31] (fun v31 wc => v31 = .bool false ∧ Hid (Below w5.heap.size w5 wc))
  case first =>
    go_region_held3 (fun w' => w'.cell? ⟨w3.heap.size, 0, none⟩ = some (.slice A3 N c3) ∧ (convert 48 9 (.slice B5 E c5)).run Try.prog w' = .ok (.string s) w' ∧ Below w5.heap.size w5 w')
      (refine ⟨?_, ?_, ?_⟩ <;> first | assumption | exact below_drew (Below.refl _ _) | exact HCV.out _ (below_drew (Below.refl _ _)) | exact pw_cell_below hb (by assumption) | exact pw_cell_below hb (show _ ∧ _ ∧ _ from by assumption).1 | (refine HCV.out _ (below_step ?_ hb); first | assumption | exact (show _ ∧ _ ∧ _ from by assumption).2.2 | exact below_drew (Below.refl _ _)) | (refine below_step ?_ hb; first | assumption | exact (show _ ∧ _ ∧ _ from by assumption).2.2 | exact below_drew (Below.refl _ _)))
      (first
      | (go_at_call 26; ((with_reducible refine (HRE.out _ ?_).mono ?_); (first | assumption | exact (show _ ∧ _ ∧ _ from by assumption).2.2 | exact below_drew (Below.refl _ _)); rintro e w' ⟨rfl, hb⟩)))
    all_goals
      go_wp2_with fail
      go_meet
      case rel => exact ⟨rfl, Lib.hid (by first | assumption | exact (show _ ∧ _ ∧ _ from by assumption).2.2)⟩
  case rest =>
    obtain ⟨rfl, HB6⟩ := hcut
    have B6 := Lib.hid (below_step B5'.out HB6.out)
    clear cA HB6 R5 T5 G5 HCV HRE HS HE B5'
    obtain ⟨M, hM⟩ : ∃ M, min l0.length 12 = M := ⟨_, rfl⟩
    have hmin := min_int l0.length 12
    rw [hM] at hmin
    have hmin2 : (if (12 : Int) < (l0.length : Int) then (12 : Int) else (l0.length : Int)) = (M : Int) := hmin
    have hMl : M ≤ l0.length := by omega
    have hM12 : M ≤ 12 := by omega
    have HM := Lib.hid hM; clear hM hmin
    have m1 : decide ((0 : Int) ≤ (M : Int)) = true := decide_eq_true (by omega)
    have m2 : (M : Int) ≤ (c1 : Int) := by omega
    go_wp2_with fail
    clear hmin2 m1 m2
    go_loopw [8, 38] (fun v8 v38 W => ∃ (k : Nat) (u : Value), v38 = .int .i64 k ∧ v8 = u ∧ k ≤ M ∧ Hid ((Kd.raw 1).R 28 W w.heap.size (fun _ => True) u (fewV l0 A C k)) ∧ Hid (Below w.heap.size w W)) (fun _ v38 _ => M - (intOf v38).toNat)
    case atStart => exact ⟨0, .slice none 0 0, rfl, rfl, Nat.zero_le _, Lib.hid (Kd.R_nil _ _ _ _ _), B6⟩
    case round =>
      obtain ⟨k, u, rfl, rfl, hk, HO, HB⟩ := hrel
      by_cases hkM : k < M
      · have hk1 : decide ((k : Int) < (M : Int)) = true := decide_eq_true (by omega)
        have hkl : k < l0.length := by omega
        obtain ⟨q1, q2, q3⟩ := HRW.out.cell k hkl
        have ea := HA.out (by omega)
        subst ea
        have qc := pw_cell_below HB.out q1
        obtain ⟨L, hL⟩ : ∃ L, l0[k].length = L := ⟨_, rfl⟩
        rw [hL] at qc q2
        obtain ⟨P, hP⟩ : ∃ P, min L 70 = P := ⟨_, rfl⟩
        have hmin2 : (if (70 : Int) < (L : Int) then (70 : Int) else (L : Int)) = (P : Int) := by rw [← hP]; exact min_int L 70
        have hPL : P ≤ L := by omega
        have m1 : decide ((0 : Int) ≤ (P : Int)) = true := decide_eq_true (by omega)
        have m2 : (P : Int) ≤ (C k : Int) := by omega
        have HP : Hid (min (l0.getD k []).length 70 = P) := Lib.hid (by rw [List.getD_eq_getElem?_getD, List.getElem?_eq_getElem hkl]; simpa [hL] using hP)
        clear hL hP q1 q3
        obtain ⟨A9, c9, e9⟩ := Kd.R_slice HO.out
        rw [fewV_len] at e9
        subst e9
        go_wp2_with (at_builtin; refine Kd.R_append (Kd.raw 1) (w0 := w) w.heap.size rfl (.tmp 42) (.tmp 48) 24 28 (.slice none 0 0) 24 rfl Try.underlying24 info_vs rfl (by decide) (by omega) (.slice A9 k c9) (fewV l0 A C k) [.slice (A k) P (C k)] [.slice (A k) P (C k)] (fun _ => True) (fun _ => False) rfl rfl ?aP (fun _ hk => hk.elim) (fun _ _ => trivial) HO.out HB.out HB.out.size ?aL ?_; (case aP => exact ⟨rfl, rfl, by simp [Value.oneCell']⟩); (case aL => (rw [fewV_len]; omega)); intro v1 w9 ho hb hg hat; have n2 := Lib.hid hb; have n3 := Lib.hid ho; clear ho hb hg hat; obtain ⟨A10, c10, e10⟩ := Kd.R_slice n3.out; rw [List.length_append, fewV_len, List.length_singleton] at e10; subst e10)
        go_roundw
        case rel =>
          refine ⟨k + 1, _, by go_num, rfl, by omega, ?_, n2⟩
          rw [fewV_snoc, HP.out]
          exact n3
        case measure => simp [intOf]; omega
      · have hkM2 : k = M := by omega
        subst hkM2
        have hk1 : decide ((k : Int) < (k : Int)) = false := decide_eq_false (by omega)
        have hO := HO.out
        rw [← HM.out] at hO
        obtain ⟨A9, c9, e9, hle, hC9⟩ := few_reads HRW.out HB.out hO
        rw [fewL_len, HM.out] at e9
        subst e9
        have HF := Lib.hid (And.intro hle hC9); clear hO hle hC9
        have HK : Hid ((fewL l0).length = k) := Lib.hid (by rw [fewL_len, HM.out])
        have FB : Hid (∀ c ∈ fewL l0, c.length ≤ 140737488355328) := Lib.hid (fun c hc => by have := fewL_small l0 c hc; omega)
        go_wp2_with fail
        obtain ⟨E2, hE2⟩ : ∃ E2, (encO (fewL l0)).length = E2 := ⟨_, rfl⟩
        have hen := encode_any (fewL l0) FB.out A9 c9 k wr HK.out.symm HF.out.2 HF.out.1
        rw [hE2] at hen
        have HE2 := Lib.hid hE2; clear hE2
        refine hen.mono ?_
        clear hen
        rintro e w7 ⟨B7, c7, rfl, hr7, hb7⟩
        have R7 := Lib.hid hr7
        have B7' := Lib.hid (below_step HB.out hb7)
        have F7 := Lib.hid (Kd.C_below HF.out.2 hb7)
        clear hr7 hb7
        go_wp2_with fail
        refine (rcheck_any (fewL l0) FB.out A9 c9 k w7 HK.out.symm F7.out HF.out.1).mono ?_
        rintro e w8 ⟨rfl, hb8⟩
        have R8 := Lib.hid (Kd.R_below R7.out hb8)
        have B8 := Lib.hid (below_step B7'.out hb8)
        have F8 := Lib.hid (Kd.C_below F7.out hb8)
        clear hb8
        by_cases hck : ckO (fewL l0) = 0
        · have hen0 : encO (fewL l0) = encL (fewL l0) := by unfold encO; rw [if_pos hck]
          have HEN := Lib.hid hen0; clear hen0
          have HGF := Lib.hid (ckO_only hck)
          rw [hck]
          clear hck
          obtain ⟨s2, hs2⟩ : ∃ s2, strOfNums (encL (fewL l0)) = s2 := ⟨_, rfl⟩
          have hcv : ∀ W, Below w8.heap.size w8 W → (convert 48 9 (.slice B7 E2 c7)).run Try.prog W = .ok (.string s2) W := fun W hb => by rw [← hs2, ← HEN.out]; exact conv_any R8.out hb
          have hre := fun W (hb : Below w8.heap.size w8 W) => rencode_any (fewL l0) HGF.out A9 c9 k W HK.out.symm (Kd.C_below F8.out hb) HF.out.1
          rw [hs2] at hre
          have HCV := Lib.hid hcv; have HRE := Lib.hid hre; have HS := Lib.hid hs2; clear hcv hre hs2
          go_upto_region 17 with (fail)
          go_region_held3 (fun w' => (convert 48 9 (.slice B7 E2 c7)).run Try.prog w' = .ok (.string s2) w' ∧ Below w8.heap.size w8 w')
            (refine ⟨?_, ?_⟩ <;> first | assumption | exact below_drew (Below.refl _ _) | exact HCV.out _ (below_drew (Below.refl _ _)) | (refine HCV.out _ (below_step ?_ hb); first | assumption | exact (show _ ∧ _ from by assumption).2 | exact below_drew (Below.refl _ _)) | (refine below_step ?_ hb; first | assumption | exact (show _ ∧ _ from by assumption).2 | exact below_drew (Below.refl _ _)))
            (first
            | (go_at_call 26; ((with_reducible refine (HRE.out _ ?_).mono ?_); (first | assumption | exact (show _ ∧ _ from by assumption).2 | exact below_drew (Below.refl _ _)); rintro e w' ⟨rfl, hb⟩)))
          all_goals
            go_wp2_with fail
            go_ret
            exact ⟨rfl, below_step B8.out (by first | assumption | exact (show _ ∧ _ from by assumption).2)⟩
        · have hen0 : encO (fewL l0) = [] := by unfold encO; rw [if_neg hck]
          have hE20 : E2 = 0 := by rw [← HE2.out, hen0]; rfl
          subst hE20
          have e1 : (ckO (fewL l0) == ckO (fewL l0)) = true := by simp
          have e2 : (ckO (fewL l0) != 0) = true := by simpa using hck
          have e3 : (ckO (fewL l0) == 0) = false := by simpa using hck
          clear hck hen0
          go_wp2_with fail
          go_ret
          exact ⟨rfl, B8.out⟩

end Go.Proofs.Ytjealbaomhjoaaa
