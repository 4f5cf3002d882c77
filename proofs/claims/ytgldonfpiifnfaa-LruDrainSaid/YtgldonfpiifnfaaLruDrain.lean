/- LruDrain: for every input the law returns true: keys that are taken away, the oldest first, go in the order of their last use. No condition. -/
import Derived.Test.YtgldonfpiifnfaaRows
import Derived.Test.YtgldonfpiifnfaaLruAwake
import Derived.Test.YtgldonfpiifnfaaLruUA
import Derived.Test.YtgldonfpiifnfaaMaps
import Derived.Test.YtgldonfpiifnfaaRowBase
import Derived.Deep.DeepCutAuto
import Derived.Deep.CutBlock
set_option linter.unusedVariables false
namespace Go.Proofs.Ytgldonfpiifnfaa
open Go.RowKit

/-- When each key was last used, of the first j. -/
def LM (X : Nat → Int) : Nat → Int → Option Int
  | 0 => fun _ => none
  | j + 1 => fun u => if u = X j then some ((j : Int) + 1) else LM X j u
theorem LM_mem (X : Nat → Int) (j : Nat) (u : Int) : (LM X j u).isSome = decide (u ∈ UA X j) := by
  induction j with
  | zero => simp [LM, UA]
  | succ j ih =>
    simp only [LM, UA]
    by_cases h : u = X j
    · subst h; simp
    · rw [if_neg h, ih]
      simp [h, List.mem_erase_of_ne h]
theorem LM_le (X : Nat → Int) (j : Nat) (u y : Int) (h : LM X j u = some y) : 1 ≤ y ∧ y ≤ j := by
  induction j with
  | zero => simp [LM] at h
  | succ j ih =>
    simp only [LM] at h
    split at h
    · injection h with h; omega
    · have := ih h; omega
/-- Each key's last use, in order. -/
def Rises (f : Int → Option Int) (l : List Int) : Prop := l.Pairwise fun a b => ∀ x y, f a = some x → f b = some y → x < y
theorem LM_rises (X : Nat → Int) (j : Nat) : Rises (LM X j) (UA X j) := by
  induction j with
  | zero => simp [Rises, UA]
  | succ j ih =>
    unfold Rises
    simp only [UA]
    have hnd := UA_nodup X j
    rw [List.pairwise_append]
    refine ⟨?_, by simp, ?_⟩
    · have h1 : ((UA X j).erase (X j)).Pairwise fun a b => ∀ x y, LM X j a = some x → LM X j b = some y → x < y := List.Pairwise.sublist (List.erase_sublist) ih
      refine List.Pairwise.imp_of_mem ?_ h1
      intro a b ha hb hab x y hx hy
      have na : a ≠ X j := fun e => by subst e; exact hnd.not_mem_erase ha
      have nb : b ≠ X j := fun e => by subst e; exact hnd.not_mem_erase hb
      simp only [LM, if_neg na] at hx
      simp only [LM, if_neg nb] at hy
      exact hab x y hx hy
    · intro a ha b hb x y hx hy
      simp at hb
      subst hb
      have na : a ≠ X j := fun e => by subst e; exact hnd.not_mem_erase ha
      simp only [LM, if_neg na] at hx
      simp only [LM, if_pos] at hy
      injection hy with hy
      have := (LM_le X j a x hx).2
      omega
/-- The map while keys are taken away. -/
def FL (f : Int → Option Int) (l : List Int) : Int → Option Int := fun u => if u ∈ l then f u else none
theorem FL_tail {f : Int → Option Int} {k : Int} {l : List Int} (h : (k :: l).Nodup) : (fun u => if u = k then none else FL f (k :: l) u) = FL f l := by
  funext u
  unfold FL
  have hk : k ∉ l := (List.nodup_cons.1 h).1
  by_cases hu : u = k
  · subst hu; simp [hk]
  · simp [hu]
theorem FL_all (X : Nat → Int) (j : Nat) : FL (LM X j) (UA X j) = LM X j := by
  funext u
  unfold FL
  have := LM_mem X j u
  by_cases hu : u ∈ UA X j
  · rw [if_pos hu]
  · rw [if_neg hu]
    simp [hu] at this
    exact this.symm

theorem zero_int (w : World) : (zeroValue 3).run Try.prog w = .ok (.int .i64 0) w := by kernel_rfl
theorem keyed_u8 : Go.Maps.Keyed Try.prog 5 := Go.Maps.int_keyed Try.underlying5

/-- A map's block is no list's. -/
theorem map_ne {κ ε : Type} {P : Program} {k : TypeId} {w : World} {mb n sz : Nat} {L : κ → Lit} {E : ε → Value} {f : κ → Option ε} (hM : MapIs P k w mb L E n f sz) {t e : TypeId} {b : Nat} {v : Value} {cs : List Value} (hL : LAt w t e b v cs) : mb ≠ b ∧ ∀ g, v.ownBlock = some g → mb ≠ g := by
  obtain ⟨es, clock, hm⟩ := hM.get
  refine ⟨fun h => ?_, fun g hg h => ?_⟩
  · subst h
    rw [hL.1] at hm
    injection hm with hm
    cases hm
  · subst h
    rcases hL.2.2 with ⟨h1, _⟩ | ⟨g', cap, cur, h1, h2, _⟩
    · rw [h1] at hg; cases hg
    · rw [h1] at hg
      injection hg with hg
      have : g' = mb := hg
      subst this
      rw [h2] at hm
      injection hm with hm
      cases hm

set_option maxHeartbeats 800000 in
set_option maxRecDepth 100000 in
theorem drain_core (a0 : Option Addr) (len0 cap0 : Nat) (X : Nat → Int) (w : World) (hr : Reads .u8 w a0 len0 cap0 X) :
    Calls Try.prog 3 #[.slice a0 len0 cap0] w fun e w' => e = .returned (.bool true) ∧ Below w.heap.size w w' := by
  obtain ⟨hlc, hm, hwf, hc⟩ := hr
  have HC := Lib.hid hc; clear hc
  have HW := Lib.hid hwf; clear hwf
  have hmm := @run_makeMap Try.prog
  go_enter Try.func3, Try.ntmps3
  go_wp2_with fail
  refine (awake15 _).mono ?_
  rintro e w1 ⟨rfl, hk1⟩
  have hL0 := (LAt.made w1 26 5).kept (Kept.alloc (fun _ => False) _ (.map #[] 0)) (by simp) (by simp)
  have hM0 := Lib.hid (MapIs.made Try.prog 5 (w1.alloc (.cells #[.slice none 0 0] 26)) (Lit.int .u8) (Value.int .i64))
  have hL0 := Lib.hid hL0
  have hP0 := Lib.hid (show Past w.heap.size w1.heap.size (.slice none 0 0) from ⟨hk1.size, by simp [Value.ownBlock]⟩)
  have hK0 := Lib.hid ((hk1.trans (Kept.alloc (fun _ => False) w1 (.cells #[.slice none 0 0] 26))).trans (Kept.alloc (fun _ => False) _ (.map #[] 0)))
  have hmb0 : w.heap.size ≤ (w1.alloc (.cells #[.slice none 0 0] 26)).heap.size := by have := hk1.size; simp; omega
  go_upto_region 5 with fail
  rw [show (w1.heap.size + 1) = (w1.alloc (.cells #[.slice none 0 0] 26)).heap.size by simp]
  generalize (w1.alloc (.cells #[.slice none 0 0] 26)).heap.size = mb at *
  generalize (w1.alloc (.cells #[.slice none 0 0] 26)).alloc (.map #[] 0) = w2 at *
  generalize w1.heap.size = b at *
  clear hk1 hmm
  go_cut [19, 20, 21] (fun s20 s21 s22 wx => ∃ n : Nat, n ≤ 100 ∧ n ≤ len0 ∧ s20 = .slice a0 n cap0 ∧ s21 = .int .i64 n ∧ s22 = .int .i64 0 ∧ wx = w2)
  case first =>
    by_cases hn : len0 ≤ 100
    all_goals
      go_wp2
      go_meet
      case rel => first | exact ⟨len0, hn, Nat.le_refl _, rfl, by simp, rfl, rfl⟩ | exact ⟨100, Nat.le_refl _, by omega, rfl, by simp, rfl, rfl⟩
  case rest =>
    obtain ⟨n, hn1, hn2, rfl, rfl, rfl, rfl⟩ := hcut
    go_wp2
    go_loopw [21, 5, 6] (fun i _ _ wr => ∃ (j : Nat) (v : Value), j ≤ n ∧ i = .int .i64 j ∧ Hid (LAt wr 26 5 b v ((UA X j).map (Value.int .u8))) ∧ Hid (Past w.heap.size b v) ∧ Hid (Kept (fun _ => False) w wr) ∧
        Hid (MapIs Try.prog 5 wr mb (Lit.int .u8) (Value.int .i64) j (LM X j) (UA X j).length)) (fun i _ _ _ => n - (intOf i).toNat)
    case atStart => exact ⟨0, _, Nat.zero_le _, rfl, hL0, hP0, hK0, hM0⟩
    case round =>
      obtain ⟨j, v, hj, rfl, hL, hP, hK, hM⟩ := hrel
      by_cases hlt : j < n
      · rcases HC.out with h0 | ⟨kb, off, rfl, hkb, hc⟩
        · exact absurd h0 (by omega)
        have hcell : wr.cell? ⟨kb, off + j, none⟩ = some (.int .u8 (X j)) := hK.out.cell (hc j (by omega)) (by simp)
        clear hc HC
        have hl := UA_len X j
        have hne := map_ne hM.out hL.out
        have hne1 := hne.1
        have hne2 := Lib.hid hne.2
        clear hne
        go_wp2_with fail
        refine (use_u8 b v (UA X j) (X j) _ (by omega) hL.out).mono ?_
        rintro e w3 ⟨rfl, v3, hL3, hk3, hl3⟩
        obtain ⟨hP3, hK3⟩ := hP.out.step rfl hK.out hk3 (fun _ h => h) hl3
        have hM3 := hM.out.kept hk3 (by rintro (h | h); exact hne1 h; exact hne2.out _ h rfl)
        have hne' := map_ne hM3 hL3
        have hne3 := hne'.1
        have hne4 := Lib.hid hne'.2
        clear hne'
        have HL := Lib.hid hL3; have HP := Lib.hid hP3; have HK := Lib.hid hK3; have HM := Lib.hid hM3
        clear hL3 hk3 hl3 hP3 hK3 hcell hM3
        go_wp2_with (at_mapUpdate; refine wpList_store_is _ rfl _ _ _ 27 rfl 5 3 keyed_u8 Try.underlying27 (Lit.int .u8) (litInt_inj .u8) (litInt_key .u8) (Value.int .i64) mb j (LM X j) _ rfl HM.out (by unfold maxLen; omega) _ rfl (X j) (Go.Maps.keyOf_int_mk Try.underlying5 (HW.out j)) ((j : Int) + 1) rfl ?_; intro w4 hM4 hk4)
        have HL4 := Lib.hid (HL.out.kept hk4 (fun h => hne3 h.symm) (fun g hg h => hne4.out g hg h.symm))
        have HK4 := Lib.hid (HK.out.andThen hk4 (fun _ _ h => h) (fun x hx h => by omega))
        have HM4 : Hid (MapIs Try.prog 5 w4 mb (Lit.int .u8) (Value.int .i64) (j + 1) (LM X (j + 1)) (UA X (j + 1)).length) := by
          have e1 : (UA X (j + 1)).length = if (LM X j (X j)).isSome then (UA X j).length else (UA X j).length + 1 := by
            rw [LM_mem]
            by_cases hx : X j ∈ UA X j
            · have := List.length_pos_of_mem hx
              simp [UA, hx, List.length_erase_of_mem hx]; omega
            · simp [UA, hx, List.erase_of_not_mem hx]
          rw [e1]
          exact hM4
        clear hM4 hk4
        go_wp2_with fail
        go_roundw
        case rel => exact ⟨j + 1, v3, by omega, by go_num, HL4, HP, HK4, HM4⟩
        case measure => simp [intOf]; omega
      · have hjn : j = n := by omega
        subst hjn
        have hl := UA_len X j
        have hnd := Lib.hid (UA_nodup X j)
        have hri := Lib.hid (LM_rises X j)
        have hle := Lib.hid (LM_le X j)
        have hmem := Lib.hid (LM_mem X j)
        have hM' : MapIs Try.prog 5 wr mb (Lit.int .u8) (Value.int .i64) j (FL (LM X j) (UA X j)) (UA X j).length := by rw [FL_all]; exact hM.out
        have hM := Lib.hid hM'; clear hM'
        have hX : Hid (∀ x ∈ UA X j, ∃ t, x = X t) := by
          have key : ∀ i, ∀ x ∈ UA X i, ∃ t, x = X t := by
            intro i
            induction i with
            | zero => intro x hx; simp [UA] at hx
            | succ i ih =>
              intro x hx
              simp only [UA, List.mem_append, List.mem_singleton] at hx
              rcases hx with hx | hx
              · exact ih x (List.mem_of_mem_erase hx)
              · exact ⟨i, hx⟩
          exact key j
        clear hlt
        generalize UA X j = L at *
        generalize LM X j = f at *
        go_wp2_with fail
        go_loopg [7] L.length (fun gk at_ wr => ∃ (l : List Int) (v : Value) (m : Int), l.length = gk ∧ at_ = .int .i64 m ∧ l.length ≤ j ∧ Hid (LAt wr 26 5 b v (l.map (Value.int .u8))) ∧ Hid (Past w.heap.size b v) ∧ Hid (Kept (fun _ => False) w wr) ∧
          Hid (MapIs Try.prog 5 wr mb (Lit.int .u8) (Value.int .i64) j (FL f l) l.length) ∧ Hid (l.Nodup ∧ Rises f l ∧ ∀ x ∈ l, x ∈ L ∧ ∀ y, f x = some y → m < y))
        case atStart =>
          exact ⟨L, v, 0, rfl, rfl, hl, hL, hP, hK, hM, hnd.out, hri.out, fun x hx => ⟨hx, fun y hy => by have := hle.out x y hy; omega⟩⟩
        case round =>
          obtain ⟨l, v', m, hlen, rfl, hlj, hL, hP, hK, hM, hF⟩ := hrel
          cases l with
          | nil =>
            clear hlen
            go_wp2_with fail
            refine (len_u8 b v' [] _ hL.out).mono ?_
            rintro e w3 ⟨rfl, rfl⟩
            rw [show ((([] : List Int).length : Nat) : Int) = 0 from rfl]
            go_wp2_with (at_len; refine wpList_len_is _ rfl _ 27 rfl 5 3 Try.underlying27 (Lit.int .u8) (Value.int .i64) mb j _ _ rfl hM.out ?_)
            go_ret
            exact ⟨rfl, hK.out.below (Nat.le_refl _) (fun _ h => h.elim)⟩
          | cons k l =>
            obtain ⟨hF1, hF2, hF3⟩ := hF.out
            obtain ⟨hkL, hkf⟩ := hF3 k (by simp)
            obtain ⟨t, ht⟩ := hX.out k hkL
            have hsome : (f k).isSome = true := by rw [hmem.out]; simp [hkL]
            obtain ⟨c, hcf⟩ := Option.isSome_iff_exists.1 hsome
            have hmc := hkf c hcf
            have hkey : keyOf Try.prog 5 (.int .u8 k) = some (Lit.int .u8 k) := Go.Maps.keyOf_int_mk Try.underlying5 (by rw [ht]; exact HW.out t)
            have hFk : FL f (k :: l) k = some c := by simp [FL, hcf]
            have hrun : ∀ wx, MapIs Try.prog 5 wx mb (Lit.int .u8) (Value.int .i64) j (FL f (k :: l)) (k :: l).length → (Instr.lookup 27 (.map (some mb)) (.int .u8 k) false).run Try.prog wx = .ok (.int .i64 c) wx := by
              intro wx hx
              have := hx.look keyed_u8 Try.underlying27 (zero_int wx) hkey
              rw [hFk] at this
              exact this
            have HR := Lib.hid hrun; clear hrun
            have hlen1 : 0 < (k :: l).length := by simp
            have hnd2 : Hid (l.Nodup ∧ Rises f l ∧ ∀ x ∈ l, x ∈ L ∧ ∀ y, f x = some y → c < y) :=
              ⟨(List.nodup_cons.1 hF1).2, (List.pairwise_cons.1 hF2).2, fun x hx => ⟨(hF3 x (List.mem_cons_of_mem _ hx)).1, fun y hy => (List.pairwise_cons.1 hF2).1 x hx c y hcf hy⟩⟩
            have herase : (k :: l).erase k = l := List.erase_cons_head ..
            have htail := FL_tail (f := f) hF1
            have HT := Lib.hid htail; clear htail
            have HE := Lib.hid herase; clear herase
            have HN := Lib.hid hlen; clear hlen
            have HKEY := Lib.hid hkey; clear hkey
            have HFK := Lib.hid hFk; clear hFk
            clear hF1 hF2 hF3 hkL hkf ht hsome hcf hX hmem hle hri hnd
            have hne := map_ne hM.out hL.out
            have hne1 := hne.1
            have hne2 := Lib.hid hne.2
            clear hne
            go_wp2_with fail
            refine (len_u8 b v' (k :: l) _ hL.out).mono ?_
            rintro e w3 ⟨rfl, rfl⟩
            have HQ : Hid ((k :: l).length = l.length + 1) := rfl
            generalize (k :: l).length = q at *
            go_wp2_with fail
            refine (oldest_cons_u8 b v' k l _ hL.out).mono ?_
            rintro e w3 ⟨rfl, rfl⟩
            have hrun1 := HR.out _ hM.out
            go_wp2_with fail
            refine (drop_u8 b v' (k :: l) k _ (by have := HQ.out; simp; omega) hL.out).mono ?_
            rintro e w3 ⟨rfl, v3, hL3, hk3, hl3⟩
            obtain ⟨hP3, hK3⟩ := hP.out.step rfl hK.out hk3 (fun _ h => .inl h) hl3
            have hM3 := hM.out.kept hk3 hne1
            have hne' := map_ne hM3 hL3
            have hne3 := hne'.1
            have hne4 := Lib.hid hne'.2
            clear hne' hrun1
            have hrun2 := HR.out _ hM3
            have HL := Lib.hid hL3; have HP := Lib.hid hP3; have HK := Lib.hid hK3; have HM := Lib.hid hM3
            clear hL3 hk3 hl3 hP3 hK3 hM3
            rw [show decide (k ∈ k :: l) = true by simp]
            go_wp2_with (at_delete; refine wpList_delete_is _ rfl _ _ 27 5 rfl 3 keyed_u8 Try.underlying27 (Lit.int .u8) (litInt_inj .u8) (Value.int .i64) mb j _ _ rfl HM.out _ rfl k HKEY.out ?_; intro w4 hM4 hk4)
            have HL4 := Lib.hid (HL.out.kept hk4 (fun h => hne3 h.symm) (fun g hg h => hne4.out g hg h.symm))
            have HK4 := Lib.hid (HK.out.andThen hk4 (fun _ _ h => h) (fun x hx h => by omega))
            have HM4 : Hid (MapIs Try.prog 5 w4 mb (Lit.int .u8) (Value.int .i64) j (FL f l) l.length) := by
              have e2 : l.length = q - if (FL f (k :: l) k).isSome then 1 else 0 := by rw [HFK.out]; have := HQ.out; simp; omega
              rw [e2, ← HT.out]
              exact hM4
            rw [HE.out] at HL4
            clear hM4 hk4 hrun2
            go_wp2_with fail
            go_roundg l.length
            case rel => exact ⟨l, v3, c, rfl, rfl, by have := HQ.out; omega, HL4, HP, HK4, HM4, hnd2⟩
            case measure => have := HQ.out; have := HN.out; omega

namespace lruDrain
open Go.ChangeShapes Go.WideShapes Go.ChangeAt Go.RowKit
open Go.ChangeMaps (open_string shut_string)
theorem own : ownKnob Try.prog.godebug = none := by kernel_rfl
theorem laidOut : laidOutB Try.prog = true := by kernel_rfl

set_option maxRecDepth 100000 in
theorem lifted (os : Os) (started : os.Started) (H : Type) (enc : TypeId × Value → H) :
    ReturnsInHanded {} Try.checked os 3 .any (Rows.lruDrainSpec.pre6 enc Try.prog Try.f3 Rows.lruDrainRow.domain false) (Rows.lruDrainSpec.post enc Try.prog Try.f3 false true false false) := by
  refine returnsInHanded_of_change (C := Try.checked) own started (by kernel_rfl) Try.func3
    (ChangeSpec.witness6 (enc := enc) (C := Try.checked) false ⟨#[], #[.slice none 0 0], []⟩ 8 (by kernel_rfl) (by kernel_rfl) (by kernel_rfl) (by kernel_rfl)) ?_
  intro W base args ds gs before hval0 hW hcnd _
  have hval : ∀ (j : Nat) t v, Try.f3.params[j]? = some t → args[j]? = some v → Value.okWide Try.prog W .any base t v := hval0
  have hW' := hW
  obtain ⟨p, q, hA0, hV, rfl, hfz, hnd⟩ := hW
  have hA : DataW.TrodAll enc Try.prog W 0 (fun _ => true) true Try.f3.params.toList args.toList ds p := hA0
  rw [Try.params3] at hA hval
  obtain ⟨v0, vs0, d0, ds0, p0, q0, hargs, rfl, rfl, h0, r0⟩ := trodAll_cons hA
  obtain ⟨rfl, rfl, rfl⟩ := trodAll_nil r0
  obtain rfl : args = #[v0] := by cases args; simp_all
  obtain ⟨rfl, rfl⟩ := trodVars_none hV
  obtain ⟨a0, len0, cap0, rfl⟩ := okWide_slice Try.underlying22 (hval 0 22 v0 rfl rfl)
  have k0 := h0
  have lt0 : ∀ x ∈ p0, x.block < W.heap.size := by obtain ⟨m, hm⟩ := k0; exact DataW.trod_lt m _ _ _ hm
  obtain ⟨z0, w0⟩ : ∃ zs, IsRow .u8 W a0 len0 cap0 zs := by
    obtain ⟨fuel, hf⟩ := h0
    rcases open_ints Try.underlying22 Try.underlying5 (by kernel_rfl) hf with ⟨hcs, _⟩ | ⟨x, l, c, zs, hcs, _, hl, hm, hz, _, hcell, hwz⟩
    · simp [Value.cells] at hcs
      obtain ⟨rfl, rfl, rfl⟩ := hcs
      exact ⟨[], .inl ⟨rfl, rfl, rfl, rfl⟩⟩
    · simp [Value.cells] at hcs
      obtain ⟨rfl, rfl, rfl⟩ := hcs
      exact ⟨zs, .inr ⟨_, rfl, hl, hm, by simpa using hz, hcell, hwz⟩⟩
  have reads0 := w0.reads
  clear hA0 hval0
  refine (drain_core a0 len0 cap0 _ W reads0).mono fun e W' ⟨he, bel⟩ => ?_
  subst he
  exact ⟨_, rfl, _, _, _, [], _, [], hW', trodAll_mk1 (shut_bool Try.underlying4 _), (trodAll_cons_mk (Below.trod laidOut (by kernel_rfl) (of_decide_eq_true (by kernel_rfl)) k0 bel lt0) trodAll_mk0), rfl, bel.frame _, fun h => by cases h⟩

theorem over : Rows.lruDrainRow.holds Try.pinned (OpenSpec.ofChange Rows.lruDrainSpec) :=
  OpenClaim.holds_of_wide 3 Try.f3 rfl rfl rfl rfl rfl rfl rfl ⟨rfl, rfl, rfl, rfl, rfl⟩ rfl rfl rfl rfl rfl (by kernel_rfl) Try.func3 (by kernel_rfl)
    (of_decide_eq_true (by kernel_rfl)) (by unfold Func.isWrapper; first | (rw [if_pos (by decide +kernel)]; kernel_rfl) | (rw [if_neg (by decide +kernel)]; exact ⟨rfl, rfl⟩))
    (fun os started H enc _ => lifted os started H enc)

theorem proved : Rows.LruDrainSaid := over
end lruDrain

end Go.Proofs.Ytgldonfpiifnfaa
