/- LruScript: for every input the law returns true: which keys there are, and in which order, is what the document says, deed by deed. No condition. -/
import Derived.Test.YtgldonfpiifnfaaRows
import Derived.Test.YtgldonfpiifnfaaLruAwake
import Derived.Test.YtgldonfpiifnfaaLruUA
import Derived.Test.YtgldonfpiifnfaaIter
import Derived.Test.YtgldonfpiifnfaaRowBase
import Derived.Deep.DeepCutAuto
import Derived.Deep.CutBlock
import Derived.Deep.DeepMust
import Derived.BigQuiet
import Derived.Deep.QuietTactic
set_option linter.unusedVariables false
namespace Go.Proofs.Ytgldonfpiifnfaa
open Go.RowKit

/-- The first j without a key. -/
def WF (X : Nat → Int) (k : Int) : Nat → List Int
  | 0 => []
  | j + 1 => if X j = k then WF X k j else WF X k j ++ [X j]
theorem WF_len (X : Nat → Int) (k : Int) (j : Nat) : (WF X k j).length ≤ j := by
  induction j with
  | zero => simp [WF]
  | succ j ih =>
    simp only [WF]
    split
    · omega
    · simp; omega
theorem WF_filter (xs : List Int) (k : Int) (j : Nat) (hj : j ≤ xs.length) : WF (fun i => xs.getD i 0) k j = (xs.take j).filter (fun x => decide (x ≠ k)) := by
  induction j with
  | zero => simp [WF]
  | succ j ih =>
    have hlt : j < xs.length := by omega
    have e : xs.getD j 0 = xs[j] := by simp [List.getD_eq_getElem?_getD, List.getElem?_eq_getElem hlt]
    simp only [WF]
    rw [ih (by omega), List.take_succ_eq_append_getElem hlt, List.filter_append, e]
    by_cases h : xs[j] = k <;> simp [h]
theorem filter_erase {l : List Int} (h : l.Nodup) (k : Int) : l.filter (fun x => decide (x ≠ k)) = l.erase k := by
  rw [List.Nodup.erase_eq_filter h]
  apply List.filter_congr
  intro x _
  simp [bne]
  rfl

set_option maxHeartbeats 800000 in
set_option maxRecDepth 100000 in
theorem without_core (A : Option Addr) (n cap : Nat) (X : Nat → Int) (k : Int) (w : World) (hm : n ≤ 1000000) (hcap : cap ≤ 9223372036854775807)
    (hc : n = 0 ∨ ∃ b off, A = some ⟨b, off, none⟩ ∧ ∀ j, j < n → w.cell? ⟨b, off + j, none⟩ = some (.int .i64 (X j))) :
    Calls Try.prog 31 #[.slice A n cap, .int .i64 k] w fun e w' => ∃ v', e = .returned v' ∧ SlO w' 3 1 v' (WF X k n).length ((WF X k n).map (Value.int .i64)) ∧ Kept (fun _ => False) w w' ∧ ∀ g, v'.ownBlock = some g → w.heap.size ≤ g := by
  obtain ⟨i0, hi0, hz0, hz1, hz2⟩ := info_parts Try.info_int
  have HC := Lib.hid hc; clear hc
  go_enter Try.func31, Try.ntmps31
  go_wp2_with fail
  go_loopw [10, 7, 5] (fun i _ o wr => ∃ (j : Nat), j ≤ n ∧ i = .int .i64 j ∧ Hid (SlO wr 3 1 o (WF X k j).length ((WF X k j).map (Value.int .i64))) ∧ Hid (Kept (fun _ => False) w wr) ∧ Hid (∀ g, o.ownBlock = some g → w.heap.size ≤ g)) (fun i _ _ _ => n - (intOf i).toNat)
  case atStart => exact ⟨0, Nat.zero_le _, rfl, SlO.nil _ _ _, Kept.refl _ _, by intro g hg; cases hg⟩
  case round =>
    obtain ⟨j, hj, rfl, hS, hK, hG⟩ := hrel
    by_cases hlt : j < n
    · rcases HC.out with h0 | ⟨kb, off, rfl, hc⟩
      · exact absurd h0 (by omega)
      have hcell : wr.cell? ⟨kb, off + j, none⟩ = some (.int .i64 (X j)) := hK.out.cell (hc j hlt) (by simp)
      clear hc HC
      have hl := WF_len X k j
      by_cases he : X j = k
      · have hb : (X j == k) = true := by simpa using he
        have he' : WF X k (j + 1) = WF X k j := by simp [WF, he]
        have HE := Lib.hid he'; clear he' he
        go_wp2_with fail
        go_roundw
        case rel => exact ⟨j + 1, by omega, by go_num, by rw [HE.out]; exact hS, hK, hG⟩
        case measure => simp [intOf]; omega
      · have hb : (X j == k) = false := by simpa using he
        have he' : WF X k (j + 1) = WF X k j ++ [X j] := by simp [WF, he]
        have HE := Lib.hid he'; clear he' he
        go_wp2_with (at_builtin; go_must (refine wpList_append_sl _ rfl (.tmp 17) (.tmp 19) 65 rfl 3 i0 (.int .i64 0) 1 8 Try.underlying65 hi0 hz0 hz1 hz2 rfl (by decide) _ (WF X k j).length _ rfl (hS.out.kept (Kept.alloc (fun _ => False) _ _) (by simp)) ⟨wr.heap.size, 0, none⟩ 1 1 [.int .i64 (X j)] rfl rfl (Go.cell_one_new _ _ _) ?c2 ?c3 ?c4 ?_))
        case c2 => intro u hu; simp at hu; subst hu; rfl
        case c3 => unfold maxLen; omega
        case c4 => omega
        · intro A' cap' w2 hs2 hg2 ho2 _
          have R1 := Lib.hid hs2; have R2 := Lib.hid hg2; have R3 := Lib.hid ho2
          clear hs2 hg2 ho2
          go_wp2_with fail
          go_roundw
          case rel =>
            refine ⟨j + 1, by omega, by go_num, ?_, ?_, ?_⟩
            · rw [HE.out, List.length_append, List.map_append]; exact R1.out
            · exact hK.out.andThen ((Kept.alloc (fun k => Value.ownBlock u5 = some k) wr _).trans (Kept.of_grownBy R2.out)) (fun _ _ h => h) (fun x hx h => by have := hG.out x h; omega)
            · intro g hg
              rcases R3.out with h | h
              · exact hG.out g (h ▸ hg)
              · have := hK.out.size; rw [hg] at h; simp at h; omega
          case measure => simp [intOf]; omega
    · have hjn : j = n := by omega
      subst hjn
      go_wp2_with fail
      go_ret
      exact ⟨_, rfl, hS.out, hK.out, hG.out⟩

theorem without_any (v : Value) (xs : List Int) (k : Int) (w : World) (hnd : xs.Nodup) (hsm : xs.length ≤ 1000000) (hs : SlO w 3 1 v xs.length (xs.map (Value.int .i64))) :
    Calls Try.prog 31 #[v, .int .i64 k] w fun e w' => ∃ v', e = .returned v' ∧ SlO w' 3 1 v' (xs.erase k).length ((xs.erase k).map (Value.int .i64)) ∧ Kept (fun _ => False) w w' ∧ ∀ g, v'.ownBlock = some g → w.heap.size ≤ g := by
  have e : WF (fun i => xs.getD i 0) k xs.length = xs.erase k := by rw [WF_filter xs k _ (Nat.le_refl _), List.take_length, filter_erase hnd]
  rw [← e]
  rcases hs.form with ⟨rfl, h0, _⟩ | ⟨g, cap, rfl, h2, h3, _, _, h4⟩
  · rw [h0]
    exact without_core none 0 0 _ k w (by omega) (by omega) (.inl rfl)
  · refine without_core (some ⟨g, 0, none⟩) xs.length cap _ k w hsm h3 (.inr ⟨g, 0, rfl, fun j hj => ?_⟩)
    rw [Nat.zero_add]
    exact h4 j _ (by simp [List.getElem?_map, List.getElem?_eq_getElem hj, List.getD_eq_getElem?_getD])

theorem erase_len (L : List Int) (k : Int) : decide ((L.erase k).length < L.length) = decide (k ∈ L) := by
  by_cases h : k ∈ L
  · have h1 := List.length_erase_of_mem h
    have h2 := List.length_pos_of_mem h
    have h3 : (L.erase k).length < L.length := by omega
    rw [decide_eq_true h3, decide_eq_true h]
  · rw [List.erase_of_not_mem h]; simp [h]

/-- What the loop keeps. -/
structure Sc (B b : Nat) (w wr : World) (L : List Int) (v wv : Value) : Prop where
  nd : L.Nodup
  at_ : LAt wr 67 3 b v (L.map (Value.int .i64))
  want : SlO wr 3 1 wv L.length (L.map (Value.int .i64))
  past : Past B b v
  apart : ∀ g, wv.ownBlock = some g → B ≤ g ∧ g ≠ b ∧ v.ownBlock ≠ some g
  kept : Kept (fun _ => False) w wr

theorem Sc.step {B b : Nat} {w wr wa : World} {L : List Int} {v wv : Value} (h : Sc B b w wr L v wv) (hk : Kept (fun _ => False) wr wa) : Sc B b w wa L v wv :=
  ⟨h.nd, h.at_.kept hk (by simp) (by simp), h.want.kept hk (by simp), h.past, h.apart, h.kept.trans hk⟩
theorem Sc.cell {B b : Nat} {w wr : World} {L : List Int} {v : Value} {A : Option Addr} {n cap : Nat} (h : Sc B b w wr L v (.slice A n cap)) {m : Nat} (hm : m < L.length) : ∃ g, A = some ⟨g, 0, none⟩ ∧ wr.cell? ⟨g, m, none⟩ = some (.int .i64 (L.getD m 0)) := by
  rcases h.want.form with ⟨_, h0, _⟩ | ⟨g, cap', he, _, _, _, _, h4⟩
  · omega
  · injection he with he
    exact ⟨g, he, h4 m _ (by simp [List.getElem?_map, List.getElem?_eq_getElem hm, List.getD_eq_getElem?_getD])⟩
theorem slo_cell {w : World} {A : Option Addr} {n cap : Nat} {L : List Int} {e : TypeId} (h : SlO w e 1 (.slice A n cap) n (L.map (Value.int .i64))) {m : Nat} (hm : m < n) : ∃ g, A = some ⟨g, 0, none⟩ ∧ w.cell? ⟨g, m, none⟩ = some (.int .i64 (L.getD m 0)) := by
  have hl : L.length = n := by have := h.1; simpa using this
  rcases h.form with ⟨_, h0, _⟩ | ⟨g, cap', he, _, _, _, _, h4⟩
  · omega
  · injection he with he
    have hm' : m < L.length := by omega
    exact ⟨g, he, h4 m _ (by simp [List.getElem?_map, List.getElem?_eq_getElem hm', List.getD_eq_getElem?_getD])⟩
theorem nodup_end {l : List Int} (h : l.Nodup) (x : Int) : (l.erase x ++ [x]).Nodup := nodup_use h x

set_option maxHeartbeats 4000000 in
set_option maxRecDepth 100000 in
theorem script_core (a0 : Option Addr) (len0 cap0 : Nat) (X : Nat → Int) (w : World) (hr : Reads .u8 w a0 len0 cap0 X) :
    Calls Try.prog 11 #[.slice a0 len0 cap0] w fun e w' => e = .returned (.bool true) ∧ Below w.heap.size w w' := by
  obtain ⟨i0, hi0, hz0, hz1, hz2⟩ := info_parts Try.info_int
  obtain ⟨hlc, hm, hwf, hc⟩ := hr
  have HC := Lib.hid hc; clear hc
  have HW : Hid (∀ j, 0 ≤ X j ∧ X j ≤ 255) := fun j => by have := hwf j; simpa [Lit.wf, IntKind.min, IntKind.max, IntKind.signed, IntKind.bits] using this
  clear hwf
  go_enter Try.func11, Try.ntmps11
  go_wp2_with fail
  refine (awake15 _).mono ?_
  rintro e w1 ⟨rfl, hk1⟩
  have hS0 := Lib.hid (show Sc w.heap.size w1.heap.size w (w1.alloc (.cells #[.slice none 0 0] 67)) [] (.slice none 0 0) (.slice none 0 0) from
    ⟨List.Pairwise.nil, LAt.made w1 _ _, SlO.nil _ _ _, ⟨hk1.size, by simp [Value.ownBlock]⟩, by simp [Value.ownBlock], hk1.trans (Kept.alloc (fun _ => False) w1 _)⟩)
  go_upto_region 5 with fail
  generalize w1.alloc (.cells #[.slice none 0 0] 67) = w2 at *
  generalize w1.heap.size = b at *
  clear hk1
  go_cut [21, 22, 23] (fun s20 s21 s22 wx => ∃ n : Nat, n ≤ 200 ∧ n ≤ len0 ∧ s20 = .slice a0 n cap0 ∧ s21 = .int .i64 n ∧ s22 = .int .i64 0 ∧ wx = w2)
  case first =>
    by_cases hn : len0 ≤ 200
    all_goals
      go_wp2
      go_meet
      case rel => first | exact ⟨len0, hn, Nat.le_refl _, rfl, by simp, rfl, rfl⟩ | exact ⟨200, Nat.le_refl _, by omega, rfl, by simp, rfl, rfl⟩
  case rest =>
    obtain ⟨n, hn1, hn2, rfl, rfl, rfl, rfl⟩ := hcut
    go_wp2_with fail
    go_loopw [23, 4] (fun i wv wr => ∃ (j : Nat) (L : List Int) (v : Value), j ≤ n ∧ i = .int .i64 j ∧ L.length ≤ j ∧ Hid (Sc w.heap.size b w wr L v wv)) (fun i _ _ => n - (intOf i).toNat)
    case atStart => exact ⟨0, [], _, Nat.zero_le _, rfl, Nat.le_refl _, hS0⟩
    case round =>
      obtain ⟨j, L, v, hj, rfl, hLj, hS⟩ := hrel
      by_cases hlt : j < n
      · rcases HC.out with h0 | ⟨kb, off, rfl, hkb, hc⟩
        · exact absurd h0 (by omega)
        have hcell : wr.cell? ⟨kb, off + j, none⟩ = some (.int .u8 (X j)) := hS.out.kept.cell (hc j (by omega)) (by simp)
        obtain ⟨hx0, hx1⟩ := HW.out j
        clear hc HC
        obtain ⟨A, cap, rfl, _⟩ := hS.out.want.isSlice
        generalize X j = a at *
        have hk0 : 0 ≤ a % 8 := by omega
        have hk8 : a % 8 < 8 := by omega
        go_wp2_with fail
        have hle := erase_len L (a % 8)
        obtain ⟨had, hhad⟩ : ∃ had, had = decide (a % 8 ∈ L) := ⟨_, rfl⟩
        rw [← hhad] at hle
        have HAD := Lib.hid hhad; clear hhad
        refine (without_any _ L _ _ hS.out.nd (by omega) hS.out.want).mono ?_
        rintro e wa ⟨va, rfl, hsa, hka, hga⟩
        obtain ⟨Aa, capa, rfl, _⟩ := hsa.isSlice
        have hS1 := Lib.hid (hS.out.step hka)
        clear hsa hka hga hS
        go_wp2_with fail
        refine (has_int b v L _ _ hS1.out.at_).mono ?_
        rintro e w3 ⟨rfl, rfl⟩
        rw [← HAD.out]
        go_wp2_with fail
        refine (without_any _ L _ _ hS1.out.nd (by omega) hS1.out.want).mono ?_
        rintro e wb ⟨vb, rfl, hsb, hkb', hgb⟩
        obtain ⟨Ab, capb, rfl, _⟩ := hsb.isSlice
        have hS2 := Lib.hid (hS1.out.step hkb')
        have hel : (L.erase (a % 8)).length ≤ L.length := List.length_erase_le
        have hfresh : ∀ g, Value.ownBlock (.slice Ab (L.erase (a % 8)).length capb) = some g → w.heap.size ≤ g ∧ g ≠ b ∧ v.ownBlock ≠ some g := by
          intro g hg
          have h1 := hgb g hg
          have h2 := hS1.out.kept.size
          have h3 := lt_of_block hS1.out.at_.1
          exact ⟨by omega, by omega, fun h => by have := hS1.out.at_.2.lt h; omega⟩
        have hND := Lib.hid hS2.out.nd
        have hSB := Lib.hid hsb; have hF := Lib.hid hfresh
        clear hsb hkb' hgb hfresh hS1 hle
        go_upto_if 46 with fail
        go_cut [4] (fun wv wx => ∃ (L2 : List Int) (v2 : Value), L2.length ≤ j + 1 ∧ Hid (Sc w.heap.size b w wx L2 v2 wv))
        case first =>
          by_cases ha : 180 < a
          · go_wp2_with fail
            refine (drop_int b v L _ _ (by omega) hS2.out.at_).mono ?_
            rintro e w4 ⟨rfl, v4, hL4, hk4, hl4⟩
            rw [← HAD.out]
            have hS4 : Hid (Sc w.heap.size b w w4 (L.erase (a % 8)) v4 (.slice Ab (L.erase (a % 8)).length capb)) := by
              obtain ⟨hP, hK⟩ := hS2.out.past.step rfl hS2.out.kept hk4 (fun _ h => .inl h) hl4
              refine ⟨hS2.out.nd.erase _, hL4, hSB.out.kept hk4 (fun g hg h => (hF.out g hg).2.1 h), hP, fun g hg => ⟨(hF.out g hg).1, (hF.out g hg).2.1, fun h => ?_⟩, hK⟩
              rcases hl4 with h' | ⟨g', h', hle'⟩
              · exact (hF.out g hg).2.2 (h' ▸ h)
              · rw [h] at h'; injection h' with h'; have := hSB.out.lt hg; omega
            clear hL4 hk4 hl4
            go_wp2_with fail
            go_meet
            case rel => exact ⟨_, v4, by omega, hS4⟩
          · go_wp2_with fail
            refine (use_int b v L _ _ (by omega) hS2.out.at_).mono ?_
            rintro e w4 ⟨rfl, v4, hL4, hk4, hl4⟩
            rw [← HAD.out]
            obtain ⟨hP, hK⟩ := hS2.out.past.step rfl hS2.out.kept hk4 (fun _ h => h) hl4
            have hsb4 := hSB.out.kept hk4 (by rintro g hg (h | h); exact (hF.out g hg).2.1 h; exact (hF.out g hg).2.2 h)
            have hap : Hid (∀ g, Value.ownBlock (.slice Ab (L.erase (a % 8)).length capb) = some g → w.heap.size ≤ g ∧ g ≠ b ∧ v4.ownBlock ≠ some g) := by
              intro g hg
              refine ⟨(hF.out g hg).1, (hF.out g hg).2.1, fun h => ?_⟩
              rcases hl4 with h' | ⟨g', h', hle'⟩
              · exact (hF.out g hg).2.2 (h' ▸ h)
              · rw [h] at h'; injection h' with h'; have := hSB.out.lt hg; omega
            have HSB := Lib.hid hsb4; have HL := Lib.hid hL4; have HP := Lib.hid hP; have HK := Lib.hid hK
            clear hL4 hk4 hl4 hP hK hsb4 hS2 hSB
            go_wp2_with (at_builtin; go_must (refine wpList_append_sl _ rfl (.tmp 57) (.tmp 59) 65 rfl 3 i0 (.int .i64 0) 1 8 Try.underlying65 hi0 hz0 hz1 hz2 rfl (by decide) _ (L.erase (a % 8)).length _ rfl (HSB.out.kept (Kept.alloc (fun _ => False) _ _) (by simp)) ⟨w4.heap.size, 0, none⟩ 1 1 [.int .i64 (a % 8)] rfl rfl (Go.cell_one_new _ _ _) ?c2 ?c3 ?c4 ?_))
            case c2 => intro u hu; simp at hu; subst hu; rfl
            case c3 => unfold maxLen; omega
            case c4 => omega
            · intro A' cap' w5 hs5 hg5 ho5 _
              have hk5 : Kept (fun k => Value.ownBlock (.slice Ab (L.erase (a % 8)).length capb) = some k) w4 w5 := (Kept.alloc _ w4 _).trans (Kept.of_grownBy hg5)
              have hS5 : Hid (Sc w.heap.size b w w5 (L.erase (a % 8) ++ [a % 8]) v4 (.slice A' ((L.erase (a % 8)).length + 1) cap')) := by
                refine ⟨nodup_end ?_ _, HL.out.kept hk5 (fun h => (hap.out b h).2.1 rfl) (fun g hg h => (hap.out g h).2.2 hg), by rw [List.map_append, List.length_append]; exact hs5, HP.out, fun g hg => ?_, HK.out.andThen hk5 (fun _ _ h => h) (fun x hx h => by have := (hap.out x h).1; omega)⟩
                · exact hND.out
                · rcases ho5 with h | h
                  · exact hap.out g (h ▸ hg)
                  · rw [hg] at h
                    have h1 := HK.out.size
                    have h2 := lt_of_block HL.out.1
                    simp at h
                    exact ⟨by omega, by omega, fun h' => by have := HL.out.2.lt h'; omega⟩
              clear hs5 hg5 ho5 hk5
              go_wp2_with fail
              go_meet
              case rel => exact ⟨_, v4, by simp; omega, hS5⟩
        case rest =>
          obtain ⟨L2, v2, hlen2, hS3⟩ := hcut
          obtain ⟨A2, cap2, rfl, _⟩ := hS3.out.want.isSlice
          clear hSB hF hND hS2 hel
          go_wp2_with fail
          refine (gather_int b v2 L2 _ (by omega) hS3.out.at_).mono ?_
          rintro e w6 ⟨v6, rfl, hs6, hk6, hg6⟩
          obtain ⟨A6, cap6, rfl, _⟩ := hs6.isSlice
          have hS6 := Lib.hid (hS3.out.step hk6)
          have HG := Lib.hid hs6
          clear hs6 hk6 hg6 hS3
          obtain ⟨p, hp⟩ : ∃ p, p = L2.length := ⟨_, rfl⟩
          have HP := Lib.hid hp
          rw [← hp] at HG hlen2 ⊢
          clear hp
          go_wp2_with fail
          refine (len_int b v2 L2 _ hS6.out.at_).mono ?_
          rintro e w7 ⟨rfl, rfl⟩
          rw [← HP.out]
          go_wp2_with fail
          go_loopw [77, 10] (fun i _ wx => ∃ m : Nat, m ≤ p ∧ i = .int .i64 m ∧ Hid (Sc w.heap.size b w wx L2 v2 (.slice A2 p cap2)) ∧ Hid (SlO wx 3 1 (.slice A6 p cap6) p (L2.map (Value.int .i64)))) (fun i _ _ => p - (intOf i).toNat)
          case atStart => exact ⟨0, Nat.zero_le _, rfl, by rw [HP.out]; exact hS6, HG⟩
          case round =>
            obtain ⟨m, hmp, rfl, hSx, hGx⟩ := hrel
            by_cases hlt2 : m < p
            · obtain ⟨g2, rfl, hc2⟩ := hSx.out.cell (m := m) (by rw [← HP.out]; exact hlt2)
              obtain ⟨g6, rfl, hc6⟩ := slo_cell hGx.out hlt2
              clear hcell
              generalize L2.getD m 0 = y at *
              have hyy : (y == y) = true := by simp
              go_wp2_with fail
              go_quiet (fail)
              go_wp2_with fail
              go_roundw
              case rel => exact ⟨m + 1, by omega, by go_num, hSx.out.step (Kept.drewN _ _ _), hGx.out.kept (Kept.drewN (fun _ => False) _ _) (by simp)⟩
              case measure => simp [intOf]; omega
            · have hmp2 : m = p := by omega
              subst hmp2
              clear hcell hGx HG hS6 hlt2 hmp
              cases L2 with
              | nil =>
                have hm0 : m = 0 := HP.out
                subst hm0
                go_wp2_with fail
                refine (oldest_nil_int b v2 _ hSx.out.at_).mono ?_
                rintro e w8 ⟨rfl, rfl⟩
                go_wp2_with fail
                go_roundw
                case rel => exact ⟨j + 1, [], v2, by omega, by go_num, by simp, hSx⟩
                case measure => simp [intOf]; omega
              | cons y L3 =>
                obtain ⟨g2, rfl, hc2⟩ := hSx.out.cell (m := 0) (by simp)
                have hy : (y :: L3).getD 0 0 = y := rfl
                rw [hy] at hc2
                have hm1 : 0 < m := by rw [HP.out]; simp
                have hyy : (y == y) = true := by simp
                clear hy
                go_wp2_with fail
                refine (oldest_cons_int b v2 y L3 _ hSx.out.at_).mono ?_
                rintro e w8 ⟨rfl, rfl⟩
                go_wp2_with fail
                go_roundw
                case rel => exact ⟨j + 1, _, v2, by omega, by go_num, by rw [← HP.out]; omega, hSx⟩
                case measure => simp [intOf]; omega
      · have hjn : j = n := by omega
        subst hjn
        go_wp2_with fail
        go_ret
        exact ⟨rfl, hS.out.kept.below (Nat.le_refl _) (fun _ h => h.elim)⟩

namespace lruScript
open Go.ChangeShapes Go.WideShapes Go.ChangeAt Go.RowKit
open Go.ChangeMaps (open_string shut_string)
theorem own : ownKnob Try.prog.godebug = none := by kernel_rfl
theorem laidOut : laidOutB Try.prog = true := by kernel_rfl

set_option maxRecDepth 100000 in
theorem lifted (os : Os) (started : os.Started) (H : Type) (enc : TypeId × Value → H) :
    ReturnsInHanded {} Try.checked os 11 .any (Rows.lruScriptSpec.pre6 enc Try.prog Try.f11 Rows.lruScriptRow.domain false) (Rows.lruScriptSpec.post enc Try.prog Try.f11 false true false false) := by
  refine returnsInHanded_of_change (C := Try.checked) own started (by kernel_rfl) Try.func11
    (ChangeSpec.witness6 (enc := enc) (C := Try.checked) false ⟨#[], #[.slice none 0 0], []⟩ 8 (by kernel_rfl) (by kernel_rfl) (by kernel_rfl) (by kernel_rfl)) ?_
  intro W base args ds gs before hval0 hW hcnd _
  have hval : ∀ (j : Nat) t v, Try.f11.params[j]? = some t → args[j]? = some v → Value.okWide Try.prog W .any base t v := hval0
  have hW' := hW
  obtain ⟨p, q, hA0, hV, rfl, hfz, hnd⟩ := hW
  have hA : DataW.TrodAll enc Try.prog W 0 (fun _ => true) true Try.f11.params.toList args.toList ds p := hA0
  rw [Try.params11] at hA hval
  obtain ⟨v0, vs0, d0, ds0, p0, q0, hargs, rfl, rfl, h0, r0⟩ := trodAll_cons hA
  obtain ⟨rfl, rfl, rfl⟩ := trodAll_nil r0
  obtain rfl : args = #[v0] := by cases args; simp_all
  obtain ⟨rfl, rfl⟩ := trodVars_none hV
  obtain ⟨a0, len0, cap0, rfl⟩ := okWide_slice Try.underlying22 (hval 0 22 v0 rfl rfl)
  have k0 := h0
  have lt0 : ∀ x ∈ p0, x.block < W.heap.size := by obtain ⟨m, hm⟩ := k0; exact DataW.trod_lt m _ _ _ hm
  obtain ⟨z0, w0⟩ : ∃ zs, IsRow .u8 W a0 len0 cap0 zs := by
    obtain ⟨fuel, hf⟩ := h0
    rcases open_ints Try.underlying22 Try.underlying5 (by kernel_rfl) hf with ⟨hcs, _⟩ | ⟨x, l, c, zs, hcs, _, hl, hm, hz, _, hcell, hwz⟩
    · simp [Value.cells] at hcs
      obtain ⟨rfl, rfl, rfl⟩ := hcs
      exact ⟨[], .inl ⟨rfl, rfl, rfl, rfl⟩⟩
    · simp [Value.cells] at hcs
      obtain ⟨rfl, rfl, rfl⟩ := hcs
      exact ⟨zs, .inr ⟨_, rfl, hl, hm, by simpa using hz, hcell, hwz⟩⟩
  have reads0 := w0.reads
  clear hA0 hval0
  refine (script_core a0 len0 cap0 _ W reads0).mono fun e W' ⟨he, bel⟩ => ?_
  subst he
  exact ⟨_, rfl, _, _, _, [], _, [], hW', trodAll_mk1 (shut_bool Try.underlying4 _), (trodAll_cons_mk (Below.trod laidOut (by kernel_rfl) (of_decide_eq_true (by kernel_rfl)) k0 bel lt0) trodAll_mk0), rfl, bel.frame _, fun h => by cases h⟩

theorem over : Rows.lruScriptRow.holds Try.pinned (OpenSpec.ofChange Rows.lruScriptSpec) :=
  OpenClaim.holds_of_wide 11 Try.f11 rfl rfl rfl rfl rfl rfl rfl ⟨rfl, rfl, rfl, rfl, rfl⟩ rfl rfl rfl rfl rfl (by kernel_rfl) Try.func11 (by kernel_rfl)
    (of_decide_eq_true (by kernel_rfl)) (by unfold Func.isWrapper; first | (rw [if_pos (by decide +kernel)]; kernel_rfl) | (rw [if_neg (by decide +kernel)]; exact ⟨rfl, rfl⟩))
    (fun os started H enc _ => lifted os started H enc)

theorem proved : Rows.LruScriptSaid := over
end lruScript

end Go.Proofs.Ytgldonfpiifnfaa
