/- LruWords: for every input the law returns true: keys of any kind are kept likewise. No condition. -/
import Derived.Test.YtgldonfpiifnfaaRows
import Derived.Test.YtgldonfpiifnfaaLruAwake
import Derived.Test.YtgldonfpiifnfaaIter
import Derived.Test.YtgldonfpiifnfaaRowBase
import Derived.Test.YtgldonfpiifnfaaNe
import Derived.Deep.DeepCutAuto
import Derived.Deep.CutBlock
import Derived.Deep.CutRange
import Derived.Laws.BytesString
import Derived.Deep.QuietTactic
set_option linter.unusedVariables false
namespace Go.Proofs.Ytgldonfpiifnfaa
open Go.RowKit

/-- A key's word: one letter. -/
def word (x : Int) : ByteArray := ByteArray.empty.push (UInt8.ofNat (97 + x).toNat)
theorem word_data (x : Int) : (word x).data = #[UInt8.ofNat (97 + x).toNat] := rfl
theorem word_inj {x y : Int} (hx : 0 ≤ x ∧ x < 8) (hy : 0 ≤ y ∧ y < 8) (h : word x = word y) : x = y := by
  have h1 := congrArg ByteArray.data h
  rw [word_data, word_data] at h1
  have h2 : UInt8.ofNat (97 + x).toNat = UInt8.ofNat (97 + y).toNat := by simpa using h1
  have h3 := congrArg UInt8.toNat h2
  simp only [UInt8.toNat_ofNat'] at h3
  omega
theorem word_mem {L : List Int} {x : Int} (hL : ∀ y ∈ L, 0 ≤ y ∧ y < 8) (hx : 0 ≤ x ∧ x < 8) : (word x ∈ L.map word) ↔ x ∈ L := by
  constructor
  · intro h
    obtain ⟨y, hy, he⟩ := List.mem_map.1 h
    rw [← word_inj (hL y hy) hx he]
    exact hy
  · intro h
    exact List.mem_map.2 ⟨x, h, rfl⟩
theorem word_erase {L : List Int} {x : Int} (hL : ∀ y ∈ L, 0 ≤ y ∧ y < 8) (hx : 0 ≤ x ∧ x < 8) : (L.map word).erase (word x) = (L.erase x).map word := by
  induction L with
  | nil => rfl
  | cons y L ih =>
    have ih := ih (fun z hz => hL z (List.mem_cons_of_mem _ hz))
    by_cases h : y = x
    · subst h; simp
    · have h' : word y ≠ word x := fun e => h (word_inj (hL y (by simp)) hx e)
      rw [List.map_cons, List.erase_cons_tail (by simpa using h'), List.erase_cons_tail (by simpa using h), List.map_cons, ih]

/-- Both lists, of any keys. -/
structure Wd (w W : World) (bl bm : Nat) (Ls : List ByteArray) (Li : List Int) (vl vm : Value) : Prop where
  s : LAt W 76 9 bl vl (Ls.map Value.string)
  i : LAt W 67 3 bm vm (Li.map (Value.int .i64))
  ps : ∀ k, (k = bl ∨ vl.ownBlock = some k) → w.heap.size ≤ k
  pi : ∀ k, (k = bm ∨ vm.ownBlock = some k) → w.heap.size ≤ k
  kept : Kept (fun _ => False) w W
theorem Wd.past {w W : World} {b : Nat} {v v' : Value} (hs : w.heap.size ≤ W.heap.size) (h : ∀ k, (k = b ∨ v.ownBlock = some k) → w.heap.size ≤ k) (hl : Lies W v v') : ∀ k, (k = b ∨ v'.ownBlock = some k) → w.heap.size ≤ k := by
  rintro k (rfl | hk)
  · exact h _ (.inl rfl)
  · rcases hl with h' | ⟨g', h', hle⟩
    · exact h k (.inr (h' ▸ hk))
    · rw [h'] at hk; injection hk with hk; omega
theorem Wd.setS {w W W' : World} {bl bm : Nat} {Ls Ls' : List ByteArray} {Li : List Int} {vl vm vl' : Value} (h : Wd w W bl bm Ls Li vl vm)
    (hL : LAt W' 76 9 bl vl' (Ls'.map Value.string)) (hk : Kept (fun x => x = bl ∨ vl.ownBlock = some x) W W') (hl : Lies W vl vl') : Wd w W' bl bm Ls' Li vl' vm := by
  have hne := lats_ne h.s h.i (by decide) (by decide) (by decide) (by decide)
  exact ⟨hL, h.i.kept hk (fun h' => hne _ h' (.inl rfl)) (fun g hg h' => hne _ h' (.inr hg)), Wd.past h.kept.size h.ps hl, h.pi, h.kept.andThen hk (fun _ _ h => h) (fun k hk' h' => by have := h.ps k h'; omega)⟩
theorem Wd.setI {w W W' : World} {bl bm : Nat} {Ls : List ByteArray} {Li Li' : List Int} {vl vm vm' : Value} (h : Wd w W bl bm Ls Li vl vm)
    (hL : LAt W' 67 3 bm vm' (Li'.map (Value.int .i64))) (hk : Kept (fun x => x = bm ∨ vm.ownBlock = some x) W W') (hl : Lies W vm vm') : Wd w W' bl bm Ls Li' vl vm' := by
  have hne := lats_ne h.s h.i (by decide) (by decide) (by decide) (by decide)
  exact ⟨h.s.kept hk (fun h' => hne _ (.inl rfl) h') (fun g hg h' => hne _ (.inr hg) h'), hL, h.ps, Wd.past h.kept.size h.pi hl, h.kept.andThen hk (fun _ _ h => h) (fun k hk' h' => by have := h.pi k h'; omega)⟩
theorem Wd.keep {w W W' : World} {bl bm : Nat} {Ls : List ByteArray} {Li : List Int} {vl vm : Value} (h : Wd w W bl bm Ls Li vl vm) (hk : Kept (fun _ => False) W W') : Wd w W' bl bm Ls Li vl vm :=
  ⟨h.s.kept hk (by simp) (by simp), h.i.kept hk (by simp) (by simp), h.ps, h.pi, h.kept.trans hk⟩

theorem run_word (w : World) (q : Nat) (x : Int) (h : w.cell? ⟨q, 0, none⟩ = some (.int .u8 (97 + x))) :
    (convert 22 9 (.slice (some ⟨q, 0, none⟩) 1 1)).run Try.prog w = .ok (.string (word x)) w := by
  rw [run_convert_bytes_string w _ _ 5 _ _ _ Try.underlying22 Try.underlying5 Try.underlying9]
  rw [run_bytesToString w _ 1 1 [97 + x]]
  · rfl
  · simp [loadCells, go_sem, h]

theorem run_letter (w : World) (y : Int) (hy : 0 ≤ y ∧ y < 8) : (Instr.index 9 (.string (word y)) (.int .i64 0)).run Try.prog w = .ok (.int .u8 (97 + y)) w := by
  rw [run_index_string (w := w) 9 _ _ _ Try.underlying9, dif_pos ⟨by omega, by show (0 : Int) < ((word y).data.size : Int); rw [word_data]; simp⟩]
  have h1 : (word y)[(0 : Int).toNat]'(by show 0 < (word y).data.size; rw [word_data]; simp) = UInt8.ofNat (97 + y).toNat := rfl
  rw [h1]
  simp
  omega

set_option maxHeartbeats 2000000 in
set_option maxRecDepth 100000 in
theorem words_core (a0 : Option Addr) (len0 cap0 : Nat) (X : Nat → Int) (w : World) (hr : Reads .u8 w a0 len0 cap0 X) :
    Calls Try.prog 12 #[.slice a0 len0 cap0] w fun e w' => e = .returned (.bool true) ∧ Below w.heap.size w w' := by
  obtain ⟨hlc, hm, hwf, hc⟩ := hr
  have HC := Lib.hid hc; clear hc
  have HW := Lib.hid hwf; clear hwf
  go_enter Try.func12, Try.ntmps12
  go_wp2_with fail
  refine (awake15 _).mono ?_
  rintro e w1 ⟨rfl, hk1⟩
  have hWd := Lib.hid (show Wd w ((w1.alloc (.cells #[.slice none 0 0] 76)).alloc (.cells #[.slice none 0 0] 67)) w1.heap.size (w1.heap.size + 1) [] [] (.slice none 0 0) (.slice none 0 0) by
    have k1 := Kept.alloc (fun _ => False) w1 (.cells #[.slice none 0 0] 76)
    have k2 := Kept.alloc (fun _ => False) (w1.alloc (.cells #[.slice none 0 0] 76)) (.cells #[.slice none 0 0] 67)
    have hs := hk1.size
    have hi := LAt.made (w1.alloc (.cells #[.slice none 0 0] 76)) 67 3
    rw [World.size_alloc] at hi
    refine ⟨(LAt.made w1 _ _).kept k2 (by simp) (by simp), hi, ?_, ?_, hk1.trans (k1.trans k2)⟩
    · rintro k (rfl | hk)
      · exact hs
      · simp [Value.ownBlock] at hk
    · rintro k (rfl | hk)
      · omega
      · simp [Value.ownBlock] at hk)
  go_upto_region 4 with fail
  generalize (w1.alloc (.cells #[.slice none 0 0] 76)).alloc (.cells #[.slice none 0 0] 67) = w2 at *
  generalize w1.heap.size + 1 = bm at *
  generalize w1.heap.size = bl at *
  clear hk1
  go_cut [21, 22, 23] (fun s20 s21 s22 wx => ∃ n : Nat, n ≤ 100 ∧ n ≤ len0 ∧ s20 = .slice a0 n cap0 ∧ s21 = .int .i64 n ∧ s22 = .int .i64 0 ∧ wx = w2)
  case first =>
    by_cases hn : len0 ≤ 100
    all_goals
      go_wp2
      go_meet
      case rel => first | exact ⟨len0, hn, Nat.le_refl _, rfl, by simp, rfl, rfl⟩ | exact ⟨100, Nat.le_refl _, by omega, rfl, by simp, rfl, rfl⟩
  case rest =>
    obtain ⟨n, hn1, hn2, rfl, rfl, rfl, rfl⟩ := hcut
    go_wp2
    go_loopw [23, 6, 7] (fun i _ _ wr => ∃ (j : Nat) (L : List Int) (vl vm : Value), j ≤ n ∧ i = .int .i64 j ∧ L.length ≤ j ∧ Hid (∀ y ∈ L, 0 ≤ y ∧ y < 8) ∧ Hid (Wd w wr bl bm (L.map word) L vl vm)) (fun i _ _ _ => n - (intOf i).toNat)
    case atStart => exact ⟨0, [], _, _, Nat.zero_le _, rfl, Nat.le_refl _, Lib.hid (by simp), hWd⟩
    case round =>
      obtain ⟨j, L, vl, vm, hj, rfl, hll, hLr, hD⟩ := hrel
      clear hWd
      by_cases hlt : j < n
      · rcases HC.out with h0 | ⟨kb, off, rfl, hkb, hc⟩
        · exact absurd h0 (by omega)
        have hcell : wr.cell? ⟨kb, off + j, none⟩ = some (.int .u8 (X j)) := hD.out.kept.cell (hc j (by omega)) (by simp)
        clear hc HC
        have hwx := HW.out j
        generalize X j = x at *
        have hx0 : 0 ≤ x := by simp [Lit.wf, IntKind.min, IntKind.max, IntKind.signed, IntKind.bits] at hwx; omega
        have hx1 : x < 256 := by simp [Lit.wf, IntKind.min, IntKind.max, IntKind.signed, IntKind.bits] at hwx; omega
        clear hwx
        have HM := Lib.hid (show 0 ≤ x % 8 ∧ x % 8 < 8 by omega)
        have hconv := run_word (wr.alloc (.cells #[.int .u8 (97 + x % 8)] 5)) wr.heap.size (x % 8) (cell_of_one (heap_alloc_new wr _))
        have hD8 := Lib.hid (hD.out.keep (Kept.alloc (fun _ => False) wr (.cells #[.int .u8 (97 + x % 8)] 5)))
        go_upto_region 8 with fail
        clear hconv hcell
        generalize wr.alloc (.cells #[.int .u8 (97 + x % 8)] 5) = w8 at *
        obtain ⟨had, hhad⟩ : ∃ had : Bool, decide (x % 8 ∈ L) = had := ⟨_, rfl⟩
        have HH1 : Hid (decide (word (x % 8) ∈ L.map word) = had) := Lib.hid (by rw [← hhad]; exact decide_eq_decide.2 (word_mem hLr.out HM.out))
        have HH2 := Lib.hid hhad; clear hhad
        by_cases h200 : 200 < x
        · have h201 : ¬ x ≤ 200 := by omega
          go_wp2_with fail
          refine (drop_str bl vl (L.map word) (word (x % 8)) _ (by rw [List.length_map]; omega) hD8.out.s).mono ?_
          rintro e w9 ⟨he, vl', hL9, hk9, hl9⟩
          rw [HH1.out] at he
          subst he
          have hD9 := Lib.hid (hD8.out.setS hL9 (hk9.mono (fun _ _ h => .inl h)) hl9)
          clear hL9 hk9 hl9
          go_wp2_with fail
          refine (drop_int bm vm L (x % 8) _ (by omega) hD9.out.i).mono ?_
          rintro e w10 ⟨he, vm', hL9, hk9, hl9⟩
          rw [HH2.out] at he
          subst he
          have hD10 := Lib.hid (hD9.out.setI hL9 (hk9.mono (fun _ _ h => .inl h)) hl9)
          clear hL9 hk9 hl9
          go_wp2_with fail
          go_roundw
          case rel =>
            refine ⟨j + 1, L.erase (x % 8), vl', vm', by omega, by go_num, by have := List.length_erase_le (a := x % 8) (l := L); omega, Lib.hid (fun y hy => hLr.out y (List.mem_of_mem_erase hy)), ?_⟩
            have h := hD10.out
            rw [word_erase hLr.out HM.out] at h
            exact Lib.hid (by simpa only [List.map_append, List.map_cons, List.map_nil] using h)
          case measure => simp [intOf]; omega
        · have h201 : x ≤ 200 := by omega
          go_wp2_with fail
          refine (use_str bl vl (L.map word) (word (x % 8)) _ (by rw [List.length_map]; omega) hD8.out.s).mono ?_
          rintro e w9 ⟨he, vl', hL9, hk9, hl9⟩
          rw [HH1.out] at he
          subst he
          have hD9 := Lib.hid (hD8.out.setS hL9 (hk9.mono (fun _ _ h => h)) hl9)
          clear hL9 hk9 hl9
          go_wp2_with fail
          refine (use_int bm vm L (x % 8) _ (by omega) hD9.out.i).mono ?_
          rintro e w10 ⟨he, vm', hL9, hk9, hl9⟩
          rw [HH2.out] at he
          subst he
          have hD10 := Lib.hid (hD9.out.setI hL9 (hk9.mono (fun _ _ h => h)) hl9)
          clear hL9 hk9 hl9
          go_wp2_with fail
          go_roundw
          case rel =>
            refine ⟨j + 1, L.erase (x % 8) ++ [x % 8], vl', vm', by omega, by go_num, by have := List.length_erase_le (a := x % 8) (l := L); simp; omega, Lib.hid (fun y hy => by rcases List.mem_append.1 hy with h | h; exact hLr.out y (List.mem_of_mem_erase h); simp at h; subst h; exact HM.out), ?_⟩
            have h := hD10.out
            rw [word_erase hLr.out HM.out] at h
            exact Lib.hid (by simpa only [List.map_append, List.map_cons, List.map_nil] using h)
          case measure => simp [intOf]; omega
      · have hjn : j = n := by omega
        subst hjn
        clear hlt
        have hlm : (L.map word).length ≤ 1000000 := by rw [List.length_map]; omega
        go_wp2_with fail
        refine (gather_str bl vl (L.map word) _ hlm hD.out.s).mono ?_
        rintro e w3 ⟨va, rfl, hsa, hka, hga⟩
        obtain ⟨Aa, capa, rfl, _⟩ := hsa.isSlice
        rw [List.length_map] at hsa
        have hD3 := Lib.hid (hD.out.keep hka)
        have HSA := Lib.hid hsa
        clear hsa hka hga hlm hD
        rw [List.length_map]
        go_wp2_with fail
        refine (gather_int bm vm L _ (by omega) hD3.out.i).mono ?_
        rintro e w4 ⟨vb, rfl, hsb, hkb, hgb⟩
        obtain ⟨Ab, capb, rfl, _⟩ := hsb.isSlice
        have hD4 := Lib.hid (hD3.out.keep hkb)
        have HSA4 := Lib.hid (HSA.out.kept hkb (by simp))
        have HSB4 := Lib.hid hsb
        clear hsb hkb hgb hD3 HSA
        have hbe : ((L.length : Int) != (L.length : Int)) = false := by simp
        go_wp2_with fail
        go_loopw [72, 10] (fun i _ wx => ∃ q : Nat, q ≤ L.length ∧ i = .int .i64 q ∧ Hid (Kept (fun _ => False) w4 wx)) (fun i _ _ => L.length - (intOf i).toNat)
        case atStart => exact ⟨0, Nat.zero_le _, rfl, Kept.refl _ _⟩
        case round =>
          obtain ⟨q, hq, rfl, hK⟩ := hrel
          by_cases hqt : q < L.length
          · have hk' := hK.out
            obtain ⟨y, hy⟩ : ∃ y, L[q]? = some y := ⟨L[q], List.getElem?_eq_getElem hqt⟩
            have hyr := hLr.out y (List.mem_of_getElem? hy)
            obtain ⟨ga, rfl, ca⟩ : ∃ g, Aa = some ⟨g, 0, none⟩ ∧ wr.cell? ⟨g, q, none⟩ = some (.string (word y)) := by
              rcases HSA4.out.form with ⟨_, h0, _⟩ | ⟨g', cap', he, _, _, _, _, h4⟩
              · omega
              · injection he with he
                exact ⟨g', he, hk'.cell (h4 q _ (by simp [hy])) (by simp)⟩
            obtain ⟨gb, rfl, cb⟩ : ∃ g, Ab = some ⟨g, 0, none⟩ ∧ wr.cell? ⟨g, q, none⟩ = some (.int .i64 y) := by
              rcases HSB4.out.form with ⟨_, h0, _⟩ | ⟨g', cap', he, _, _, _, _, h4⟩
              · omega
              · injection he with he
                exact ⟨g', he, hk'.cell (h4 q _ (by simp [hy])) (by simp)⟩
            have hy0 := hyr.1
            have hy1 := hyr.2
            have HK := Lib.hid hk'
            clear hk' hy hyr
            have hix : ∀ W, (Instr.index 9 (.string (word y)) (.int .i64 0)).run Try.prog W = .ok (.int .u8 (97 + y)) W := fun W => run_letter W y ⟨hy0, hy1⟩
            go_upto_region 17 with fail
            generalize word y = s at *
            have hyy : (IntKind.i64.wrap (IntKind.u8.wrap (97 + y - 97)) != y) = false := by
              have e1 : IntKind.i64.wrap (IntKind.u8.wrap (97 + y - 97)) = y := by simp [IntKind.wrap, IntKind.bits, IntKind.signed]; omega
              rw [e1]; simp
            go_quiet (fail)
            go_wp2_with fail
            refine ⟨⟨q + 1, by omega, by go_num, Lib.hid (HK.out.trans (Kept.drewN _ _ _))⟩, ?_⟩
            simp [intOf]; omega
          · have hqn : q = L.length := by omega
            subst hqn
            go_wp2_with fail
            go_ret
            exact ⟨rfl, (hD4.out.kept.trans hK.out).below (Nat.le_refl _) (fun _ h => h.elim)⟩

namespace lruWords
open Go.ChangeShapes Go.WideShapes Go.ChangeAt Go.RowKit
open Go.ChangeMaps (open_string shut_string)
theorem own : ownKnob Try.prog.godebug = none := by kernel_rfl
theorem laidOut : laidOutB Try.prog = true := by kernel_rfl

set_option maxRecDepth 100000 in
theorem lifted (os : Os) (started : os.Started) (H : Type) (enc : TypeId × Value → H) :
    ReturnsInHanded {} Try.checked os 12 .any (Rows.lruWordsSpec.pre6 enc Try.prog Try.f12 Rows.lruWordsRow.domain false) (Rows.lruWordsSpec.post enc Try.prog Try.f12 false true false false) := by
  refine returnsInHanded_of_change (C := Try.checked) own started (by kernel_rfl) Try.func12
    (ChangeSpec.witness6 (enc := enc) (C := Try.checked) false ⟨#[], #[.slice none 0 0], []⟩ 8 (by kernel_rfl) (by kernel_rfl) (by kernel_rfl) (by kernel_rfl)) ?_
  intro W base args ds gs before hval0 hW hcnd _
  have hval : ∀ (j : Nat) t v, Try.f12.params[j]? = some t → args[j]? = some v → Value.okWide Try.prog W .any base t v := hval0
  have hW' := hW
  obtain ⟨p, q, hA0, hV, rfl, hfz, hnd⟩ := hW
  have hA : DataW.TrodAll enc Try.prog W 0 (fun _ => true) true Try.f12.params.toList args.toList ds p := hA0
  rw [Try.params12] at hA hval
  obtain ⟨v0, vs0, d0, ds0, p0, q0, hargs, rfl, rfl, h0, r0⟩ := trodAll_cons hA
  obtain ⟨rfl, rfl, rfl⟩ := trodAll_nil r0
  obtain rfl : args = #[v0] := by cases args; simp_all
  obtain ⟨rfl, rfl⟩ := trodVars_none hV
  obtain ⟨a0, len0, cap0, rfl⟩ := okWide_slice Try.underlying22 (hval 0 22 v0 rfl rfl)
  have k0 := h0
  have lt0 : ∀ x ∈ p0, x.block < W.heap.size := by obtain ⟨m, hm⟩ := k0; exact DataW.trod_lt m _ _ _ hm
  obtain ⟨z0, w0⟩ : ∃ zs, IsRow .u8 W a0 len0 cap0 zs := by
    obtain ⟨fuel, hf⟩ := h0
    rcases open_ints Try.underlying22 Try.underlying5 (by kernel_rfl) hf with ⟨hcs, _⟩ | ⟨x, l, c, zs, hcs, _, hl, hm, hz, _, hcell, hwz⟩
    · simp [Value.cells] at hcs
      obtain ⟨rfl, rfl, rfl⟩ := hcs
      exact ⟨[], .inl ⟨rfl, rfl, rfl, rfl⟩⟩
    · simp [Value.cells] at hcs
      obtain ⟨rfl, rfl, rfl⟩ := hcs
      exact ⟨zs, .inr ⟨_, rfl, hl, hm, by simpa using hz, hcell, hwz⟩⟩
  have reads0 := w0.reads
  clear hA0 hval0
  refine (words_core a0 len0 cap0 _ W reads0).mono fun e W' ⟨he, bel⟩ => ?_
  subst he
  exact ⟨_, rfl, _, _, _, [], _, [], hW', trodAll_mk1 (shut_bool Try.underlying4 _), (trodAll_cons_mk (Below.trod laidOut (by kernel_rfl) (of_decide_eq_true (by kernel_rfl)) k0 bel lt0) trodAll_mk0), rfl, bel.frame _, fun h => by cases h⟩

theorem over : Rows.lruWordsRow.holds Try.pinned (OpenSpec.ofChange Rows.lruWordsSpec) :=
  OpenClaim.holds_of_wide 12 Try.f12 rfl rfl rfl rfl rfl rfl rfl ⟨rfl, rfl, rfl, rfl, rfl⟩ rfl rfl rfl rfl rfl (by kernel_rfl) Try.func12 (by kernel_rfl)
    (of_decide_eq_true (by kernel_rfl)) (by unfold Func.isWrapper; first | (rw [if_pos (by decide +kernel)]; kernel_rfl) | (rw [if_neg (by decide +kernel)]; exact ⟨rfl, rfl⟩))
    (fun os started H enc _ => lifted os started H enc)

theorem proved : Rows.LruWordsSaid := over
end lruWords

end Go.Proofs.Ytgldonfpiifnfaa
