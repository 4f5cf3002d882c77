/- Atlases: the model's drop. -/
import Derived.Test.YtaccppchhljnkaaMdM
import Derived.Test.YtaccppchhljnkaaAtA
set_option linter.unusedVariables false
set_option linter.unusedSimpArgs false
namespace Go.Proofs.Ytaccppchhljnkaa
open Go.RowKit Go.Shelf Go.Proofs.YtaccppchhljnkaaW.PrintWords Go.Proofs.YtaccppchhljnkaaW.PrintLast Go.Proofs.YtaccppchhljnkaaW.PrintMore
def noK (k : ByteArray) (ks : List ByteArray) : List ByteArray := ks.filter (fun x => decide (x ≠ k))
theorem noK_erase {k : ByteArray} {ks : List ByteArray} (h : ks.Nodup) : noK k ks = ks.erase k := by
  rw [h.erase_eq_filter]; unfold noK
  congr 1; funext x; by_cases e : x = k <;> simp [e]
theorem noK_le (k : ByteArray) (ks : List ByteArray) : (noK k ks).length ≤ ks.length := List.length_filter_le _ _
set_option maxHeartbeats 2000000 in
set_option maxRecDepth 100000 in
theorem drop_c (W : World) (b w h pad : Nat) (c : MdC) (l : List Int) (ks : List ByteArray) (f : ByteArray → Option Rc) (n : Nat) (F : ByteArray → Option FV) (nF : Nat) (gn : List ByteArray) (a : MdRaw W b w h pad c l ks f n F nF gn) (hn : ks.length ≤ 1000) (k : ByteArray) :
    Calls Try.prog 26 #[.pointer (some ⟨b, 0, none⟩), .string k] W fun e w' => e = .returned (.tuple #[]) ∧ ∃ c', MdRaw w' b w h pad c' l (noK k ks) f n F nF gn ∧ MStep W b c w' c' := by
  have HA := Lib.hid a
  obtain ⟨c0, c1, c2, c3, c4, c5, c6, c7⟩ := a.cell
  have hks := a.ks
  obtain ⟨N, hN⟩ : ∃ N, ks.length = N := ⟨_, rfl⟩
  rw [hN] at hks hn
  obtain ⟨Ak, capk, hvk, hck⟩ := hks.isSlice
  rw [hvk] at hks c4
  have HS := Lib.hid hks
  have HN := Lib.hid hN; have HVK := Lib.hid hvk
  obtain ⟨i0, hi0, hz0, hz1, hz2⟩ := info_parts Try.info_strO
  clear c0 c1 c2 c3 c5 c6 c7 a hks hN hvk
  go_enter Try.func26, Try.ntmps26
  go_upto_region 2 with (fail)
  go_loopw [4, 12] (fun v4 v12 wr => ∃ (i : Nat), v12 = .int .i64 i ∧ i ≤ N ∧ Hid (SlO wr 9 1 v4 (noK k (ks.take i)).length ((noK k (ks.take i)).map Value.string)) ∧ Hid (Below W.heap.size W wr) ∧ Hid (∀ q, v4.ownBlock = some q → W.heap.size ≤ q)) (fun _ v12 _ => N - (intOf v12).toNat)
  case atStart => exact ⟨0, rfl, Nat.zero_le _, Lib.hid (by rw [List.take_zero]; exact SlO.nil _ _ _), Lib.hid (Below.refl _ _), Lib.hid (fun q hq => by simp [Value.ownBlock] at hq)⟩
  case round =>
    obtain ⟨i, rfl, hi, HSL, HB, HO⟩ := hrel
    by_cases hik : i < N
    · have hik' : (i : Int) < (N : Int) := by omega
      obtain ⟨x, hx⟩ : ∃ x, ks[i]? = some x := ⟨ks[i]'(by rw [HN.out]; exact hik), List.getElem?_eq_getElem _⟩
      obtain ⟨gk, rfl, hck', -⟩ := (HS.out.kept (Kept.of_below (fun _ => False) (HB.out.mono (Nat.le_refl _))) (fun _ _ h => h)).elem (i := i) (x := .string x) hik (by rw [List.getElem?_map, hx]; rfl)
      have htk : ks.take (i + 1) = ks.take i ++ [x] := by
        rw [List.take_add_one, hx]; rfl
      by_cases hxk : x = k
      · have hxk' : (x.toList == k.toList) = true := by rw [← beq_toListBytes]; simpa using hxk
        have hxk2 : (x.toList != k.toList) = false := by simp [bne, hxk']
        have hno : noK k (ks.take (i + 1)) = noK k (ks.take i) := by rw [htk]; simp [noK, hxk]
        have HNO := Lib.hid hno
        have HX := Lib.hid hx
        clear hx htk hno hxk
        go_wp2_with fail
        go_roundw
        case rel => exact ⟨i + 1, by go_num, by omega, Lib.hid (by rw [HNO.out]; exact HSL.out), HB, HO⟩
        case measure => simp [intOf]; omega
      · have hxk' : (x.toList == k.toList) = false := by rw [← beq_toListBytes]; simpa using hxk
        have hxk2 : (x.toList != k.toList) = true := by simp [bne, hxk']
        have hno : noK k (ks.take (i + 1)) = noK k (ks.take i) ++ [x] := by rw [htk]; simp [noK, hxk]
        have HNO := Lib.hid hno
        have HX := Lib.hid hx
        have hle : (noK k (ks.take i)).length ≤ N := by have := noK_le k (ks.take i); rw [List.length_take] at this; omega
        obtain ⟨M, hM⟩ : ∃ M, (noK k (ks.take i)).length = M := ⟨_, rfl⟩
        have hs4 := HSL.out
        rw [hM] at hs4 hle
        have HS4 := Lib.hid hs4; have HM := Lib.hid hM
        obtain ⟨A4, cap4, rfl, hc4⟩ := hs4.isSlice
        clear hx htk hno hxk hs4 hM
        go_wp2_with (at_builtin; refine wpList_append_sl _ rfl (.tmp 19) (.tmp 21) 29 rfl 9 i0 (.string ByteArray.empty) 1 16 Try.underlying29 hi0 hz0 hz1 hz2 rfl (by decide) _ M _ rfl (HS4.out.kept (Kept.alloc (fun _ => False) _ _) (by simp)) ⟨wr.heap.size, 0, none⟩ 1 1 [.string x] rfl rfl ?c1 ?c2 ?c3 ?c4 ?_)
        case c1 =>
          intro j' u hj'
          match j', hj' with
          | 0, hj' => simp at hj'; subst hj'; simp [Addr.add]
        case c2 => intro u hu; simp at hu; subst hu; rfl
        case c3 => unfold maxLen; omega
        case c4 => omega
        · intro A' cap' w5 hs5 hg5 ho5 _
          have hk5 : Kept (fun q => (Value.slice A4 M cap4).ownBlock = some q) wr w5 := (Kept.alloc _ wr _).trans (Kept.of_grownBy hg5)
          have HB5 : Hid (Below W.heap.size W w5) := Lib.hid (HB.out.trans (hk5.below HB.out.size (fun q hq => HO.out q hq)))
          have HO5 : Hid (∀ q, (Value.slice A' (M + 1) cap').ownBlock = some q → W.heap.size ≤ q) := Lib.hid (fun q hq => by
            rcases ho5 with h | h
            · exact HO.out q (h ▸ hq)
            · rw [h] at hq; injection hq with hq; have := HB.out.size; omega)
          have HS5 := Lib.hid hs5
          clear hs5 hg5 ho5 hk5 HSL HB HO HS4
          go_wp2_with fail
          go_roundw
          case rel => exact ⟨i + 1, by go_num, by omega, Lib.hid (by
            rw [HNO.out, List.length_append, List.map_append, HM.out]; exact HS5.out), HB5, HO5⟩
          case measure => simp [intOf]; omega
    · have hik' : ¬ (i : Int) < (N : Int) := by omega
      obtain rfl : i = N := by omega
      have hs4 := HSL.out
      rw [List.take_of_length_le (by rw [HN.out]; omega)] at hs4
      obtain ⟨A4, cap4, rfl, hc4⟩ := hs4.isSlice
      obtain ⟨m1, m2, m3⟩ := HA.out.setKeys (Kept.of_below _ HB.out) hs4 (fun q hq => .inr (HO.out q hq))
      have b4 := blk_below HA.out.blk HB.out
      have HM1 := Lib.hid m1; have HM2 := Lib.hid m2; have HM3 := Lib.hid m3
      have c4' : wr.cell? ⟨b, 4, none⟩ = some c.vk := (blk_cell b4 4).trans rfl
      have f4' : wr.frozen? ⟨b, 4, none⟩ = false := free_in b4
      clear m1 m2 m3 hs4 b4 HSL HB HO
      go_wp2_with fail
      refine bodyPost_end (results_none rfl _ _ _) rfl ?_
      exact ⟨rfl, _, HM1.out, HM2.out, HM3.out⟩
end Go.Proofs.Ytaccppchhljnkaa
