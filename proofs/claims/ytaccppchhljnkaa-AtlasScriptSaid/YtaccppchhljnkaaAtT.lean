/- Atlases: Touch, Keys, Gone, Page. -/
import Derived.Test.YtaccppchhljnkaaAtR
import Derived.Test.YtaccppchhljnkaaIterBase
import Derived.BigQuiet
import Derived.Deep.RegionHeld3
set_option linter.unusedVariables false
set_option linter.unusedSimpArgs false
namespace Go.Proofs.Ytaccppchhljnkaa
open Go.RowKit Go.Shelf Go.Proofs.YtaccppchhljnkaaW.PrintWords Go.Proofs.YtaccppchhljnkaaW.PrintLast Go.Proofs.YtaccppchhljnkaaW.PrintMore
/-- An atlas behind a deed. -/
def AtPost (W w' : World) (b w h pad : Nat) (c : AtC) (s' : AtS) : Prop := ∃ c', AtAt w' b w h pad s' c' ∧ Kept (c.own b) W w' ∧ ∀ k, c'.own b k → c.own b k ∨ W.heap.size ≤ k
def touchV (s : AtS) (k : ByteArray) : AtS := if k ∈ s.keys then touchS s k else s
set_option maxHeartbeats 1000000 in
set_option maxRecDepth 100000 in
theorem touch_c (W : World) (b w h pad : Nat) (s : AtS) (c : AtC) (hA : AtAt W b w h pad s c) (k : ByteArray) :
    Calls Try.prog 20 #[.pointer (some ⟨b, 0, none⟩), .string k] W fun e w' => e = .returned (.bool (decide (k ∈ s.keys))) ∧ AtPost W w' b w h pad c (touchV s k) := by
  have HA := Lib.hid hA
  obtain ⟨c0, c1, c2, c3, c4, c5, c6, c7⟩ := hA.cell
  have hle := hA.inv.le
  have hh := Lib.hid (hasO b 5 c.vk s.keys k W c5 hA.raw.ks)
  have hu := Lib.hid (useO 68 b 5 (c.cs w h pad) c.vk s.keys k W (by omega) hA.raw.lao)
  clear hA c0 c1 c2 c3 c4 c5 c6 c7 hle
  by_cases hk : k ∈ s.keys
  · have hd : decide (k ∈ s.keys) = true := decide_eq_true hk
    rw [hd] at hh hu
    have HK := Lib.hid hk
    rw [hd]
    clear hk hd
    go_enter Try.func20, Try.ntmps20
    go_wp2_with fail
    refine hh.out.mono ?_
    rintro e w' ⟨rfl, rfl⟩
    go_wp2_with fail
    refine hu.out.mono ?_
    rintro e w2 ⟨rfl, v', hL, hk2, hl2⟩
    have R1 := Lib.hid hL; have R2 := Lib.hid hk2; have R3 := Lib.hid hl2
    clear hL hk2 hl2
    go_wp2_with fail
    go_ret
    refine ⟨rfl, c.setK v', ?_, R2.out.mono (fun x _ h => h.elim (fun e => .inl e) (fun e => .inr (.inr (.inr (.inr (.inl e)))))), ?_⟩
    · obtain ⟨a1, a2⟩ := HA.out.raw.setKeys R1.out R2.out R3.out
      have hI := HA.out.inv.touch k HK.out
      have e1 : touchV s k = touchS s k := if_pos HK.out
      have hmem : ∀ u, u ∈ (touchS s k).keys ↔ u ∈ s.keys := fun u => ((hI.mem u).symm.trans (HA.out.inv.mem u))
      have e2 : pgL w h pad (touchS s k) = pgL w h pad s := pgL_same hI HA.out.inv hmem (fun _ _ => rfl) (fun _ _ => rfl)
      have e3 : (touchS s k).keys.length = s.keys.length := by
        show (s.keys.erase k ++ [k]).length = _
        rw [List.length_append, List.length_erase_of_mem HK.out]
        have := List.length_pos_of_mem HK.out
        simp; omega
      rw [e1]
      refine ⟨?_, HA.out.w1, HA.out.h1, HA.out.p4, hI, fun u hu => HA.out.kl u ((hmem u).1 hu)⟩
      rw [e2, e3]
      exact a1
    · exact (HA.out.raw.setKeys R1.out R2.out R3.out).2
  · have hd : decide (k ∈ s.keys) = false := decide_eq_false hk
    rw [hd] at hh
    have HK := Lib.hid hk
    rw [hd]
    clear hk hd hu
    go_enter Try.func20, Try.ntmps20
    go_wp2_with fail
    refine hh.out.mono ?_
    rintro e w' ⟨rfl, rfl⟩
    go_wp2_with fail
    go_ret
    have e1 : touchV s k = s := if_neg HK.out
    rw [e1]
    exact ⟨rfl, c, HA.out, Kept.refl _ _, fun k h => .inl h⟩
end Go.Proofs.Ytaccppchhljnkaa
