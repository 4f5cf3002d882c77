/- Bytes, as a law's argument. -/
import Derived.Test.YtjealbaomhjoaaaProg
import Derived.Test.YtjealbaomhjoaaaWWords
import Derived.Test.YtjealbaomhjoaaaWSized
import Derived.OpenShut
namespace Go.Proofs.Ytjealbaomhjoaaa
open Go.ChangeShapes Go.WideShapes Go.RowKit Go.Proofs.YtjealbaomhjoaaaW.PrintWords
theorem open_bytes {H : Type} {enc : TypeId × Value → H} {w : World} {base : Nat} {spare : Nat → Bool} {held : Bool} {a : Option Addr} {len cap : Nat} {d : DataW H} {ps : List MemPlace}
    (h : DataW.Trod enc Try.prog w base spare held 48 (.slice a len cap) d ps) :
    ∃ l : List Int, l.length = len ∧ Kd.C (Kd.int .u8) w a l.length l ∧ l.length ≤ cap ∧ ∀ x ∈ l, 0 ≤ x ∧ x ≤ 255 := by
  obtain ⟨fuel, hf⟩ := h
  rcases open_ints Try.underlying48 Try.underlying5 (by kernel_rfl) hf with ⟨hcs, _⟩ | ⟨x, l, c, zs, hcs, _, hl, hm, hz, _, hcell, hwz⟩
  · simp [Value.cells] at hcs
    obtain ⟨rfl, rfl, rfl⟩ := hcs
    exact ⟨[], rfl, ⟨rfl, by simp, fun h => absurd h (by simp)⟩, Nat.le_refl _, by simp⟩
  · simp [Value.cells] at hcs
    obtain ⟨rfl, rfl, rfl⟩ := hcs
    have hz' : len ≤ zs.length := by rw [hz]; split <;> omega
    have hlen : (zs.take len).length = len := by rw [List.length_take]; omega
    refine ⟨zs.take len, hlen, ⟨rfl, by rw [hlen]; unfold maxLen at hm; omega, fun _ => ⟨x, rfl, fun j p hj => ⟨_, rfl, rfl, fun i u hu => ?_⟩⟩⟩, by rw [hlen]; exact hl, fun q hq => ?_⟩
    · have hi : i = 0 := by
        match i, hu with
        | 0, _ => rfl
        | i + 1, hu => simp at hu
      subst hi
      have hjl : j < zs.length := by
        have := (List.getElem?_eq_some_iff.1 hj).1
        rw [hlen] at this; omega
      have hp : zs.getD j 0 = p := by
        rw [List.getElem?_take] at hj
        split at hj
        · rw [List.getD_eq_getElem?_getD, hj]; rfl
        · cases hj
      have hsz : (Kd.int .u8).sz = 1 := rfl
      rw [hsz, Nat.mul_one, Nat.add_zero, hcell j hjl, hp]
      simpa using hu
    · have := hwz q (List.mem_of_mem_take hq)
      simpa [Lit.wf, IntKind.min, IntKind.max, IntKind.signed, IntKind.bits] using this
end Go.Proofs.Ytjealbaomhjoaaa
