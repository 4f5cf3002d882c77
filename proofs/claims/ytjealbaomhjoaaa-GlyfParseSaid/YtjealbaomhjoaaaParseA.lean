/- The law's own parse, ready for use: what it hands back, opened. -/
import Derived.Test.YtjealbaomhjoaaaParseR
set_option linter.unusedVariables false
set_option linter.unusedSimpArgs false
namespace Go.Proofs.Ytjealbaomhjoaaa
open Go.RowKit Go.Proofs.Ytjealbaomhjoaaa.G Go.Proofs.YtjealbaomhjoaaaW.PrintWords
theorem bys_ofC {w : World} {A : Option Addr} {l : List Int} (hr : Kd.C (Kd.int .u8) w A l.length l) : Bys w A l := by
  by_cases hl : 0 < l.length
  · obtain ⟨ad, rfl, hc⟩ := hr.2.2 hl
    have hcell : ∀ j, j < l.length → w.cell? (ad.add j) = some (.int .u8 (l.getD j 0)) := by
      intro j hj
      obtain ⟨c, hcl, hK, hcc⟩ := hc j _ (List.getElem?_eq_getElem hj)
      have hK' : c = [.int .u8 l[j]] := hK
      subst hK'
      have h1 := hcc 0 _ rfl
      have hsz : (Kd.int .u8).sz = 1 := rfl
      rw [hsz, Nat.mul_one, Nat.add_zero] at h1
      rw [h1, List.getD_eq_getElem?_getD, List.getElem?_eq_getElem hj]; rfl
    obtain ⟨b, off, rfl, hcb⟩ := Go.ints_at hcell hl
    exact .inr ⟨b, off, rfl, World.block_lt_of_cell? w _ (hcb 0 hl), hcb⟩
  · exact .inl (List.eq_nil_of_length_eq_zero (by omega))
theorem rparse_any (A : Option Addr) (n c : Nat) (l : List Int) (w : World) (en : n = l.length) (hr : Kd.C (Kd.int .u8) w A l.length l) (hc : l.length ≤ c) (hw : ∀ x ∈ l, 0 ≤ x ∧ x ≤ 255) :
    Calls Try.prog 28 #[.slice A n c] w fun e w' => ∃ B cb, e = .returned (.tuple #[.agg #[.slice B (prF l).1.length cb], .int .i64 (prF l).2]) ∧ Kd.S (Kd.slice 34 k34) 28 w' w.heap.size (fun _ => True) (.slice B (prF l).1.length cb) (prF l).1 ∧ Below w.heap.size w w' := by
  subst en
  refine (rparse_c A c l w (bys_ofC hr) hc hw).mono ?_
  rintro e w' ⟨v, rfl, hs, hb⟩
  obtain ⟨B, cb, rfl⟩ := Kd.S_slice hs
  exact ⟨B, cb, rfl, hs, hb⟩
end Go.Proofs.Ytjealbaomhjoaaa
