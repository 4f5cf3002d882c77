/- Atlases: Field. -/
import Derived.Test.YtaccppchhljnkaaDoorAtK
set_option linter.unusedVariables false
set_option linter.unusedSimpArgs false
namespace Go.Proofs.YtaccppchhljnkaaDoor
open Go.RowKit Go.Shelf Go.Proofs.YtaccppchhljnkaaDoorW.PrintWords Go.Proofs.YtaccppchhljnkaaDoorW.PrintLast Go.Proofs.YtaccppchhljnkaaDoorW.PrintMore
/-- A row of a field in the page. -/
theorem row_at {w h pad : Nat} {s : AtS} (hI : AtI w h pad s) {k : ByteArray} (hk : k ∈ s.keys) {X Y m n : Nat} (hr : s.at k = ((X : Int), (Y : Int), (m : Int) + 2 * pad, (n : Int) + 2 * pad)) (y i : Nat) (hy : y < n) (hi : i < m) :
    (Y + pad + y) * w + (X + pad) + i < w * h ∧ pgF w pad s ((Y + pad + y) * w + (X + pad) + i) = (s.fd k).getD (y * m + i) 0 := by
  obtain ⟨q1, q2, q3, q4, q5, q6⟩ := hI.pg k hk
  rw [hr] at q3 q6
  simp only at q3 q6
  have hw : X + pad + m ≤ w := by omega
  obtain ⟨e1, e2, e3⟩ := (row_iff w (Y + pad + y) (X + pad) m ((Y + pad + y) * w + (X + pad) + i) hw).1 ⟨by omega, by omega⟩
  have hd := Nat.div_add_mod ((Y + pad + y) * w + (X + pad) + i) w
  rw [e1, Nat.mul_comm] at hd
  have e4 : ((Y + pad + y) * w + (X + pad) + i) % w = X + pad + i := by omega
  refine ⟨?_, ?_⟩
  · have h1 : (Y + pad + y + 1) * w ≤ h * w := Nat.mul_le_mul_right _ (by omega)
    rw [Nat.add_mul, Nat.one_mul, Nat.mul_comm h w] at h1
    omega
  · have hin : inB w pad (s.at k) ((Y + pad + y) * w + (X + pad) + i) := by
      rw [hr]; unfold inB; simp only
      rw [e1, e4]; omega
    rw [pg_in hI hk hin, hr]
    unfold ixB
    simp only
    rw [e1, e4]
    have f1 : (((Y + pad + y : Nat) : Int) - ((Y : Int) + pad)).toNat = y := by omega
    have f2 : ((m : Int) + 2 * pad - 2 * pad).toNat = m := by omega
    have f3 : (((X + pad + i : Nat) : Int) - ((X : Int) + pad)).toNat = i := by omega
    rw [f1, f2, f3]
/-- A place of a key that is there, in whole numbers. -/
theorem AtI.nat {w h pad : Nat} {s : AtS} (hI : AtI w h pad s) {k : ByteArray} (hk : k ∈ s.keys) : ∃ X Y m n : Nat, s.at k = ((X : Int), (Y : Int), (m : Int) + 2 * pad, (n : Int) + 2 * pad) ∧ 1 ≤ m ∧ 1 ≤ n ∧ X + m + 2 * pad ≤ w ∧ Y + n + 2 * pad ≤ h ∧ (s.fd k).length = m * n := by
  obtain ⟨q1, q2, q3, q4, q5, q6⟩ := hI.pg k hk
  obtain ⟨z1, z2, z3⟩ := hI.sz k hk
  refine ⟨(s.at k).1.toNat, (s.at k).2.1.toNat, ((s.at k).2.2.1 - 2 * pad).toNat, ((s.at k).2.2.2 - 2 * pad).toNat, ?_, by omega, by omega, by omega, by omega, ?_⟩
  · have e1 : ((s.at k).1.toNat : Int) = (s.at k).1 := by omega
    have e2 : ((s.at k).2.1.toNat : Int) = (s.at k).2.1 := by omega
    have e3 : ((((s.at k).2.2.1 - 2 * pad).toNat : Nat) : Int) + 2 * pad = (s.at k).2.2.1 := by omega
    have e4 : ((((s.at k).2.2.2 - 2 * pad).toNat : Nat) : Int) + 2 * pad = (s.at k).2.2.2 := by omega
    rw [e1, e2, e3, e4]
  · have e3 : ((((s.at k).2.2.1 - 2 * pad).toNat : Nat) : Int) = (s.at k).2.2.1 - 2 * pad := by omega
    have e4 : ((((s.at k).2.2.2 - 2 * pad).toNat : Nat) : Int) = (s.at k).2.2.2 - 2 * pad := by omega
    have : ((s.fd k).length : Int) = ((((s.at k).2.2.1 - 2 * pad).toNat * ((s.at k).2.2.2 - 2 * pad).toNat : Nat) : Int) := by rw [Int.natCast_mul, e3, e4]; exact z3
    omega
theorem take_row {L : List Int} {y m : Nat} (h : (y + 1) * m ≤ L.length) : L.take ((y + 1) * m) = L.take (y * m) ++ (L.drop (y * m)).take m := by
  rw [Nat.add_mul, Nat.one_mul, List.take_add]
end Go.Proofs.YtaccppchhljnkaaDoor
