/- Rows of rows of points: an element of an inner row, read and written. -/
import Derived.Test.YtjealbaomhjoaaaParseC
set_option linter.unusedVariables false
set_option linter.unusedSimpArgs false
namespace Go.Proofs.Ytjealbaomhjoaaa
open Go.RowKit Go.Proofs.Ytjealbaomhjoaaa.G Go.Proofs.YtjealbaomhjoaaaW.PrintWords

abbrev cells34 (v : S34) : List Value := [.int .i64 v.f0, .int .i64 v.f1, .bool v.f2]
/-- Element i of the outer row, element j of the inner one: where it lies, and what a write makes of the whole. -/
theorem S_inner {W : World} {base n cap : Nat} {ad : Addr} {xs : List (List S34)} (h : Kd.S (Kd.slice 34 k34) 28 W base (fun _ => True) (.slice (some ad) n cap) xs) (i : Nat) (hi : i < xs.length) :
    ∃ A ci, W.cell? (ad.add i) = some (.slice A xs[i].length ci) ∧ xs[i].length ≤ ci ∧
      (0 < xs[i].length → ∃ g, A = some ⟨g, 0, none⟩ ∧ base ≤ g ∧ g < W.heap.size ∧ (∃ cells, W.heap[g]? = some (.cells cells 34 (0, 0))) ∧ (∀ j, W.frozen? ⟨g, j, none⟩ = false) ∧
        ∀ (j : Nat) (hj : j < xs[i].length), W.cell? ⟨g, j * 3, none⟩ = some (.int .i64 xs[i][j].f0) ∧ W.cell? ⟨g, j * 3 + 1, none⟩ = some (.int .i64 xs[i][j].f1) ∧ W.cell? ⟨g, j * 3 + 2, none⟩ = some (.bool xs[i][j].f2) ∧
          ∀ (q : Nat) (seg : List Value) (x' : S34), q + seg.length ≤ 3 → (cells34 xs[i][j]).take q ++ seg ++ (cells34 xs[i][j]).drop (q + seg.length) = cells34 x' →
            Kd.S (Kd.slice 34 k34) 28 (W.setCells g (j * 3 + q) seg) base (fun _ => True) (.slice (some ad) n cap) (xs.set i (xs[i].set j x')) ∧ W.grownBy (W.setCells g (j * 3 + q) seg) (some g)) := by
  have hn := (Kd.S_reads' h).1
  obtain ⟨oki, c, hcl, hM, hcc, hoki, hback⟩ := Kd.S_borrow h ([] : List S34) (i : Int) (by omega) (by omega)
  have hg : xs.getD (i : Int).toNat [] = xs[i] := by rw [Int.toNat_natCast, List.getD_eq_getElem?_getD, List.getElem?_eq_getElem hi]; rfl
  rw [hg] at hM
  obtain ⟨v, rfl, hR⟩ := hM
  obtain ⟨A, ci, rfl, hlc, hC⟩ := Kd.R_reads hR
  have hc0 := hcc 0 _ rfl
  have hsz : (Kd.slice 34 k34).sz = 1 := rfl
  rw [hsz, Int.toNat_natCast, Nat.mul_one, Nat.add_zero] at hc0
  refine ⟨A, ci, hc0, hlc, fun hp => ?_⟩
  obtain ⟨g, cap', e1, hbg, hgl, hcells⟩ := Kd.R_form hR hp
  injection e1 with e1 _ e3
  subst e1; subst e3
  have hfr : ∀ j, W.frozen? ⟨g, j, none⟩ = false := by
    obtain ⟨cells, hh⟩ := hcells
    intro j; exact blk_frozen hh j
  refine ⟨g, rfl, hbg, hgl, hcells, hfr, fun j hj => ?_⟩
  obtain ⟨cj, hcjl, hMj, hcj, _⟩ := Kd.R_elem hR z34 (j : Int) (by omega) (by omega)
  have hgj : xs[i].getD (j : Int).toNat z34 = xs[i][j] := by rw [Int.toNat_natCast, List.getD_eq_getElem?_getD, List.getElem?_eq_getElem hj]; rfl
  rw [hgj] at hMj
  obtain rfl := k34_openM hMj
  have hs3 : k34.sz = 3 := rfl
  have c0 := hcj 0 _ rfl
  have c1 := hcj 1 _ rfl
  have c2 := hcj 2 _ rfl
  rw [hs3, Int.toNat_natCast] at c0 c1 c2
  refine ⟨c0, c1, c2, fun q seg x' hq hx => ?_⟩
  have hseg := Kd.R_seg hR (j : Int) (by omega) (by omega) (c := cells34 xs[i][j]) (seg := seg) (j := q) hcjl hcj (by rw [hs3]; exact hq) (x' := x') (okp := fun _ => False) (by rw [hx]; exact k34_mkM _ _ _ _) (fun _ h => h.elim)
  rw [hs3, Int.toNat_natCast] at hseg
  have hb := hback (x' := xs[i].set j x') hseg.2 (fun k hk => by injection hk with hk; subst hk; exact hR.1 g rfl) ⟨_, rfl, hseg.1⟩
  rw [Int.toNat_natCast] at hb
  exact ⟨hb, hseg.2⟩
end Go.Proofs.Ytjealbaomhjoaaa
