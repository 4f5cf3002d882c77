/- PathMove: pieces move with their contour: the plain law. -/
import Derived.Test.YtjealbaomhjoaaaSegs
set_option linter.unusedVariables false
set_option linter.unusedSimpArgs false
namespace Go.Proofs.Ytjealbaomhjoaaa
open Go.RowKit Go.Proofs.Ytjealbaomhjoaaa.G Go.Proofs.YtjealbaomhjoaaaW.PrintWords
def shV (dx dy : Int) (v : S34) : S34 := ⟨wrap64 (v.f0 + dx), wrap64 (v.f1 + dy), v.f2⟩
def shP (dx dy : Int) (p : S36) : S36 := ⟨wrap64 (p.f0 + wrap64 (2 * dx)), wrap64 (p.f1 + wrap64 (2 * dy))⟩
def shS (dx dy : Int) (s : S38) : S38 := ⟨shP dx dy s.f0, shP dx dy s.f1, shP dx dy s.f2, s.f3⟩
theorem at_sh1 (x d : Int) : wrap64 (2 * wrap64 (x + d)) = wrap64 (wrap64 (2 * x) + wrap64 (2 * d)) := by unfold wrap64; omega
theorem half_sh1 (a b d : Int) : wrap64 (wrap64 (a + d) + wrap64 (b + d)) = wrap64 (wrap64 (a + b) + wrap64 (2 * d)) := by unfold wrap64; omega
theorem at_sh (dx dy : Int) (v : S34) : at2 (shV dx dy v) = shP dx dy (at2 v) := by simp only [at2, shV, shP, at_sh1]
theorem half_sh (dx dy : Int) (a b : S34) : half2 (shV dx dy a) (shV dx dy b) = shP dx dy (half2 a b) := by simp only [half2, shV, shP, half_sh1]
theorem segE_sh (dx dy : Int) (hr p : S36) (pl : Option S34) : segE (shP dx dy hr) (pl.map (shV dx dy)) (shP dx dy p) = shS dx dy (segE hr pl p) := by
  cases pl with
  | none => rfl
  | some v => simp only [Option.map_some, segE, shS, at_sh]
theorem st_sh (dx dy : Int) : ∀ (vs : List S34) (hr : S36) (out : List S38) (pl : Option S34),
    stS (shP dx dy hr) (out.map (shS dx dy)) (pl.map (shV dx dy)) (vs.map (shV dx dy)) = (shP dx dy (stS hr out pl vs).1, (stS hr out pl vs).2.1.map (shS dx dy), (stS hr out pl vs).2.2.map (shV dx dy))
  | [], hr, out, pl => rfl
  | v :: vs, hr, out, pl => by
    rw [List.map_cons]
    cases hv : v.f2 with
    | true =>
      rw [stS_on hr out pl v vs hv, stS_on _ _ _ (shV dx dy v) _ hv, at_sh, segE_sh]
      have := st_sh dx dy vs (at2 v) (out ++ [segE hr pl (at2 v)]) none
      rw [List.map_append] at this
      exact this
    | false =>
      cases pl with
      | none =>
        rw [stS_none hr out v vs hv]
        show stS (shP dx dy hr) (out.map (shS dx dy)) none (shV dx dy v :: _) = _
        rw [stS_none _ _ (shV dx dy v) _ hv]
        exact st_sh dx dy vs hr out (some v)
      | some u =>
        rw [stS_some hr out u v vs hv]
        show stS (shP dx dy hr) (out.map (shS dx dy)) (some (shV dx dy u)) (shV dx dy v :: _) = _
        rw [stS_some _ _ (shV dx dy u) (shV dx dy v) _ hv, half_sh]
        have h := segE_sh dx dy hr (half2 u v) (some u)
        rw [Option.map_some] at h
        rw [h]
        have := st_sh dx dy vs (half2 u v) (out ++ [segE hr (some u) (half2 u v)]) (some v)
        rw [List.map_append] at this
        exact this
theorem getD_sh (dx dy : Int) (c : List S34) (i : Nat) (h : i < c.length) : (c.map (shV dx dy)).getD i z34 = shV dx dy (c.getD i z34) := by
  rw [List.getD_eq_getElem?_getD, List.getD_eq_getElem?_getD, List.getElem?_map, List.getElem?_eq_getElem h]; rfl
theorem cyc_sh (dx dy : Int) (c : List S34) (hc : 0 < c.length) : ∀ (n i : Nat), cyc (c.map (shV dx dy)) i n = (cyc c i n).map (shV dx dy)
  | 0, i => rfl
  | n + 1, i => by
    rw [cyc, cyc, List.map_cons, cyc_sh dx dy c hc n (i + 1), List.length_map, getD_sh dx dy c _ (Nat.mod_lt _ hc)]
theorem fin_sh (dx dy : Int) (bg : S36) (vs : List S34) : finS (shP dx dy bg) (stS (shP dx dy bg) [] none (vs.map (shV dx dy))) = (finS bg (stS bg [] none vs)).map (shS dx dy) := by
  have h := st_sh dx dy vs bg [] none
  rw [List.map_nil, Option.map_none] at h
  rw [h]
  unfold finS
  rw [List.map_append]
  show _ ++ [segE (shP dx dy _) (Option.map (shV dx dy) _) (shP dx dy bg)] = _
  rw [segE_sh]; rfl
theorem seg_move (dx dy : Int) (c : List S34) : segF (c.map (shV dx dy)) = (segF c).map (shS dx dy) := by
  by_cases hc : c = []
  · subst hc; rfl
  · have hl : 0 < c.length := List.length_pos_iff.2 hc
    have hf : fiOn (c.map (shV dx dy)) = fiOn c := by unfold fiOn; rw [List.findIdx_map]; rfl
    unfold segF
    rw [if_neg (by simpa using hc), if_neg hc, hf, List.length_map]
    split
    · rename_i h
      rw [getD_sh dx dy c _ h, at_sh, cyc_sh dx dy c hl, fin_sh]
    · rw [getD_sh dx dy c _ (by omega), getD_sh dx dy c _ hl, half_sh, cyc_sh dx dy c hl, fin_sh]
end Go.Proofs.Ytjealbaomhjoaaa
