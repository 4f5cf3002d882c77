/- The reference's pieces (punchcutlaw05.full, segs): what they compute, and that these are path.Segs's: the plain law. -/
import Derived.Test.YtjealbaomhjoaaaPLinesP
set_option linter.unusedVariables false
set_option linter.unusedSimpArgs false
namespace Go.Proofs.Ytjealbaomhjoaaa
open Go.RowKit Go.Proofs.Ytjealbaomhjoaaa.G Go.Proofs.YtjealbaomhjoaaaW.PrintWords
/-- A point twice as far, as a vertex. -/
def dbl (v : S34) : S34 := ⟨wrap64 (2 * v.f0), wrap64 (2 * v.f1), v.f2⟩
/-- The one half way, on the line. -/
def mid (v w : S34) : S34 := ⟨wrap64 (v.f0 + w.f0), wrap64 (v.f1 + w.f1), true⟩
def pt (v : S34) : S36 := ⟨v.f0, v.f1⟩
def exV (v w : S34) : List S34 := if !v.f2 && !w.f2 then [dbl v, mid v w] else [dbl v]
/-- The points of vs, and then z's. -/
def exL : List S34 → S34 → List S34
  | [], z => []
  | [v], z => exV v z
  | v :: w :: vs, z => exV v w ++ exL (w :: vs) z
/-- The pieces that a row of points is cut into. -/
def cutL : S36 → List S34 → List S38
  | _, [] => []
  | h, [x] => if x.f2 then [⟨h, h, pt x, false⟩] else []
  | h, x :: y :: r => if x.f2 then ⟨h, h, pt x, false⟩ :: cutL (pt x) (y :: r) else ⟨h, pt x, pt y, true⟩ :: cutL (pt y) r
theorem cutL_on (h : S36) (x : S34) (r : List S34) (hx : x.f2 = true) : cutL h (x :: r) = ⟨h, h, pt x, false⟩ :: cutL (pt x) r := by
  cases r with
  | nil => simp [cutL, hx]
  | cons y r => rw [cutL, if_pos hx]
theorem cutL_off (h : S36) (x y : S34) (r : List S34) (hx : x.f2 = false) : cutL h (x :: y :: r) = ⟨h, pt x, pt y, true⟩ :: cutL (pt y) r := by
  rw [cutL, if_neg (by simp [hx])]
theorem pt_dbl (v : S34) : pt (dbl v) = at2 v := rfl
theorem pt_mid (v w : S34) : pt (mid v w) = half2 v w := rfl
/-- What follows the point hr, pl being there to pull: up to z, which is on the line. -/
def restE (pl : Option S34) (vs : List S34) (z : S34) : List S34 := match pl with
  | none => exL vs z
  | some u => exL (u :: vs) z
theorem st_cut (z e : S34) (hz : z.f2 = true) (he : e.f2 = true) : ∀ (vs : List S34) (hr : S36) (out : List S38) (pl : Option S34), (∀ u, pl = some u → u.f2 = false) →
    finS (pt e) (stS hr out pl vs) = out ++ cutL hr (restE pl vs z ++ [e])
  | [], hr, out, none, _ => by
    show _ ++ [_] = _ ++ cutL hr [e]
    rw [cutL_on _ _ _ he]; rfl
  | [], hr, out, some u, hu => by
    have h := hu u rfl
    have hx : exL [u] z = [dbl u] := by simp [exL, exV, h, hz]
    show _ ++ [_] = _ ++ cutL hr (exL [u] z ++ [e])
    rw [hx]
    show _ = _ ++ cutL hr (dbl u :: e :: [])
    rw [cutL_off _ _ _ _ (show (dbl u).f2 = false from h)]; rfl
  | v :: vs, hr, out, pl, hu => by
    cases hv : v.f2 with
    | true =>
      rw [stS_on _ _ _ _ _ hv, st_cut z e hz he vs _ _ none (fun _ h => by cases h), List.append_assoc]
      congr 1
      have hvL : ∀ r : List S34, exL (v :: r) z = dbl v :: exL r z := by
        intro r
        cases r with
        | nil => simp [exL, exV, hv]
        | cons w r => simp [exL, exV, hv]
      cases pl with
      | none =>
        show _ = cutL hr (exL (v :: vs) z ++ [e])
        rw [hvL]
        show _ = cutL hr (dbl v :: (exL vs z ++ [e]))
        rw [cutL_on _ _ _ (show (dbl v).f2 = true from hv)]; rfl
      | some u =>
        have h := hu u rfl
        show _ = cutL hr (exL (u :: v :: vs) z ++ [e])
        have hux : exL (u :: v :: vs) z = dbl u :: exL (v :: vs) z := by rw [exL, exV, if_neg (by simp [hv])]; rfl
        rw [hux, hvL]
        show _ = cutL hr (dbl u :: dbl v :: (exL vs z ++ [e]))
        rw [cutL_off _ _ _ _ (show (dbl u).f2 = false from h)]; rfl
    | false =>
      cases pl with
      | none =>
        rw [stS_none _ _ _ _ hv, st_cut z e hz he vs _ _ (some v) (fun u h => by cases h; exact hv)]; rfl
      | some u =>
        have h := hu u rfl
        rw [stS_some _ _ _ _ _ hv, st_cut z e hz he vs _ _ (some v) (fun u h => by cases h; exact hv), List.append_assoc]
        congr 1
        show _ = cutL hr (exL (u :: v :: vs) z ++ [e])
        have hux : exL (u :: v :: vs) z = dbl u :: mid u v :: exL (v :: vs) z := by rw [exL, exV, if_pos (by simp [hv, h])]; rfl
        rw [hux]
        show _ = cutL hr (dbl u :: mid u v :: (exL (v :: vs) z ++ [e]))
        rw [cutL_off _ _ _ _ (show (dbl u).f2 = false from h)]; rfl
end Go.Proofs.Ytjealbaomhjoaaa
