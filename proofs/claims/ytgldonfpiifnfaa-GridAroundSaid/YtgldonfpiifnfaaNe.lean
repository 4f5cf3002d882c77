/- Blocks of different types lie apart. -/
import Derived.Test.YtgldonfpiifnfaaBase
set_option linter.unusedVariables false
namespace Go.Proofs.Ytgldonfpiifnfaa

theorem cells_ne {W : World} {a b : Nat} {x y : Array Value} {t u : TypeId} {f h : Nat × Nat} (ha : W.heap[a]? = some (.cells x t f)) (hb : W.heap[b]? = some (.cells y u h)) (hne : t ≠ u) : a ≠ b := by
  rintro rfl
  rw [ha] at hb
  injection hb with hb
  injection hb with _ hb _
  exact hne hb
theorem slice_ne {W : World} {b : Nat} {y : Array Value} {e u : TypeId} {h : Nat × Nat} {v : Value} {size n : Nat} {xs : List Value} (hs : SlO W e size v n xs) (hb : W.heap[b]? = some (.cells y u h)) (hne : e ≠ u) : ∀ g, v.ownBlock = some g → g ≠ b := by
  intro g hg
  rcases hs.2 with ⟨rfl, _⟩ | ⟨g', cap, cur, rfl, hh, _⟩
  · simp [Value.ownBlock] at hg
  · have : g' = g := by simpa [Value.ownBlock] using hg
    subst this
    exact cells_ne hh hb hne
theorem slices_ne {W : World} {e e' : TypeId} {v v' : Value} {size size' n n' : Nat} {xs xs' : List Value} (hs : SlO W e size v n xs) (hs' : SlO W e' size' v' n' xs') (hne : e ≠ e') : ∀ g, v.ownBlock = some g → v'.ownBlock ≠ some g := by
  intro g hg hg'
  rcases hs'.2 with ⟨rfl, _⟩ | ⟨g', cap, cur, rfl, hh, _⟩
  · simp [Value.ownBlock] at hg'
  · have : g' = g := by simpa [Value.ownBlock] using hg'
    subst this
    exact slice_ne hs hh hne _ hg rfl
theorem lats_ne {W : World} {t e t' e' : TypeId} {b b' : Nat} {v v' : Value} {cs cs' : List Value} (h : LAt W t e b v cs) (h' : LAt W t' e' b' v' cs') (h1 : t ≠ t') (h2 : e ≠ t') (h3 : t ≠ e') (h4 : e ≠ e') :
    ∀ k, (k = b ∨ v.ownBlock = some k) → ¬ (k = b' ∨ v'.ownBlock = some k) := by
  rintro k (rfl | hk) (hk' | hk')
  · exact cells_ne h.1 h'.1 h1 hk'
  · exact slice_ne h'.2 h.1 (Ne.symm h3) _ hk' rfl
  · exact slice_ne h.2 h'.1 h2 _ hk hk'
  · exact slices_ne h.2 h'.2 h4 _ hk hk'

/-- A part that ends normally: what lies behind the other ends is of no matter. -/
theorem wp_normally {P : Program} {c : Code} {K : Act → World → Prop} {Q : Exit → Act → World → Prop} {a : Act} {w : World} (h : c.wp P (Exit.then K (fun _ _ _ => False)) a w) : c.wp P (Exit.then K Q) a w :=
  wp_mono h (by intro e a w h; cases e <;> first | exact h | exact h.elim)

end Go.Proofs.Ytgldonfpiifnfaa
