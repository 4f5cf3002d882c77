/- PathMove's closure m, and rows of points apart. -/
import Derived.Test.YtjealbaomhjoaaaPMoveP
import Derived.Test.YtjealbaomhjoaaaSegEnd
import Derived.KernelRfl
set_option linter.unusedVariables false
set_option linter.unusedSimpArgs false
namespace Go.Proofs.Ytjealbaomhjoaaa
open Go.RowKit Go.Proofs.Ytjealbaomhjoaaa.G Go.Proofs.YtjealbaomhjoaaaW.PrintWords Go.Proofs.YtjealbaomhjoaaaW.PrintMore
theorem R34_keep {e base : Nat} {ok : Nat → Prop} {W w1 : World} {v : Value} {xs : List S34} {row : Option Nat} (h : Kd.R k34 e W base ok v xs) (hg : W.grownBy w1 row) (hne : ∀ k, v.ownBlock = some k → some k ≠ row) : Kd.R k34 e w1 base (fun _ => True) v xs := by
  have h2 : Kd.R k34 e W base (fun k => some k ≠ row) v xs := ⟨hne, h.2.imp_ (fun p c hp => by obtain rfl := k34_openM hp; exact k34_mkM _ _ _ _)⟩
  exact Kd.R_mono (Kd.R_grown h2 hg (fun _ h => h)) (fun _ _ => trivial)
attribute [local go_sem] cell_alloc in
set_option maxHeartbeats 2000000 in
theorem m_c (dx dy : Int) (b4 b5 : Nat) (p : S36) (w : World) (h4 : w.heap[b4]? = some (.cells #[.int .i8 dx] 40 (0, 0))) (h5 : w.heap[b5]? = some (.cells #[.int .i8 dy] 40 (0, 0))) (hx : -128 ≤ dx ∧ dx ≤ 127) (hy : -128 ≤ dy ∧ dy ≤ 127) :
    Calls Try.prog 20 #[.agg #[.int .i64 p.f0, .int .i64 p.f1], .pointer (some ⟨b4, 0, none⟩), .pointer (some ⟨b5, 0, none⟩)] w fun e w' => e = .returned (.agg #[.int .i64 (shP dx dy p).f0, .int .i64 (shP dx dy p).f1]) ∧ Below w.heap.size w w' := by
  have c4 : w.cell? ⟨b4, 0, none⟩ = some (.int .i8 dx) := (blk_cell h4 0).trans rfl
  have c5 : w.cell? ⟨b5, 0, none⟩ = some (.int .i8 dy) := (blk_cell h5 0).trans rfl
  obtain ⟨px, py⟩ := p
  have l4 := blk_lt h4; have l5 := blk_lt h5
  have n4 : b4 ≠ w.heap.size := by omega
  have n5 : b5 ≠ w.heap.size := by omega
  clear h4 h5
  go_enter Try.func20, Try.ntmps20
  go_wp2_with fail
  have e1 : wrap64 (2 * dx) = 2 * dx := by unfold wrap64; omega
  have e2 : wrap64 (2 * dy) = 2 * dy := by unfold wrap64; omega
  have n1 := heap_alloc_new (w.alloc (.cells #[.int .i64 px, .int .i64 py] 36)) (.cells #[.int .i64 (wrap64 (px + 2 * dx)), .int .i64 (wrap64 (py + 2 * dy))] 36)
  rw [World.size_alloc] at n1
  refine bodyPost_ret (results_cell_row rfl _ _ (w.heap.size + 1) 36 #[.int .i64 (wrap64 (px + 2 * dx)), .int .i64 (wrap64 (py + 2 * dy))] (0, 0) _ rfl n1 Try.underlying36 rfl (by kernel_rfl)) rfl ?_
  exact ⟨by simp only [shP, e1, e2], below_alloc (below_alloc (Below.refl _ w) _) _⟩
end Go.Proofs.Ytjealbaomhjoaaa
