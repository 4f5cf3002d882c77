/- The loop over a grid's texels. -/
import Derived.Test.YtgldonfpiifnfaaGrid
import Derived.Test.YtgldonfpiifnfaaNe
import Derived.Test.YtgldonfpiifnfaaIterBase
import Derived.WalkMore
set_option linter.unusedVariables false
set_option linter.unusedSimpArgs false
namespace Go.Proofs.Ytgldonfpiifnfaa
open Go.RowKit Go.Shelf
attribute [local go_sem] Oper.semAt_some

/-- A texel's column and row, row by row. -/
def texel (W : Nat) (n : Nat) : Int × Int := (((n % W : Nat) : Int), ((n / W : Nat) : Int))
theorem texel_at {W i k : Nat} (hi : i < W) : texel W (k * W + i) = ((i : Int), (k : Int)) := by
  unfold texel
  rw [Nat.mul_comm, Nat.mul_add_mod, Nat.mod_eq_of_lt hi, Nat.mul_add_div (by omega), Nat.div_eq_of_lt hi, Nat.add_zero]

theorem wpIn_scope_wide {n : Nat} {P : Program} {c : Code} {Q : Exit → Act → World → Prop} {a : Act} {w : World} (h : c.wpIn Fence.wide n P (Exit.noGoto Q) a w) : (Code.scope c).wpIn Fence.wide n P Q a w :=
  wpIn_wide.2 (wp_scope_straight (wpIn_wide.1 h))

set_option maxRecDepth 100000 in
set_option maxHeartbeats 2000000 in
theorem each1_c (n : Nat) (hn : 1 ≤ n) (l Bs : Nat) (W H : Nat) (hW : W ≤ 1000) (hH : H ≤ 1000) (T : Nat → Prop) (hT1 : T Bs) (J Jx : List (Int × Int) → World → Prop)
    (hY : ∀ pre x Wd, J pre Wd → pre.length < W * H → YieldAt Fence.wide (n - 1) Try.prog l #[vi x.1, vi x.2] Wd fun e W' =>
      (e = .returned (.bool true) ∧ J (pre ++ [x]) W' ∧ Keeps T Wd W') ∨ (e = .returned (.bool false) ∧ Jx (pre ++ [x]) W'))
    (W0 : World) (hc3 : W0.cell? ⟨Bs, 3, none⟩ = some (vi W)) (hc4 : W0.cell? ⟨Bs, 4, none⟩ = some (vi H)) (h0 : J [] W0) :
    CallsIn Fence.wide n Try.prog 47 #[.func (.yield l) #[] #[], .pointer (some ⟨Bs, 0, none⟩)] W0 fun e W' => (∃ v, e = .returned v) ∧
      ((∃ ys, ys = upto (texel W) (W * H) ∧ J ys W') ∨ (∃ pre, (∃ k, k ≤ W * H ∧ pre = upto (texel W) k) ∧ Jx pre W')) := by
  have HC3 := Lib.hid hc3; clear hc3
  have HC4 := Lib.hid hc4; clear hc4
  have HY := Lib.hid hY; clear hY
  refine callsIn_of_wp Try.func47 rfl trivial ?_ rfl
  simp only [Try.ntmps47, List.size_toArray, List.length_cons, List.length_nil, Nat.reduceAdd, Nat.reduceSub, Array.replicate_succ, Array.replicate_zero, List.push_toArray, List.append_toArray, List.nil_append, List.cons_append]
  refine wpIn_scope_wide ?_
  refine wpIn_seq (wpIn_label ?_)
  simp only [Exit.then]
  gi_wp2
  gi_loopw [3, 4] (fun sk _ wr => ∃ k : Nat, k ≤ H ∧ sk = vi k ∧ J (upto (texel W) (k * W)) wr ∧ Hid (Keeps T W0 wr))
    (fun sk _ _ => H - (intOf sk).toNat)
  case atStart => exact ⟨0, Nat.zero_le _, rfl, by rw [Nat.zero_mul]; exact h0, Kept.refl _ _⟩
  case round =>
    obtain ⟨k, hk, rfl, hJs, hnx⟩ := hrel
    have c4 : wr.cell? ⟨Bs, 4, none⟩ = some (vi H) := Kept.cell hnx.out HC4.out (fun h => h hT1)
    by_cases hlt : k < H
    · gi_wp2
      clear c4
      have hkW : k * W + W ≤ W * H := by
        have := Nat.mul_le_mul_right W (show k + 1 ≤ H by omega)
        rw [Nat.add_mul, Nat.one_mul, Nat.mul_comm H W] at this
        exact this
      have HJ0 := Lib.hid hJs; clear hJs
      gi_loopw [4] (fun si wr => ∃ i : Nat, i ≤ W ∧ si = vi i ∧ J (upto (texel W) (k * W + i)) wr ∧ Hid (Keeps T W0 wr)) (fun si _ => W - (intOf si).toNat)
      case atStart => exact ⟨0, Nat.zero_le _, rfl, HJ0.out, hnx⟩
      case round =>
        obtain ⟨i, hi, rfl, hJi, hni⟩ := hrel
        have c3 : wr.cell? ⟨Bs, 3, none⟩ = some (vi W) := Kept.cell hni.out HC3.out (fun h => h hT1)
        by_cases hlti : i < W
        · obtain ⟨fn, tmps, assign, body, hy, hR⟩ := HY.out _ ((i : Int), (k : Int)) wr hJi (by rw [upto_length]; omega)
          gi_wp2
          refine hR.mono ?_
          rintro e W3 (⟨rfl, hJ3, hk3⟩ | ⟨rfl, hJx3⟩)
          · gi_wp2
            go_roundw
            case rel => exact ⟨i + 1, by omega, by simp, by rw [← Nat.add_assoc, upto_succ, texel_at hlti]; exact hJ3, hni.out.trans hk3⟩
            case measure => simp [intOf]; omega
          · gi_wp2
            rw [Exit.noGoto_normal]
            go_end0
            exact ⟨⟨_, rfl⟩, .inr ⟨_, ⟨k * W + i + 1, by omega, by rw [upto_succ, texel_at hlti]⟩, hJx3⟩⟩
        · obtain rfl : i = W := by omega
          gi_wp2
          go_roundw
          case rel => exact ⟨k + 1, by omega, by simp, by rw [Nat.add_mul, Nat.one_mul]; exact hJi, hni⟩
          case measure => simp [intOf]; omega
    · obtain rfl : k = H := by omega
      gi_wp2
      rw [Exit.noGoto_normal]
      go_end0
      exact ⟨⟨_, rfl⟩, .inl ⟨_, by rw [Nat.mul_comm], hJs⟩⟩

/-- What grid.Each hands back goes through all texels, row by row. -/
theorem iter_each (n : Nat) (hn : 1 ≤ n) (Bs : Nat) (W H : Nat) (hW : W ≤ 1000) (hH : H ≤ 1000) (w : World) (T : Nat → Prop) (hT1 : T Bs)
    (hc3 : w.cell? ⟨Bs, 3, none⟩ = some (vi W)) (hc4 : w.cell? ⟨Bs, 4, none⟩ = some (vi H)) :
    SeqStopsK Fence.wide n Try.prog 47 #[.pointer (some ⟨Bs, 0, none⟩)] (fun x : Int × Int => #[vi x.1, vi x.2]) (Keeps T) (fun ys => ys = upto (texel W) (W * H)) (fun pre => pre <+: upto (texel W) (W * H)) (W * H) w := fun l J Jx Wd hWd _ _ hY h0 => by
  have hBs : Bs < w.heap.size := World.block_lt_of_cell? w _ hc3
  have h3 := (hWd.cell (p := ⟨Bs, 3, none⟩) hBs).trans hc3
  have h4 := (hWd.cell (p := ⟨Bs, 4, none⟩) hBs).trans hc4
  refine (each1_c n hn l Bs W H hW hH T hT1 J Jx hY Wd h3 h4 h0).mono ?_
  rintro e W' ⟨he, ⟨ys, rfl, hj⟩ | ⟨pre, ⟨k, hk, rfl⟩, hj⟩⟩
  · exact ⟨he, .inl ⟨_, rfl, hj⟩⟩
  · exact ⟨he, .inr ⟨_, by
      unfold upto
      have : List.range k = (List.range (W * H)).take k := by rw [List.take_range, Nat.min_eq_left hk]
      rw [this, List.map_take]
      exact List.take_prefix _ _, hj⟩⟩

end Go.Proofs.Ytgldonfpiifnfaa
