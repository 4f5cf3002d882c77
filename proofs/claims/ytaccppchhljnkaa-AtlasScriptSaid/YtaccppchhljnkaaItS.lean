/- slices.Values at strings once more, its elements told by a family over any type. -/
import Derived.Test.YtaccppchhljnkaaItO
import Derived.Test.YtaccppchhljnkaaIterBase
import Derived.Outline
import Derived.Deep.DeepMust
set_option linter.unusedVariables false
set_option linter.unusedSimpArgs false
namespace Go.Proofs.Ytaccppchhljnkaa
open Go.RowKit Go.Shelf
attribute [local go_sem] Oper.semAt_some

set_option maxRecDepth 100000 in
set_option maxHeartbeats 2000000 in
theorem values1Oe {α : Type} (e : α → ByteArray) (n : Nat) (hn : 1 ≤ n) (l Bs b off len cap : Nat) (X : Nat → α) (hm : len ≤ 9223372036854775807) (T : Nat → Prop) (hT1 : T Bs) (hT2 : T b) (J Jx : List α → World → Prop)
    (hY : ∀ pre x W, J pre W → pre.length < len → YieldAt Fence.wide (n - 1) Try.prog l #[.string (e x)] W fun e W' =>
      (e = .returned (.bool true) ∧ J (pre ++ [x]) W' ∧ Keeps T W W') ∨ (e = .returned (.bool false) ∧ Jx (pre ++ [x]) W'))
    (W : World) (hBs : W.cell? ⟨Bs, 0, none⟩ = some (.slice (some ⟨b, off, none⟩) len cap)) (hc : ∀ j, j < len → W.cell? ⟨b, off + j, none⟩ = some (.string (e <| X j))) (h0 : J [] W) :
    CallsIn Fence.wide n Try.prog 49 #[.func (.yield l) #[] #[], .pointer (some ⟨Bs, 0, none⟩)] W fun e W' => (∃ v, e = .returned v) ∧
      ((∃ ys, ys = upto X len ∧ J ys W') ∨ (∃ pre, (∃ k, k ≤ len ∧ pre = upto X k) ∧ Jx pre W')) := by
  have HC := Lib.hid hc; clear hc
  have HY := Lib.hid hY; clear hY
  refine callsIn_of_wp Try.func49 rfl trivial ?_ rfl
  simp only [Try.ntmps49, List.size_toArray, List.length_cons, List.length_nil, Nat.reduceAdd, Nat.reduceSub, Array.replicate_succ, Array.replicate_zero, List.push_toArray, List.append_toArray, List.nil_append, List.cons_append]
  gi_wp2
  gi_loopw [7] (fun i wr => ∃ k : Nat, k ≤ len ∧ i = .int .i64 k ∧ J (upto X k) wr ∧ Hid (Keeps T W wr))
    (fun i _ => len - (intOf i).toNat)
  case atStart => exact ⟨0, Nat.zero_le _, rfl, h0, Kept.refl _ _⟩
  case round =>
    obtain ⟨k, hk, rfl, hJs, hnx⟩ := hrel
    by_cases hlt : k < len
    · obtain ⟨fn, tmps, assign, body, hy, hR⟩ := HY.out _ (X k) wr hJs (by rw [upto_length]; exact hlt)
      have hcx' : wr.cell? ⟨b, off + k, none⟩ = some (.string (e <| X k)) := Kept.cell hnx.out (HC.out k hlt) (fun h => h hT2)
      gi_wp2
      refine hR.mono ?_
      rintro e W3 (⟨rfl, hJ3, hk3⟩ | ⟨rfl, hJx3⟩)
      · gi_wp2
        go_roundw
        case rel => exact ⟨k + 1, by omega, by simp, by rw [upto_succ]; exact hJ3, hnx.out.trans hk3⟩
        case measure => simp [intOf]; omega
      · gi_wp2
        refine bodyPost_ret (results_none rfl _ _ _) rfl ?_
        exact ⟨⟨_, rfl⟩, .inr ⟨_, ⟨k + 1, by omega, (upto_succ _ _).symm⟩, hJx3⟩⟩
    · obtain rfl : k = len := by omega
      gi_wp2
      go_end0
      exact ⟨⟨_, rfl⟩, .inl ⟨_, rfl, hJs⟩⟩

set_option maxRecDepth 100000 in
set_option maxHeartbeats 1000000 in
theorem values1_nilOe {α : Type} (n : Nat) (l Bs : Nat) (J : List α → World → Prop) (W : World) (hBs : W.cell? ⟨Bs, 0, none⟩ = some (.slice none 0 0)) (h0 : J [] W) :
    CallsIn Fence.wide n Try.prog 49 #[.func (.yield l) #[] #[], .pointer (some ⟨Bs, 0, none⟩)] W fun e W' => (∃ v, e = .returned v) ∧ J [] W' := by
  refine callsIn_of_wp Try.func49 rfl trivial ?_ rfl
  simp only [Try.ntmps49, List.size_toArray, List.length_cons, List.length_nil, Nat.reduceAdd, Nat.reduceSub, Array.replicate_succ, Array.replicate_zero, List.push_toArray, List.append_toArray, List.nil_append, List.cons_append]
  gi_wp2
  gi_loopw [7] (fun i wr => i = .int .i64 0 ∧ J [] wr) (fun _ _ => 0)
  case atStart => exact ⟨rfl, h0⟩
  case round =>
    obtain ⟨rfl, hJs⟩ := hrel
    gi_wp2
    go_end0
    exact ⟨⟨_, rfl⟩, hJs⟩

/-- What slices.Values hands back goes through all elements, in order. -/
theorem iterOe {α : Type} [Inhabited α] (e : α → ByteArray) (n : Nat) (hn : 1 ≤ n) (Bs : Nat) (v : Value) (xs : List α) (w : World) (T : Nat → Prop) (hT1 : T Bs) (hT2 : ∀ g, v.ownBlock = some g → T g)
    (hc : w.cell? ⟨Bs, 0, none⟩ = some v) (hs : SlO w 9 1 v xs.length (xs.map (fun x => Value.string (e x)))) :
    SeqStopsK Fence.wide n Try.prog 49 #[.pointer (some ⟨Bs, 0, none⟩)] (fun x : α => #[.string (e x)]) (Keeps T) (fun ys => ys = xs) (fun pre => pre <+: xs) xs.length w := fun l J Jx W hW _ _ hY h0 => by
  have hBs : Bs < w.heap.size := World.block_lt_of_cell? w _ hc
  have hc' := (hW.cell (p := ⟨Bs, 0, none⟩) hBs).trans hc
  rcases hs.form with ⟨rfl, h0', _⟩ | ⟨g, cap, rfl, h2, h3, h5, hg, h4⟩
  · obtain rfl : xs = [] := List.eq_nil_of_length_eq_zero h0'
    exact (values1_nilOe n l Bs J W hc' h0).mono fun e W' ⟨he, hj⟩ => ⟨he, .inl ⟨_, rfl, hj⟩⟩
  · have hcs : ∀ j, j < xs.length → W.cell? ⟨g, 0 + j, none⟩ = some (.string (e (xs.getD j default))) := fun j hj => by
      rw [Nat.zero_add]
      exact (hW.cell (p := ⟨g, j, none⟩) hg).trans (h4 j _ (by simp [List.getElem?_map, List.getElem?_eq_getElem hj, List.getD_eq_getElem?_getD]))
    refine (values1Oe e n hn l Bs g 0 xs.length cap (fun j => xs.getD j default) (by omega) T hT1 (hT2 g h5) J Jx hY W hc' hcs h0).mono ?_
    rintro _ W' ⟨he, ⟨ys, rfl, hj⟩ | ⟨pre, ⟨k, hk, rfl⟩, hj⟩⟩
    · exact ⟨he, .inl ⟨_, by rw [upto_getD xs _ (Nat.le_refl _), List.take_length], hj⟩⟩
    · exact ⟨he, .inr ⟨_, by rw [upto_getD xs k hk]; exact List.take_prefix _ _, hj⟩⟩


/-- Keys that a map may have. -/
abbrev KeyS : Type := {s : ByteArray // s.size ≤ maxLen}
instance : Inhabited KeyS := ⟨⟨ByteArray.empty, by decide⟩⟩
def keysS (xs : List ByteArray) (h : ∀ x ∈ xs, x.size ≤ maxLen) : List KeyS := xs.pmap (fun x hx => ⟨x, hx⟩) h
theorem keysS_val (xs : List ByteArray) (h : ∀ x ∈ xs, x.size ≤ maxLen) : (keysS xs h).map (·.1) = xs := by
  unfold keysS
  rw [List.map_pmap]
  simp
theorem keysS_len (xs : List ByteArray) (h : ∀ x ∈ xs, x.size ≤ maxLen) : (keysS xs h).length = xs.length := by simp [keysS]
end Go.Proofs.Ytaccppchhljnkaa
