/- Atlases: the model's load, where nothing is loaded. -/
import Derived.Test.YtaccppchhljnkaaMdE
set_option linter.unusedVariables false
set_option linter.unusedSimpArgs false
namespace Go.Proofs.Ytaccppchhljnkaa
open Go.RowKit Go.Shelf Go.Proofs.YtaccppchhljnkaaW.PrintWords Go.Proofs.YtaccppchhljnkaaW.PrintLast Go.Proofs.YtaccppchhljnkaaW.PrintMore
set_option maxHeartbeats 4000000 in
set_option maxRecDepth 100000 in
theorem loadM_exist (W : World) (b w h pad : Nat) (s : AtS) (F : ByteArray → Option FV) (c : MdC) (hA : MdAt W b w h pad s F c) (k : ByteArray) (hkl : k.size ≤ maxLen) (fw fh : Int) (A : Option Addr) (n cap : Nat) (h1 : -1000000 ≤ fw ∧ fw ≤ 1000000) (h2 : -1000000 ≤ fh ∧ fh ≤ 1000000) (hk : k ∈ s.keys) :
    Calls Try.prog 28 #[.pointer (some ⟨b, 0, none⟩), .string k, Ef fw fh (.slice A n cap)] W fun e w' => e = .returned (.int .i64 7) ∧ Below W.heap.size W w' := by
  have bb0 := below_alloc (Below.refl _ W) (.cells #[.int .i64 fw, .int .i64 fh, .slice A n cap] 44)
  have A0 := hA.raw.below bb0
  have G0 := heap_alloc_new W (.cells #[.int .i64 fw, .int .i64 fh, .slice A n cap] 44)
  obtain ⟨c0, c1, c2, c3, c4, c5, c6, c7⟩ := A0.cell
  have hlk : (Instr.lookup 30 (.map (some c.bP)) (.string k) true).run Try.prog (W.alloc (.cells #[.int .i64 fw, .int .i64 fh, .slice A n cap] 44)) = .ok (.tuple #[Er ((s.pl k).getD r00), .bool (s.pl k).isSome]) (W.alloc (.cells #[.int .i64 fw, .int .i64 fh, .slice A n cap] 44)) := by
    have := A0.mp.look_ok Try.strKeyed Try.underlying30 (zeroRect _) (key_of hkl)
    rw [this]
    cases s.pl k <;> rfl
  have hpi : (s.pl k).isSome = true := (hA.inv.mem k).2 hk
  rw [hpi] at hlk
  obtain ⟨⟨rx, ry, rm, rn⟩, hr0⟩ : ∃ r, (s.pl k).getD r00 = r := ⟨_, rfl⟩
  rw [hr0] at hlk
  unfold Er at hlk
  have B0 := Lib.hid bb0
  have GF0 := Lib.hid G0
  have HA := Lib.hid hA
  have HKN := Lib.hid hk; have HKL := Lib.hid hkl
  have HA0 := Lib.hid A0
  clear bb0 A0 G0 hA hk hkl hr0 hpi c0 c1 c2 c3 c4 c6 c7
  unfold Ef
  go_enter Try.func28, Try.ntmps28
  go_upto_region 1 with (fail)
  generalize W.alloc (.cells #[.int .i64 fw, .int .i64 fh, .slice A n cap] 44) = w1 at *
  go_upto_region 2 with (fail)
  have bb := below_alloc (Below.refl _ w1) (.cells #[.int .i64 rx, .int .i64 ry, .int .i64 rm, .int .i64 rn] 39)
  have BW := Lib.hid (below_step B0.out bb)
  have GF := Lib.hid (blk_below GF0.out bb)
  have HR2 := Lib.hid (HA0.out.below bb)
  clear bb hlk c5 B0 GF0 HA0
  generalize w1.alloc (.cells #[.int .i64 rx, .int .i64 ry, .int .i64 rm, .int .i64 rn] 39) = w2 at *
  obtain ⟨c0, c1, c2, c3, c4, c5, c6, c7⟩ := HR2.out.cell
  have z0 : w2.cell? ⟨W.heap.size, 0, none⟩ = some (.int .i64 fw) := (blk_cell GF.out 0).trans rfl
  have z1 : w2.cell? ⟨W.heap.size, 1, none⟩ = some (.int .i64 fh) := (blk_cell GF.out 1).trans rfl
  have z2 : w2.cell? ⟨W.heap.size, 2, none⟩ = some (.slice A n cap) := (blk_cell GF.out 2).trans rfl
  go_wp2_with fail
  go_ret
  exact ⟨rfl, BW.out⟩
set_option maxHeartbeats 4000000 in
set_option maxRecDepth 100000 in
theorem loadM_bad (W : World) (b w h pad : Nat) (s : AtS) (F : ByteArray → Option FV) (c : MdC) (hA : MdAt W b w h pad s F c) (k : ByteArray) (hkl : k.size ≤ maxLen) (fw fh : Int) (A : Option Addr) (n cap : Nat) (h1 : -1000000 ≤ fw ∧ fw ≤ 1000000) (h2 : -1000000 ≤ fh ∧ fh ≤ 1000000) (hk : k ∉ s.keys) (hbad : badF fw fh n) (hn : n ≤ 140737488355328) :
    Calls Try.prog 28 #[.pointer (some ⟨b, 0, none⟩), .string k, Ef fw fh (.slice A n cap)] W fun e w' => e = .returned (.int .i64 4) ∧ Below W.heap.size W w' := by
  have bb0 := below_alloc (Below.refl _ W) (.cells #[.int .i64 fw, .int .i64 fh, .slice A n cap] 44)
  have A0 := hA.raw.below bb0
  have G0 := heap_alloc_new W (.cells #[.int .i64 fw, .int .i64 fh, .slice A n cap] 44)
  obtain ⟨c0, c1, c2, c3, c4, c5, c6, c7⟩ := A0.cell
  have hlk : (Instr.lookup 30 (.map (some c.bP)) (.string k) true).run Try.prog (W.alloc (.cells #[.int .i64 fw, .int .i64 fh, .slice A n cap] 44)) = .ok (.tuple #[Er ((s.pl k).getD r00), .bool (s.pl k).isSome]) (W.alloc (.cells #[.int .i64 fw, .int .i64 fh, .slice A n cap] 44)) := by
    have := A0.mp.look_ok Try.strKeyed Try.underlying30 (zeroRect _) (key_of hkl)
    rw [this]
    cases s.pl k <;> rfl
  have hpi : (s.pl k).isSome = false := by rw [hA.inv.noPl hk]; rfl
  rw [hpi] at hlk
  obtain ⟨⟨rx, ry, rm, rn⟩, hr0⟩ : ∃ r, (s.pl k).getD r00 = r := ⟨_, rfl⟩
  rw [hr0] at hlk
  unfold Er at hlk
  have B0 := Lib.hid bb0
  have GF0 := Lib.hid G0
  have HA := Lib.hid hA
  have HKN := Lib.hid hk; have HKL := Lib.hid hkl
  have HA0 := Lib.hid A0
  clear bb0 A0 G0 hA hk hkl hr0 hpi c0 c1 c2 c3 c4 c6 c7
  unfold Ef
  go_enter Try.func28, Try.ntmps28
  go_upto_region 1 with (fail)
  generalize W.alloc (.cells #[.int .i64 fw, .int .i64 fh, .slice A n cap] 44) = w1 at *
  go_upto_region 2 with (fail)
  have bb := below_alloc (Below.refl _ w1) (.cells #[.int .i64 rx, .int .i64 ry, .int .i64 rm, .int .i64 rn] 39)
  have BW := Lib.hid (below_step B0.out bb)
  have GF := Lib.hid (blk_below GF0.out bb)
  have HR2 := Lib.hid (HA0.out.below bb)
  clear bb hlk c5 B0 GF0 HA0
  generalize w1.alloc (.cells #[.int .i64 rx, .int .i64 ry, .int .i64 rm, .int .i64 rn] 39) = w2 at *
  obtain ⟨c0, c1, c2, c3, c4, c5, c6, c7⟩ := HR2.out.cell
  have z0 : w2.cell? ⟨W.heap.size, 0, none⟩ = some (.int .i64 fw) := (blk_cell GF.out 0).trans rfl
  have z1 : w2.cell? ⟨W.heap.size, 1, none⟩ = some (.int .i64 fh) := (blk_cell GF.out 1).trans rfl
  have z2 : w2.cell? ⟨W.heap.size, 2, none⟩ = some (.slice A n cap) := (blk_cell GF.out 2).trans rfl
  by_cases g1 : fw < 1
  · have d1 : decide (fw < 1) = true := decide_eq_true g1
    clear hbad
    go_wp2_with fail
    go_ret
    exact ⟨rfl, BW.out⟩
  · have d1 : decide (fw < 1) = false := decide_eq_false g1
    by_cases g2 : fh < 1
    · have d2 : decide (fh < 1) = true := decide_eq_true g2
      clear hbad
      go_wp2_with fail
      go_ret
      exact ⟨rfl, BW.out⟩
    · have d2 : decide (fh < 1) = false := decide_eq_false g2
      by_cases g3 : 64 < fw
      · have d3 : decide (64 < fw) = true := decide_eq_true g3
        clear hbad
        go_wp2_with fail
        go_ret
        exact ⟨rfl, BW.out⟩
      · have d3 : decide (64 < fw) = false := decide_eq_false g3
        by_cases g4 : 64 < fh
        · have d4 : decide (64 < fh) = true := decide_eq_true g4
          clear hbad
          go_wp2_with fail
          go_ret
          exact ⟨rfl, BW.out⟩
        · have d4 : decide (64 < fh) = false := decide_eq_false g4
          obtain ⟨a, rfl⟩ := Int.eq_ofNat_of_zero_le (show 0 ≤ fw by omega)
          obtain ⟨a', rfl⟩ := Int.eq_ofNat_of_zero_le (show 0 ≤ fh by omega)
          have hmul : a * a' ≤ 64 * 64 := Nat.mul_le_mul (by omega) (by omega)
          obtain ⟨p, hpp⟩ : ∃ p, a * a' = p := ⟨_, rfl⟩
          have e4 : IntKind.i64.wrap ((a : Int) * (a' : Int)) = (p : Int) := by rw [← Int.natCast_mul, hpp, IntKind.wrap_i64]; omega
          have hne : (n : Int) ≠ (p : Int) := by
            rcases hbad with h | h | h | h | h
            · exact absurd h g1
            · exact absurd h g2
            · exact absurd h g3
            · exact absurd h g4
            · rw [← Int.natCast_mul, hpp] at h; exact h
          have d5 : ((n : Int) != (p : Int)) = true := by simpa using hne
          clear hbad hmul hpp hne
          go_wp2_with fail
          go_ret
          exact ⟨rfl, BW.out⟩
set_option maxHeartbeats 4000000 in
set_option maxRecDepth 100000 in
theorem loadM_size (W : World) (b w h pad : Nat) (s : AtS) (F : ByteArray → Option FV) (c : MdC) (hA : MdAt W b w h pad s F c) (k : ByteArray) (hkl : k.size ≤ maxLen) (fw fh : Int) (A : Option Addr) (n cap : Nat) (h1 : -1000000 ≤ fw ∧ fw ≤ 1000000) (h2 : -1000000 ≤ fh ∧ fh ≤ 1000000) (hk : k ∉ s.keys) (hbad : ¬ badF fw fh n) (hsz : (w : Int) < fw + 2 * pad ∨ (h : Int) < fh + 2 * pad) :
    Calls Try.prog 28 #[.pointer (some ⟨b, 0, none⟩), .string k, Ef fw fh (.slice A n cap)] W fun e w' => e = .returned (.int .i64 6) ∧ Below W.heap.size W w' := by
  have hp := hA.p4
  obtain ⟨hw0, hw1⟩ := hA.w1
  obtain ⟨hh0, hh1⟩ := hA.h1
  have e1 : IntKind.i64.wrap (2 * (pad : Int)) = 2 * (pad : Int) := by rw [IntKind.wrap_i64]; omega
  have e2 : IntKind.i64.wrap (fw + 2 * (pad : Int)) = fw + 2 * (pad : Int) := by rw [IntKind.wrap_i64]; omega
  have e3 : IntKind.i64.wrap (fh + 2 * (pad : Int)) = fh + 2 * (pad : Int) := by rw [IntKind.wrap_i64]; omega
  unfold badF at hbad
  have d1 : decide (fw < 1) = false := decide_eq_false (fun h => hbad (.inl h))
  have d2 : decide (fh < 1) = false := decide_eq_false (fun h => hbad (.inr (.inl h)))
  have d3 : decide (64 < fw) = false := decide_eq_false (fun h => hbad (.inr (.inr (.inl h))))
  have d4 : decide (64 < fh) = false := decide_eq_false (fun h => hbad (.inr (.inr (.inr (.inl h)))))
  have d5 : (n : Int) = fw * fh := Classical.byContradiction fun h => hbad (.inr (.inr (.inr (.inr h))))
  obtain ⟨a, rfl⟩ := Int.eq_ofNat_of_zero_le (show 0 ≤ fw by omega)
  obtain ⟨a', rfl⟩ := Int.eq_ofNat_of_zero_le (show 0 ≤ fh by omega)
  have hmul : a * a' ≤ 64 * 64 := Nat.mul_le_mul (by omega) (by omega)
  have hnn : a * a' = n := by rw [← Int.natCast_mul] at d5; omega
  have e4 : IntKind.i64.wrap ((a : Int) * (a' : Int)) = (n : Int) := by rw [← Int.natCast_mul, hnn, IntKind.wrap_i64]; omega
  have d6 : ((n : Int) != (n : Int)) = false := by simp
  clear hbad d5 hmul hnn
  have bb0 := below_alloc (Below.refl _ W) (.cells #[.int .i64 (a : Int), .int .i64 (a' : Int), .slice A n cap] 44)
  have A0 := hA.raw.below bb0
  have G0 := heap_alloc_new W (.cells #[.int .i64 (a : Int), .int .i64 (a' : Int), .slice A n cap] 44)
  obtain ⟨c0, c1, c2, c3, c4, c5, c6, c7⟩ := A0.cell
  have hlk : (Instr.lookup 30 (.map (some c.bP)) (.string k) true).run Try.prog (W.alloc (.cells #[.int .i64 (a : Int), .int .i64 (a' : Int), .slice A n cap] 44)) = .ok (.tuple #[Er ((s.pl k).getD r00), .bool (s.pl k).isSome]) (W.alloc (.cells #[.int .i64 (a : Int), .int .i64 (a' : Int), .slice A n cap] 44)) := by
    have := A0.mp.look_ok Try.strKeyed Try.underlying30 (zeroRect _) (key_of hkl)
    rw [this]
    cases s.pl k <;> rfl
  have hpi : (s.pl k).isSome = false := by rw [hA.inv.noPl hk]; rfl
  rw [hpi] at hlk
  obtain ⟨⟨rx, ry, rm, rn⟩, hr0⟩ : ∃ r, (s.pl k).getD r00 = r := ⟨_, rfl⟩
  rw [hr0] at hlk
  unfold Er at hlk
  have B0 := Lib.hid bb0
  have GF0 := Lib.hid G0
  have HA := Lib.hid hA
  have HKN := Lib.hid hk; have HKL := Lib.hid hkl
  have HA0 := Lib.hid A0
  clear bb0 A0 G0 hA hk hkl hr0 hpi c0 c1 c2 c3 c4 c6 c7
  unfold Ef
  go_enter Try.func28, Try.ntmps28
  go_upto_region 1 with (fail)
  generalize W.alloc (.cells #[.int .i64 (a : Int), .int .i64 (a' : Int), .slice A n cap] 44) = w1 at *
  go_upto_region 2 with (fail)
  have bb := below_alloc (Below.refl _ w1) (.cells #[.int .i64 rx, .int .i64 ry, .int .i64 rm, .int .i64 rn] 39)
  have BW := Lib.hid (below_step B0.out bb)
  have GF := Lib.hid (blk_below GF0.out bb)
  have HR2 := Lib.hid (HA0.out.below bb)
  clear bb hlk c5 B0 GF0 HA0
  generalize w1.alloc (.cells #[.int .i64 rx, .int .i64 ry, .int .i64 rm, .int .i64 rn] 39) = w2 at *
  obtain ⟨c0, c1, c2, c3, c4, c5, c6, c7⟩ := HR2.out.cell
  have z0 : w2.cell? ⟨W.heap.size, 0, none⟩ = some (.int .i64 (a : Int)) := (blk_cell GF.out 0).trans rfl
  have z1 : w2.cell? ⟨W.heap.size, 1, none⟩ = some (.int .i64 (a' : Int)) := (blk_cell GF.out 1).trans rfl
  have z2 : w2.cell? ⟨W.heap.size, 2, none⟩ = some (.slice A n cap) := (blk_cell GF.out 2).trans rfl
  go_upto_region 6 with (fail)
  go_quiet (fail)
  have y0 : (w2.drewN nq).cell? ⟨b, 0, none⟩ = some (.int .i64 w) := c0
  have y1 : (w2.drewN nq).cell? ⟨b, 1, none⟩ = some (.int .i64 h) := c1
  replace BW := Lib.hid (below_drewN BW.out nq)
  replace HR2 := Lib.hid (HR2.out.below (below_drewN (Below.refl _ _) nq))
  replace GF : Hid ((w2.drewN nq).heap[W.heap.size]? = _) := GF
  clear c0 c1 c2 c3 c4 c5 c6 c7 z0 z1 z2
  generalize w2.drewN nq = w2 at *
  by_cases g1 : (w : Int) < (a : Int) + 2 * pad
  · have t1 : decide ((w : Int) < (a : Int) + 2 * pad) = true := decide_eq_true g1
    go_wp2_with fail
    go_ret
    exact ⟨rfl, BW.out⟩
  · have t1 : decide ((w : Int) < (a : Int) + 2 * pad) = false := decide_eq_false g1
    have t2 : decide ((h : Int) < (a' : Int) + 2 * pad) = true := decide_eq_true (hsz.resolve_left g1)
    go_wp2_with fail
    go_ret
    exact ⟨rfl, BW.out⟩
end Go.Proofs.Ytaccppchhljnkaa
