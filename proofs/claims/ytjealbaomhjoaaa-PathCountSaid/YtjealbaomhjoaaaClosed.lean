/- path.Closed, and what is read of pieces and of laid points. -/
import Derived.Test.YtjealbaomhjoaaaSegs
import Derived.Deep.QuietTactic
import Derived.BigQuiet
import Derived.KernelRfl
set_option linter.unusedVariables false
set_option linter.unusedSimpArgs false
namespace Go.Proofs.Ytjealbaomhjoaaa
open Go.RowKit Go.Proofs.Ytjealbaomhjoaaa.G Go.Proofs.YtjealbaomhjoaaaW.PrintWords Go.Proofs.YtjealbaomhjoaaaW.PrintMore
theorem seg_at {W : World} {ad : Addr} {c : List S38} (h : Kd.C k38 W (some ad) c.length c) (i : Nat) (hi : i < c.length) :
    W.cell? (ad.add (i * 7)) = some (.int .i64 (c.getD i z38).f0.f0) ∧ W.cell? ⟨(ad.add (i * 7)).block, (ad.add (i * 7)).off + 1, none⟩ = some (.int .i64 (c.getD i z38).f0.f1) ∧ W.cell? ⟨(ad.add (i * 7)).block, (ad.add (i * 7)).off + 2, none⟩ = some (.int .i64 (c.getD i z38).f1.f0) ∧ W.cell? ⟨(ad.add (i * 7)).block, (ad.add (i * 7)).off + 3, none⟩ = some (.int .i64 (c.getD i z38).f1.f1) ∧ W.cell? ⟨(ad.add (i * 7)).block, (ad.add (i * 7)).off + 4, none⟩ = some (.int .i64 (c.getD i z38).f2.f0) ∧ W.cell? ⟨(ad.add (i * 7)).block, (ad.add (i * 7)).off + 5, none⟩ = some (.int .i64 (c.getD i z38).f2.f1) ∧ W.cell? ⟨(ad.add (i * 7)).block, (ad.add (i * 7)).off + 6, none⟩ = some (.bool (c.getD i z38).f3) := by
  obtain ⟨ad', e, h⟩ := at_T38 h (i : Int) (by omega) (by omega)
  injection e with e
  subst e
  exact h
def eqP (p q : S36) : Bool := p.f0 == q.f0 && (p.f1 == q.f1)
def clL (l : List S38) : Nat → Nat → Bool
  | _, 0 => true
  | i, d + 1 => if eqP (l.getD i z38).f2 (l.getD ((i + 1) % l.length) z38).f0 then clL l (i + 1) d else false
def clF (l : List S38) : Bool := clL l 0 l.length

attribute [local go_sem high] eqA36 eqA38
attribute [local go_sem] cell_alloc in
set_option maxHeartbeats 2000000 in
set_option maxRecDepth 100000 in
theorem closed_c (ad : Addr) (cap : Nat) (l : List S38) (w : World) (rd : Kd.C k38 w (some ad) l.length l) (hle : l.length ≤ cap) (hn : l.length ≤ 100000) (hpos : 0 < l.length) :
    Calls Try.prog 31 #[.slice (some ad) l.length cap] w fun e w' => e = .returned (.bool (clF l)) ∧ Below w.heap.size w w' := by
  have RD := Lib.hid rd; clear rd
  obtain ⟨n, hN⟩ : ∃ n, l.length = n := ⟨_, rfl⟩
  obtain ⟨R, hR⟩ : ∃ R, clF l = R := ⟨_, rfl⟩
  rw [hN] at hle hn hpos ⊢
  rw [hR]
  have HN := Lib.hid hN
  have HR : Hid (clL l 0 n = R) := Lib.hid (by rw [← hN]; exact hR)
  clear hN hR
  go_enter Try.func31, Try.ntmps31
  go_wp2_with fail
  go_loopw [7] (fun v7 W => ∃ i : Nat, v7 = .int .i64 i ∧ i ≤ n ∧ Hid (Below w.heap.size w W) ∧ Hid (clL l i (n - i) = R)) (fun v7 _ => n - (intOf v7).toNat)
  case atStart => exact ⟨0, rfl, Nat.zero_le _, Lib.hid (Below.refl _ _), HR⟩
  case round =>
    obtain ⟨i, rfl, hi, HB, HE⟩ := hrel
    by_cases hin : i < n
    · have hii : (i : Int) < (n : Int) := by omega
      have hB0 := HB.out
      obtain ⟨I, hI⟩ : ∃ I, (i + 1) % n = I := ⟨_, rfl⟩
      have hIn : I < n := hI ▸ Nat.mod_lt _ hpos
      have hIi : (I : Int) < (n : Int) := by omega
      have htm : Int.tmod ((i : Int) + 1) (n : Int) = (I : Int) := by rw [← hI]; rfl
      have hn0 : ((n : Int) == 0) = false := by simp; omega
      have hn1 : ((n : Int) = 0) = False := by simp; omega
      have hwi : IntKind.i64.wrap ((i : Int) + 1) = (i : Int) + 1 := by rw [IntKind.wrap_i64]; omega
      obtain ⟨d, hd⟩ : ∃ d, n - i = d + 1 := ⟨n - i - 1, by omega⟩
      have he := HE.out
      obtain ⟨s, hs⟩ : ∃ s, l.getD i z38 = s := ⟨_, rfl⟩
      obtain ⟨t, ht⟩ : ∃ t, l.getD I z38 = t := ⟨_, rfl⟩
      rw [hd, clL, HN.out, hI, hs, ht] at he
      obtain ⟨p0, p1, p2, p3, p4, p5, p6⟩ := seg_at (Kd.C_below RD.out hB0) i (by rw [HN.out]; exact hin)
      rw [hs] at p0 p1 p2 p3 p4 p5 p6
      have hb1 := below_alloc (Below.refl _ wr) (.cells #[.int .i64 s.f0.f0, .int .i64 s.f0.f1, .int .i64 s.f1.f0, .int .i64 s.f1.f1, .int .i64 s.f2.f0, .int .i64 s.f2.f1, .bool s.f3] 38)
      obtain ⟨r0, r1, -⟩ := seg_at (Kd.C_below (Kd.C_below RD.out hB0) hb1) I (by rw [HN.out]; exact hIn)
      rw [ht] at r0 r1
      have hd2 : n - (i + 1) = d := by omega
      have HB1 := Lib.hid (below_step hB0 hb1)
      have HE1 := he
      clear he HE hs ht hb1 hB0 hI
      go_upto_region 4 with (fail)
      have g0 := heap_alloc_new wr (.cells #[.int .i64 s.f0.f0, .int .i64 s.f0.f1, .int .i64 s.f1.f0, .int .i64 s.f1.f1, .int .i64 s.f2.f0, .int .i64 s.f2.f1, .bool s.f3] 38)
      generalize wr.alloc (.cells #[.int .i64 s.f0.f0, .int .i64 s.f0.f1, .int .i64 s.f1.f0, .int .i64 s.f1.f1, .int .i64 s.f2.f0, .int .i64 s.f2.f1, .bool s.f3] 38) = W1 at *
      have c4 := (blk_cell g0 4).trans rfl
      have c5 := (blk_cell g0 5).trans rfl
      clear p0 p1 p2 p3 p4 p5 p6 g0
      generalize wr.heap.size = bV at *
      by_cases hab : eqP s.f2 t.f0 = true
      · have h2 : s.f2.f0 = t.f0.f0 ∧ s.f2.f1 = t.f0.f1 := by simpa [eqP] using hab
        obtain ⟨h2, h3⟩ := h2
        rw [h2] at c4; rw [h3] at c5
        rw [if_pos hab] at HE1
        clear hab h2 h3
        go_wp2_with fail
        go_quiet (fail)
        go_wp2_with fail
        go_roundw
        case rel => exact ⟨i + 1, by go_num, by omega, Lib.hid (pw_below_drewN HB1.out nq), Lib.hid (by rw [hd2]; exact HE1)⟩
        case measure => simp [intOf]; omega
      · have hx : (s.f2.f0 == t.f0.f0 && (s.f2.f1 == t.f0.f1)) = false := by simpa [eqP] using hab
        rw [if_neg hab] at HE1
        have hR : R = false := HE1.symm
        subst hR
        clear hab HE1
        by_cases ha : s.f2.f0 = t.f0.f0
        · have hb : (s.f2.f1 == t.f0.f1) = false := by simpa [ha] using hx
          have hbn : ¬ s.f2.f1 = t.f0.f1 := by simpa using hb
          rw [ha] at c4
          clear hx ha
          go_wp2_with fail
          go_quiet (fail)
          go_wp2_with fail
          go_ret
          exact ⟨rfl, pw_below_drewN HB1.out nq⟩
        · have hb : (s.f2.f0 == t.f0.f0) = false := by simpa using ha
          clear hx
          go_wp2_with fail
          go_quiet (fail)
          go_wp2_with fail
          go_ret
          exact ⟨rfl, pw_below_drewN HB1.out nq⟩
    · have hii : ¬ (i : Int) < (n : Int) := by omega
      have he := HE.out
      rw [show n - i = 0 by omega, clL] at he
      subst he
      go_wp2_with fail
      go_ret
      exact ⟨rfl, HB.out⟩
end Go.Proofs.Ytjealbaomhjoaaa
