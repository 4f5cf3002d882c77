/- Atlases: a deed, of both. -/
import Derived.Test.YtaccppchhljnkaaMdV
set_option linter.unusedVariables false
set_option linter.unusedSimpArgs false
namespace Go.Proofs.Ytaccppchhljnkaa
open Go.RowKit Go.Shelf Go.Proofs.YtaccppchhljnkaaW.PrintWords Go.Proofs.YtaccppchhljnkaaW.PrintLast Go.Proofs.YtaccppchhljnkaaW.PrintMore
section
variable {P Q : Nat → Prop} {W0 w w' W1 : World} {b bm W H pad : Nat} {sa sm : AtS} {F : ByteArray → Option FV}
theorem Two.look (h : Two P W0 w b bm W H pad sa sm F) {k : ByteArray} (hk : k.size ≤ maxLen) : ∃ bP, w.cell? ⟨bm, 5, none⟩ = some (.map (some bP)) ∧ (Instr.lookup 30 (.map (some bP)) (.string k) true).run Try.prog w = .ok (.tuple #[Er ((sm.pl k).getD r00), .bool (decide (k ∈ sm.keys))]) w := by
  obtain ⟨c, cm, h1, h2, _⟩ := h
  refine ⟨cm.bP, h2.raw.cell.2.2.2.2.2.1, ?_⟩
  have := h2.raw.mp.look_ok Try.strKeyed Try.underlying30 (zeroRect w) (key_of hk)
  rw [this]
  have e : (sm.pl k).isSome = decide (k ∈ sm.keys) := by
    by_cases hm : k ∈ sm.keys
    · rw [decide_eq_true hm]; exact (h2.inv.mem k).2 hm
    · rw [decide_eq_false hm, h2.inv.noPl hm]; rfl
  rw [← e]
  cases sm.pl k <;> rfl
theorem Two.rebase (h : Two Q W1 w' b bm W H pad sa sm F) (hPQ : ∀ q, P q → Q q) (h0 : Kept (fun q => ¬ P q) W0 W1) (hlt : ∀ q, P q → q < W0.heap.size) : Two P W0 w' b bm W H pad sa sm F := by
  obtain ⟨c, cm, h1, h2, h3, h4, h5, h6⟩ := h
  exact ⟨c, cm, h1, h2, h3, fun q hq => ⟨(h4 q (hPQ q hq)).1, (h4 q (hPQ q hq)).2.1, hlt q hq⟩, h0.trans (h5.mono (fun q _ hq hp => hq (hPQ q hp))), h6⟩
theorem Two.keptP (h : Two P W0 w b bm W H pad sa sm F) : Kept (fun q => ¬ P q) W0 w := h.on.keptP
theorem Two.lt (h : Two P W0 w b bm W H pad sa sm F) (q : Nat) (hq : P q) : q < W0.heap.size := by
  obtain ⟨c, cm, h1, h2, h3, h4, h5, h6⟩ := h
  exact (h4 q hq).2.2
end
/-- The field of a deed, beside both. -/
theorem field_two {P : Nat → Prop} {W0 w : World} {b bm W H pad : Nat} {sa sm : AtS} {F : ByteArray → Option FV} (h : Two P W0 w b bm W H pad sa sm F) (o k x y i : Int) (hx : 0 ≤ x ∧ x ≤ 255) (hy : 0 ≤ y ∧ y ≤ 255) (hi : 0 ≤ i ∧ i ≤ 255) (p q : Nat) (hp : (p : Int) = x % 14) (hq : (q : Int) = y % 14) :
    Calls Try.prog 18 #[Ac o k x y i] w fun e w' => ∃ A cap, e = .returned (.agg #[.int .i64 p, .int .i64 q, .slice A (p * q) cap]) ∧ ∃ Q : Nat → Prop, Two Q w' w' b bm W H pad sa sm F ∧ SlO w' 5 1 (.slice A (p * q) cap) (p * q) (((List.range (p * q)).map (txA i)).map (Value.int .u8)) ∧ (∀ q, P q → Q q) ∧ (∀ g, (Value.slice A (p * q) cap).ownBlock = some g → Q g) ∧ Kept (fun q => ¬ P q) W0 w' := by
  refine (fieldA_c w o k x y i hx hy hi p q hp hq).mono ?_
  rintro e w' ⟨A, cap, rfl, h1, h2, h3⟩
  refine ⟨A, cap, rfl, fun q => P q ∨ (w.heap.size ≤ q ∧ q < w'.heap.size), h.add h2 (fun q hq => ?_), h1, fun q hq => .inl hq, fun g hg => .inr ⟨h3 g hg, h1.lt hg⟩, h.keptP.trans (Kept.of_below _ h2)⟩
  rcases hq with hq | hq
  · have := h.lt q hq; have := h.keptP.size; have := h2.size; exact ⟨by omega, .inl hq⟩
  · exact ⟨hq.2, .inr hq.1⟩
theorem nmA_size (n : Nat) : (nmA n).size ≤ maxLen := by
  show 2 ≤ maxLen
  unfold maxLen; omega
/-- The state behind a deed. -/
def doS (w h pad : Nat) (s : AtS) (o : Int) (k : Nat) (p q : Nat) (i : Int) : AtS :=
  if o % 8 = 0 ∨ o % 8 = 1 then touchV s (nmA k)
  else if o % 8 = 2 then evictV w h s (nmA k)
  else if o % 8 = 3 then (loadV w h pad s (nmA k) p q ((List.range (p * q)).map (txA i) ++ [1])).2
  else (loadV w h pad s (nmA k) p q ((List.range (p * q)).map (txA i))).2
set_option maxHeartbeats 8000000 in
set_option maxRecDepth 100000 in
theorem do_c {P : Nat → Prop} {W0 w : World} {b bm W H pad : Nat} {s : AtS} {F : ByteArray → Option FV} (h : Two P W0 w b bm W H pad s s F) (o x y i : Int) (k p q : Nat) (ho : 0 ≤ o ∧ o ≤ 255) (hk : k ≤ 255) (hx : 0 ≤ x ∧ x ≤ 255) (hy : 0 ≤ y ∧ y ≤ 255) (hi : 0 ≤ i ∧ i ≤ 255) (hp : (p : Int) = x % 14) (hq : (q : Int) = y % 14) (hgl : s.gone.length ≤ 90000) :
    Calls Try.prog 11 #[.pointer (some ⟨b, 0, none⟩), .pointer (some ⟨bm, 0, none⟩), Ac o k x y i] w fun e w' => e = .returned (.bool true) ∧ ∃ F', Two P W0 w' b bm W H pad (doS W H pad s o k p q i) (doS W H pad s o k p q i) F' := by
  have H0 := Lib.hid h
  have HFA := Lib.hid (fun (Q : Nat → Prop) W1 w' sa sm F (h : Two Q W1 w' b bm W H pad sa sm F) => field_two h o k x y i hx hy hi p q hp hq)
  have HFB := Lib.hid (fun W' => fieldA_c W' o k x y i hx hy hi p q hp hq)
  have HNA := Lib.hid (fun W' => name_c W' k hk)
  obtain ⟨o0, o1⟩ := ho
  have hto : o.tmod 8 = o % 8 := Int.tmod_eq_emod_of_nonneg o0
  have hpq : p ≤ 13 ∧ q ≤ 13 := by omega
  obtain ⟨nm, hnm⟩ : ∃ nm, nmA k = nm := ⟨_, rfl⟩
  have HNZ : Hid (nm.size ≤ maxLen) := Lib.hid (by rw [← hnm]; exact nmA_size k)
  obtain ⟨sN, hsN⟩ : ∃ sN, doS W H pad s o k p q i = sN := ⟨_, rfl⟩
  rw [hsN]
  have HSN := Lib.hid hsN; have HNM := Lib.hid hnm
  rw [hnm] at HNA
  have bb := below_alloc (Below.refl _ w) (.cells #[.int .u8 o, .int .u8 (k : Int), .int .u8 x, .int .u8 y, .int .u8 i] 35)
  have H1 := Lib.hid (h.add (Q := fun q => P q ∨ q = w.heap.size) bb (fun q hq => by
    rw [World.size_alloc]
    rcases hq with hq | hq
    · have := h.lt q hq; have := h.keptP.size; exact ⟨by omega, .inl hq⟩
    · exact ⟨by omega, .inr (by omega)⟩))
  obtain ⟨Q0, hQ0⟩ : ∃ Q0 : Nat → Prop, (fun q => P q ∨ q = w.heap.size) = Q0 := ⟨_, rfl⟩
  have HQP : Hid (∀ q, P q → Q0 q) := Lib.hid (fun q hq => by rw [← hQ0]; exact .inl hq)
  have HQW : Hid (Q0 w.heap.size) := Lib.hid (by rw [← hQ0]; exact .inr rfl)
  rw [hQ0] at H1
  have G1 := Lib.hid (heap_alloc_new w (.cells #[.int .u8 o, .int .u8 (k : Int), .int .u8 x, .int .u8 y, .int .u8 i] 35))
  have K1 : Hid (Kept (fun q => ¬ P q) W0 (w.alloc (.cells #[.int .u8 o, .int .u8 (k : Int), .int .u8 x, .int .u8 y, .int .u8 i] 35))) := Lib.hid (h.keptP.trans (Kept.of_below _ bb))
  clear h hx hy hi hp hq hk hnm bb hsN hQ0
  go_enter Try.func11, Try.ntmps11
  go_upto_region 1 with (fail)
  generalize w.alloc (.cells #[.int .u8 o, .int .u8 (k : Int), .int .u8 x, .int .u8 y, .int .u8 i] 35) = w1 at *
  have a0 : w1.cell? ⟨w.heap.size, 0, none⟩ = some (.int .u8 o) := (blk_cell G1.out 0).trans rfl
  have a1 : w1.cell? ⟨w.heap.size, 1, none⟩ = some (.int .u8 k) := (blk_cell G1.out 1).trans rfl
  go_wp2_with fail
  refine (HNA.out w1).mono ?_
  rintro e w2 ⟨rfl, rfl⟩
  obtain ⟨bP, m5, hlk⟩ := H1.out.look HNZ.out
  obtain ⟨⟨rx, ry, rm, rn⟩, hr0⟩ : ∃ r, (s.pl nm).getD r00 = r := ⟨_, rfl⟩
  obtain ⟨had, hhad⟩ : ∃ had, decide (nm ∈ s.keys) = had := ⟨_, rfl⟩
  rw [hr0, hhad] at hlk
  unfold Er at hlk
  have HAD := Lib.hid hhad
  clear hr0 hhad
  go_upto_region 3 with (fail)
  have bb := below_alloc (Below.refl _ w2) (.cells #[.int .i64 rx, .int .i64 ry, .int .i64 rm, .int .i64 rn] 39)
  have H3 : Hid (Two Q0 w2 (w2.alloc (.cells #[.int .i64 rx, .int .i64 ry, .int .i64 rm, .int .i64 rn] 39)) b bm W H pad s s F) := Lib.hid (H1.out.below bb)
  have G3 := Lib.hid (blk_below G1.out bb)
  have G2 : Hid (w2.heap[w.heap.size]? = some (.cells #[.int .u8 o, .int .u8 (k : Int), .int .u8 x, .int .u8 y, .int .u8 i] 35 (0, 0))) := G1
  clear bb a0 a1 m5 hlk H1
  generalize w2.alloc (.cells #[.int .i64 rx, .int .i64 ry, .int .i64 rm, .int .i64 rn] 39) = w3 at *
  have HCL : Hid (∀ w' : World, w'.heap[w.heap.size]? = some (.cells #[.int .u8 o, .int .u8 (k : Int), .int .u8 x, .int .u8 y, .int .u8 i] 35 (0, 0)) → w'.cell? ⟨w.heap.size, 0, none⟩ = some (.int .u8 o) ∧ w'.cell? ⟨w.heap.size, 1, none⟩ = some (.int .u8 k) ∧ w'.cell? ⟨w.heap.size, 2, none⟩ = some (.int .u8 x) ∧ w'.cell? ⟨w.heap.size, 3, none⟩ = some (.int .u8 y) ∧ w'.cell? ⟨w.heap.size, 4, none⟩ = some (.int .u8 i)) := Lib.hid (fun w' hb => ⟨(blk_cell hb 0).trans rfl, (blk_cell hb 1).trans rfl, (blk_cell hb 2).trans rfl, (blk_cell hb 3).trans rfl, (blk_cell hb 4).trans rfl⟩)
  obtain ⟨a0, a1, a2, a3, a4⟩ := HCL.out _ G3.out
  obtain ⟨i0, hi0, hz0, hz1, hz2⟩ := info_parts Try.info_strO
  obtain ⟨r8, hr8⟩ : ∃ r8, o % 8 = r8 := ⟨_, rfl⟩
  have hr80 : 0 ≤ r8 ∧ r8 < 8 := by omega
  rw [hr8] at hto
  by_cases q0 : r8 = 0
  · subst q0
    have HS : Hid (touchV s nm = sN) := Lib.hid (by rw [← HSN.out, ← HNM.out]; unfold doS; rw [if_pos (.inl hr8)])
    cases had with
    | true =>
      have hmem : nm ∈ s.keys := of_decide_eq_true HAD.out
      have h6 := H3.out
      obtain ⟨c, cm, g1, g2, g3, g4, g5, g6⟩ := h6
      have hdr := drop_c w3 bm W H pad cm s.l s.keys _ _ _ _ s.gone g2.raw (by have := g2.inv.le; omega) nm
      rw [noK_erase g2.inv.nd] at hdr
      have HDR := Lib.hid hdr
      have Z1 := Lib.hid g1; have Z2 := Lib.hid g2; have Z3 := Lib.hid g3; have Z4 := Lib.hid g4; have Z5 := Lib.hid g5; have Z6 := Lib.hid g6
      have HMEM := Lib.hid hmem
      clear hdr g1 g2 g3 g4 g5 g6 hmem
      go_wp2_with fail
      refine HDR.out.mono ?_
      rintro e w4 ⟨rfl, cm1, r4, st4⟩
      have R4 := Lib.hid r4; have S4 := Lib.hid st4
      obtain ⟨c0, c1, c2, c3, c4, c5, c6, c7⟩ := r4.cell
      have hks := r4.ks
      obtain ⟨K, hK⟩ : ∃ K, (s.keys.erase nm).length = K := ⟨_, rfl⟩
      have hK32 : K ≤ 32 := by rw [← hK]; exact Nat.le_trans List.length_erase_le Z2.out.inv.le
      rw [hK] at hks
      obtain ⟨Ak, capk, hvk, hck⟩ := hks.isSlice
      rw [hvk] at hks c4
      have HKS := Lib.hid hks; have HK := Lib.hid hK; have HVK := Lib.hid hvk
      clear r4 st4 HDR c0 c1 c2 c3 c5 c6 c7 hks hK hvk
      go_wp2_with (at_builtin; go_must (refine wpList_append_sl _ rfl (.tmp 37) (.tmp 39) 29 rfl 9 i0 (.string ByteArray.empty) 1 16 Try.underlying29 hi0 hz0 hz1 hz2 rfl (by decide) _ K _ rfl (HKS.out.kept (Kept.alloc (fun _ => False) _ _) (by simp)) ⟨w4.heap.size, 0, none⟩ 1 1 [.string nm] rfl rfl ?c1 ?c2 ?c3 ?c4 ?_))
      case c1 =>
        intro j' u hj'
        match j', hj' with
        | 0, hj' => simp at hj'; subst hj'; simp [Addr.add]
      case c2 => intro u hu; simp at hu; subst hu; rfl
      case c3 => unfold maxLen; omega
      case c4 => omega
      · intro A' cap' w5 hs5 hg5 ho5 _
        have hk5 : Kept (fun x => cm1.vk.ownBlock = some x) w4 w5 := (Kept.alloc _ w4 _).trans (Kept.of_grownBy (by rw [HVK.out]; exact hg5))
        have hs6 : SlO w5 9 1 (.slice A' (K + 1) cap') (s.keys.erase nm ++ [nm]).length ((s.keys.erase nm ++ [nm]).map Value.string) := by
          rw [List.length_append, List.map_append, HK.out]; exact hs5
        obtain ⟨m1, m2, m3⟩ := R4.out.setKeys hk5 hs6 (fun q hq => by
          rw [HVK.out]
          rcases ho5 with h | h
          · exact .inl (h ▸ hq)
          · rw [h] at hq; injection hq with hq; exact .inr (by omega))
        have b5 := hk5.get R4.out.blk (fun e => (R4.out.apart.k4 _ e).1 rfl)
        have x4 : w5.cell? ⟨bm, 4, none⟩ = some cm1.vk := (blk_cell b5 4).trans rfl
        have x5 : w5.frozen? ⟨bm, 4, none⟩ = false := blk_frozen b5 4
        have hst : MStep w3 bm cm (w5.setCell ⟨bm, 4, none⟩ (.slice A' (K + 1) cap')) (cm1.setK (.slice A' (K + 1) cap')) := S4.out.trans ⟨m2, m3⟩
        have hlen : (s.keys.erase nm ++ [nm]).length = s.keys.length := by
          rw [List.length_append, List.length_erase_of_mem HMEM.out]
          have := List.length_pos_of_mem HMEM.out
          simp; omega
        have hmu : ∀ u, u ∈ s.keys.erase nm ++ [nm] ↔ u ∈ s.keys := fun u => by
          rw [List.mem_append, Z2.out.inv.nd.mem_erase_iff, List.mem_singleton]
          constructor
          · rintro (h | h)
            · exact h.2
            · exact h ▸ HMEM.out
          · intro h
            by_cases e : u = nm
            · exact .inr e
            · exact .inl ⟨e, h⟩
        have hat : MdAt (w5.setCell ⟨bm, 4, none⟩ (.slice A' (K + 1) cap')) bm W H pad (touchS s nm) F (cm1.setK (.slice A' (K + 1) cap')) := by
          refine ⟨?_, Z2.out.w1, Z2.out.h1, Z2.out.p4, Z2.out.inv.touch nm HMEM.out, fun u hu => Z2.out.kl u ((hmu u).1 hu), fun u => (Z2.out.fk u).trans (hmu u).symm⟩
          show MdRaw _ bm W H pad _ s.l (s.keys.erase nm ++ [nm]) s.pl (s.keys.erase nm ++ [nm]).length F (s.keys.erase nm ++ [nm]).length s.gone
          rw [hlen]
          exact m1
        have H5 := Lib.hid (two_m Z1.out Z2.out Z3.out Z4.out Z5.out hat hst ((two_tx Z6.out hst).state (fun u x hx => ⟨hx, rfl, rfl⟩)))
        clear hs5 hg5 ho5 hk5 hs6 m1 m2 m3 b5 hst hlen hmu hat c4
        go_wp2_with fail
        refine (touch_two H5.out nm).mono ?_
        rintro e w6 ⟨rfl, h6⟩
        rw [decide_eq_true HMEM.out]
        have H6 := Lib.hid h6
        clear h6
        go_wp2_with fail
        go_ret
        refine ⟨rfl, F, ?_⟩
        have h7 := H6.out
        have hS := HS.out
        unfold touchV at h7 hS
        rw [if_pos HMEM.out] at h7 hS
        rw [hS] at h7; exact h7.rebase HQP.out K1.out H0.out.lt
    | false =>
      have hmem : nm ∉ s.keys := of_decide_eq_false HAD.out
      have HMEM := Lib.hid hmem
      clear hmem
      go_wp2_with fail
      refine (touch_two H3.out nm).mono ?_
      rintro e w6 ⟨rfl, h6⟩
      rw [decide_eq_false HMEM.out]
      have H6 := Lib.hid h6
      clear h6
      go_wp2_with fail
      go_ret
      refine ⟨rfl, F, ?_⟩
      have h7 := H6.out
      have hS := HS.out
      unfold touchV at h7 hS
      rw [if_neg HMEM.out] at h7 hS
      rw [hS] at h7; exact h7.rebase HQP.out K1.out H0.out.lt
  · by_cases q1 : r8 = 1
    · subst q1
      have HS : Hid (touchV s nm = sN) := Lib.hid (by rw [← HSN.out, ← HNM.out]; unfold doS; rw [if_pos (.inr hr8)])
      cases had with
      | true =>
        have hmem : nm ∈ s.keys := of_decide_eq_true HAD.out
        have h6 := H3.out
        obtain ⟨c, cm, g1, g2, g3, g4, g5, g6⟩ := h6
        have hdr := drop_c w3 bm W H pad cm s.l s.keys _ _ _ _ s.gone g2.raw (by have := g2.inv.le; omega) nm
        rw [noK_erase g2.inv.nd] at hdr
        have HDR := Lib.hid hdr
        have Z1 := Lib.hid g1; have Z2 := Lib.hid g2; have Z3 := Lib.hid g3; have Z4 := Lib.hid g4; have Z5 := Lib.hid g5; have Z6 := Lib.hid g6
        have HMEM := Lib.hid hmem
        clear hdr g1 g2 g3 g4 g5 g6 hmem
        go_wp2_with fail
        refine HDR.out.mono ?_
        rintro e w4 ⟨rfl, cm1, r4, st4⟩
        have R4 := Lib.hid r4; have S4 := Lib.hid st4
        obtain ⟨c0, c1, c2, c3, c4, c5, c6, c7⟩ := r4.cell
        have hks := r4.ks
        obtain ⟨K, hK⟩ : ∃ K, (s.keys.erase nm).length = K := ⟨_, rfl⟩
        have hK32 : K ≤ 32 := by rw [← hK]; exact Nat.le_trans List.length_erase_le Z2.out.inv.le
        rw [hK] at hks
        obtain ⟨Ak, capk, hvk, hck⟩ := hks.isSlice
        rw [hvk] at hks c4
        have HKS := Lib.hid hks; have HK := Lib.hid hK; have HVK := Lib.hid hvk
        clear r4 st4 HDR c0 c1 c2 c3 c5 c6 c7 hks hK hvk
        go_wp2_with (at_builtin; go_must (refine wpList_append_sl _ rfl (.tmp 37) (.tmp 39) 29 rfl 9 i0 (.string ByteArray.empty) 1 16 Try.underlying29 hi0 hz0 hz1 hz2 rfl (by decide) _ K _ rfl (HKS.out.kept (Kept.alloc (fun _ => False) _ _) (by simp)) ⟨w4.heap.size, 0, none⟩ 1 1 [.string nm] rfl rfl ?c1 ?c2 ?c3 ?c4 ?_))
        case c1 =>
          intro j' u hj'
          match j', hj' with
          | 0, hj' => simp at hj'; subst hj'; simp [Addr.add]
        case c2 => intro u hu; simp at hu; subst hu; rfl
        case c3 => unfold maxLen; omega
        case c4 => omega
        · intro A' cap' w5 hs5 hg5 ho5 _
          have hk5 : Kept (fun x => cm1.vk.ownBlock = some x) w4 w5 := (Kept.alloc _ w4 _).trans (Kept.of_grownBy (by rw [HVK.out]; exact hg5))
          have hs6 : SlO w5 9 1 (.slice A' (K + 1) cap') (s.keys.erase nm ++ [nm]).length ((s.keys.erase nm ++ [nm]).map Value.string) := by
            rw [List.length_append, List.map_append, HK.out]; exact hs5
          obtain ⟨m1, m2, m3⟩ := R4.out.setKeys hk5 hs6 (fun q hq => by
            rw [HVK.out]
            rcases ho5 with h | h
            · exact .inl (h ▸ hq)
            · rw [h] at hq; injection hq with hq; exact .inr (by omega))
          have b5 := hk5.get R4.out.blk (fun e => (R4.out.apart.k4 _ e).1 rfl)
          have x4 : w5.cell? ⟨bm, 4, none⟩ = some cm1.vk := (blk_cell b5 4).trans rfl
          have x5 : w5.frozen? ⟨bm, 4, none⟩ = false := blk_frozen b5 4
          have hst : MStep w3 bm cm (w5.setCell ⟨bm, 4, none⟩ (.slice A' (K + 1) cap')) (cm1.setK (.slice A' (K + 1) cap')) := S4.out.trans ⟨m2, m3⟩
          have hlen : (s.keys.erase nm ++ [nm]).length = s.keys.length := by
            rw [List.length_append, List.length_erase_of_mem HMEM.out]
            have := List.length_pos_of_mem HMEM.out
            simp; omega
          have hmu : ∀ u, u ∈ s.keys.erase nm ++ [nm] ↔ u ∈ s.keys := fun u => by
            rw [List.mem_append, Z2.out.inv.nd.mem_erase_iff, List.mem_singleton]
            constructor
            · rintro (h | h)
              · exact h.2
              · exact h ▸ HMEM.out
            · intro h
              by_cases e : u = nm
              · exact .inr e
              · exact .inl ⟨e, h⟩
          have hat : MdAt (w5.setCell ⟨bm, 4, none⟩ (.slice A' (K + 1) cap')) bm W H pad (touchS s nm) F (cm1.setK (.slice A' (K + 1) cap')) := by
            refine ⟨?_, Z2.out.w1, Z2.out.h1, Z2.out.p4, Z2.out.inv.touch nm HMEM.out, fun u hu => Z2.out.kl u ((hmu u).1 hu), fun u => (Z2.out.fk u).trans (hmu u).symm⟩
            show MdRaw _ bm W H pad _ s.l (s.keys.erase nm ++ [nm]) s.pl (s.keys.erase nm ++ [nm]).length F (s.keys.erase nm ++ [nm]).length s.gone
            rw [hlen]
            exact m1
          have H5 := Lib.hid (two_m Z1.out Z2.out Z3.out Z4.out Z5.out hat hst ((two_tx Z6.out hst).state (fun u x hx => ⟨hx, rfl, rfl⟩)))
          clear hs5 hg5 ho5 hk5 hs6 m1 m2 m3 b5 hst hlen hmu hat c4
          go_wp2_with fail
          refine (touch_two H5.out nm).mono ?_
          rintro e w6 ⟨rfl, h6⟩
          rw [decide_eq_true HMEM.out]
          have H6 := Lib.hid h6
          clear h6
          go_wp2_with fail
          go_ret
          refine ⟨rfl, F, ?_⟩
          have h7 := H6.out
          have hS := HS.out
          unfold touchV at h7 hS
          rw [if_pos HMEM.out] at h7 hS
          rw [hS] at h7; exact h7.rebase HQP.out K1.out H0.out.lt
      | false =>
        have hmem : nm ∉ s.keys := of_decide_eq_false HAD.out
        have HMEM := Lib.hid hmem
        clear hmem
        go_wp2_with fail
        refine (touch_two H3.out nm).mono ?_
        rintro e w6 ⟨rfl, h6⟩
        rw [decide_eq_false HMEM.out]
        have H6 := Lib.hid h6
        clear h6
        go_wp2_with fail
        go_ret
        refine ⟨rfl, F, ?_⟩
        have h7 := H6.out
        have hS := HS.out
        unfold touchV at h7 hS
        rw [if_neg HMEM.out] at h7 hS
        rw [hS] at h7; exact h7.rebase HQP.out K1.out H0.out.lt
    · have n0 : (r8 == 0) = false := by rw [beq_eq_false_iff_ne]; exact q0
      have n1 : (r8 == 1) = false := by rw [beq_eq_false_iff_ne]; exact q1
      by_cases q2 : r8 = 2
      · subst q2
        have HS : Hid (evictV W H s nm = sN) := Lib.hid (by rw [← HSN.out, ← HNM.out]; unfold doS; rw [if_neg (by omega), if_pos hr8])
        cases had with
        | true =>
          have hmem : nm ∈ s.keys := of_decide_eq_true HAD.out
          have HMEM := Lib.hid hmem
          clear hmem
          go_wp2_with fail
          refine (mevict_two H3.out nm HMEM.out).mono ?_
          rintro e w4 ⟨rfl, h4⟩
          have H4 := Lib.hid h4
          clear h4
          go_wp2_with fail
          refine (evict_two H4.out nm HNZ.out).mono ?_
          rintro e w6 ⟨rfl, h6⟩
          rw [decide_eq_true HMEM.out]
          have H6 := Lib.hid h6
          clear h6
          go_wp2_with fail
          go_ret
          refine ⟨rfl, noF nm F, ?_⟩
          have h7 := H6.out
          have hS := HS.out
          unfold evictV at h7 hS
          rw [if_pos HMEM.out] at h7 hS
          rw [hS] at h7; exact h7.rebase HQP.out K1.out H0.out.lt
        | false =>
          have hmem : nm ∉ s.keys := of_decide_eq_false HAD.out
          have HMEM := Lib.hid hmem
          clear hmem
          go_wp2_with fail
          refine (evict_two H3.out nm HNZ.out).mono ?_
          rintro e w6 ⟨rfl, h6⟩
          rw [decide_eq_false HMEM.out]
          have H6 := Lib.hid h6
          clear h6
          go_wp2_with fail
          go_ret
          refine ⟨rfl, F, ?_⟩
          have h7 := H6.out
          have hS := HS.out
          unfold evictV at h7 hS
          rw [if_neg HMEM.out] at h7 hS
          rw [hS] at h7; exact h7.rebase HQP.out K1.out H0.out.lt
      · have n2 : (r8 == 2) = false := by rw [beq_eq_false_iff_ne]; exact q2
        clear hi0 hz0 hz1 hz2
        obtain ⟨i0, hi0, hz0, hz1, hz2⟩ := info_parts Try.info_u8O
        by_cases q3 : r8 = 3
        · subst q3
          have HS : Hid ((loadV W H pad s nm p q ((List.range (p * q)).map (txA i) ++ [1])).2 = sN) := Lib.hid (by rw [← HSN.out, ← HNM.out]; unfold doS; rw [if_neg (by omega), if_neg (by omega), if_pos hr8])
          obtain ⟨T, hT⟩ : ∃ T, (List.range (p * q)).map (txA i) = T := ⟨_, rfl⟩
          obtain ⟨m, hm⟩ : ∃ m, p * q = m := ⟨_, rfl⟩
          have hm169 : m ≤ 169 := by rw [← hm]; exact Nat.le_trans (Nat.mul_le_mul hpq.1 hpq.2) (by decide)
          have hT8 : Hid (∀ x ∈ T ++ [1], 0 ≤ x ∧ x ≤ 255) := Lib.hid (fun x hx => by
            rcases List.mem_append.1 hx with hx | hx
            · rw [← hT] at hx
              obtain ⟨j, _, rfl⟩ := List.mem_map.1 hx
              exact txA_in i j
            · rw [List.mem_singleton.1 hx]; omega)
          have hTl : Hid ((T ++ [1]).length = m + 1) := Lib.hid (by rw [← hT, ← hm]; simp)
          rw [hT] at HS
          have HFB' := HFB.out
          rw [hT, hm] at HFB'
          replace HFB := Lib.hid HFB'
          clear HFB' hT hm
          have HLA : Hid (∀ (Q : Nat → Prop) W1 w' sm F A cap, Two Q W1 w' b bm W H pad s sm F → SlO w' 5 1 (.slice A (m + 1) cap) (m + 1) ((T ++ [1]).map (Value.int .u8)) → (∀ g, (Value.slice A (m + 1) cap).ownBlock = some g → Q g) → Calls Try.prog 15 #[.pointer (some ⟨b, 0, none⟩), .string nm, .agg #[.int .i64 p, .int .i64 q, .slice A (m + 1) cap]] w' fun e w'' => e = .returned (.int .i64 (loadV W H pad s nm p q (T ++ [1])).1) ∧ Two Q W1 w'' b bm W H pad (loadV W H pad s nm p q (T ++ [1])).2 sm F) := Lib.hid (fun Q W1 w' sm F A cap h hs hg => load_two h nm HNZ.out p q (by omega) (by omega) A (m + 1) cap (T ++ [1]) hTl.out (by omega) hs hg hT8.out (by omega))
          have HLM : Hid (∀ (Q : Nat → Prop) W1 w' sa F A cap, Two Q W1 w' b bm W H pad sa s F → SlO w' 5 1 (.slice A (m + 1) cap) (m + 1) ((T ++ [1]).map (Value.int .u8)) → (∀ g, (Value.slice A (m + 1) cap).ownBlock = some g → Q g) → Calls Try.prog 28 #[.pointer (some ⟨bm, 0, none⟩), .string nm, .agg #[.int .i64 p, .int .i64 q, .slice A (m + 1) cap]] w' fun e w'' => e = .returned (.int .i64 (loadV W H pad s nm p q (T ++ [1])).1) ∧ ∃ F', Two Q W1 w'' b bm W H pad sa (loadV W H pad s nm p q (T ++ [1])).2 F') := Lib.hid (fun Q W1 w' sa F A cap h hs hg => mload_two h nm HNZ.out p q (by omega) (by omega) A (m + 1) cap (T ++ [1]) hTl.out (by omega) hs hg hT8.out (by omega))
          obtain ⟨lv, hlv⟩ : ∃ lv, (loadV W H pad s nm p q (T ++ [1])).1 = lv := ⟨_, rfl⟩
          rw [hlv] at HLA HLM
          have hlv2 : (lv == lv) = true := by simp
          clear hlv
          go_wp2_with fail
          refine (HFB.out w3).mono ?_
          rintro e w4 ⟨A4, cap4, rfl, t4, b4, o4⟩
          unfold Ef
          have bb := below_alloc (Below.refl _ w4) (.cells #[.int .i64 p, .int .i64 q, .slice A4 m cap4] 44)
          have G5 := heap_alloc_new w4 (.cells #[.int .i64 p, .int .i64 q, .slice A4 m cap4] 44)
          have t5 := t4.kept (Kept.of_below (fun _ => False) bb) (fun _ _ h => h)
          have hb5 : Below w3.heap.size w3 (w4.alloc (.cells #[.int .i64 p, .int .i64 q, .slice A4 m cap4] 44)) := below_step b4 bb
          have hgt : ∀ g, (Value.slice A4 m cap4).ownBlock = some g → g < w4.heap.size := fun g hg => t4.lt hg
          have hg34 := b4.size
          clear bb t4 b4 a0 a1 a2 a3 a4
          go_upto_region 16 with (fail)
          generalize w4.alloc (.cells #[.int .i64 p, .int .i64 q, .slice A4 m cap4] 44) = w5 at *
          generalize w4.heap.size = gf at *
          have c2 : w5.cell? ⟨gf, 2, none⟩ = some (.slice A4 m cap4) := (blk_cell G5 2).trans rfl
          have T5 := Lib.hid t5; have G5' := Lib.hid G5; have B5 := Lib.hid hb5; have O4 := Lib.hid o4; have GT := Lib.hid hgt
          clear t5 G5 hb5 o4 hgt
          go_upto_region 17 with (at_builtin; go_must (refine wpList_append_sl _ rfl (.tmp 64) (.tmp 65) 42 rfl 5 i0 (.int .u8 0) 1 1 Try.underlying42 hi0 hz0 hz1 hz2 rfl (by decide) _ m _ rfl (T5.out.kept (Kept.alloc (fun _ => False) _ _) (by simp)) ⟨w5.heap.size, 0, none⟩ 1 1 [.int .u8 1] rfl rfl ?c1 ?c2 ?c3 ?c4 ?_))
          case c1 =>
            intro j' u hj'
            match j', hj' with
            | 0, hj' => simp at hj'; subst hj'; simp [Addr.add]
          case c2 => intro u hu; simp at hu; subst hu; rfl
          case c3 => unfold maxLen; omega
          case c4 => omega
          · intro A' cap' w6 hs6 hg6 ho6 _
            have hk6 : Kept (fun x => (Value.slice A4 m cap4).ownBlock = some x) w5 w6 := (Kept.alloc _ w5 _).trans (Kept.of_grownBy hg6)
            have hs7 : SlO w6 5 1 (.slice A' (m + 1) cap') (m + 1) ((T ++ [1]).map (Value.int .u8)) := by
              rw [List.map_append]; exact hs6
            have hsz := lt_in G5'.out
            have G6 := hk6.get G5'.out (fun e => by have := GT.out _ e; omega)
            have hO6 : ∀ g, (Value.slice A' (m + 1) cap').ownBlock = some g → w3.heap.size ≤ g ∧ g ≠ gf := fun g hg => by
              rcases ho6 with h | h
              · have h1 : (Value.slice A4 m cap4).ownBlock = some g := h ▸ hg
                have := O4.out g h1; have := GT.out g h1; omega
              · rw [h] at hg; injection hg with hg; omega
            have hkk := Kept.setCell (· = gf) w6 ⟨gf, 2, none⟩ (.slice A' (m + 1) cap') rfl
            have hB6 : Below w3.heap.size w3 (w6.setCell ⟨gf, 2, none⟩ (.slice A' (m + 1) cap')) := (B5.out.trans (hk6.below B5.out.size (fun q hq => O4.out q hq))).trans (hkk.below (Nat.le_trans B5.out.size hk6.size) (fun q hq => by subst hq; omega))
            have hs8 := hs7.kept hkk (fun g hg e => (hO6 g hg).2 e)
            have G7 : (w6.setCell ⟨gf, 2, none⟩ (.slice A' (m + 1) cap')).heap[gf]? = some (.cells #[.int .i64 p, .int .i64 q, .slice A' (m + 1) cap'] 44 (0, 0)) := heap_setCell_in _ G6
            have c2' : w6.cell? ⟨gf, 2, none⟩ = some (.slice A4 m cap4) := (blk_cell G6 2).trans rfl
            have f2' : w6.frozen? ⟨gf, 2, none⟩ = false := blk_frozen G6 2
            have H7 := H3.out.add (Q := fun q => Q0 q ∨ (w3.heap.size ≤ q ∧ q < (w6.setCell ⟨gf, 2, none⟩ (.slice A' (m + 1) cap')).heap.size)) hB6 (fun q hq => by
              rcases hq with hq | hq
              · have := H3.out.lt q hq; have := H3.out.keptP.size; have := hB6.size; exact ⟨by omega, .inl hq⟩
              · exact ⟨hq.2, .inr hq.1⟩)
            obtain ⟨Q7, hQ7⟩ : ∃ Q7 : Nat → Prop, (fun q => Q0 q ∨ (w3.heap.size ≤ q ∧ q < (w6.setCell ⟨gf, 2, none⟩ (.slice A' (m + 1) cap')).heap.size)) = Q7 := ⟨_, rfl⟩
            have S7 : Hid (∀ q, Q0 q → Q7 q) := Lib.hid (fun q hq => by rw [← hQ7]; exact .inl hq)
            have O7 : Hid (∀ g, (Value.slice A' (m + 1) cap').ownBlock = some g → Q7 g) := Lib.hid (fun g hg => by rw [← hQ7]; exact .inr ⟨(hO6 g hg).1, hs8.lt hg⟩)
            have Q7F : Hid (Q7 gf) := Lib.hid (by rw [← hQ7]; exact .inr ⟨hg34, lt_in G7⟩)
            rw [hQ7] at H7
            have H8 := Lib.hid H7; have T8 := Lib.hid hs8; have G8 := Lib.hid G7
            have K8 : Hid (Kept (fun q => ¬ Q0 q) w2 (w6.setCell ⟨gf, 2, none⟩ (.slice A' (m + 1) cap'))) := Lib.hid (H3.out.keptP.trans ((Kept.of_below _ (show Below w3.heap.size w3 _ from hB6))))
            clear hs6 hg6 ho6 hk6 hs7 hsz G6 hO6 hkk hB6 hs8 G7 H7 hQ7 c2
            go_upto_region 17 with (fail)
            generalize w6.setCell ⟨gf, 2, none⟩ (.slice A' (m + 1) cap') = w8 at *
            have HCF : Hid (∀ w' : World, w'.heap[gf]? = some (.cells #[.int .i64 p, .int .i64 q, .slice A' (m + 1) cap'] 44 (0, 0)) → w'.cell? ⟨gf, 0, none⟩ = some (.int .i64 p) ∧ w'.cell? ⟨gf, 1, none⟩ = some (.int .i64 q) ∧ w'.cell? ⟨gf, 2, none⟩ = some (.slice A' (m + 1) cap')) := Lib.hid (fun w' hb => ⟨(blk_cell hb 0).trans rfl, (blk_cell hb 1).trans rfl, (blk_cell hb 2).trans rfl⟩)
            clear c2' f2'
            obtain ⟨z0, z1, z2⟩ := HCF.out _ G8.out
            go_region_held3 (fun w' => w'.cell? ⟨gf, 0, none⟩ = some (.int .i64 p) ∧ w'.cell? ⟨gf, 1, none⟩ = some (.int .i64 q) ∧ w'.cell? ⟨gf, 2, none⟩ = some (.slice A' (m + 1) cap')) (first
              | assumption
              | exact ⟨z0, z1, z2⟩
              | exact HC10
              | exact HC9) (first
              | (go_at_call 15; refine (HLA.out _ _ w8.drew _ _ _ _ (H8.out.below (below_drew (Below.refl _ _))) (T8.out.kept (Kept.drew (fun _ => False) _) (fun _ _ h => h)) O7.out).mono ?_; rintro e w9 ⟨rfl, h9⟩; have H9 := Lib.hid h9; have HC9 := HCF.out w9 (h9.get Q7F.out G8.out); have T9 := Lib.hid (T8.out.kept h9.keptP (fun g hg hn => hn (O7.out g hg))); clear h9)
              | (go_at_call 28; refine (HLM.out _ _ w9 _ _ _ _ H9.out T9.out O7.out).mono ?_; rintro e w10 ⟨rfl, F10, h10⟩; have H10 := Lib.hid h10; have HC10 := HCF.out w10 (h10.get Q7F.out G8.out); clear h10))
            all_goals
              go_wp2_with fail
              go_ret
              refine ⟨rfl, F10, ?_⟩
              have h7 := H10.out
              rw [HS.out] at h7
              exact h7.rebase (fun q hq => S7.out q (HQP.out q hq)) (K1.out.trans (K8.out.mono (fun q _ hq hp => hq (HQP.out q hp)))) H0.out.lt
        · have n3 : (r8 == 3) = false := by rw [beq_eq_false_iff_ne]; exact q3
          have HS : Hid ((loadV W H pad s nm p q ((List.range (p * q)).map (txA i))).2 = sN) := Lib.hid (by rw [← HSN.out, ← HNM.out]; unfold doS; rw [if_neg (by omega), if_neg (by omega), if_neg (by omega)])
          obtain ⟨T, hT⟩ : ∃ T, (List.range (p * q)).map (txA i) = T := ⟨_, rfl⟩
          obtain ⟨m, hm⟩ : ∃ m, p * q = m := ⟨_, rfl⟩
          have hm169 : m ≤ 169 := by rw [← hm]; exact Nat.le_trans (Nat.mul_le_mul hpq.1 hpq.2) (by decide)
          have hT8 : Hid (∀ x ∈ T, 0 ≤ x ∧ x ≤ 255) := Lib.hid (fun x hx => by
            rw [← hT] at hx
            obtain ⟨j, _, rfl⟩ := List.mem_map.1 hx
            exact txA_in i j)
          have hTl : Hid (T.length = m) := Lib.hid (by rw [← hT, ← hm]; simp)
          rw [hT] at HS
          have HFA' := HFA.out
          rw [hT, hm] at HFA'
          replace HFA := Lib.hid HFA'
          clear HFA' hT hm
          have HLA : Hid (∀ (Q : Nat → Prop) W1 w' sm F A cap, Two Q W1 w' b bm W H pad s sm F → SlO w' 5 1 (.slice A m cap) m (T.map (Value.int .u8)) → (∀ g, (Value.slice A m cap).ownBlock = some g → Q g) → Calls Try.prog 15 #[.pointer (some ⟨b, 0, none⟩), .string nm, .agg #[.int .i64 p, .int .i64 q, .slice A m cap]] w' fun e w'' => e = .returned (.int .i64 (loadV W H pad s nm p q T).1) ∧ Two Q W1 w'' b bm W H pad (loadV W H pad s nm p q T).2 sm F) := Lib.hid (fun Q W1 w' sm F A cap h hs hg => load_two h nm HNZ.out p q (by omega) (by omega) A m cap T hTl.out (by omega) hs hg hT8.out (by omega))
          have HLM : Hid (∀ (Q : Nat → Prop) W1 w' sa F A cap, Two Q W1 w' b bm W H pad sa s F → SlO w' 5 1 (.slice A m cap) m (T.map (Value.int .u8)) → (∀ g, (Value.slice A m cap).ownBlock = some g → Q g) → Calls Try.prog 28 #[.pointer (some ⟨bm, 0, none⟩), .string nm, .agg #[.int .i64 p, .int .i64 q, .slice A m cap]] w' fun e w'' => e = .returned (.int .i64 (loadV W H pad s nm p q T).1) ∧ ∃ F', Two Q W1 w'' b bm W H pad sa (loadV W H pad s nm p q T).2 F') := Lib.hid (fun Q W1 w' sa F A cap h hs hg => mload_two h nm HNZ.out p q (by omega) (by omega) A m cap T hTl.out (by omega) hs hg hT8.out (by omega))
          obtain ⟨lv, hlv⟩ : ∃ lv, (loadV W H pad s nm p q T).1 = lv := ⟨_, rfl⟩
          rw [hlv] at HLA HLM
          have hlv2 : (lv == lv) = true := by simp
          have hG3 := HCL.out _ G3.out
          clear hlv a0 a1 a2 a3 a4
          obtain ⟨a0, a1, a2, a3, a4⟩ := hG3
          go_upto_region 18 with (fail)
          go_region_held3 (fun w' => w'.cell? ⟨w.heap.size, 0, none⟩ = some (.int .u8 o) ∧ w'.cell? ⟨w.heap.size, 1, none⟩ = some (.int .u8 k) ∧ w'.cell? ⟨w.heap.size, 2, none⟩ = some (.int .u8 x) ∧ w'.cell? ⟨w.heap.size, 3, none⟩ = some (.int .u8 y) ∧ w'.cell? ⟨w.heap.size, 4, none⟩ = some (.int .u8 i)) (first
            | assumption
            | exact ⟨a0, a1, a2, a3, a4⟩
            | exact HC7
            | exact HC6
            | exact HC5
            | exact HC4) (first
            | (go_at_call 18; refine (HFA.out _ _ w3.drew _ _ _ (H3.out.below (below_drew (Below.refl _ _)))).mono ?_; rintro e w4 ⟨A4, cap4, rfl, Q4, h4, t4, s4, o4, k4⟩; have H4 := Lib.hid h4; have T4 := Lib.hid t4; have S4 := Lib.hid s4; have O4 := Lib.hid o4; have K4 := Lib.hid k4; have HC4 := HCL.out w4 (k4.get (show w2.heap[w.heap.size]? = _ from G2.out) (fun hn => hn HQW.out)); clear h4 t4 s4 o4 k4)
            | (go_at_call 15; refine (HLA.out _ _ w4 _ _ _ _ H4.out T4.out O4.out).mono ?_; rintro e w5 ⟨rfl, h5⟩; have H5 := Lib.hid h5; have HC5 := HCL.out w5 (h5.get (S4.out _ HQW.out) (K4.out.get (show w2.heap[w.heap.size]? = _ from G2.out) (fun hn => hn HQW.out))); clear h5)
            | (go_at_call 18; refine (HFA.out _ _ w5 _ _ _ H5.out).mono ?_; rintro e w6 ⟨A6, cap6, rfl, Q6, h6, t6, s6, o6, k6⟩; have H6 := Lib.hid h6; have T6 := Lib.hid t6; have S6 := Lib.hid s6; have O6 := Lib.hid o6; have K6 := Lib.hid k6; have HC6 := HCL.out w6 (k6.get (K4.out.get (show w2.heap[w.heap.size]? = _ from G2.out) (fun hn => hn HQW.out)) (fun hn => hn (S4.out _ HQW.out))); clear h6 t6 s6 o6 k6)
            | (go_at_call 28; refine (HLM.out _ _ w6 _ _ _ _ H6.out T6.out O6.out).mono ?_; rintro e w7 ⟨rfl, F7, h7⟩; have H7 := Lib.hid h7; have HC7 := HCL.out w7 (h7.get (S6.out _ (S4.out _ HQW.out)) (K6.out.get (K4.out.get (show w2.heap[w.heap.size]? = _ from G2.out) (fun hn => hn HQW.out)) (fun hn => hn (S4.out _ HQW.out)))); clear h7))
          all_goals
            go_wp2_with fail
            go_ret
            refine ⟨rfl, F7, ?_⟩
            have h7 := H7.out
            rw [HS.out] at h7
            exact h7.rebase (fun q hq => S6.out q (S4.out q (HQP.out q hq))) ((K1.out.trans (K4.out.mono (fun q _ hq hp => hq (HQP.out q hp)))).trans (K6.out.mono (fun q _ hq hp => hq (S4.out q (HQP.out q hp))))) H0.out.lt
end Go.Proofs.Ytaccppchhljnkaa
