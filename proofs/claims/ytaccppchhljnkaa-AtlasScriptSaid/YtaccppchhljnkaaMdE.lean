/- Atlases: the model's evict. -/
import Derived.Test.YtaccppchhljnkaaMdD
set_option linter.unusedVariables false
set_option linter.unusedSimpArgs false
namespace Go.Proofs.Ytaccppchhljnkaa
open Go.RowKit Go.Shelf Go.Proofs.YtaccppchhljnkaaW.PrintWords Go.Proofs.YtaccppchhljnkaaW.PrintLast Go.Proofs.YtaccppchhljnkaaW.PrintMore
def noF (k : ByteArray) (F : ByteArray → Option FV) : ByteArray → Option FV := fun u => if u = k then none else F u
set_option maxHeartbeats 4000000 in
set_option maxRecDepth 100000 in
theorem evictM_c (W : World) (b w h pad : Nat) (s : AtS) (F : ByteArray → Option FV) (c : MdC) (a : MdAt W b w h pad s F c) (k : ByteArray) (hk : k ∈ s.keys) :
    Calls Try.prog 27 #[.pointer (some ⟨b, 0, none⟩), .string k] W fun e w' => e = .returned (.tuple #[]) ∧ ∃ c', MdAt w' b w h pad (evS w h s k) (noF k F) c' ∧ MStep W b c w' c' := by
  have HA := Lib.hid a
  have HK := Lib.hid hk
  have HKS := Lib.hid (a.kl k hk)
  obtain ⟨hw0, hw1⟩ := a.w1
  obtain ⟨hh0, hh1⟩ := a.h1
  have hle := a.inv.le
  have HW0 := Lib.hid a.raw
  obtain ⟨c0, c1, c2, c3, c4, c5, c6, c7⟩ := a.raw.cell
  have hlen : s.keys.length - (if (s.pl k).isSome = true then 1 else 0) = (s.keys.erase k).length := by
    rw [if_pos ((a.inv.mem k).2 hk), List.length_erase_of_mem hk]
  have hlenF : s.keys.length - (if (F k).isSome = true then 1 else 0) = (s.keys.erase k).length := by
    rw [if_pos ((a.fk k).2 hk), List.length_erase_of_mem hk]
  have HL1 := Lib.hid hlen; have HL2 := Lib.hid hlenF
  clear hlen hlenF hk a c0 c1 c2 c3 c4 c6 c7
  go_enter Try.func27, Try.ntmps27
  go_upto_region 1 with (at_delete; refine wpList_delete_is _ rfl _ _ 30 9 rfl 39 Try.strKeyed Try.underlying30 Lk Lk_inj Er c.bP s.keys.length s.pl s.keys.length rfl HW0.out.mp _ rfl k (key_of HKS.out) ?_; intro w1 hM1 hk1)
  have hM1' := hM1.tight
  rw [HL1.out] at hM1'
  have HW1 := Lib.hid (HW0.out.setP hk1 hM1')
  have HS1 : Hid (MStep W b c w1 c) := Lib.hid ((MStep.refl W b c).kept hk1 (fun q hq => .inr (.inr (.inl hq))))
  obtain ⟨c0, c1, c2, c3, c4, c5', c6, c7⟩ := HW1.out.cell
  clear hM1 hk1 hM1' c0 c1 c2 c3 c4 c5 c5' c7
  go_upto_region 2 with (at_delete; refine wpList_delete_is _ rfl _ _ 31 9 rfl 44 Try.strKeyed Try.underlying31 Lk Lk_inj Ev c.bF s.keys.length F s.keys.length rfl HW1.out.mf _ rfl k (key_of HKS.out) ?_; intro w2 hM2 hk2)
  have hM2' := hM2.tight
  rw [HL2.out] at hM2'
  have HW2 := Lib.hid (HW1.out.setF hk2 hM2')
  have HS2 := Lib.hid (HS1.out.kept hk2 (fun q hq => .inr (.inr (.inr (.inl hq)))))
  clear hM2 hk2 hM2' c6 HW1 HS1
  have hdr := drop_c w2 b w h pad c s.l s.keys _ _ _ _ s.gone HW2.out (by omega) k
  rw [noK_erase HA.out.inv.nd] at hdr
  have HDR := Lib.hid hdr; clear hdr
  go_wp2_with fail
  refine HDR.out.mono ?_
  rintro e w3 ⟨rfl, c3, h3, hst3⟩
  have HW3 := Lib.hid h3
  have HS3 := Lib.hid (HS2.out.trans hst3)
  clear h3 hst3 HDR HS2 HW2
  obtain ⟨c0, c1, c2, c3', c4, c5, c6, c7⟩ := HW3.out.cell
  obtain ⟨N, hN⟩ : ∃ N, (s.keys.erase k).length = N := ⟨_, rfl⟩
  have hNle : N ≤ 32 := by rw [← hN]; exact Nat.le_trans List.length_erase_le hle
  have hks := HW3.out.ks
  rw [hN] at hks
  obtain ⟨Ak, capk, hvk, hck⟩ := hks.isSlice
  rw [hvk] at hks c4
  have HKL := Lib.hid hks; have HN := Lib.hid hN
  clear hks hN hvk c0 c1 c2 c3' c6 c7 hck
  go_upto_region 5 with (fail)
  go_loopw [4, 25] (fun v4 v25 wr => ∃ (i : Nat), v25 = .int .i64 i ∧ i ≤ N ∧ Hid (Kd.R krc 39 wr w3.heap.size (fun _ => True) v4 (((s.keys.erase k).take i).map (fun u => (plE s.pl k u).getD r00))) ∧ Hid (Below w3.heap.size w3 wr)) (fun _ v25 _ => N - (intOf v25).toNat)
  case atStart => exact ⟨0, rfl, Nat.zero_le _, Lib.hid (Kd.R_nil _ _ _ _ _), Lib.hid (Below.refl _ _)⟩
  case round =>
    obtain ⟨i, rfl, hi, HR, HB⟩ := hrel
    by_cases hik : i < N
    · have hik' : (i : Int) < (N : Int) := by omega
      obtain ⟨x, hx⟩ : ∃ x, (s.keys.erase k)[i]? = some x := ⟨(s.keys.erase k)[i]'(by rw [HN.out]; exact hik), List.getElem?_eq_getElem _⟩
      obtain ⟨gk, rfl, hck', -⟩ := (HKL.out.kept (Kept.of_below (fun _ => False) HB.out) (fun _ _ h => h)).elem (i := i) (x := .string x) hik (by rw [List.getElem?_map, hx]; rfl)
      have hraw := HW3.out.below HB.out
      have c5' := hraw.cell.2.2.2.2.2.1
      have hxm : x ∈ s.keys := List.mem_of_mem_erase (List.mem_of_getElem? hx)
      obtain ⟨⟨rx, ry, rm, rn⟩, hr⟩ : ∃ r, (plE s.pl k x).getD r00 = r := ⟨_, rfl⟩
      have hlk0 : (Instr.lookup 30 (.map (some c3.bP)) (.string x) false).run Try.prog wr = .ok (((plE s.pl k x).map Er).getD (Er r00)) wr := hraw.mp.look Try.strKeyed Try.underlying30 (zeroRect wr) (key_of (HA.out.kl x hxm))
      have hlk1 : (((plE s.pl k x)).map Er).getD (Er r00) = Er (rx, ry, rm, rn) := by rw [← hr]; cases plE s.pl k x <;> rfl
      rw [hlk1] at hlk0
      unfold Er at hlk0
      have htk : ((s.keys.erase k).take (i + 1)).map (fun u => (plE s.pl k u).getD r00) = ((s.keys.erase k).take i).map (fun u => (plE s.pl k u).getD r00) ++ [(rx, ry, rm, rn)] := by
        rw [List.take_add_one, hx, ← hr, List.map_append]; rfl
      have HTK := Lib.hid htk
      obtain ⟨A4, cap4, e4⟩ := Kd.R_slice HR.out
      have hl4 : (((s.keys.erase k).take i).map (fun u => (plE s.pl k u).getD r00)).length = i := by rw [List.length_map, List.length_take, HN.out]; omega
      rw [hl4] at e4
      have HL4 := Lib.hid hl4
      subst e4
      clear hx hraw htk hr hlk1 hxm hl4
      go_wp2_with (at_builtin; go_must (refine Kd.R_append krc (w0 := w3) w3.heap.size rfl (.tmp 29) (.tmp 36) 77 39 _ 32 rfl Try.underlying77 infoRectE rfl (by decide) (by omega) (.slice A4 i cap4) (((s.keys.erase k).take i).map (fun u => (plE s.pl k u).getD r00)) (rx, ry, rm, rn) [.int .i64 rx, .int .i64 ry, .int .i64 rm, .int .i64 rn] (fun _ => True) (fun _ => False) rfl rfl ?aP (fun _ hk => hk.elim) (fun _ _ => trivial) HR.out HB.out HB.out.size ?aL ?_); (case aP => exact krc_mkM _ _ _ (rx, ry, rm, rn)); (case aL => rw [HL4.out]; omega); intro v1 w6 ho hb hg hat; have m1 := Lib.hid ho; have m2 := Lib.hid hb; clear ho hb hg hat)
      go_roundw
      case rel => exact ⟨i + 1, by go_num, by omega, Lib.hid (by rw [HTK.out]; exact m1.out), m2⟩
      case measure => simp [intOf]; omega
    · have hik' : ¬ (i : Int) < (N : Int) := by omega
      obtain rfl : i = N := by omega
      obtain ⟨rs, hrs⟩ : ∃ rs, ((s.keys.erase k).map (fun u => (plE s.pl k u).getD r00)) = rs := ⟨_, rfl⟩
      have hR := HR.out
      rw [List.take_of_length_le (by rw [HN.out]; omega), hrs] at hR
      have hrl : rs.length = i := by rw [← hrs, List.length_map, HN.out]
      obtain ⟨A4, cap4, e4⟩ := Kd.R_slice hR
      have hsw : side (w : Int) = w := by unfold side; omega
      have hsh : side (h : Int) = h := by unfold side; omega
      have hev : rbL w h rs = (evS w h s k).l := by rw [← hrs]; rfl
      have hbd : ∀ r ∈ rs, -10000000 ≤ r.1 ∧ r.1 ≤ 10000000 ∧ -10000000 ≤ r.2.1 ∧ r.2.1 ≤ 10000000 ∧ -10000000 ≤ r.2.2.1 ∧ r.2.2.1 ≤ 10000000 ∧ -10000000 ≤ r.2.2.2 ∧ r.2.2.2 ≤ 10000000 := by
        intro r hr
        rw [← hrs] at hr
        obtain ⟨x, hxe, rfl⟩ := List.mem_map.1 hr
        have hxm := List.mem_of_mem_erase hxe
        have hne : x ≠ k := (HA.out.inv.nd.mem_erase_iff.1 hxe).1
        rw [plE_ne hne]
        have := HA.out.inv.pg x hxm
        unfold AtS.at at this
        omega
      subst e4
      obtain ⟨q1, q2, q3⟩ := Kd.R_reads' (Kd.R_below hR (below_drew (Below.refl _ wr)))
      have hrb := rebuild_c wr.drew w h A4 cap4 rs q3 (by omega) hbd
      rw [hsw, hsh, hev, hrl] at hrb
      rw [hrl]
      have HRB := Lib.hid hrb
      have hraw := HW3.out.below HB.out
      obtain ⟨c0, c1, c2, c3', c4', c5, c6, c7⟩ := hraw.cell
      have HRAW := Lib.hid hraw
      clear hR hrs hrl hsw hsh hev hbd q2 q3 hrb hraw c2 c3' c4' c5 c6 c7 c4 HR
      go_upto_region 9 with (fail)
      go_region_held3 (fun w' => w'.cell? ⟨b, 0, none⟩ = some (.int .i64 w) ∧ w'.cell? ⟨b, 1, none⟩ = some (.int .i64 h)) (first
        | assumption
        | exact ⟨c0, c1⟩
        | exact ⟨x2, x3⟩
        | exact ⟨y2, y3⟩) ((go_at_call 40; refine (HRB.out).mono ?_; rintro e w2 ⟨g, rfl, hg, hsky, hb2⟩; have x2 := pw_cell_below hb2 (show wr.drew.cell? _ = _ from c0); have x3 := pw_cell_below hb2 (show wr.drew.cell? _ = _ from c1); have hraw2 := HRAW.out.below (below_drew (Below.refl _ _) |>.trans hb2); have hbk := hraw2.blk; have x5 : w2.cell? ⟨b, 3, none⟩ = some (.pointer (some ⟨c3.g, 0, none⟩)) := (blk_cell hbk 3).trans rfl; have x6 : w2.frozen? ⟨b, 3, none⟩ = false := blk_frozen hbk 3; have hset := heap_setCell_in (off := 3) (.pointer (some ⟨g, 0, none⟩)) hbk; have y2 : (w2.setCell ⟨b, 3, none⟩ (.pointer (some ⟨g, 0, none⟩))).cell? ⟨b, 0, none⟩ = some (.int .i64 w) := (blk_cell hset 0).trans rfl; have y3 : (w2.setCell ⟨b, 3, none⟩ (.pointer (some ⟨g, 0, none⟩))).cell? ⟨b, 1, none⟩ = some (.int .i64 h) := (blk_cell hset 1).trans rfl; have Z1 := Lib.hid hg; have Z2 := Lib.hid hsky; have Z3 := Lib.hid hb2; have Z4 := Lib.hid hraw2; clear hg hsky hb2 hraw2 hbk hset))
      all_goals
        go_wp2_with fail
        have hown : ∀ q, c3.own b q → q < w3.heap.size := fun q hq => HW3.out.lt hq
        have hg' : c3.own b g → False := fun hq => by have := hown g hq; have := Z1.out; have := HB.out.size; have e : wr.drew.heap.size = wr.heap.size := rfl; omega
        have hset := Z4.out.setSky Z2.out hg'
        have hs4 : MStep W b c w2 c3 := (HS3.out.below HB.out).below ((below_drew (Below.refl _ _)).trans Z3.out)
        have hs5 := hs4.kept (Kept.setCell (· = b) w2 ⟨b, 3, none⟩ (.pointer (some ⟨g, 0, none⟩)) rfl) (fun q hq => .inl hq)
        have hfk : ∀ u, (noF k F u).isSome = true ↔ u ∈ (evS w h s k).keys := fun u => by
          show _ ↔ u ∈ s.keys.erase k
          rw [HA.out.inv.nd.mem_erase_iff]
          unfold noF
          by_cases e : u = k
          · simp [e]
          · rw [if_neg e, HA.out.fk]; simp [e]
        refine bodyPost_end (results_none rfl _ _ _) rfl ?_
        refine ⟨rfl, c3.setS g, ⟨?_, HA.out.w1, HA.out.h1, HA.out.p4, HA.out.inv.ev k HK.out, fun u hu => HA.out.kl u (List.mem_of_mem_erase hu), hfk⟩, hs5.1, fun q hq => ?_⟩
        · exact hset
        · have hs3 := HS3.out.1.size
          rcases hq with hq | hq | hq | hq | hq | hq
          · exact HS3.out.2 q (.inl hq)
          · have e : q = g := hq
            have := Z1.out; have := HB.out.size; have e2 : wr.drew.heap.size = wr.heap.size := rfl
            exact .inr (by omega)
          · exact HS3.out.2 q (.inr (.inr (.inl hq)))
          · exact HS3.out.2 q (.inr (.inr (.inr (.inl hq))))
          · exact HS3.out.2 q (.inr (.inr (.inr (.inr (.inl hq)))))
          · exact HS3.out.2 q (.inr (.inr (.inr (.inr (.inr hq)))))
end Go.Proofs.Ytaccppchhljnkaa
