/- Atlases: Of. -/
import Derived.Test.YtaccppchhljnkaaAtM
import Derived.Test.YtaccppchhljnkaaAtK
set_option linter.unusedVariables false
set_option linter.unusedSimpArgs false
namespace Go.Proofs.Ytaccppchhljnkaa
open Go.RowKit Go.Shelf Go.Proofs.YtaccppchhljnkaaW.PrintWords Go.Proofs.YtaccppchhljnkaaW.PrintLast Go.Proofs.YtaccppchhljnkaaW.PrintMore
/-- make([]byte, n). -/
theorem made8 (p : Nat) : madeCells (Value.cells (.int .u8 0)) p = Array.replicate p (.int .u8 0) := by
  apply Array.ext (by simp [size_madeCells])
  intro i h1 h2
  simp [madeCells, Value.cells, Nat.mod_one]
theorem make8 (p : Nat) (hp : p ≤ 1000000) (W : World) : (Instr.makeSlice 42 (.int .i64 (p : Int)) (.int .i64 (p : Int))).run Try.prog W = .ok (.slice (some ⟨W.heap.size, 0, none⟩) p p) (W.alloc (.cells (Array.replicate p (.int .u8 0)) 5)) := by
  obtain ⟨i0, hi0, hz0, hz1, hz2⟩ := info_parts Try.info_u8O
  have h := run_make (P := Try.prog) W 42 5 i0 (.int .u8 0) Try.underlying42 hi0 hz0 .i64 .i64 p p (by omega) (by omega) (by rw [hz2]; omega) (by omega)
  rw [h, hz1, Nat.mul_one, Int.toNat_natCast, made8]
theorem gen_world {p : World → Prop} {W' : World} (q : World → Prop) (hq : q W') (h : ∀ x, q x → p x) : p W' := h W' hq
/-- What Of has made. -/
theorem of_end {W x : World} {w h pad p bT bM g b : Nat} (hB : Below W.heap.size W x) (hT : x.heap[bT]? = some (.cells (Array.replicate p (.int .u8 0)) 5 (0, 0))) (hM : x.heap[bM]? = some (.map #[] 0)) (hS : SkyAt x g w h (List.replicate w 0))
    (hX : x.heap[b]? = some (.cells #[.int .i64 w, .int .i64 h, .slice (some ⟨bT, 0, none⟩) p p, .int .i64 pad, .pointer (some ⟨g, 0, none⟩), .slice none 0 0, .map (some bM), .slice none 0 0] 68 (0, 0))) (hb : W.heap.size ≤ b) (hp : w * h = p) (hw : 1 ≤ w ∧ w ≤ 64) (hh : 1 ≤ h ∧ h ≤ 64) (h4 : pad ≤ 4)
    (hTs : W.heap.size ≤ bT) (hMs : W.heap.size ≤ bM) (hgs : W.heap.size ≤ g) :
    ∃ (b' : Nat) (c : AtC), Ending.returned (.pointer (some ⟨b, 0, none⟩)) = .returned (.pointer (some ⟨b', 0, none⟩)) ∧ AtAt x b' w h pad (zeroS w) c ∧ (∀ q, c.own b' q → W.heap.size ≤ q) ∧ Below W.heap.size W x := by
  subst hp
  refine ⟨b, ⟨bT, g, bM, .slice none 0 0, .slice none 0 0⟩, rfl, ⟨⟨hX, ?_, hS, SlO.nil _ _ _, ?_, SlO.nil _ _ _, fun q hq => by simp [Value.ownBlock] at hq⟩, hw, hh, h4, AtI.zero w h pad, fun k hk => by simp [zeroS] at hk⟩, ?_, hB⟩
  · have e : pgL w h pad (zeroS w) = List.replicate (w * h) 0 := by
      apply List.ext_getElem (by simp [pgL])
      intro i h1 h2
      simp [pgL, pgF, zeroS]
    rw [e]
    have e2 : ((List.replicate (w * h) (0 : Int)).map (Value.int .u8)).toArray = Array.replicate (w * h) (.int .u8 0) := by simp
    rw [e2]; exact hT
  · exact ⟨.map [], ⟨#[], 0, hM, ⟨by simp, Go.MapKept.stamped_empty 0, by simp⟩, Nat.le_refl _, rfl⟩, fun _ => rfl, fun _ _ => rfl, rfl⟩
  · rintro q (h1 | h1 | h1 | h1 | h1 | h1)
    · omega
    · exact h1 ▸ hTs
    · exact h1 ▸ hgs
    · exact h1 ▸ hMs
    · simp [Value.ownBlock] at h1
    · simp [Value.ownBlock] at h1
attribute [local go_sem] max2_max min2_min max_two min_two
set_option maxHeartbeats 2000000 in
set_option maxRecDepth 100000 in
theorem ofA_c (W : World) (x y z : Int) :
    Calls Try.prog 16 #[.int .i64 x, .int .i64 y, .int .i64 z] W fun e w' => ∃ (b : Nat) (c : AtC), e = .returned (.pointer (some ⟨b, 0, none⟩)) ∧ AtAt w' b (max 1 (min x 64)).toNat (max 1 (min y 64)).toNat (max 0 (min z 4)).toNat (zeroS (max 1 (min x 64)).toNat) c ∧ (∀ q, c.own b q → W.heap.size ≤ q) ∧ Below W.heap.size W w' := by
  obtain ⟨w, hw⟩ : ∃ w : Nat, max (1 : Int) (min x 64) = (w : Int) := ⟨(max 1 (min x 64)).toNat, by omega⟩
  obtain ⟨h, hh⟩ : ∃ h : Nat, max (1 : Int) (min y 64) = (h : Int) := ⟨(max 1 (min y 64)).toNat, by omega⟩
  obtain ⟨pad, hp⟩ : ∃ p : Nat, max (0 : Int) (min z 4) = (p : Int) := ⟨(max 0 (min z 4)).toNat, by omega⟩
  have hw1 : 1 ≤ w ∧ w ≤ 64 := by omega
  have hh1 : 1 ≤ h ∧ h ≤ 64 := by omega
  have hp1 : pad ≤ 4 := by omega
  have ew : (max 1 (min x 64)).toNat = w := by omega
  have eh : (max 1 (min y 64)).toNat = h := by omega
  have ep : (max 0 (min z 4)).toNat = pad := by omega
  rw [ew, eh, ep]
  clear ew eh ep
  have hwh : w * h ≤ 4096 := Nat.le_trans (Nat.mul_le_mul hw1.2 hh1.2) (by decide)
  have HWP := Lib.hid (show 1 ≤ w * h from Nat.mul_le_mul hw1.1 hh1.1)
  have hsw : side (w : Int) = w := by unfold side; omega
  have hsh : side (h : Int) = h := by unfold side; omega
  have hof := fun W' => of_c W' w h
  rw [hsw, hsh] at hof
  have HOF := Lib.hid hof
  obtain ⟨p, hpp⟩ : ∃ p, w * h = p := ⟨_, rfl⟩
  have e1 : IntKind.i64.wrap ((w : Int) * (h : Int)) = (p : Int) := by rw [← Int.natCast_mul, hpp, IntKind.wrap_i64]; omega
  have HPP := Lib.hid hpp
  rw [hpp] at hwh
  clear hsw hsh hof hpp
  obtain ⟨hw1, hw2⟩ := hw1
  obtain ⟨hh1, hh2⟩ := hh1
  have hmk := fun W' => make8 p (by omega) W'
  have hz0 : ∀ W' : World, (Instr.makeMap 30 none).run Try.prog W' = .ok (.map (some W'.heap.size)) (W'.alloc (.map #[] 0)) := fun _ => rfl
  go_enter Try.func16, Try.ntmps16
  go_upto_region 2 with (fail)
  clear hw hh
  refine wp_region_noPanic ?_
  refine wp_region_held_drew (S := fun _ => True) (by kernel_rfl) trivial (fun _ => ?_)
  have hB := Lib.hid (below_drew (Below.refl W.heap.size W))
  refine wpAnyH_take (i := 0) (oi := _) (v := (.int .i64 w)) rfl (by kernel_rfl) (by kernel_rfl) (by kernel_rfl) (fun _ _ _ h => h) (Or.inl ⟨by rfl, ?_⟩) trivial ?_
  · intro w' hSw; go_simp
  try simp only [Act.put, List.setIfInBounds_toArray, List.set_cons_zero, List.set_cons_succ]
  refine wpAnyH_take (i := 1) (oi := _) (v := (.int .i64 h)) rfl (by kernel_rfl) (by kernel_rfl) (by kernel_rfl) (fun _ _ _ h => h) (Or.inl ⟨by rfl, ?_⟩) trivial ?_
  · intro w' hSw; go_simp
  try simp only [Act.put, List.setIfInBounds_toArray, List.set_cons_zero, List.set_cons_succ]
  refine wpAnyH_take (i := 2) (oi := _) (v := (.int .i64 w)) rfl (by kernel_rfl) (by kernel_rfl) (by kernel_rfl) (fun _ _ _ h => h) (Or.inl ⟨by rfl, ?_⟩) trivial ?_
  · intro w' hSw; go_simp
  try simp only [Act.put, List.setIfInBounds_toArray, List.set_cons_zero, List.set_cons_succ]
  refine wpAnyH_take (i := 3) (oi := _) (v := (.int .i64 h)) rfl (by kernel_rfl) (by kernel_rfl) (by kernel_rfl) (fun _ _ _ h => h) (Or.inl ⟨by rfl, ?_⟩) trivial ?_
  · intro w' hSw; go_simp
  try simp only [Act.put, List.setIfInBounds_toArray, List.set_cons_zero, List.set_cons_succ]
  refine wpAnyH_take (i := 4) (oi := _) (v := (.int .i64 p)) rfl (by kernel_rfl) (by kernel_rfl) (by kernel_rfl) (fun _ _ _ h => h) (Or.inl ⟨by rfl, ?_⟩) trivial ?_
  · intro w' hSw; go_simp
  try simp only [Act.put, List.setIfInBounds_toArray, List.set_cons_zero, List.set_cons_succ]
  refine wpAnyH_take (i := 7) (oi := _) (v := (.int .i64 z)) rfl (by kernel_rfl) (by kernel_rfl) (by kernel_rfl) (fun _ _ _ h => h) (Or.inl ⟨by rfl, ?_⟩) trivial ?_
  · intro w' hSw; go_simp
  try simp only [Act.put, List.setIfInBounds_toArray, List.set_cons_zero, List.set_cons_succ]
  refine wpAnyH_take (i := 8) (oi := _) (v := (.int .i64 (min z 4))) rfl (by kernel_rfl) (by kernel_rfl) (by kernel_rfl) (fun _ _ _ h => h) (Or.inl ⟨by rfl, ?_⟩) trivial ?_
  · intro w' hSw; go_simp
  try simp only [Act.put, List.setIfInBounds_toArray, List.set_cons_zero, List.set_cons_succ]
  refine wpAnyH_take (i := 9) (oi := _) (v := (.int .i64 pad)) rfl (by kernel_rfl) (by kernel_rfl) (by kernel_rfl) (fun _ _ _ h => h) (Or.inl ⟨by rfl, ?_⟩) trivial ?_
  · intro w' hSw; go_simp
  try simp only [Act.put, List.setIfInBounds_toArray, List.set_cons_zero, List.set_cons_succ]
  refine wpAnyH_take (i := 10) (oi := _) (v := (.int .i64 w)) rfl (by kernel_rfl) (by kernel_rfl) (by kernel_rfl) (fun _ _ _ h => h) (Or.inl ⟨by rfl, ?_⟩) trivial ?_
  · intro w' hSw; go_simp
  try simp only [Act.put, List.setIfInBounds_toArray, List.set_cons_zero, List.set_cons_succ]
  refine wpAnyH_take (i := 11) (oi := _) (v := (.int .i64 h)) rfl (by kernel_rfl) (by kernel_rfl) (by kernel_rfl) (fun _ _ _ h => h) (Or.inl ⟨by rfl, ?_⟩) trivial ?_
  · intro w' hSw; go_simp
  try simp only [Act.put, List.setIfInBounds_toArray, List.set_cons_zero, List.set_cons_succ]
  refine wpAnyH_ready (rs := [5, 12, 13]) (by kernel_rfl) (by simp) ?_
  refine AllReadyH.cons (o := _) rfl (fun K hK => ?_) (AllReadyH.cons (o := _) rfl (fun K hK => ?_) (AllReadyH.cons (o := _) rfl (fun K hK => ?_) (AllReadyH.nil)))
  · go_simp
    refine gen_world (q := fun x => Below W.heap.size W x ∧ x.heap[W.heap.size]? = some (.cells (Array.replicate p (Value.int .u8 0)) 5 (0, 0))) ⟨below_step hB.out (below_alloc (Below.refl _ _) _), heap_alloc_new _ _⟩ (fun x1 hx => ?_)
    obtain ⟨hB, hT⟩ := hx
    replace hB := Lib.hid hB
    replace hT := Lib.hid hT
    refine hK.out _ _ trivial (fun _ => ?_)
    clear hK K
    try simp only [Act.put, List.setIfInBounds_toArray, List.set_cons_zero, List.set_cons_succ]
    have hTs : W.heap.size ≤ W.heap.size := Nat.le_refl _
    have hx1 : W.heap.size ≤ x1.heap.size := hB.out.size
    refine wpAnyH_take (i := 6) (oi := _) (v := (.agg #[.int .i64 w, .int .i64 h, .slice (some ⟨W.heap.size, 0, none⟩) p p])) rfl (by kernel_rfl) (by kernel_rfl) (by kernel_rfl) (fun _ _ _ h => h) (Or.inl ⟨by rfl, ?_⟩) trivial ?_
    · intro w' hSw; go_simp
    try simp only [Act.put, List.setIfInBounds_toArray, List.set_cons_zero, List.set_cons_succ]
    refine wpAnyH_ready (rs := [12, 13]) (by kernel_rfl) (by simp) ?_
    refine AllReadyH.cons (o := _) rfl (fun K hK => ?_) (AllReadyH.cons (o := _) rfl (fun K hK => ?_) (AllReadyH.nil))
    · go_simp
      go_at_call 24; refine (HOF.out _).mono ?_; rintro e x2 ⟨g, rfl, hg, hsky, hb2⟩
      have hx : Below W.heap.size W x2 ∧ x2.heap[W.heap.size]? = some (.cells (Array.replicate p (Value.int .u8 0)) 5 (0, 0)) ∧ SkyAt x2 g w h (List.replicate w 0) := ⟨below_step hB.out hb2, blk_below hT.out hb2, hsky⟩
      have hgs : W.heap.size ≤ g := Nat.le_trans hB.out.size hg
      obtain ⟨hB, hT, hS⟩ := hx
      replace hB := Lib.hid hB
      replace hT := Lib.hid hT
      replace hS := Lib.hid hS
      clear hg hsky hb2
      go_wp2_with fail
      refine hK.out _ _ trivial (fun _ => ?_)
      clear hK K
      try simp only [Act.put, List.setIfInBounds_toArray, List.set_cons_zero, List.set_cons_succ]
      have hx2 : W.heap.size ≤ x2.heap.size := hB.out.size
      refine wpAnyH_ready (rs := [13]) (by kernel_rfl) (by simp) ?_
      refine AllReadyH.cons (o := _) rfl (fun K hK => ?_) (AllReadyH.nil)
      · go_simp
        refine gen_world (q := fun x => Below W.heap.size W x ∧ x.heap[W.heap.size]? = some (.cells (Array.replicate p (Value.int .u8 0)) 5 (0, 0)) ∧ x.heap[x2.heap.size]? = some (.map #[] 0) ∧ SkyAt x g w h (List.replicate w 0)) ⟨below_step hB.out (below_alloc (Below.refl _ _) _), blk_below hT.out (below_alloc (Below.refl _ _) _), heap_alloc_new _ _, hS.out.below (below_alloc (Below.refl _ _) _)⟩ (fun x3 hx => ?_)
        obtain ⟨hB, hT, hM, hS⟩ := hx
        replace hB := Lib.hid hB
        replace hT := Lib.hid hT
        replace hM := Lib.hid hM
        replace hS := Lib.hid hS
        refine hK.out _ _ trivial (fun _ => ?_)
        clear hK K
        try simp only [Act.put, List.setIfInBounds_toArray, List.set_cons_zero, List.set_cons_succ]
        have hMs : W.heap.size ≤ x2.heap.size := hx2
        have hx3 : W.heap.size ≤ x3.heap.size := hB.out.size
        refine wpAnyH_take (i := 14) (oi := _) (v := (.agg #[.int .i64 w, .int .i64 h, .slice (some ⟨W.heap.size, 0, none⟩) p p, .int .i64 pad, .pointer (some ⟨g, 0, none⟩), .slice none 0 0, .map (some x2.heap.size), .slice none 0 0])) rfl (by kernel_rfl) (by kernel_rfl) (by kernel_rfl) (fun _ _ _ h => h) (Or.inl ⟨by rfl, ?_⟩) trivial ?_
        · intro w' hSw; go_simp
        try simp only [Act.put, List.setIfInBounds_toArray, List.set_cons_zero, List.set_cons_succ]
        refine wpAnyH_ready (rs := [15]) (by kernel_rfl) (by simp) ?_
        refine AllReadyH.cons (o := _) rfl (fun K hK => ?_) (AllReadyH.nil)
        · go_simp
          refine gen_world (q := fun x => Below W.heap.size W x ∧ x.heap[W.heap.size]? = some (.cells (Array.replicate p (Value.int .u8 0)) 5 (0, 0)) ∧ x.heap[x2.heap.size]? = some (.map #[] 0) ∧ SkyAt x g w h (List.replicate w 0) ∧ x.heap[x3.heap.size]? = some (.cells #[.int .i64 w, .int .i64 h, .slice (some ⟨W.heap.size, 0, none⟩) p p, .int .i64 pad, .pointer (some ⟨g, 0, none⟩), .slice none 0 0, .map (some x2.heap.size), .slice none 0 0] 68 (0, 0))) ⟨below_step hB.out (below_alloc (Below.refl _ _) _), blk_below hT.out (below_alloc (Below.refl _ _) _), blk_below hM.out (below_alloc (Below.refl _ _) _), hS.out.below (below_alloc (Below.refl _ _) _), heap_alloc_new _ _⟩ (fun x4 hx => ?_)
          have hb1 : W.heap.size ≤ x3.heap.size := hB.out.size
          obtain ⟨hB, hT, hM, hS, hX⟩ := hx
          replace hB := Lib.hid hB
          replace hT := Lib.hid hT
          replace hM := Lib.hid hM
          replace hS := Lib.hid hS
          replace hX := Lib.hid hX
          refine hK.out _ _ trivial (fun _ => ?_)
          clear hK K
          try simp only [Act.put, List.setIfInBounds_toArray, List.set_cons_zero, List.set_cons_succ]
          refine wpAnyH_ready (rs := [16]) (by kernel_rfl) (by simp) ?_
          refine AllReadyH.cons (o := _) rfl (fun K hK => ?_) (AllReadyH.nil)
          · go_simp
            refine hK.out _ _ trivial (fun _ => ?_)
            clear hK K
            try simp only [Act.put, List.setIfInBounds_toArray, List.set_cons_zero, List.set_cons_succ]
            refine wpAnyH_done (by kernel_rfl) ?_ _
            refine NoPanic.normal ?_
            go_wp2_with fail
            go_ret
            exact of_end hB.out hT.out hM.out hS.out hX.out hb1 HPP.out ⟨hw1, hw2⟩ ⟨hh1, hh2⟩ hp1 hTs hMs hgs
    · go_simp
      refine gen_world (q := fun x => Below W.heap.size W x ∧ x.heap[W.heap.size]? = some (.cells (Array.replicate p (Value.int .u8 0)) 5 (0, 0)) ∧ x.heap[x1.heap.size]? = some (.map #[] 0)) ⟨below_step hB.out (below_alloc (Below.refl _ _) _), blk_below hT.out (below_alloc (Below.refl _ _) _), heap_alloc_new _ _⟩ (fun x6 hx => ?_)
      obtain ⟨hB, hT, hM⟩ := hx
      replace hB := Lib.hid hB
      replace hT := Lib.hid hT
      replace hM := Lib.hid hM
      refine hK.out _ _ trivial (fun _ => ?_)
      clear hK K
      try simp only [Act.put, List.setIfInBounds_toArray, List.set_cons_zero, List.set_cons_succ]
      have hMs : W.heap.size ≤ x1.heap.size := hx1
      have hx6 : W.heap.size ≤ x6.heap.size := hB.out.size
      refine wpAnyH_ready (rs := [12]) (by kernel_rfl) (by simp) ?_
      refine AllReadyH.cons (o := _) rfl (fun K hK => ?_) (AllReadyH.nil)
      · go_simp
        go_at_call 24; refine (HOF.out _).mono ?_; rintro e x7 ⟨g, rfl, hg, hsky, hb2⟩
        have hx : Below W.heap.size W x7 ∧ x7.heap[W.heap.size]? = some (.cells (Array.replicate p (Value.int .u8 0)) 5 (0, 0)) ∧ x7.heap[x1.heap.size]? = some (.map #[] 0) ∧ SkyAt x7 g w h (List.replicate w 0) := ⟨below_step hB.out hb2, blk_below hT.out hb2, blk_below hM.out hb2, hsky⟩
        have hgs : W.heap.size ≤ g := Nat.le_trans hB.out.size hg
        obtain ⟨hB, hT, hM, hS⟩ := hx
        replace hB := Lib.hid hB
        replace hT := Lib.hid hT
        replace hM := Lib.hid hM
        replace hS := Lib.hid hS
        clear hg hsky hb2
        go_wp2_with fail
        refine hK.out _ _ trivial (fun _ => ?_)
        clear hK K
        try simp only [Act.put, List.setIfInBounds_toArray, List.set_cons_zero, List.set_cons_succ]
        have hx7 : W.heap.size ≤ x7.heap.size := hB.out.size
        refine wpAnyH_take (i := 14) (oi := _) (v := (.agg #[.int .i64 w, .int .i64 h, .slice (some ⟨W.heap.size, 0, none⟩) p p, .int .i64 pad, .pointer (some ⟨g, 0, none⟩), .slice none 0 0, .map (some x1.heap.size), .slice none 0 0])) rfl (by kernel_rfl) (by kernel_rfl) (by kernel_rfl) (fun _ _ _ h => h) (Or.inl ⟨by rfl, ?_⟩) trivial ?_
        · intro w' hSw; go_simp
        try simp only [Act.put, List.setIfInBounds_toArray, List.set_cons_zero, List.set_cons_succ]
        refine wpAnyH_ready (rs := [15]) (by kernel_rfl) (by simp) ?_
        refine AllReadyH.cons (o := _) rfl (fun K hK => ?_) (AllReadyH.nil)
        · go_simp
          refine gen_world (q := fun x => Below W.heap.size W x ∧ x.heap[W.heap.size]? = some (.cells (Array.replicate p (Value.int .u8 0)) 5 (0, 0)) ∧ x.heap[x1.heap.size]? = some (.map #[] 0) ∧ SkyAt x g w h (List.replicate w 0) ∧ x.heap[x7.heap.size]? = some (.cells #[.int .i64 w, .int .i64 h, .slice (some ⟨W.heap.size, 0, none⟩) p p, .int .i64 pad, .pointer (some ⟨g, 0, none⟩), .slice none 0 0, .map (some x1.heap.size), .slice none 0 0] 68 (0, 0))) ⟨below_step hB.out (below_alloc (Below.refl _ _) _), blk_below hT.out (below_alloc (Below.refl _ _) _), blk_below hM.out (below_alloc (Below.refl _ _) _), hS.out.below (below_alloc (Below.refl _ _) _), heap_alloc_new _ _⟩ (fun x8 hx => ?_)
          have hb1 : W.heap.size ≤ x7.heap.size := hB.out.size
          obtain ⟨hB, hT, hM, hS, hX⟩ := hx
          replace hB := Lib.hid hB
          replace hT := Lib.hid hT
          replace hM := Lib.hid hM
          replace hS := Lib.hid hS
          replace hX := Lib.hid hX
          refine hK.out _ _ trivial (fun _ => ?_)
          clear hK K
          try simp only [Act.put, List.setIfInBounds_toArray, List.set_cons_zero, List.set_cons_succ]
          refine wpAnyH_ready (rs := [16]) (by kernel_rfl) (by simp) ?_
          refine AllReadyH.cons (o := _) rfl (fun K hK => ?_) (AllReadyH.nil)
          · go_simp
            refine hK.out _ _ trivial (fun _ => ?_)
            clear hK K
            try simp only [Act.put, List.setIfInBounds_toArray, List.set_cons_zero, List.set_cons_succ]
            refine wpAnyH_done (by kernel_rfl) ?_ _
            refine NoPanic.normal ?_
            go_wp2_with fail
            go_ret
            exact of_end hB.out hT.out hM.out hS.out hX.out hb1 HPP.out ⟨hw1, hw2⟩ ⟨hh1, hh2⟩ hp1 hTs hMs hgs
  · go_simp
    go_at_call 24; refine (HOF.out _).mono ?_; rintro e x10 ⟨g, rfl, hg, hsky, hb2⟩
    have hx : Below W.heap.size W x10 ∧ SkyAt x10 g w h (List.replicate w 0) := ⟨below_step hB.out hb2, hsky⟩
    have hgs : W.heap.size ≤ g := Nat.le_trans hB.out.size hg
    obtain ⟨hB, hS⟩ := hx
    replace hB := Lib.hid hB
    replace hS := Lib.hid hS
    clear hg hsky hb2
    go_wp2_with fail
    refine hK.out _ _ trivial (fun _ => ?_)
    clear hK K
    try simp only [Act.put, List.setIfInBounds_toArray, List.set_cons_zero, List.set_cons_succ]
    have hx10 : W.heap.size ≤ x10.heap.size := hB.out.size
    refine wpAnyH_ready (rs := [5, 13]) (by kernel_rfl) (by simp) ?_
    refine AllReadyH.cons (o := _) rfl (fun K hK => ?_) (AllReadyH.cons (o := _) rfl (fun K hK => ?_) (AllReadyH.nil))
    · go_simp
      refine gen_world (q := fun x => Below W.heap.size W x ∧ x.heap[x10.heap.size]? = some (.cells (Array.replicate p (Value.int .u8 0)) 5 (0, 0)) ∧ SkyAt x g w h (List.replicate w 0)) ⟨below_step hB.out (below_alloc (Below.refl _ _) _), heap_alloc_new _ _, hS.out.below (below_alloc (Below.refl _ _) _)⟩ (fun x11 hx => ?_)
      obtain ⟨hB, hT, hS⟩ := hx
      replace hB := Lib.hid hB
      replace hT := Lib.hid hT
      replace hS := Lib.hid hS
      refine hK.out _ _ trivial (fun _ => ?_)
      clear hK K
      try simp only [Act.put, List.setIfInBounds_toArray, List.set_cons_zero, List.set_cons_succ]
      have hTs : W.heap.size ≤ x10.heap.size := hx10
      have hx11 : W.heap.size ≤ x11.heap.size := hB.out.size
      refine wpAnyH_take (i := 6) (oi := _) (v := (.agg #[.int .i64 w, .int .i64 h, .slice (some ⟨x10.heap.size, 0, none⟩) p p])) rfl (by kernel_rfl) (by kernel_rfl) (by kernel_rfl) (fun _ _ _ h => h) (Or.inl ⟨by rfl, ?_⟩) trivial ?_
      · intro w' hSw; go_simp
      try simp only [Act.put, List.setIfInBounds_toArray, List.set_cons_zero, List.set_cons_succ]
      refine wpAnyH_ready (rs := [13]) (by kernel_rfl) (by simp) ?_
      refine AllReadyH.cons (o := _) rfl (fun K hK => ?_) (AllReadyH.nil)
      · go_simp
        refine gen_world (q := fun x => Below W.heap.size W x ∧ x.heap[x10.heap.size]? = some (.cells (Array.replicate p (Value.int .u8 0)) 5 (0, 0)) ∧ x.heap[x11.heap.size]? = some (.map #[] 0) ∧ SkyAt x g w h (List.replicate w 0)) ⟨below_step hB.out (below_alloc (Below.refl _ _) _), blk_below hT.out (below_alloc (Below.refl _ _) _), heap_alloc_new _ _, hS.out.below (below_alloc (Below.refl _ _) _)⟩ (fun x12 hx => ?_)
        obtain ⟨hB, hT, hM, hS⟩ := hx
        replace hB := Lib.hid hB
        replace hT := Lib.hid hT
        replace hM := Lib.hid hM
        replace hS := Lib.hid hS
        refine hK.out _ _ trivial (fun _ => ?_)
        clear hK K
        try simp only [Act.put, List.setIfInBounds_toArray, List.set_cons_zero, List.set_cons_succ]
        have hMs : W.heap.size ≤ x11.heap.size := hx11
        have hx12 : W.heap.size ≤ x12.heap.size := hB.out.size
        refine wpAnyH_take (i := 14) (oi := _) (v := (.agg #[.int .i64 w, .int .i64 h, .slice (some ⟨x10.heap.size, 0, none⟩) p p, .int .i64 pad, .pointer (some ⟨g, 0, none⟩), .slice none 0 0, .map (some x11.heap.size), .slice none 0 0])) rfl (by kernel_rfl) (by kernel_rfl) (by kernel_rfl) (fun _ _ _ h => h) (Or.inl ⟨by rfl, ?_⟩) trivial ?_
        · intro w' hSw; go_simp
        try simp only [Act.put, List.setIfInBounds_toArray, List.set_cons_zero, List.set_cons_succ]
        refine wpAnyH_ready (rs := [15]) (by kernel_rfl) (by simp) ?_
        refine AllReadyH.cons (o := _) rfl (fun K hK => ?_) (AllReadyH.nil)
        · go_simp
          refine gen_world (q := fun x => Below W.heap.size W x ∧ x.heap[x10.heap.size]? = some (.cells (Array.replicate p (Value.int .u8 0)) 5 (0, 0)) ∧ x.heap[x11.heap.size]? = some (.map #[] 0) ∧ SkyAt x g w h (List.replicate w 0) ∧ x.heap[x12.heap.size]? = some (.cells #[.int .i64 w, .int .i64 h, .slice (some ⟨x10.heap.size, 0, none⟩) p p, .int .i64 pad, .pointer (some ⟨g, 0, none⟩), .slice none 0 0, .map (some x11.heap.size), .slice none 0 0] 68 (0, 0))) ⟨below_step hB.out (below_alloc (Below.refl _ _) _), blk_below hT.out (below_alloc (Below.refl _ _) _), blk_below hM.out (below_alloc (Below.refl _ _) _), hS.out.below (below_alloc (Below.refl _ _) _), heap_alloc_new _ _⟩ (fun x13 hx => ?_)
          have hb1 : W.heap.size ≤ x12.heap.size := hB.out.size
          obtain ⟨hB, hT, hM, hS, hX⟩ := hx
          replace hB := Lib.hid hB
          replace hT := Lib.hid hT
          replace hM := Lib.hid hM
          replace hS := Lib.hid hS
          replace hX := Lib.hid hX
          refine hK.out _ _ trivial (fun _ => ?_)
          clear hK K
          try simp only [Act.put, List.setIfInBounds_toArray, List.set_cons_zero, List.set_cons_succ]
          refine wpAnyH_ready (rs := [16]) (by kernel_rfl) (by simp) ?_
          refine AllReadyH.cons (o := _) rfl (fun K hK => ?_) (AllReadyH.nil)
          · go_simp
            refine hK.out _ _ trivial (fun _ => ?_)
            clear hK K
            try simp only [Act.put, List.setIfInBounds_toArray, List.set_cons_zero, List.set_cons_succ]
            refine wpAnyH_done (by kernel_rfl) ?_ _
            refine NoPanic.normal ?_
            go_wp2_with fail
            go_ret
            exact of_end hB.out hT.out hM.out hS.out hX.out hb1 HPP.out ⟨hw1, hw2⟩ ⟨hh1, hh2⟩ hp1 hTs hMs hgs
    · go_simp
      refine gen_world (q := fun x => Below W.heap.size W x ∧ x.heap[x10.heap.size]? = some (.map #[] 0) ∧ SkyAt x g w h (List.replicate w 0)) ⟨below_step hB.out (below_alloc (Below.refl _ _) _), heap_alloc_new _ _, hS.out.below (below_alloc (Below.refl _ _) _)⟩ (fun x15 hx => ?_)
      obtain ⟨hB, hM, hS⟩ := hx
      replace hB := Lib.hid hB
      replace hM := Lib.hid hM
      replace hS := Lib.hid hS
      refine hK.out _ _ trivial (fun _ => ?_)
      clear hK K
      try simp only [Act.put, List.setIfInBounds_toArray, List.set_cons_zero, List.set_cons_succ]
      have hMs : W.heap.size ≤ x10.heap.size := hx10
      have hx15 : W.heap.size ≤ x15.heap.size := hB.out.size
      refine wpAnyH_ready (rs := [5]) (by kernel_rfl) (by simp) ?_
      refine AllReadyH.cons (o := _) rfl (fun K hK => ?_) (AllReadyH.nil)
      · go_simp
        refine gen_world (q := fun x => Below W.heap.size W x ∧ x.heap[x15.heap.size]? = some (.cells (Array.replicate p (Value.int .u8 0)) 5 (0, 0)) ∧ x.heap[x10.heap.size]? = some (.map #[] 0) ∧ SkyAt x g w h (List.replicate w 0)) ⟨below_step hB.out (below_alloc (Below.refl _ _) _), heap_alloc_new _ _, blk_below hM.out (below_alloc (Below.refl _ _) _), hS.out.below (below_alloc (Below.refl _ _) _)⟩ (fun x16 hx => ?_)
        obtain ⟨hB, hT, hM, hS⟩ := hx
        replace hB := Lib.hid hB
        replace hT := Lib.hid hT
        replace hM := Lib.hid hM
        replace hS := Lib.hid hS
        refine hK.out _ _ trivial (fun _ => ?_)
        clear hK K
        try simp only [Act.put, List.setIfInBounds_toArray, List.set_cons_zero, List.set_cons_succ]
        have hTs : W.heap.size ≤ x15.heap.size := hx15
        have hx16 : W.heap.size ≤ x16.heap.size := hB.out.size
        refine wpAnyH_take (i := 6) (oi := _) (v := (.agg #[.int .i64 w, .int .i64 h, .slice (some ⟨x15.heap.size, 0, none⟩) p p])) rfl (by kernel_rfl) (by kernel_rfl) (by kernel_rfl) (fun _ _ _ h => h) (Or.inl ⟨by rfl, ?_⟩) trivial ?_
        · intro w' hSw; go_simp
        try simp only [Act.put, List.setIfInBounds_toArray, List.set_cons_zero, List.set_cons_succ]
        refine wpAnyH_take (i := 14) (oi := _) (v := (.agg #[.int .i64 w, .int .i64 h, .slice (some ⟨x15.heap.size, 0, none⟩) p p, .int .i64 pad, .pointer (some ⟨g, 0, none⟩), .slice none 0 0, .map (some x10.heap.size), .slice none 0 0])) rfl (by kernel_rfl) (by kernel_rfl) (by kernel_rfl) (fun _ _ _ h => h) (Or.inl ⟨by rfl, ?_⟩) trivial ?_
        · intro w' hSw; go_simp
        try simp only [Act.put, List.setIfInBounds_toArray, List.set_cons_zero, List.set_cons_succ]
        refine wpAnyH_ready (rs := [15]) (by kernel_rfl) (by simp) ?_
        refine AllReadyH.cons (o := _) rfl (fun K hK => ?_) (AllReadyH.nil)
        · go_simp
          refine gen_world (q := fun x => Below W.heap.size W x ∧ x.heap[x15.heap.size]? = some (.cells (Array.replicate p (Value.int .u8 0)) 5 (0, 0)) ∧ x.heap[x10.heap.size]? = some (.map #[] 0) ∧ SkyAt x g w h (List.replicate w 0) ∧ x.heap[x16.heap.size]? = some (.cells #[.int .i64 w, .int .i64 h, .slice (some ⟨x15.heap.size, 0, none⟩) p p, .int .i64 pad, .pointer (some ⟨g, 0, none⟩), .slice none 0 0, .map (some x10.heap.size), .slice none 0 0] 68 (0, 0))) ⟨below_step hB.out (below_alloc (Below.refl _ _) _), blk_below hT.out (below_alloc (Below.refl _ _) _), blk_below hM.out (below_alloc (Below.refl _ _) _), hS.out.below (below_alloc (Below.refl _ _) _), heap_alloc_new _ _⟩ (fun x17 hx => ?_)
          have hb1 : W.heap.size ≤ x16.heap.size := hB.out.size
          obtain ⟨hB, hT, hM, hS, hX⟩ := hx
          replace hB := Lib.hid hB
          replace hT := Lib.hid hT
          replace hM := Lib.hid hM
          replace hS := Lib.hid hS
          replace hX := Lib.hid hX
          refine hK.out _ _ trivial (fun _ => ?_)
          clear hK K
          try simp only [Act.put, List.setIfInBounds_toArray, List.set_cons_zero, List.set_cons_succ]
          refine wpAnyH_ready (rs := [16]) (by kernel_rfl) (by simp) ?_
          refine AllReadyH.cons (o := _) rfl (fun K hK => ?_) (AllReadyH.nil)
          · go_simp
            refine hK.out _ _ trivial (fun _ => ?_)
            clear hK K
            try simp only [Act.put, List.setIfInBounds_toArray, List.set_cons_zero, List.set_cons_succ]
            refine wpAnyH_done (by kernel_rfl) ?_ _
            refine NoPanic.normal ?_
            go_wp2_with fail
            go_ret
            exact of_end hB.out hT.out hM.out hS.out hX.out hb1 HPP.out ⟨hw1, hw2⟩ ⟨hh1, hh2⟩ hp1 hTs hMs hgs
  · go_simp
    refine gen_world (q := fun x => Below W.heap.size W x ∧ x.heap[W.heap.size]? = some (.map #[] 0)) ⟨below_step hB.out (below_alloc (Below.refl _ _) _), heap_alloc_new _ _⟩ (fun x19 hx => ?_)
    obtain ⟨hB, hM⟩ := hx
    replace hB := Lib.hid hB
    replace hM := Lib.hid hM
    refine hK.out _ _ trivial (fun _ => ?_)
    clear hK K
    try simp only [Act.put, List.setIfInBounds_toArray, List.set_cons_zero, List.set_cons_succ]
    have hMs : W.heap.size ≤ W.heap.size := Nat.le_refl _
    have hx19 : W.heap.size ≤ x19.heap.size := hB.out.size
    refine wpAnyH_ready (rs := [5, 12]) (by kernel_rfl) (by simp) ?_
    refine AllReadyH.cons (o := _) rfl (fun K hK => ?_) (AllReadyH.cons (o := _) rfl (fun K hK => ?_) (AllReadyH.nil))
    · go_simp
      refine gen_world (q := fun x => Below W.heap.size W x ∧ x.heap[x19.heap.size]? = some (.cells (Array.replicate p (Value.int .u8 0)) 5 (0, 0)) ∧ x.heap[W.heap.size]? = some (.map #[] 0)) ⟨below_step hB.out (below_alloc (Below.refl _ _) _), heap_alloc_new _ _, blk_below hM.out (below_alloc (Below.refl _ _) _)⟩ (fun x20 hx => ?_)
      obtain ⟨hB, hT, hM⟩ := hx
      replace hB := Lib.hid hB
      replace hT := Lib.hid hT
      replace hM := Lib.hid hM
      refine hK.out _ _ trivial (fun _ => ?_)
      clear hK K
      try simp only [Act.put, List.setIfInBounds_toArray, List.set_cons_zero, List.set_cons_succ]
      have hTs : W.heap.size ≤ x19.heap.size := hx19
      have hx20 : W.heap.size ≤ x20.heap.size := hB.out.size
      refine wpAnyH_take (i := 6) (oi := _) (v := (.agg #[.int .i64 w, .int .i64 h, .slice (some ⟨x19.heap.size, 0, none⟩) p p])) rfl (by kernel_rfl) (by kernel_rfl) (by kernel_rfl) (fun _ _ _ h => h) (Or.inl ⟨by rfl, ?_⟩) trivial ?_
      · intro w' hSw; go_simp
      try simp only [Act.put, List.setIfInBounds_toArray, List.set_cons_zero, List.set_cons_succ]
      refine wpAnyH_ready (rs := [12]) (by kernel_rfl) (by simp) ?_
      refine AllReadyH.cons (o := _) rfl (fun K hK => ?_) (AllReadyH.nil)
      · go_simp
        go_at_call 24; refine (HOF.out _).mono ?_; rintro e x21 ⟨g, rfl, hg, hsky, hb2⟩
        have hx : Below W.heap.size W x21 ∧ x21.heap[x19.heap.size]? = some (.cells (Array.replicate p (Value.int .u8 0)) 5 (0, 0)) ∧ x21.heap[W.heap.size]? = some (.map #[] 0) ∧ SkyAt x21 g w h (List.replicate w 0) := ⟨below_step hB.out hb2, blk_below hT.out hb2, blk_below hM.out hb2, hsky⟩
        have hgs : W.heap.size ≤ g := Nat.le_trans hB.out.size hg
        obtain ⟨hB, hT, hM, hS⟩ := hx
        replace hB := Lib.hid hB
        replace hT := Lib.hid hT
        replace hM := Lib.hid hM
        replace hS := Lib.hid hS
        clear hg hsky hb2
        go_wp2_with fail
        refine hK.out _ _ trivial (fun _ => ?_)
        clear hK K
        try simp only [Act.put, List.setIfInBounds_toArray, List.set_cons_zero, List.set_cons_succ]
        have hx21 : W.heap.size ≤ x21.heap.size := hB.out.size
        refine wpAnyH_take (i := 14) (oi := _) (v := (.agg #[.int .i64 w, .int .i64 h, .slice (some ⟨x19.heap.size, 0, none⟩) p p, .int .i64 pad, .pointer (some ⟨g, 0, none⟩), .slice none 0 0, .map (some W.heap.size), .slice none 0 0])) rfl (by kernel_rfl) (by kernel_rfl) (by kernel_rfl) (fun _ _ _ h => h) (Or.inl ⟨by rfl, ?_⟩) trivial ?_
        · intro w' hSw; go_simp
        try simp only [Act.put, List.setIfInBounds_toArray, List.set_cons_zero, List.set_cons_succ]
        refine wpAnyH_ready (rs := [15]) (by kernel_rfl) (by simp) ?_
        refine AllReadyH.cons (o := _) rfl (fun K hK => ?_) (AllReadyH.nil)
        · go_simp
          refine gen_world (q := fun x => Below W.heap.size W x ∧ x.heap[x19.heap.size]? = some (.cells (Array.replicate p (Value.int .u8 0)) 5 (0, 0)) ∧ x.heap[W.heap.size]? = some (.map #[] 0) ∧ SkyAt x g w h (List.replicate w 0) ∧ x.heap[x21.heap.size]? = some (.cells #[.int .i64 w, .int .i64 h, .slice (some ⟨x19.heap.size, 0, none⟩) p p, .int .i64 pad, .pointer (some ⟨g, 0, none⟩), .slice none 0 0, .map (some W.heap.size), .slice none 0 0] 68 (0, 0))) ⟨below_step hB.out (below_alloc (Below.refl _ _) _), blk_below hT.out (below_alloc (Below.refl _ _) _), blk_below hM.out (below_alloc (Below.refl _ _) _), hS.out.below (below_alloc (Below.refl _ _) _), heap_alloc_new _ _⟩ (fun x22 hx => ?_)
          have hb1 : W.heap.size ≤ x21.heap.size := hB.out.size
          obtain ⟨hB, hT, hM, hS, hX⟩ := hx
          replace hB := Lib.hid hB
          replace hT := Lib.hid hT
          replace hM := Lib.hid hM
          replace hS := Lib.hid hS
          replace hX := Lib.hid hX
          refine hK.out _ _ trivial (fun _ => ?_)
          clear hK K
          try simp only [Act.put, List.setIfInBounds_toArray, List.set_cons_zero, List.set_cons_succ]
          refine wpAnyH_ready (rs := [16]) (by kernel_rfl) (by simp) ?_
          refine AllReadyH.cons (o := _) rfl (fun K hK => ?_) (AllReadyH.nil)
          · go_simp
            refine hK.out _ _ trivial (fun _ => ?_)
            clear hK K
            try simp only [Act.put, List.setIfInBounds_toArray, List.set_cons_zero, List.set_cons_succ]
            refine wpAnyH_done (by kernel_rfl) ?_ _
            refine NoPanic.normal ?_
            go_wp2_with fail
            go_ret
            exact of_end hB.out hT.out hM.out hS.out hX.out hb1 HPP.out ⟨hw1, hw2⟩ ⟨hh1, hh2⟩ hp1 hTs hMs hgs
    · go_simp
      go_at_call 24; refine (HOF.out _).mono ?_; rintro e x24 ⟨g, rfl, hg, hsky, hb2⟩
      have hx : Below W.heap.size W x24 ∧ x24.heap[W.heap.size]? = some (.map #[] 0) ∧ SkyAt x24 g w h (List.replicate w 0) := ⟨below_step hB.out hb2, blk_below hM.out hb2, hsky⟩
      have hgs : W.heap.size ≤ g := Nat.le_trans hB.out.size hg
      obtain ⟨hB, hM, hS⟩ := hx
      replace hB := Lib.hid hB
      replace hM := Lib.hid hM
      replace hS := Lib.hid hS
      clear hg hsky hb2
      go_wp2_with fail
      refine hK.out _ _ trivial (fun _ => ?_)
      clear hK K
      try simp only [Act.put, List.setIfInBounds_toArray, List.set_cons_zero, List.set_cons_succ]
      have hx24 : W.heap.size ≤ x24.heap.size := hB.out.size
      refine wpAnyH_ready (rs := [5]) (by kernel_rfl) (by simp) ?_
      refine AllReadyH.cons (o := _) rfl (fun K hK => ?_) (AllReadyH.nil)
      · go_simp
        refine gen_world (q := fun x => Below W.heap.size W x ∧ x.heap[x24.heap.size]? = some (.cells (Array.replicate p (Value.int .u8 0)) 5 (0, 0)) ∧ x.heap[W.heap.size]? = some (.map #[] 0) ∧ SkyAt x g w h (List.replicate w 0)) ⟨below_step hB.out (below_alloc (Below.refl _ _) _), heap_alloc_new _ _, blk_below hM.out (below_alloc (Below.refl _ _) _), hS.out.below (below_alloc (Below.refl _ _) _)⟩ (fun x25 hx => ?_)
        obtain ⟨hB, hT, hM, hS⟩ := hx
        replace hB := Lib.hid hB
        replace hT := Lib.hid hT
        replace hM := Lib.hid hM
        replace hS := Lib.hid hS
        refine hK.out _ _ trivial (fun _ => ?_)
        clear hK K
        try simp only [Act.put, List.setIfInBounds_toArray, List.set_cons_zero, List.set_cons_succ]
        have hTs : W.heap.size ≤ x24.heap.size := hx24
        have hx25 : W.heap.size ≤ x25.heap.size := hB.out.size
        refine wpAnyH_take (i := 6) (oi := _) (v := (.agg #[.int .i64 w, .int .i64 h, .slice (some ⟨x24.heap.size, 0, none⟩) p p])) rfl (by kernel_rfl) (by kernel_rfl) (by kernel_rfl) (fun _ _ _ h => h) (Or.inl ⟨by rfl, ?_⟩) trivial ?_
        · intro w' hSw; go_simp
        try simp only [Act.put, List.setIfInBounds_toArray, List.set_cons_zero, List.set_cons_succ]
        refine wpAnyH_take (i := 14) (oi := _) (v := (.agg #[.int .i64 w, .int .i64 h, .slice (some ⟨x24.heap.size, 0, none⟩) p p, .int .i64 pad, .pointer (some ⟨g, 0, none⟩), .slice none 0 0, .map (some W.heap.size), .slice none 0 0])) rfl (by kernel_rfl) (by kernel_rfl) (by kernel_rfl) (fun _ _ _ h => h) (Or.inl ⟨by rfl, ?_⟩) trivial ?_
        · intro w' hSw; go_simp
        try simp only [Act.put, List.setIfInBounds_toArray, List.set_cons_zero, List.set_cons_succ]
        refine wpAnyH_ready (rs := [15]) (by kernel_rfl) (by simp) ?_
        refine AllReadyH.cons (o := _) rfl (fun K hK => ?_) (AllReadyH.nil)
        · go_simp
          refine gen_world (q := fun x => Below W.heap.size W x ∧ x.heap[x24.heap.size]? = some (.cells (Array.replicate p (Value.int .u8 0)) 5 (0, 0)) ∧ x.heap[W.heap.size]? = some (.map #[] 0) ∧ SkyAt x g w h (List.replicate w 0) ∧ x.heap[x25.heap.size]? = some (.cells #[.int .i64 w, .int .i64 h, .slice (some ⟨x24.heap.size, 0, none⟩) p p, .int .i64 pad, .pointer (some ⟨g, 0, none⟩), .slice none 0 0, .map (some W.heap.size), .slice none 0 0] 68 (0, 0))) ⟨below_step hB.out (below_alloc (Below.refl _ _) _), blk_below hT.out (below_alloc (Below.refl _ _) _), blk_below hM.out (below_alloc (Below.refl _ _) _), hS.out.below (below_alloc (Below.refl _ _) _), heap_alloc_new _ _⟩ (fun x26 hx => ?_)
          have hb1 : W.heap.size ≤ x25.heap.size := hB.out.size
          obtain ⟨hB, hT, hM, hS, hX⟩ := hx
          replace hB := Lib.hid hB
          replace hT := Lib.hid hT
          replace hM := Lib.hid hM
          replace hS := Lib.hid hS
          replace hX := Lib.hid hX
          refine hK.out _ _ trivial (fun _ => ?_)
          clear hK K
          try simp only [Act.put, List.setIfInBounds_toArray, List.set_cons_zero, List.set_cons_succ]
          refine wpAnyH_ready (rs := [16]) (by kernel_rfl) (by simp) ?_
          refine AllReadyH.cons (o := _) rfl (fun K hK => ?_) (AllReadyH.nil)
          · go_simp
            refine hK.out _ _ trivial (fun _ => ?_)
            clear hK K
            try simp only [Act.put, List.setIfInBounds_toArray, List.set_cons_zero, List.set_cons_succ]
            refine wpAnyH_done (by kernel_rfl) ?_ _
            refine NoPanic.normal ?_
            go_wp2_with fail
            go_ret
            exact of_end hB.out hT.out hM.out hS.out hX.out hb1 HPP.out ⟨hw1, hw2⟩ ⟨hh1, hh2⟩ hp1 hTs hMs hgs
end Go.Proofs.Ytaccppchhljnkaa
