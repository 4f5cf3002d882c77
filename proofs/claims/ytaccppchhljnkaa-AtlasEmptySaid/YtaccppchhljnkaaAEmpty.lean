/- AtlasEmpty: its walk. -/
import Derived.Test.YtaccppchhljnkaaAwk
import Derived.Test.YtaccppchhljnkaaAtU
set_option linter.unusedVariables false
set_option linter.unusedSimpArgs false
namespace Go.Proofs.Ytaccppchhljnkaa
open Go.RowKit Go.Shelf Go.Proofs.YtaccppchhljnkaaW.PrintWords Go.Proofs.YtaccppchhljnkaaW.PrintLast Go.Proofs.YtaccppchhljnkaaW.PrintMore
theorem wf8x {x : Int} (h : (Lit.int .u8 x).wf = true) : 0 ≤ x ∧ x ≤ 255 := by simpa [Lit.wf, IntKind.min, IntKind.max, IntKind.signed, IntKind.bits] using h
attribute [local go_sem] max2_max min2_min max_two min_two
set_option maxHeartbeats 8000000 in
set_option maxRecDepth 100000 in
theorem atlasEmpty_core (x y z : Int) (hx : 0 ≤ x ∧ x ≤ 255) (hy : 0 ≤ y ∧ y ≤ 255) (hz : 0 ≤ z ∧ z ≤ 255) (a : Option Addr) (cap : Nat) (l : List Ax) (W0 : World) (rd : Kd.C kax W0 a l.length l) (le : l.length ≤ cap) (wf : ∀ p ∈ l, (Lit.int .u8 p.1).wf = true ∧ (Lit.int .u8 p.2.1).wf = true ∧ (Lit.int .u8 p.2.2.1).wf = true ∧ (Lit.int .u8 p.2.2.2.1).wf = true ∧ (Lit.int .u8 p.2.2.2.2).wf = true) :
    Calls Try.prog 7 #[.int .u8 x, .int .u8 y, .int .u8 z, .slice a l.length cap] W0 fun e w' => e = .returned (.bool true) ∧ Below W0.heap.size W0 w' := by
  obtain ⟨W, hW⟩ : ∃ W : Nat, (W : Int) = max 1 (min (x % 70) 64) := ⟨(max 1 (min (x % 70) 64)).toNat, by omega⟩
  obtain ⟨H, hH⟩ : ∃ H : Nat, (H : Int) = max 1 (min (y % 70) 64) := ⟨(max 1 (min (y % 70) 64)).toNat, by omega⟩
  obtain ⟨pad, hpad⟩ : ∃ pad : Nat, (pad : Int) = max 0 (min (z % 7 - 1) 4) := ⟨(max 0 (min (z % 7 - 1) 4)).toNat, by omega⟩
  have hw1 : 1 ≤ W ∧ W ≤ 64 := by omega
  have hh1 : 1 ≤ H ∧ H ≤ 64 := by omega
  have hp4 : pad ≤ 4 := by omega
  have HAW := Lib.hid (awake16 W0)
  have HNEW := Lib.hid (fun w => new_c w x y z hx hy hz W H pad hW hH hpad)
  obtain ⟨M, hM⟩ : ∃ M, min l.length 60 = M := ⟨_, rfl⟩
  have hMi : min (l.length : Int) 60 = (M : Int) := by omega
  have hMl : M ≤ l.length := by omega
  have hML : M ≤ 60 := by omega
  have hMc : M ≤ cap := by omega
  have hMc' : (M : Int) ≤ (cap : Int) := by omega
  obtain ⟨len, hlen⟩ : ∃ len, l.length = len := ⟨_, rfl⟩
  have HLEN := Lib.hid hlen
  rw [hlen] at le hMi hMl ⊢
  have RD := Lib.hid rd
  have WF := Lib.hid wf
  clear hx hy hz hW hH hpad hM rd wf hlen
  go_enter Try.func7, Try.ntmps7
  go_wp2_with fail
  refine HAW.out.mono ?_
  rintro e w1 ⟨rfl, hb1⟩
  have HB1 := Lib.hid hb1
  clear hb1 HAW
  go_wp2_with fail
  refine (HNEW.out w1).mono ?_
  rintro e w2 ⟨b, bm, rfl, h2⟩
  have H2 : Hid (Two (fun q => q < W0.heap.size) W0 w2 b bm W H pad (zeroS W) (zeroS W) (fun _ => none)) := Lib.hid (h2.rebase (fun q hq => Nat.lt_of_lt_of_le hq HB1.out.size) (Kept.of_below _ HB1.out) (fun q hq => hq))
  clear h2 HNEW
  have hsk : ∃ g, w2.cell? ⟨bm, 3, none⟩ = some (.pointer (some ⟨g, 0, none⟩)) := by
    obtain ⟨c, cm, h1, h2, _⟩ := H2.out
    exact ⟨cm.g, h2.raw.cell.2.2.2.1⟩
  obtain ⟨gs, c3⟩ := hsk
  go_upto_region 7 with (fail)
  clear c3
  go_loopw [41] (fun v wr => ∃ (j : Nat) (s : AtS) (F : ByteArray → Option FV), v = .int .i64 j ∧ j ≤ M ∧ Hid (Two (fun q => q < W0.heap.size) W0 wr b bm W H pad s s F) ∧ Hid (s.gone.length + s.keys.length ≤ j)) (fun v _ => M - (intOf v).toNat)
  case atStart => exact ⟨0, zeroS W, _, rfl, Nat.zero_le _, H2, Lib.hid (Nat.le_refl _)⟩
  case round =>
    obtain ⟨j, s, F, rfl, hj, HT, HC⟩ := hrel
    clear H2
    by_cases hjm : j < M
    · have hjm' : (j : Int) < (M : Int) := by omega
      obtain ⟨ad, eA⟩ := C_some RD.out (by rw [HLEN.out]; omega)
      subst eA
      have hbel : Below W0.heap.size W0 wr := HT.out.out (fun q hq => hq) (Nat.le_refl _)
      obtain ⟨⟨o, k, px, py, i⟩, hp⟩ : ∃ p, l.getD j (0, 0, 0, 0, 0) = p := ⟨_, rfl⟩
      obtain ⟨a0, a1, a2, a3, a4⟩ := ax_at (Kd.C_below RD.out hbel) j (by rw [HLEN.out]; omega) _ hp
      have hpm : (o, k, px, py, i) ∈ l := by
        rw [List.getD_eq_getElem?_getD, List.getElem?_eq_getElem (by rw [HLEN.out]; omega), Option.getD_some] at hp
        rw [← hp]; exact List.getElem_mem _
      obtain ⟨f0, f1, f2, f3, f4⟩ := WF.out _ hpm
      have r0 := wf8x f0; have r1 := wf8x f1; have r2 := wf8x f2; have r3 := wf8x f3; have r4 := wf8x f4
      obtain ⟨kn, rfl⟩ := Int.eq_ofNat_of_zero_le r1.1
      simp only at a0 a1 a2 a3 a4 r0 r1 r2 r3 r4
      have hbb := below_alloc (Below.refl _ wr) (.cells #[.int .u8 o, .int .u8 (kn : Int), .int .u8 px, .int .u8 py, .int .u8 i] 35)
      have HT1 := Lib.hid (HT.out.below hbb)
      have G1 := heap_alloc_new wr (.cells #[.int .u8 o, .int .u8 (kn : Int), .int .u8 px, .int .u8 py, .int .u8 i] 35)
      have hdo := do_c HT1.out o px py i kn (px % 14).toNat (py % 14).toNat r0 (by omega) r2 r3 r4 (by omega) (by omega) (by have := HC.out; omega)
      have HDO := Lib.hid hdo
      have HC1 : Hid ((doS W H pad s o kn (px % 14).toNat (py % 14).toNat i).gone.length + (doS W H pad s o kn (px % 14).toNat (py % 14).toNat i).keys.length ≤ j + 1) := Lib.hid (by
        have h1 := doS_le W H pad s HT.out.on.inv.nd o kn (px % 14).toNat (py % 14).toNat i
        have h2 := HC.out
        omega)
      clear hbb hdo hp hpm f0 f1 f2 f3 f4 r0 r1 r2 r3 r4 hbel
      go_upto_region 9 with (fail)
      clear a0 a1 a2 a3 a4
      generalize wr.alloc (.cells #[.int .u8 o, .int .u8 (kn : Int), .int .u8 px, .int .u8 py, .int .u8 i] 35) = w5 at *
      have a0 : w5.cell? ⟨wr.heap.size, 0, none⟩ = some (.int .u8 o) := (blk_cell G1 0).trans rfl
      have a1 : w5.cell? ⟨wr.heap.size, 1, none⟩ = some (.int .u8 kn) := (blk_cell G1 1).trans rfl
      have a2 : w5.cell? ⟨wr.heap.size, 2, none⟩ = some (.int .u8 px) := (blk_cell G1 2).trans rfl
      have a3 : w5.cell? ⟨wr.heap.size, 3, none⟩ = some (.int .u8 py) := (blk_cell G1 3).trans rfl
      have a4 : w5.cell? ⟨wr.heap.size, 4, none⟩ = some (.int .u8 i) := (blk_cell G1 4).trans rfl
      clear G1
      go_wp2_with fail
      refine HDO.out.mono ?_
      rintro e w6 ⟨rfl, F6, h6⟩
      have H6 := Lib.hid h6
      clear h6 HDO HT HT1 a0 a1 a2 a3 a4
      go_wp2_with fail
      go_roundw
      case rel => exact ⟨j + 1, _, F6, by go_num, by omega, H6, HC1⟩
      case measure => simp [intOf]; omega
    · have hjm' : ¬ (j : Int) < (M : Int) := by omega
      have HC0 : Hid (s.gone.length + s.keys.length ≤ 60) := Lib.hid (by have := HC.out; omega)
      clear HC hjm
      go_wp2_with fail
      refine (keys_on HT.out.on).mono ?_
      rintro e w3 ⟨vo, rfl, hs3, hb3, hg3, -⟩
      obtain ⟨A3, cap3, rfl, hc3⟩ := hs3.isSlice
      obtain ⟨K, hK⟩ : ∃ K, s.keys.length = K := ⟨_, rfl⟩
      have hK32 : K ≤ 32 := by rw [← hK]; exact HT.out.on.inv.le
      rw [hK] at hs3 hg3 hc3 ⊢
      have h3 := HT.out.add (Q := fun q => q < W0.heap.size ∨ (Value.slice A3 K cap3).ownBlock = some q) hb3 (fun q hq => by
        rcases hq with hq | hq
        · have := HT.out.keptP.size; have := hb3.size; exact ⟨by omega, .inl hq⟩
        · exact ⟨hs3.lt hq, .inr (hg3 q hq)⟩)
      have K3 : Hid (Kept (fun q => ¬ q < W0.heap.size) W0 w3) := Lib.hid (HT.out.keptP.trans (Kept.of_below _ hb3))
      obtain ⟨Q0, hQ0⟩ : ∃ Q0 : Nat → Prop, (fun q => q < W0.heap.size ∨ (Value.slice A3 K cap3).ownBlock = some q) = Q0 := ⟨_, rfl⟩
      have HQP : Hid (∀ q, q < W0.heap.size → Q0 q) := Lib.hid (fun q hq => by rw [← hQ0]; exact .inl hq)
      have HQO : Hid (∀ q, (Value.slice A3 K cap3).ownBlock = some q → Q0 q) := Lib.hid (fun q hq => by rw [← hQ0]; exact .inr hq)
      rw [hQ0] at h3
      have H3 := Lib.hid h3; have S3 := Lib.hid hs3; have HK := Lib.hid hK
      have HND := Lib.hid HT.out.on.inv.nd
      have HKL := Lib.hid HT.out.on.kl
      clear h3 hs3 hK hQ0 hb3 hg3 HT
      go_upto_region 12 with (fail)
      go_loopw [53] (fun v wr => ∃ (i : Nat) (si : AtS), v = .int .i64 i ∧ i ≤ K ∧ Hid (Two Q0 w3 wr b bm W H pad si s F) ∧ Hid (si.keys = s.keys.drop i ∧ si.gone = s.gone)) (fun v _ => K - (intOf v).toNat)
      case atStart => exact ⟨0, s, rfl, Nat.zero_le _, H3, Lib.hid ⟨by rw [List.drop_zero], rfl⟩⟩
      case round =>
        obtain ⟨i, si, rfl, hi, HT, HD⟩ := hrel
        clear H3
        by_cases hik : i < K
        · have hik' : (i : Int) < (K : Int) := by omega
          have hil : i < s.keys.length := by rw [HK.out]; exact hik
          obtain ⟨k, hk⟩ : ∃ k, s.keys[i] = k := ⟨_, rfl⟩
          obtain ⟨g3, rfl, hc, -⟩ := (S3.out.kept HT.out.keptP (fun q hq hn => hn (HQO.out q hq))).elem (i := i) (x := .string k) hik (by rw [List.getElem?_map, List.getElem?_eq_getElem hil, hk]; rfl)
          have hdr : s.keys.drop i = k :: s.keys.drop (i + 1) := by rw [List.drop_eq_getElem_cons hil, hk]
          have hkm : k ∈ si.keys := by rw [HD.out.1, hdr]; exact List.mem_cons_self
          have hkl : k.size ≤ maxLen := HKL.out k (by rw [← hk]; exact List.getElem_mem _)
          have hev : (evictV W H si k).keys = s.keys.drop (i + 1) := by
            unfold evictV
            rw [if_pos hkm]
            show si.keys.erase k = _
            rw [HD.out.1, hdr]; exact List.erase_cons_head _ _
          have hno : k ∉ (evictV W H si k).keys := by
            rw [hev]
            intro hm
            have hnd := HND.out
            have h9 : (s.keys.drop i).Nodup := hnd.sublist (List.drop_sublist _ _)
            rw [hdr] at h9
            exact (List.nodup_cons.1 h9).1 hm
          have HGO : Hid ((evictV W H si k).gone = s.gone) := Lib.hid (by unfold evictV; rw [if_pos hkm]; exact HD.out.2)
          have HEV := Lib.hid hev; have HNO := Lib.hid hno; have HKM := Lib.hid hkm; have HKZ := Lib.hid hkl
          clear hk hdr hkm hkl hev hno hil
          go_wp2_with fail
          refine (evict_two HT.out k HKZ.out).mono ?_
          rintro e w4 ⟨rfl, h4⟩
          rw [decide_eq_true HKM.out]
          have H4 := Lib.hid h4
          clear h4
          go_wp2_with fail
          refine (evict_two H4.out k HKZ.out).mono ?_
          rintro e w5 ⟨rfl, h5⟩
          rw [decide_eq_false HNO.out]
          have H5 : Hid (Two Q0 w3 w5 b bm W H pad (evictV W H si k) s F) := Lib.hid (by
            have h6 := h5
            rw [show evictV W H (evictV W H si k) k = evictV W H si k from if_neg HNO.out] at h6
            exact h6)
          clear h5 H4
          go_wp2_with fail
          refine (touch_two H5.out k).mono ?_
          rintro e w6 ⟨rfl, h6⟩
          rw [decide_eq_false HNO.out]
          have H6 : Hid (Two Q0 w3 w6 b bm W H pad (evictV W H si k) s F) := Lib.hid (by
            have h7 := h6
            rw [show touchV (evictV W H si k) k = evictV W H si k from if_neg HNO.out] at h7
            exact h7)
          clear h6 H5 HT
          go_wp2_with fail
          go_roundw
          case rel => exact ⟨i + 1, _, by go_num, by omega, H6, Lib.hid ⟨HEV.out, HGO.out⟩⟩
          case measure => simp [intOf]; omega
        · have hik' : ¬ (i : Int) < (K : Int) := by omega
          obtain rfl : i = K := by omega
          have hk0 : si.keys = [] := by rw [HD.out.1, List.drop_of_length_le (by rw [HK.out]; omega)]
          have HK0 := Lib.hid hk0
          clear hk0
          have hfld : ∀ (w : World) (v : Value), (Instr.field 44 (.agg #[.int .i64 W, .int .i64 H, v]) 2).run Try.prog w = .ok v w := fun _ _ => by kernel_rfl
          go_wp2_with fail
          refine (page_on HT.out.on).mono ?_
          rintro e w4 ⟨A4, cap4, rfl, hs4, hb4, -, -⟩
          have H4 := Lib.hid (HT.out.below hb4)
          have S4 := Lib.hid hs4
          obtain ⟨T, hT⟩ : ∃ T, W * H = T := ⟨_, rfl⟩
          have hT4 : T ≤ 4096 := by rw [← hT]; exact Nat.le_trans (Nat.mul_le_mul hw1.2 hh1.2) (by decide)
          have HTT := Lib.hid hT
          rw [hT] at S4 ⊢
          obtain ⟨_, _, e4, hc4⟩ := S4.out.isSlice
          injection e4 with e5 e6 e7
          subst e5 e7
          clear hs4 hb4 HT hT e6
          unfold Ef
          have hz : ∀ i, i < T → ((pgL W H pad si).map (Value.int .u8))[i]? = some (.int .u8 0) := fun i hi => by
            have hp : pgF W pad si i = 0 := pg_out (fun k hk _ => by rw [HK0.out] at hk; cases hk)
            rw [List.getElem?_map]
            unfold pgL
            rw [List.getElem?_map, List.getElem?_range (by rw [HTT.out]; exact hi)]
            simp [hp]
          have HZ := Lib.hid hz
          clear hz
          go_upto_region 18 with (fail)
          go_loopw [76] (fun v wr => ∃ i : Nat, v = .int .i64 i ∧ i ≤ T ∧ wr = w4) (fun v _ => T - (intOf v).toNat)
          case atStart => exact ⟨0, rfl, Nat.zero_le _, rfl⟩
          case round =>
            obtain ⟨t, rfl, ht, rfl⟩ := hrel
            by_cases htT : t < T
            · have htT' : (t : Int) < (T : Int) := by omega
              obtain ⟨g4, rfl, hc, -⟩ := S4.out.elem (i := t) (x := .int .u8 0) htT (HZ.out t htT)
              go_wp2_with fail
              go_roundw
              case rel => exact ⟨t + 1, by go_num, by omega, by first | rfl | trivial⟩
              case measure => simp [intOf]; omega
            · have htT' : ¬ (t : Int) < (T : Int) := by omega
              obtain rfl : t = T := by omega
              obtain ⟨m0, m1, m2⟩ := H4.out.mcell
              have hK0 : si.keys.length = 0 := by rw [HK0.out]; rfl
              have hl0 : si.l = List.replicate W 0 := H4.out.on.inv.lz HK0.out
              have hg0 : si.gone.length ≤ 100000 := by rw [HD.out.2]; have := HC0.out; omega
              have ew : IntKind.i64.wrap ((W : Int) * (H : Int)) = (t : Int) := by rw [← Int.natCast_mul, HTT.out, IntKind.wrap_i64]; omega
              have hmk : ∀ W', (Instr.makeSlice 42 (.int .i64 (t : Int)) (.int .i64 (t : Int))).run Try.prog W' = .ok (.slice (some ⟨W'.heap.size, 0, none⟩) t t) (W'.alloc (.cells (Array.replicate t (.int .u8 0)) 5)) := fun W' => make8 t (by omega) W'
              obtain ⟨ev, hev, hmin⟩ : ∃ ev : Int, (loadV W H pad si ⟨#[122]⟩ W H (List.replicate t 0)).1 = ev ∧ (min 1 (pad : Int) = 0 ∧ ev = 0 ∨ min 1 (pad : Int) = 1 ∧ ev = 6) := by
                refine ⟨_, rfl, ?_⟩
                unfold loadV
                rw [if_neg (by rw [HK0.out]; simp), if_neg (by unfold badF; rw [List.length_replicate, ← Int.natCast_mul, HTT.out]; omega)]
                by_cases hp0 : pad = 0
                · subst hp0
                  left
                  rw [if_neg (by omega)]
                  have hf : fitS W H si W H = some (0, 0) := by
                    unfold fitS
                    rw [if_pos (by omega), hl0]
                    exact fit_zeros W H W H (by omega) (by omega) (by omega) (by omega)
                  rw [show (W : Int) + 2 * ((0 : Nat) : Int) = W from by omega, show (H : Int) + 2 * ((0 : Nat) : Int) = H from by omega, room_fit hf]
                  exact ⟨by omega, rfl⟩
                · right
                  rw [if_pos (by omega)]
                  exact ⟨by omega, rfl⟩
              have HLD : Hid (∀ v v7, Two Q0 w3 v b bm W H pad si s F → v7 = v.alloc (.cells (Array.replicate t (.int .u8 0)) 5) → Calls Try.prog 15 #[.pointer (some ⟨b, 0, none⟩), .string ⟨#[122]⟩, .agg #[.int .i64 W, .int .i64 H, .slice (some ⟨v.heap.size, 0, none⟩) t t]] v7 fun e w'' => e = .returned (.int .i64 ev) ∧ Two Q0 w3 w'' b bm W H pad (loadV W H pad si ⟨#[122]⟩ W H (List.replicate t 0)).2 s F) := Lib.hid (fun v v7 h he => by
                subst he
                have h0 := load_new_two h (below_alloc (Below.refl _ _) (.cells (Array.replicate t (.int .u8 0)) 5)) ⟨#[122]⟩ (by show 1 ≤ maxLen; unfold maxLen; omega) W H (by omega) (by omega) (some ⟨v.heap.size, 0, none⟩) t t (List.replicate t 0) (by simp) (by omega) (slO_lit (by have := heap_alloc_new v (.cells (Array.replicate t (.int .u8 0)) 5); simpa using this) (by simp) (by omega)) (fun q hq => Nat.le_of_eq (by simpa [Value.ownBlock] using hq)) (fun x hx => by have := (List.mem_replicate.1 hx).2; omega) hg0
                rw [hev] at h0
                exact h0)
              have hix0 : ∀ w, (Instr.index 56 (.agg #[.int .i64 0, .int .i64 6]) (.int .i64 0)).run Try.prog w = .ok (.int .i64 0) w := fun _ => by kernel_rfl
              have hix1 : ∀ w, (Instr.index 56 (.agg #[.int .i64 0, .int .i64 6]) (.int .i64 1)).run Try.prog w = .ok (.int .i64 6) w := fun _ => by kernel_rfl
              clear hev hl0 hg0
              go_upto_region 23 with (fail)
              rcases hmin with ⟨hmin, rfl⟩ | ⟨hmin, rfl⟩
              all_goals
                go_region_held3 (fun w' => w'.cell? ⟨bm, 0, none⟩ = some (.int .i64 W) ∧ w'.cell? ⟨bm, 1, none⟩ = some (.int .i64 H) ∧ w'.cell? ⟨bm, 2, none⟩ = some (.int .i64 pad)) (first
                  | assumption
                  | exact ⟨m0, m1, m2⟩
                  | exact HC5
                  | exact HC6
                  | exact ⟨cell_alloc HC5.1, cell_alloc HC5.2.1, cell_alloc HC5.2.2⟩) (first
                  | (go_at_call 12; refine (keys_on (H4.out.below (below_drew (Below.refl _ _))).on).mono ?_; rintro e w5 ⟨vo5, rfl, hs5, hb5, -, -⟩; obtain ⟨A5, cap5, rfl, hc5⟩ := hs5.isSlice; rw [hK0] at hs5 hc5 ⊢; have H5 := Lib.hid ((H4.out.below (below_drew (Below.refl _ _))).below hb5); have HC5 := H5.out.mcell; clear hs5 hb5)
                  | (go_at_call 15; refine (HLD.out w5 _ H5.out rfl).mono ?_; rintro e w6 ⟨rfl, h6⟩; have H6 := Lib.hid h6; have HC6 := h6.mcell; clear h6))
              all_goals
                go_wp2_with fail
                go_ret
                exact ⟨rfl, (Below.refl _ _).trans ((H6.out.rebase HQP.out K3.out (fun q hq => hq)).out (fun q hq => hq) (Nat.le_refl _))⟩
end Go.Proofs.Ytaccppchhljnkaa
