/- The document's examples of layer 4 hold. -/
import Derived.Test.YtjealbaomhjoaaaG4
import Derived.Test.YtjealbaomhjoaaaParseC
import Derived.KernelRfl
set_option linter.unusedVariables false
set_option linter.unusedSimpArgs false
namespace Go.Proofs.Ytjealbaomhjoaaa
open Go.RowKit Go.Proofs.Ytjealbaomhjoaaa.G Go.Proofs.YtjealbaomhjoaaaW.PrintWords

/-- One contour of one point. -/
theorem one_reads (w : World) (x y : Int) (b : Bool) :
    Kd.C (Kd.slice 34 k34) ((w.alloc (.cells #[.int .i64 x, .int .i64 y, .bool b] 34)).alloc (.cells #[.slice (some ⟨w.heap.size, 0, none⟩) 1 1] 28)) (some ⟨w.heap.size + 1, 0, none⟩) ([[⟨x, y, b⟩]] : List (List S34)).length [[⟨x, y, b⟩]] := by
  have k2 := Kept.alloc (fun _ => False) (w.alloc (.cells #[.int .i64 x, .int .i64 y, .bool b] 34)) (.cells #[.slice (some ⟨w.heap.size, 0, none⟩) 1 1] 28)
  have n1 := k2.get (heap_alloc_new w (.cells #[.int .i64 x, .int .i64 y, .bool b] 34)) (by simp)
  have n2 := heap_alloc_new (w.alloc (.cells #[.int .i64 x, .int .i64 y, .bool b] 34)) (.cells #[.slice (some ⟨w.heap.size, 0, none⟩) 1 1] 28)
  rw [World.size_alloc] at n2
  refine ⟨rfl, by simp, fun _ => ⟨_, rfl, fun j p hj => ?_⟩⟩
  match j, hj with
  | 0, hj =>
    have hp : p = [⟨x, y, b⟩] := by simpa using hj.symm
    subst hp
    refine ⟨[.slice (some ⟨w.heap.size, 0, none⟩) 1 1], rfl, ⟨_, _, rfl, Nat.le_refl _, rfl, by simp, fun _ => ⟨_, rfl, fun j p hj => ?_⟩⟩, fun i u hu => ?_⟩
    · match j, hj with
      | 0, hj =>
        have hp : p = ⟨x, y, b⟩ := by simpa using hj.symm
        subst hp
        refine ⟨_, rfl, k34_mk _ _, fun i u hu => ?_⟩
        have hs : ((⟨w.heap.size, 0, none⟩ : Addr).add (0 * k34.sz + i)) = ⟨w.heap.size, i, none⟩ := by simp [Addr.add]; exact fun h => h.symm
        rw [hs, cell_of_row _ _ _ _ _ _ n1]
        simpa using hu
      | j + 1, hj => simp at hj
    · have hs : ((⟨w.heap.size + 1, 0, none⟩ : Addr).add (0 * (Kd.slice 34 k34).sz + i)) = ⟨w.heap.size + 1, i, none⟩ := by simp [Addr.add]; exact fun h => h.symm
      rw [hs, cell_of_row _ _ _ _ _ _ n2]
      simpa using hu
  | j + 1, hj => simp at hj

/-- Bytes that were just laid. -/
theorem bytes_read (w : World) (xs : List Int) (hl : xs.length ≤ 1000) : Kd.C (Kd.int .u8) (w.alloc (.cells (xs.map (Value.int .u8)).toArray 5)) (some ⟨w.heap.size, 0, none⟩) xs.length xs := by
  refine ⟨rfl, by omega, fun _ => ⟨_, rfl, fun j p hj => ⟨_, rfl, rfl, fun i u hu => ?_⟩⟩⟩
  have hi : i = 0 := by
    match i, hu with
    | 0, _ => rfl
    | i + 1, hu => simp at hu
  subst hi
  have hs : ((⟨w.heap.size, 0, none⟩ : Addr).add (j * (Kd.int .u8).sz + 0)) = ⟨w.heap.size, j, none⟩ := by
    have : (Kd.int .u8).sz = 1 := rfl
    rw [this]; simp [Addr.add]; exact fun h => h.symm
  rw [hs, cell_of_row _ _ _ _ _ _ (heap_alloc_new w _)]
  simp at hu
  subst hu
  simp [hj]
theorem prs_one : parseO [1, 1, 1, 5, 7] = some ([[⟨5, 7, true⟩]], 0) := by rfl
theorem prs_short : parseO [1, 1, 1, 5] = some ([], 1) := by rfl
theorem enc_one : glyf_Encode.f 40 [[⟨5, 7, true⟩]] = some ([1, 1, 1, 5, 7], 0) := by kernel_rfl

set_option maxHeartbeats 2000000 in
set_option maxRecDepth 100000 in
theorem awake_c (w : World) : Calls Try.prog 22 #[] w fun e w' => e = .returned (.bool true) ∧ Below w.heap.size w w' := by
  have HC := Lib.hid (one_reads w 5 7 true)
  go_enter Try.func22, Try.ntmps22
  go_wp2_with fail
  refine (glyf_Encode.calls 40 _ _ _ _ _ _ HC.out (by simp) enc_one).mono ?_
  rintro e w1 ⟨v0, rfl, ho, hb⟩
  have hB1 := Lib.hid ((((Below.refl _ w).alloc (Nat.le_refl _) _).alloc (by simp) _).trans (hb.mono (by simp; omega)))
  have HO := Lib.hid ho; clear ho hb
  go_wp2_with fail
  obtain ⟨A1, c1, e1, hl1, hr1⟩ := Kd.R_reads HO.out
  subst e1
  refine (parse_calls A1 c1 _ _ _ w1 hr1 hl1 prs_one).mono ?_
  clear hr1 hl1
  rintro e w2 ⟨v2, rfl, hs2, hb2⟩
  have HB2 := Lib.hid (hB1.out.trans (hb2.mono (by have := hB1.out.size; simpa using this)))
  have HO2 := Lib.hid (Kd.R_below HO.out hb2)
  obtain ⟨A2, c2, e2⟩ := Kd.S_slice hs2
  subst e2
  clear hs2 hb2
  have hR2 := bytes_read (w2.alloc (.cells #[.slice A2 1 c2] 26)) [1, 1, 1, 5] (by simp)
  rw [World.size_alloc] at hR2
  simp only [List.map_cons, List.map_nil] at hR2
  have HR2 := Lib.hid hR2; clear hR2
  have k2 := Kept.alloc (fun _ => False) (w2.alloc (.cells #[.slice A2 1 c2] 26)) (.cells #[.int .u8 1, .int .u8 1, .int .u8 1, .int .u8 5] 5)
  have n2 := Lib.hid (k2.get (heap_alloc_new w2 (.cells #[.slice A2 1 c2] 26)) (by simp))
  clear k2
  go_wp2_with fail
  refine (parse_calls _ _ _ _ _ _ HR2.out (by simp) prs_short).mono ?_
  rintro e w3 ⟨v3, rfl, hs3, hb3⟩
  obtain ⟨A3, c3, e3⟩ := Kd.S_slice hs3
  subst e3
  have HB3 := Lib.hid (((HB2.out.alloc HB2.out.size _).alloc (by have := HB2.out.size; simp; omega) _).trans (hb3.mono (by have := HB2.out.size; simp; omega)))
  have HO3 := Lib.hid (Kd.R_below (Kd.R_below (Kd.R_below HO2.out (below_alloc (Below.refl _ _) (.cells #[.slice A2 1 c2] 26))) (below_alloc (Below.refl _ _) (.cells #[.int .u8 1, .int .u8 1, .int .u8 1, .int .u8 5] 5))) hb3)
  have n3 := Lib.hid (blk_below n2.out hb3)
  clear hs3 hb3
  have cc : (w3.alloc (.cells #[.slice A3 0 c3] 26)).cell? ⟨w2.heap.size, 0, none⟩ = some (.slice A2 1 c2) := (blk_cell (blk_alloc n3.out _) 0).trans rfl
  have hcv : (convert 48 9 (.slice A1 5 c1)).run Try.prog (w3.alloc (.cells #[.slice A3 0 c3] 26)) = .ok (.string ⟨#[1, 1, 1, 5, 7]⟩) (w3.alloc (.cells #[.slice A3 0 c3] 26)) :=
    own_string (P := Try.prog) Try.underlying48 Try.underlying5 Try.underlying9 (Kd.own_of_R (Kd.R_alloc HO3.out (.cells #[.slice A3 0 c3] 26)))
  go_wp2_with fail
  go_ret
  exact ⟨rfl, HB3.out.alloc (by have := HB3.out.size; omega) _⟩

end Go.Proofs.Ytjealbaomhjoaaa
