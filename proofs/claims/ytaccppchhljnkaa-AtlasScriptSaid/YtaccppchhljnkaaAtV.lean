/- Atlases: Load, whatever comes of it. -/
import Derived.Test.YtaccppchhljnkaaAtG
set_option linter.unusedVariables false
set_option linter.unusedSimpArgs false
namespace Go.Proofs.Ytaccppchhljnkaa
open Go.RowKit Go.Shelf Go.Proofs.YtaccppchhljnkaaW.PrintWords Go.Proofs.YtaccppchhljnkaaW.PrintLast Go.Proofs.YtaccppchhljnkaaW.PrintMore
theorem load_c (W : World) (b w h pad : Nat) (s : AtS) (c : AtC) (hA : AtAt W b w h pad s c) (k : ByteArray) (hkl : k.size ≤ maxLen) (fw fh : Int) (h1 : -1000000 ≤ fw ∧ fw ≤ 1000000) (h2 : -1000000 ≤ fh ∧ fh ≤ 1000000) (A : Option Addr) (n cap : Nat) (t : List Int) (hn : t.length = n) (hn47 : n ≤ 140737488351232)
    (hT : SlO W 5 1 (.slice A n cap) n (t.map (Value.int .u8))) (hap : ∀ q, (Value.slice A n cap).ownBlock = some q → ¬ c.own b q) (h8 : ∀ x ∈ t, 0 ≤ x ∧ x ≤ 255) (hgl : s.gone.length ≤ 100000) :
    Calls Try.prog 15 #[.pointer (some ⟨b, 0, none⟩), .string k, Ef fw fh (.slice A n cap)] W fun e w' => e = .returned (.int .i64 (loadV w h pad s k fw fh t).1) ∧ AtPost W w' b w h pad c (loadV w h pad s k fw fh t).2 := by
  unfold loadV
  by_cases hk : k ∈ s.keys
  · rw [if_pos hk]
    refine (load_exist W b w h pad s c hA k fw fh A n cap h1 h2 hk).mono ?_
    rintro e w' ⟨rfl, hb⟩
    exact ⟨rfl, c, hA.below hb, Kept.of_below _ hb, fun q hq => .inl hq⟩
  · rw [if_neg hk]
    by_cases hbad : badF fw fh t.length
    · rw [if_pos hbad]
      rw [hn] at hbad
      refine (load_bad W b w h pad s c hA k fw fh A n cap h1 h2 hk hbad (by omega)).mono ?_
      rintro e w' ⟨rfl, hb⟩
      exact ⟨rfl, c, hA.below hb, Kept.of_below _ hb, fun q hq => .inl hq⟩
    · rw [if_neg hbad]
      rw [hn] at hbad
      by_cases hsz : (w : Int) < fw + 2 * pad ∨ (h : Int) < fh + 2 * pad
      · rw [if_pos hsz]
        refine (load_size W b w h pad s c hA k fw fh A n cap h1 h2 hk hbad hsz).mono ?_
        rintro e w' ⟨rfl, hb⟩
        exact ⟨rfl, c, hA.below hb, Kept.of_below _ hb, fun q hq => .inl hq⟩
      · rw [if_neg hsz]
        unfold badF at hbad
        have g1 : ¬ fw < 1 := fun h => hbad (.inl h)
        have g2 : ¬ fh < 1 := fun h => hbad (.inr (.inl h))
        have g3 : ¬ 64 < fw := fun h => hbad (.inr (.inr (.inl h)))
        have g4 : ¬ 64 < fh := fun h => hbad (.inr (.inr (.inr (.inl h))))
        have g5 : (n : Int) = fw * fh := Classical.byContradiction fun h => hbad (.inr (.inr (.inr (.inr h))))
        obtain ⟨a, rfl⟩ := Int.eq_ofNat_of_zero_le (show 0 ≤ fw by omega)
        obtain ⟨a', rfl⟩ := Int.eq_ofNat_of_zero_le (show 0 ≤ fh by omega)
        obtain ⟨B, s', hr, _⟩ := room_some (pad := pad) (m := (a : Int) + 2 * pad) (n := (a' : Int) + 2 * pad) (by omega) (by omega) (by omega) (by omega) s.keys.length s rfl hA.inv
        rw [hr]
        refine (load_ok W b w h pad s c hA k hkl a a' A n cap t hT hap (by omega) (by omega) (by rw [← Int.natCast_mul] at g5; omega) hk (by omega) (by omega) h8 B s' hgl hr).mono ?_
        rintro e w' ⟨rfl, hp⟩
        exact ⟨rfl, hp⟩
end Go.Proofs.Ytaccppchhljnkaa
