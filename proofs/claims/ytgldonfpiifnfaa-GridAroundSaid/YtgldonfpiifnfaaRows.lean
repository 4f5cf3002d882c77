/-
  No cell of these rows narrows 'for every input' (looked for: loops, veiled, ifaces, maps, wideKeys, modest, calm, conditions, laid).
  DERIVED. THE GIVEN ROWS OF THIS SEAT. 12 by the template 'for every input the law returns true; each argument reads behind the call as it read before'; 0 by the template 'total and deterministic' (their statements: YtgldonfpiifnfaaTotals.lean).
  GIVEN WITH THE SEED: the statements are not yours to turn. If you find one false, say at which input.
  Laid BY PROGRAM, IN A SANDBOX (cutbox-rows.mjs): the forced cells as the released guide's own fill.sh prints them over the translation 0761c31d67ab2f0e… (all of the seat's roots in one cut). By AI agents, Wed Nov 11 2026. No macro, syntax, notation, axiom, sorry.
-/
import Derived.Test.YtgldonfpiifnfaaChecked
import GoSem.Claim
import GoSem.ClaimJoined
import GoSem.ClaimMapViews
import Derived.JoinedTies
import Derived.KernelRfl
namespace Go.Proofs.Ytgldonfpiifnfaa
/- THE CELL 'sum', in the pinned program and in every row, IS THE sha256 OF THE DUMP (.gsa) THAT YtgldonfpiifnfaaProg.lean LOADS. Nothing in Lean hashes anything: it is a label: what it is worth is what the hold of that sum in a sandbox is worth. -/
noncomputable def Try.pinned : Pinned := { name := "ytgldonfpiifnfaa", sum := "0761c31d67ab2f0ef645c4e4d74ad2d555f6af292c88c50d324b248ca2312e5e", checked := Try.checked }
namespace Rows
def none {H : Type} : Left H := { results := [], args := [] }

/-- 'punchcutlaw15.LruDrain': WHATEVER THE INPUT: true; the input reads as it did. -/
def lruDrainSpec : ChangeSpec := { name := "lruDrain", fn := fun _ => fun
  | [d] => { results := [.lit (.bool true)], args := [d] }
  | _ => none }
def lruDrainRow : OpenClaim := { program := "ytgldonfpiifnfaa", sum := "0761c31d67ab2f0ef645c4e4d74ad2d555f6af292c88c50d324b248ca2312e5e", func := "punchcut/punchcutlaw15.LruDrain", spec := "lruDrain", apart := false }
def LruDrainSaid : Prop := lruDrainRow.holds Try.pinned (OpenSpec.ofChange lruDrainSpec)

/-- ITS FALSE NEIGHBOUR: 'it returns false'. Refute it at one input. -/
def lruDrainWrong : ChangeSpec := { name := "lruDrain", fn := fun _ => fun
  | [d] => { results := [.lit (.bool false)], args := [d] }
  | _ => none }
def LruDrainWrongFalsely : Prop := lruDrainRow.holds Try.pinned (OpenSpec.ofChange lruDrainWrong)

/-- 'punchcutlaw15.LruTouch': WHATEVER THE INPUT: true; the input reads as it did. -/
def lruTouchSpec : ChangeSpec := { name := "lruTouch", fn := fun _ => fun
  | [d1, d2] => { results := [.lit (.bool true)], args := [d1, d2] }
  | _ => none }
def lruTouchRow : OpenClaim := { program := "ytgldonfpiifnfaa", sum := "0761c31d67ab2f0ef645c4e4d74ad2d555f6af292c88c50d324b248ca2312e5e", func := "punchcut/punchcutlaw15.LruTouch", spec := "lruTouch", apart := false }
def LruTouchSaid : Prop := lruTouchRow.holds Try.pinned (OpenSpec.ofChange lruTouchSpec)

/-- ITS FALSE NEIGHBOUR: 'it returns false'. Refute it at one input. -/
def lruTouchWrong : ChangeSpec := { name := "lruTouch", fn := fun _ => fun
  | [d1, d2] => { results := [.lit (.bool false)], args := [d1, d2] }
  | _ => none }
def LruTouchWrongFalsely : Prop := lruTouchRow.holds Try.pinned (OpenSpec.ofChange lruTouchWrong)

/-- 'punchcutlaw09.GridCheck': WHATEVER THE INPUT: true; the input reads as it did. -/
def gridCheckSpec : ChangeSpec := { name := "gridCheck", fn := fun _ => fun
  | [d1, d2, d3, d4] => { results := [.lit (.bool true)], args := [d1, d2, d3, d4] }
  | _ => none }
def gridCheckRow : OpenClaim := { program := "ytgldonfpiifnfaa", sum := "0761c31d67ab2f0ef645c4e4d74ad2d555f6af292c88c50d324b248ca2312e5e", func := "punchcut/punchcutlaw09.GridCheck", spec := "gridCheck", unfollowed := true, recurses := true, apart := false }
def GridCheckSaid : Prop := gridCheckRow.holds Try.pinned (OpenSpec.ofChange gridCheckSpec)

/-- ITS FALSE NEIGHBOUR: 'it returns false'. Refute it at one input. -/
def gridCheckWrong : ChangeSpec := { name := "gridCheck", fn := fun _ => fun
  | [d1, d2, d3, d4] => { results := [.lit (.bool false)], args := [d1, d2, d3, d4] }
  | _ => none }
def GridCheckWrongFalsely : Prop := gridCheckRow.holds Try.pinned (OpenSpec.ofChange gridCheckWrong)

/-- 'punchcutlaw09.GridCentre': WHATEVER THE INPUT: true; the input reads as it did. -/
def gridCentreSpec : ChangeSpec := { name := "gridCentre", fn := fun _ => fun
  | [d1, d2, d3] => { results := [.lit (.bool true)], args := [d1, d2, d3] }
  | _ => none }
def gridCentreRow : OpenClaim := { program := "ytgldonfpiifnfaa", sum := "0761c31d67ab2f0ef645c4e4d74ad2d555f6af292c88c50d324b248ca2312e5e", func := "punchcut/punchcutlaw09.GridCentre", spec := "gridCentre", unfollowed := true, recurses := true, apart := false }
def GridCentreSaid : Prop := gridCentreRow.holds Try.pinned (OpenSpec.ofChange gridCentreSpec)

/-- ITS FALSE NEIGHBOUR: 'it returns false'. Refute it at one input. -/
def gridCentreWrong : ChangeSpec := { name := "gridCentre", fn := fun _ => fun
  | [d1, d2, d3] => { results := [.lit (.bool false)], args := [d1, d2, d3] }
  | _ => none }
def GridCentreWrongFalsely : Prop := gridCentreRow.holds Try.pinned (OpenSpec.ofChange gridCentreWrong)

/-- 'punchcutlaw09.GridCode': WHATEVER THE INPUT: true; the input reads as it did. -/
def gridCodeSpec : ChangeSpec := { name := "gridCode", fn := fun _ => fun
  | [d1, d2, d3] => { results := [.lit (.bool true)], args := [d1, d2, d3] }
  | _ => none }
def gridCodeRow : OpenClaim := { program := "ytgldonfpiifnfaa", sum := "0761c31d67ab2f0ef645c4e4d74ad2d555f6af292c88c50d324b248ca2312e5e", func := "punchcut/punchcutlaw09.GridCode", spec := "gridCode", unfollowed := true, recurses := true, apart := false }
def GridCodeSaid : Prop := gridCodeRow.holds Try.pinned (OpenSpec.ofChange gridCodeSpec)

/-- ITS FALSE NEIGHBOUR: 'it returns false'. Refute it at one input. -/
def gridCodeWrong : ChangeSpec := { name := "gridCode", fn := fun _ => fun
  | [d1, d2, d3] => { results := [.lit (.bool false)], args := [d1, d2, d3] }
  | _ => none }
def GridCodeWrongFalsely : Prop := gridCodeRow.holds Try.pinned (OpenSpec.ofChange gridCodeWrong)

/-- 'punchcutlaw09.GridEach': WHATEVER THE INPUT: true; the input reads as it did. -/
def gridEachSpec : ChangeSpec := { name := "gridEach", fn := fun _ => fun
  | [d1, d2] => { results := [.lit (.bool true)], args := [d1, d2] }
  | _ => none }
def gridEachRow : OpenClaim := { program := "ytgldonfpiifnfaa", sum := "0761c31d67ab2f0ef645c4e4d74ad2d555f6af292c88c50d324b248ca2312e5e", func := "punchcut/punchcutlaw09.GridEach", spec := "gridEach", unfollowed := true, recurses := true, apart := false }
def GridEachSaid : Prop := gridEachRow.holds Try.pinned (OpenSpec.ofChange gridEachSpec)

/-- ITS FALSE NEIGHBOUR: 'it returns false'. Refute it at one input. -/
def gridEachWrong : ChangeSpec := { name := "gridEach", fn := fun _ => fun
  | [d1, d2] => { results := [.lit (.bool false)], args := [d1, d2] }
  | _ => none }
def GridEachWrongFalsely : Prop := gridEachRow.holds Try.pinned (OpenSpec.ofChange gridEachWrong)

/-- 'punchcutlaw09.GridAround': WHATEVER THE INPUT: true; the input reads as it did. -/
def gridAroundSpec : ChangeSpec := { name := "gridAround", fn := fun _ => fun
  | [d1, d2, d3, d4, d5, d6] => { results := [.lit (.bool true)], args := [d1, d2, d3, d4, d5, d6] }
  | _ => none }
def gridAroundRow : OpenClaim := { program := "ytgldonfpiifnfaa", sum := "0761c31d67ab2f0ef645c4e4d74ad2d555f6af292c88c50d324b248ca2312e5e", func := "punchcut/punchcutlaw09.GridAround", spec := "gridAround", unfollowed := true, recurses := true, apart := false }
def GridAroundSaid : Prop := gridAroundRow.holds Try.pinned (OpenSpec.ofChange gridAroundSpec)

/-- ITS FALSE NEIGHBOUR: 'it returns false'. Refute it at one input. -/
def gridAroundWrong : ChangeSpec := { name := "gridAround", fn := fun _ => fun
  | [d1, d2, d3, d4, d5, d6] => { results := [.lit (.bool false)], args := [d1, d2, d3, d4, d5, d6] }
  | _ => none }
def GridAroundWrongFalsely : Prop := gridAroundRow.holds Try.pinned (OpenSpec.ofChange gridAroundWrong)

/-- 'punchcutlaw09.GridAt': WHATEVER THE INPUT: true; the input reads as it did. -/
def gridAtSpec : ChangeSpec := { name := "gridAt", fn := fun _ => fun
  | [d1, d2, d3, d4, d5] => { results := [.lit (.bool true)], args := [d1, d2, d3, d4, d5] }
  | _ => none }
def gridAtRow : OpenClaim := { program := "ytgldonfpiifnfaa", sum := "0761c31d67ab2f0ef645c4e4d74ad2d555f6af292c88c50d324b248ca2312e5e", func := "punchcut/punchcutlaw09.GridAt", spec := "gridAt", unfollowed := true, recurses := true, apart := false }
def GridAtSaid : Prop := gridAtRow.holds Try.pinned (OpenSpec.ofChange gridAtSpec)

/-- ITS FALSE NEIGHBOUR: 'it returns false'. Refute it at one input. -/
def gridAtWrong : ChangeSpec := { name := "gridAt", fn := fun _ => fun
  | [d1, d2, d3, d4, d5] => { results := [.lit (.bool false)], args := [d1, d2, d3, d4, d5] }
  | _ => none }
def GridAtWrongFalsely : Prop := gridAtRow.holds Try.pinned (OpenSpec.ofChange gridAtWrong)

/-- 'punchcutlaw15.LruScript': WHATEVER THE INPUT: true; the input reads as it did. -/
def lruScriptSpec : ChangeSpec := { name := "lruScript", fn := fun _ => fun
  | [d] => { results := [.lit (.bool true)], args := [d] }
  | _ => none }
def lruScriptRow : OpenClaim := { program := "ytgldonfpiifnfaa", sum := "0761c31d67ab2f0ef645c4e4d74ad2d555f6af292c88c50d324b248ca2312e5e", func := "punchcut/punchcutlaw15.LruScript", spec := "lruScript", unfollowed := true, recurses := true, apart := false }
def LruScriptSaid : Prop := lruScriptRow.holds Try.pinned (OpenSpec.ofChange lruScriptSpec)

/-- ITS FALSE NEIGHBOUR: 'it returns false'. Refute it at one input. -/
def lruScriptWrong : ChangeSpec := { name := "lruScript", fn := fun _ => fun
  | [d] => { results := [.lit (.bool false)], args := [d] }
  | _ => none }
def LruScriptWrongFalsely : Prop := lruScriptRow.holds Try.pinned (OpenSpec.ofChange lruScriptWrong)

/-- 'punchcutlaw15.LruWords': WHATEVER THE INPUT: true; the input reads as it did. -/
def lruWordsSpec : ChangeSpec := { name := "lruWords", fn := fun _ => fun
  | [d] => { results := [.lit (.bool true)], args := [d] }
  | _ => none }
def lruWordsRow : OpenClaim := { program := "ytgldonfpiifnfaa", sum := "0761c31d67ab2f0ef645c4e4d74ad2d555f6af292c88c50d324b248ca2312e5e", func := "punchcut/punchcutlaw15.LruWords", spec := "lruWords", unfollowed := true, recurses := true, apart := false }
def LruWordsSaid : Prop := lruWordsRow.holds Try.pinned (OpenSpec.ofChange lruWordsSpec)

/-- ITS FALSE NEIGHBOUR: 'it returns false'. Refute it at one input. -/
def lruWordsWrong : ChangeSpec := { name := "lruWords", fn := fun _ => fun
  | [d] => { results := [.lit (.bool false)], args := [d] }
  | _ => none }
def LruWordsWrongFalsely : Prop := lruWordsRow.holds Try.pinned (OpenSpec.ofChange lruWordsWrong)

/-- 'punchcutlaw15.LruStill': WHATEVER THE INPUT: true; the input reads as it did. -/
def lruStillSpec : ChangeSpec := { name := "lruStill", fn := fun _ => fun
  | [d1, d2] => { results := [.lit (.bool true)], args := [d1, d2] }
  | _ => none }
def lruStillRow : OpenClaim := { program := "ytgldonfpiifnfaa", sum := "0761c31d67ab2f0ef645c4e4d74ad2d555f6af292c88c50d324b248ca2312e5e", func := "punchcut/punchcutlaw15.LruStill", spec := "lruStill", unfollowed := true, recurses := true, apart := false }
def LruStillSaid : Prop := lruStillRow.holds Try.pinned (OpenSpec.ofChange lruStillSpec)

/-- ITS FALSE NEIGHBOUR: 'it returns false'. Refute it at one input. -/
def lruStillWrong : ChangeSpec := { name := "lruStill", fn := fun _ => fun
  | [d1, d2] => { results := [.lit (.bool false)], args := [d1, d2] }
  | _ => none }
def LruStillWrongFalsely : Prop := lruStillRow.holds Try.pinned (OpenSpec.ofChange lruStillWrong)

/-- 'punchcutlaw15.LruOnce': WHATEVER THE INPUT: true; the input reads as it did. -/
def lruOnceSpec : ChangeSpec := { name := "lruOnce", fn := fun _ => fun
  | [d] => { results := [.lit (.bool true)], args := [d] }
  | _ => none }
def lruOnceRow : OpenClaim := { program := "ytgldonfpiifnfaa", sum := "0761c31d67ab2f0ef645c4e4d74ad2d555f6af292c88c50d324b248ca2312e5e", func := "punchcut/punchcutlaw15.LruOnce", spec := "lruOnce", unfollowed := true, recurses := true, apart := false }
def LruOnceSaid : Prop := lruOnceRow.holds Try.pinned (OpenSpec.ofChange lruOnceSpec)

/-- ITS FALSE NEIGHBOUR: 'it returns false'. Refute it at one input. -/
def lruOnceWrong : ChangeSpec := { name := "lruOnce", fn := fun _ => fun
  | [d] => { results := [.lit (.bool false)], args := [d] }
  | _ => none }
def LruOnceWrongFalsely : Prop := lruOnceRow.holds Try.pinned (OpenSpec.ofChange lruOnceWrong)

/- THE SECOND FORM. 'bulk': how many values and letters a reading holds, each counted each time it is reached (what is shared counts as often as it is met; a slice's spare places count too). A statement '..UptoSaid' is the law's where the arguments, and the package variables that the reading takes, are together of bulk at most 1048576: NARROWER than '..Said'. Prove '..Said' where nothing that the law and all that it calls make is longer than what came in: it says more and counts as full. Else prove '..UptoSaid'. A law counts once. -/
mutual
def uptoBulk {H : Type} : DataW H → Nat
  | .lit (.string bytes) => bytes.length + 1
  | .lit _ => 1
  | .nil => 1
  | .ptr d => uptoBulk d + 1
  | .slice elems spare => uptoBulkAll elems + uptoBulkAll spare + 1
  | .agg parts => uptoBulkAll parts + 1
  | .iface _ d => uptoBulk d + 1
  | .map entries => uptoBulkEntries entries + 1
  | .held _ => 1
def uptoBulkAll {H : Type} : List (DataW H) → Nat
  | [] => 0
  | d :: r => uptoBulk d + uptoBulkAll r
def uptoBulkEntries {H : Type} : List (Lit × DataW H) → Nat
  | [] => 0
  | x :: r => uptoBulkEntry x + uptoBulkEntries r
def uptoBulkEntry {H : Type} : Lit × DataW H → Nat
  | (.string bytes, d) => bytes.length + uptoBulk d + 1
  | (_, d) => uptoBulk d + 1
 end
def uptoSmall : (H : Type) → List (DataW H) → Bool := fun _ ds => decide (uptoBulkAll ds ≤ 1048576)
def OpenSpec.upto (s : _root_.Go.ChangeSpec) : _root_.Go.OpenSpec := { _root_.Go.OpenSpec.ofChange s with cond := some uptoSmall }

/-- 'punchcutlaw15.LruDrain', WHERE WHAT IT READS IS OF BULK AT MOST 1048576: true; the input reads as it did. -/
def lruDrainUptoRow : OpenClaim := { program := "ytgldonfpiifnfaa", sum := "0761c31d67ab2f0ef645c4e4d74ad2d555f6af292c88c50d324b248ca2312e5e", func := "punchcut/punchcutlaw15.LruDrain", spec := "lruDrain", apart := false, narrowed := true }
def LruDrainUptoSaid : Prop := lruDrainUptoRow.holds Try.pinned (OpenSpec.upto lruDrainSpec)

/-- 'punchcutlaw15.LruTouch', WHERE WHAT IT READS IS OF BULK AT MOST 1048576: true; the input reads as it did. -/
def lruTouchUptoRow : OpenClaim := { program := "ytgldonfpiifnfaa", sum := "0761c31d67ab2f0ef645c4e4d74ad2d555f6af292c88c50d324b248ca2312e5e", func := "punchcut/punchcutlaw15.LruTouch", spec := "lruTouch", apart := false, narrowed := true }
def LruTouchUptoSaid : Prop := lruTouchUptoRow.holds Try.pinned (OpenSpec.upto lruTouchSpec)

/-- 'punchcutlaw09.GridCheck', WHERE WHAT IT READS IS OF BULK AT MOST 1048576: true; the input reads as it did. -/
def gridCheckUptoRow : OpenClaim := { program := "ytgldonfpiifnfaa", sum := "0761c31d67ab2f0ef645c4e4d74ad2d555f6af292c88c50d324b248ca2312e5e", func := "punchcut/punchcutlaw09.GridCheck", spec := "gridCheck", unfollowed := true, recurses := true, apart := false, narrowed := true }
def GridCheckUptoSaid : Prop := gridCheckUptoRow.holds Try.pinned (OpenSpec.upto gridCheckSpec)

/-- 'punchcutlaw09.GridCentre', WHERE WHAT IT READS IS OF BULK AT MOST 1048576: true; the input reads as it did. -/
def gridCentreUptoRow : OpenClaim := { program := "ytgldonfpiifnfaa", sum := "0761c31d67ab2f0ef645c4e4d74ad2d555f6af292c88c50d324b248ca2312e5e", func := "punchcut/punchcutlaw09.GridCentre", spec := "gridCentre", unfollowed := true, recurses := true, apart := false, narrowed := true }
def GridCentreUptoSaid : Prop := gridCentreUptoRow.holds Try.pinned (OpenSpec.upto gridCentreSpec)

/-- 'punchcutlaw09.GridCode', WHERE WHAT IT READS IS OF BULK AT MOST 1048576: true; the input reads as it did. -/
def gridCodeUptoRow : OpenClaim := { program := "ytgldonfpiifnfaa", sum := "0761c31d67ab2f0ef645c4e4d74ad2d555f6af292c88c50d324b248ca2312e5e", func := "punchcut/punchcutlaw09.GridCode", spec := "gridCode", unfollowed := true, recurses := true, apart := false, narrowed := true }
def GridCodeUptoSaid : Prop := gridCodeUptoRow.holds Try.pinned (OpenSpec.upto gridCodeSpec)

/-- 'punchcutlaw09.GridEach', WHERE WHAT IT READS IS OF BULK AT MOST 1048576: true; the input reads as it did. -/
def gridEachUptoRow : OpenClaim := { program := "ytgldonfpiifnfaa", sum := "0761c31d67ab2f0ef645c4e4d74ad2d555f6af292c88c50d324b248ca2312e5e", func := "punchcut/punchcutlaw09.GridEach", spec := "gridEach", unfollowed := true, recurses := true, apart := false, narrowed := true }
def GridEachUptoSaid : Prop := gridEachUptoRow.holds Try.pinned (OpenSpec.upto gridEachSpec)

/-- 'punchcutlaw09.GridAround', WHERE WHAT IT READS IS OF BULK AT MOST 1048576: true; the input reads as it did. -/
def gridAroundUptoRow : OpenClaim := { program := "ytgldonfpiifnfaa", sum := "0761c31d67ab2f0ef645c4e4d74ad2d555f6af292c88c50d324b248ca2312e5e", func := "punchcut/punchcutlaw09.GridAround", spec := "gridAround", unfollowed := true, recurses := true, apart := false, narrowed := true }
def GridAroundUptoSaid : Prop := gridAroundUptoRow.holds Try.pinned (OpenSpec.upto gridAroundSpec)

/-- 'punchcutlaw09.GridAt', WHERE WHAT IT READS IS OF BULK AT MOST 1048576: true; the input reads as it did. -/
def gridAtUptoRow : OpenClaim := { program := "ytgldonfpiifnfaa", sum := "0761c31d67ab2f0ef645c4e4d74ad2d555f6af292c88c50d324b248ca2312e5e", func := "punchcut/punchcutlaw09.GridAt", spec := "gridAt", unfollowed := true, recurses := true, apart := false, narrowed := true }
def GridAtUptoSaid : Prop := gridAtUptoRow.holds Try.pinned (OpenSpec.upto gridAtSpec)

/-- 'punchcutlaw15.LruScript', WHERE WHAT IT READS IS OF BULK AT MOST 1048576: true; the input reads as it did. -/
def lruScriptUptoRow : OpenClaim := { program := "ytgldonfpiifnfaa", sum := "0761c31d67ab2f0ef645c4e4d74ad2d555f6af292c88c50d324b248ca2312e5e", func := "punchcut/punchcutlaw15.LruScript", spec := "lruScript", unfollowed := true, recurses := true, apart := false, narrowed := true }
def LruScriptUptoSaid : Prop := lruScriptUptoRow.holds Try.pinned (OpenSpec.upto lruScriptSpec)

/-- 'punchcutlaw15.LruWords', WHERE WHAT IT READS IS OF BULK AT MOST 1048576: true; the input reads as it did. -/
def lruWordsUptoRow : OpenClaim := { program := "ytgldonfpiifnfaa", sum := "0761c31d67ab2f0ef645c4e4d74ad2d555f6af292c88c50d324b248ca2312e5e", func := "punchcut/punchcutlaw15.LruWords", spec := "lruWords", unfollowed := true, recurses := true, apart := false, narrowed := true }
def LruWordsUptoSaid : Prop := lruWordsUptoRow.holds Try.pinned (OpenSpec.upto lruWordsSpec)

/-- 'punchcutlaw15.LruStill', WHERE WHAT IT READS IS OF BULK AT MOST 1048576: true; the input reads as it did. -/
def lruStillUptoRow : OpenClaim := { program := "ytgldonfpiifnfaa", sum := "0761c31d67ab2f0ef645c4e4d74ad2d555f6af292c88c50d324b248ca2312e5e", func := "punchcut/punchcutlaw15.LruStill", spec := "lruStill", unfollowed := true, recurses := true, apart := false, narrowed := true }
def LruStillUptoSaid : Prop := lruStillUptoRow.holds Try.pinned (OpenSpec.upto lruStillSpec)

/-- 'punchcutlaw15.LruOnce', WHERE WHAT IT READS IS OF BULK AT MOST 1048576: true; the input reads as it did. -/
def lruOnceUptoRow : OpenClaim := { program := "ytgldonfpiifnfaa", sum := "0761c31d67ab2f0ef645c4e4d74ad2d555f6af292c88c50d324b248ca2312e5e", func := "punchcut/punchcutlaw15.LruOnce", spec := "lruOnce", unfollowed := true, recurses := true, apart := false, narrowed := true }
def LruOnceUptoSaid : Prop := lruOnceUptoRow.holds Try.pinned (OpenSpec.upto lruOnceSpec)

end Rows
end Go.Proofs.Ytgldonfpiifnfaa
