/-
  No cell of these rows narrows 'for every input' (looked for: loops, veiled, ifaces, maps, wideKeys, modest, calm, conditions, laid).
  DERIVED. THE GIVEN ROWS OF THIS SEAT. 12 by the template 'for every input the law returns true; each argument reads behind the call as it read before'; 0 by the template 'total and deterministic' (their statements: YtjealbaomhjoaaaTotals.lean).
  GIVEN WITH THE SEED: the statements are not yours to turn. If you find one false, say at which input.
  Laid BY PROGRAM, IN A SANDBOX (cutbox-rows.mjs): the forced cells as the released guide's own fill.sh prints them over the translation dd7dca418d490452… (all of the seat's roots in one cut). By AI agents, Wed Nov 11 2026. No macro, syntax, notation, axiom, sorry.
-/
import Derived.Test.YtjealbaomhjoaaaChecked
import GoSem.Claim
import GoSem.ClaimJoined
import GoSem.ClaimMapViews
import Derived.JoinedTies
import Derived.KernelRfl
namespace Go.Proofs.Ytjealbaomhjoaaa
/- THE CELL 'sum', in the pinned program and in every row, IS THE sha256 OF THE DUMP (.gsa) THAT YtjealbaomhjoaaaProg.lean LOADS. Nothing in Lean hashes anything: it is a label: what it is worth is what the hold of that sum in a sandbox is worth. -/
noncomputable def Try.pinned : Pinned := { name := "ytjealbaomhjoaaa", sum := "dd7dca418d4904528890309d4399a56cd5fcb8b35ef34076a494710265f307aa", checked := Try.checked }
namespace Rows
def none {H : Type} : Left H := { results := [], args := [] }

/-- 'punchcutlaw05.PathSegs': WHATEVER THE INPUT: true; the input reads as it did. -/
def pathSegsSpec : ChangeSpec := { name := "pathSegs", fn := fun _ => fun
  | [d] => { results := [.lit (.bool true)], args := [d] }
  | _ => none }
def pathSegsRow : OpenClaim := { program := "ytjealbaomhjoaaa", sum := "dd7dca418d4904528890309d4399a56cd5fcb8b35ef34076a494710265f307aa", func := "punchcut/punchcutlaw05.PathSegs", spec := "pathSegs", unfollowed := true, recurses := true, plainKeys := false, apart := false }
def PathSegsSaid : Prop := pathSegsRow.holds Try.pinned (OpenSpec.ofChange pathSegsSpec)

/-- ITS FALSE NEIGHBOUR: 'it returns false'. Refute it at one input. -/
def pathSegsWrong : ChangeSpec := { name := "pathSegs", fn := fun _ => fun
  | [d] => { results := [.lit (.bool false)], args := [d] }
  | _ => none }
def PathSegsWrongFalsely : Prop := pathSegsRow.holds Try.pinned (OpenSpec.ofChange pathSegsWrong)

/-- 'punchcutlaw05.PathLines': WHATEVER THE INPUT: true; the input reads as it did. -/
def pathLinesSpec : ChangeSpec := { name := "pathLines", fn := fun _ => fun
  | [d] => { results := [.lit (.bool true)], args := [d] }
  | _ => none }
def pathLinesRow : OpenClaim := { program := "ytjealbaomhjoaaa", sum := "dd7dca418d4904528890309d4399a56cd5fcb8b35ef34076a494710265f307aa", func := "punchcut/punchcutlaw05.PathLines", spec := "pathLines", unfollowed := true, recurses := true, plainKeys := false, apart := false }
def PathLinesSaid : Prop := pathLinesRow.holds Try.pinned (OpenSpec.ofChange pathLinesSpec)

/-- ITS FALSE NEIGHBOUR: 'it returns false'. Refute it at one input. -/
def pathLinesWrong : ChangeSpec := { name := "pathLines", fn := fun _ => fun
  | [d] => { results := [.lit (.bool false)], args := [d] }
  | _ => none }
def PathLinesWrongFalsely : Prop := pathLinesRow.holds Try.pinned (OpenSpec.ofChange pathLinesWrong)

/-- 'punchcutlaw05.PathCount': WHATEVER THE INPUT: true; the input reads as it did. -/
def pathCountSpec : ChangeSpec := { name := "pathCount", fn := fun _ => fun
  | [d] => { results := [.lit (.bool true)], args := [d] }
  | _ => none }
def pathCountRow : OpenClaim := { program := "ytjealbaomhjoaaa", sum := "dd7dca418d4904528890309d4399a56cd5fcb8b35ef34076a494710265f307aa", func := "punchcut/punchcutlaw05.PathCount", spec := "pathCount", unfollowed := true, recurses := true, plainKeys := false, apart := false }
def PathCountSaid : Prop := pathCountRow.holds Try.pinned (OpenSpec.ofChange pathCountSpec)

/-- ITS FALSE NEIGHBOUR: 'it returns false'. Refute it at one input. -/
def pathCountWrong : ChangeSpec := { name := "pathCount", fn := fun _ => fun
  | [d] => { results := [.lit (.bool false)], args := [d] }
  | _ => none }
def PathCountWrongFalsely : Prop := pathCountRow.holds Try.pinned (OpenSpec.ofChange pathCountWrong)

/-- 'punchcutlaw05.PathMove': WHATEVER THE INPUT: true; the input reads as it did. -/
def pathMoveSpec : ChangeSpec := { name := "pathMove", fn := fun _ => fun
  | [d1, d2, d3] => { results := [.lit (.bool true)], args := [d1, d2, d3] }
  | _ => none }
def pathMoveRow : OpenClaim := { program := "ytjealbaomhjoaaa", sum := "dd7dca418d4904528890309d4399a56cd5fcb8b35ef34076a494710265f307aa", func := "punchcut/punchcutlaw05.PathMove", spec := "pathMove", unfollowed := true, recurses := true, plainKeys := false, apart := false }
def PathMoveSaid : Prop := pathMoveRow.holds Try.pinned (OpenSpec.ofChange pathMoveSpec)

/-- ITS FALSE NEIGHBOUR: 'it returns false'. Refute it at one input. -/
def pathMoveWrong : ChangeSpec := { name := "pathMove", fn := fun _ => fun
  | [d1, d2, d3] => { results := [.lit (.bool false)], args := [d1, d2, d3] }
  | _ => none }
def PathMoveWrongFalsely : Prop := pathMoveRow.holds Try.pinned (OpenSpec.ofChange pathMoveWrong)

/-- 'punchcutlaw05.PathAll': WHATEVER THE INPUT: true; the input reads as it did. -/
def pathAllSpec : ChangeSpec := { name := "pathAll", fn := fun _ => fun
  | [d] => { results := [.lit (.bool true)], args := [d] }
  | _ => none }
def pathAllRow : OpenClaim := { program := "ytjealbaomhjoaaa", sum := "dd7dca418d4904528890309d4399a56cd5fcb8b35ef34076a494710265f307aa", func := "punchcut/punchcutlaw05.PathAll", spec := "pathAll", unfollowed := true, recurses := true, plainKeys := false, apart := false }
def PathAllSaid : Prop := pathAllRow.holds Try.pinned (OpenSpec.ofChange pathAllSpec)

/-- ITS FALSE NEIGHBOUR: 'it returns false'. Refute it at one input. -/
def pathAllWrong : ChangeSpec := { name := "pathAll", fn := fun _ => fun
  | [d] => { results := [.lit (.bool false)], args := [d] }
  | _ => none }
def PathAllWrongFalsely : Prop := pathAllRow.holds Try.pinned (OpenSpec.ofChange pathAllWrong)

/-- 'punchcutlaw04.GlyfCheck': WHATEVER THE INPUT: true; the input reads as it did. -/
def glyfCheckSpec : ChangeSpec := { name := "glyfCheck", fn := fun _ => fun
  | [d1, d2, d3, d4] => { results := [.lit (.bool true)], args := [d1, d2, d3, d4] }
  | _ => none }
def glyfCheckRow : OpenClaim := { program := "ytjealbaomhjoaaa", sum := "dd7dca418d4904528890309d4399a56cd5fcb8b35ef34076a494710265f307aa", func := "punchcut/punchcutlaw04.GlyfCheck", spec := "glyfCheck", plainKeys := false, apart := false }
def GlyfCheckSaid : Prop := glyfCheckRow.holds Try.pinned (OpenSpec.ofChange glyfCheckSpec)

/-- ITS FALSE NEIGHBOUR: 'it returns false'. Refute it at one input. -/
def glyfCheckWrong : ChangeSpec := { name := "glyfCheck", fn := fun _ => fun
  | [d1, d2, d3, d4] => { results := [.lit (.bool false)], args := [d1, d2, d3, d4] }
  | _ => none }
def GlyfCheckWrongFalsely : Prop := glyfCheckRow.holds Try.pinned (OpenSpec.ofChange glyfCheckWrong)

/-- 'punchcutlaw04.GlyfEncode': WHATEVER THE INPUT: true; the input reads as it did. -/
def glyfEncodeSpec : ChangeSpec := { name := "glyfEncode", fn := fun _ => fun
  | [d1, d2] => { results := [.lit (.bool true)], args := [d1, d2] }
  | _ => none }
def glyfEncodeRow : OpenClaim := { program := "ytjealbaomhjoaaa", sum := "dd7dca418d4904528890309d4399a56cd5fcb8b35ef34076a494710265f307aa", func := "punchcut/punchcutlaw04.GlyfEncode", spec := "glyfEncode", plainKeys := false, apart := false }
def GlyfEncodeSaid : Prop := glyfEncodeRow.holds Try.pinned (OpenSpec.ofChange glyfEncodeSpec)

/-- ITS FALSE NEIGHBOUR: 'it returns false'. Refute it at one input. -/
def glyfEncodeWrong : ChangeSpec := { name := "glyfEncode", fn := fun _ => fun
  | [d1, d2] => { results := [.lit (.bool false)], args := [d1, d2] }
  | _ => none }
def GlyfEncodeWrongFalsely : Prop := glyfEncodeRow.holds Try.pinned (OpenSpec.ofChange glyfEncodeWrong)

/-- 'punchcutlaw04.GlyfParse': WHATEVER THE INPUT: true; the input reads as it did. -/
def glyfParseSpec : ChangeSpec := { name := "glyfParse", fn := fun _ => fun
  | [d1, d2, d3, d4, d5] => { results := [.lit (.bool true)], args := [d1, d2, d3, d4, d5] }
  | _ => none }
def glyfParseRow : OpenClaim := { program := "ytjealbaomhjoaaa", sum := "dd7dca418d4904528890309d4399a56cd5fcb8b35ef34076a494710265f307aa", func := "punchcut/punchcutlaw04.GlyfParse", spec := "glyfParse", plainKeys := false, apart := false }
def GlyfParseSaid : Prop := glyfParseRow.holds Try.pinned (OpenSpec.ofChange glyfParseSpec)

/-- ITS FALSE NEIGHBOUR: 'it returns false'. Refute it at one input. -/
def glyfParseWrong : ChangeSpec := { name := "glyfParse", fn := fun _ => fun
  | [d1, d2, d3, d4, d5] => { results := [.lit (.bool false)], args := [d1, d2, d3, d4, d5] }
  | _ => none }
def GlyfParseWrongFalsely : Prop := glyfParseRow.holds Try.pinned (OpenSpec.ofChange glyfParseWrong)

/-- 'punchcutlaw04.GlyfCut': WHATEVER THE INPUT: true; the input reads as it did. -/
def glyfCutSpec : ChangeSpec := { name := "glyfCut", fn := fun _ => fun
  | [d1, d2] => { results := [.lit (.bool true)], args := [d1, d2] }
  | _ => none }
def glyfCutRow : OpenClaim := { program := "ytjealbaomhjoaaa", sum := "dd7dca418d4904528890309d4399a56cd5fcb8b35ef34076a494710265f307aa", func := "punchcut/punchcutlaw04.GlyfCut", spec := "glyfCut", plainKeys := false, apart := false }
def GlyfCutSaid : Prop := glyfCutRow.holds Try.pinned (OpenSpec.ofChange glyfCutSpec)

/-- ITS FALSE NEIGHBOUR: 'it returns false'. Refute it at one input. -/
def glyfCutWrong : ChangeSpec := { name := "glyfCut", fn := fun _ => fun
  | [d1, d2] => { results := [.lit (.bool false)], args := [d1, d2] }
  | _ => none }
def GlyfCutWrongFalsely : Prop := glyfCutRow.holds Try.pinned (OpenSpec.ofChange glyfCutWrong)

/-- 'punchcutlaw04.GlyfRound': WHATEVER THE INPUT: true; the input reads as it did. -/
def glyfRoundSpec : ChangeSpec := { name := "glyfRound", fn := fun _ => fun
  | [d] => { results := [.lit (.bool true)], args := [d] }
  | _ => none }
def glyfRoundRow : OpenClaim := { program := "ytjealbaomhjoaaa", sum := "dd7dca418d4904528890309d4399a56cd5fcb8b35ef34076a494710265f307aa", func := "punchcut/punchcutlaw04.GlyfRound", spec := "glyfRound", plainKeys := false, apart := false }
def GlyfRoundSaid : Prop := glyfRoundRow.holds Try.pinned (OpenSpec.ofChange glyfRoundSpec)

/-- ITS FALSE NEIGHBOUR: 'it returns false'. Refute it at one input. -/
def glyfRoundWrong : ChangeSpec := { name := "glyfRound", fn := fun _ => fun
  | [d] => { results := [.lit (.bool false)], args := [d] }
  | _ => none }
def GlyfRoundWrongFalsely : Prop := glyfRoundRow.holds Try.pinned (OpenSpec.ofChange glyfRoundWrong)

/-- 'punchcutlaw04.GlyfAgain': WHATEVER THE INPUT: true; the input reads as it did. -/
def glyfAgainSpec : ChangeSpec := { name := "glyfAgain", fn := fun _ => fun
  | [d1, d2, d3, d4] => { results := [.lit (.bool true)], args := [d1, d2, d3, d4] }
  | _ => none }
def glyfAgainRow : OpenClaim := { program := "ytjealbaomhjoaaa", sum := "dd7dca418d4904528890309d4399a56cd5fcb8b35ef34076a494710265f307aa", func := "punchcut/punchcutlaw04.GlyfAgain", spec := "glyfAgain", plainKeys := false, apart := false }
def GlyfAgainSaid : Prop := glyfAgainRow.holds Try.pinned (OpenSpec.ofChange glyfAgainSpec)

/-- ITS FALSE NEIGHBOUR: 'it returns false'. Refute it at one input. -/
def glyfAgainWrong : ChangeSpec := { name := "glyfAgain", fn := fun _ => fun
  | [d1, d2, d3, d4] => { results := [.lit (.bool false)], args := [d1, d2, d3, d4] }
  | _ => none }
def GlyfAgainWrongFalsely : Prop := glyfAgainRow.holds Try.pinned (OpenSpec.ofChange glyfAgainWrong)

/-- 'punchcutlaw04.GlyfSame': WHATEVER THE INPUT: true; the input reads as it did. -/
def glyfSameSpec : ChangeSpec := { name := "glyfSame", fn := fun _ => fun
  | [d1, d2, d3] => { results := [.lit (.bool true)], args := [d1, d2, d3] }
  | _ => none }
def glyfSameRow : OpenClaim := { program := "ytjealbaomhjoaaa", sum := "dd7dca418d4904528890309d4399a56cd5fcb8b35ef34076a494710265f307aa", func := "punchcut/punchcutlaw04.GlyfSame", spec := "glyfSame", plainKeys := false, apart := false }
def GlyfSameSaid : Prop := glyfSameRow.holds Try.pinned (OpenSpec.ofChange glyfSameSpec)

/-- ITS FALSE NEIGHBOUR: 'it returns false'. Refute it at one input. -/
def glyfSameWrong : ChangeSpec := { name := "glyfSame", fn := fun _ => fun
  | [d1, d2, d3] => { results := [.lit (.bool false)], args := [d1, d2, d3] }
  | _ => none }
def GlyfSameWrongFalsely : Prop := glyfSameRow.holds Try.pinned (OpenSpec.ofChange glyfSameWrong)

/- THE SECOND FORM. 'bulk': how many values and letters a reading holds, each counted each time it is reached (what is shared counts as often as it is met; a slice's spare places count too). A statement '..UptoSaid' is the law's where the arguments, and the package variables that the reading takes, are together of bulk at most 1048576: NARROWER than '..Said'. Prove '..Said' where nothing that the law and all that it calls make is longer than what came in: it says more and counts as full. Else prove '..UptoSaid'. A law counts once. -/
mutual
def uptoBulk {H : Type} : DataW H → Nat
  | .lit (.string bytes) => bytes.length + 1
  | .lit _ => 1
  | .nil => 1
  | .ptr d => uptoBulk d + 1
  | .slice elems spare => uptoBulkAll elems + uptoBulkAll spare + 1
  | .agg parts => uptoBulkAll parts + 1
  | .iface _ d => uptoBulk d + 1
  | .map entries => uptoBulkEntries entries + 1
  | .held _ => 1
def uptoBulkAll {H : Type} : List (DataW H) → Nat
  | [] => 0
  | d :: r => uptoBulk d + uptoBulkAll r
def uptoBulkEntries {H : Type} : List (Lit × DataW H) → Nat
  | [] => 0
  | x :: r => uptoBulkEntry x + uptoBulkEntries r
def uptoBulkEntry {H : Type} : Lit × DataW H → Nat
  | (.string bytes, d) => bytes.length + uptoBulk d + 1
  | (_, d) => uptoBulk d + 1
 end
def uptoSmall : (H : Type) → List (DataW H) → Bool := fun _ ds => decide (uptoBulkAll ds ≤ 1048576)
def OpenSpec.upto (s : _root_.Go.ChangeSpec) : _root_.Go.OpenSpec := { _root_.Go.OpenSpec.ofChange s with cond := some uptoSmall }

/-- 'punchcutlaw05.PathSegs', WHERE WHAT IT READS IS OF BULK AT MOST 1048576: true; the input reads as it did. -/
def pathSegsUptoRow : OpenClaim := { program := "ytjealbaomhjoaaa", sum := "dd7dca418d4904528890309d4399a56cd5fcb8b35ef34076a494710265f307aa", func := "punchcut/punchcutlaw05.PathSegs", spec := "pathSegs", unfollowed := true, recurses := true, plainKeys := false, apart := false, narrowed := true }
def PathSegsUptoSaid : Prop := pathSegsUptoRow.holds Try.pinned (OpenSpec.upto pathSegsSpec)

/-- 'punchcutlaw05.PathLines', WHERE WHAT IT READS IS OF BULK AT MOST 1048576: true; the input reads as it did. -/
def pathLinesUptoRow : OpenClaim := { program := "ytjealbaomhjoaaa", sum := "dd7dca418d4904528890309d4399a56cd5fcb8b35ef34076a494710265f307aa", func := "punchcut/punchcutlaw05.PathLines", spec := "pathLines", unfollowed := true, recurses := true, plainKeys := false, apart := false, narrowed := true }
def PathLinesUptoSaid : Prop := pathLinesUptoRow.holds Try.pinned (OpenSpec.upto pathLinesSpec)

/-- 'punchcutlaw05.PathCount', WHERE WHAT IT READS IS OF BULK AT MOST 1048576: true; the input reads as it did. -/
def pathCountUptoRow : OpenClaim := { program := "ytjealbaomhjoaaa", sum := "dd7dca418d4904528890309d4399a56cd5fcb8b35ef34076a494710265f307aa", func := "punchcut/punchcutlaw05.PathCount", spec := "pathCount", unfollowed := true, recurses := true, plainKeys := false, apart := false, narrowed := true }
def PathCountUptoSaid : Prop := pathCountUptoRow.holds Try.pinned (OpenSpec.upto pathCountSpec)

/-- 'punchcutlaw05.PathMove', WHERE WHAT IT READS IS OF BULK AT MOST 1048576: true; the input reads as it did. -/
def pathMoveUptoRow : OpenClaim := { program := "ytjealbaomhjoaaa", sum := "dd7dca418d4904528890309d4399a56cd5fcb8b35ef34076a494710265f307aa", func := "punchcut/punchcutlaw05.PathMove", spec := "pathMove", unfollowed := true, recurses := true, plainKeys := false, apart := false, narrowed := true }
def PathMoveUptoSaid : Prop := pathMoveUptoRow.holds Try.pinned (OpenSpec.upto pathMoveSpec)

/-- 'punchcutlaw05.PathAll', WHERE WHAT IT READS IS OF BULK AT MOST 1048576: true; the input reads as it did. -/
def pathAllUptoRow : OpenClaim := { program := "ytjealbaomhjoaaa", sum := "dd7dca418d4904528890309d4399a56cd5fcb8b35ef34076a494710265f307aa", func := "punchcut/punchcutlaw05.PathAll", spec := "pathAll", unfollowed := true, recurses := true, plainKeys := false, apart := false, narrowed := true }
def PathAllUptoSaid : Prop := pathAllUptoRow.holds Try.pinned (OpenSpec.upto pathAllSpec)

/-- 'punchcutlaw04.GlyfCheck', WHERE WHAT IT READS IS OF BULK AT MOST 1048576: true; the input reads as it did. -/
def glyfCheckUptoRow : OpenClaim := { program := "ytjealbaomhjoaaa", sum := "dd7dca418d4904528890309d4399a56cd5fcb8b35ef34076a494710265f307aa", func := "punchcut/punchcutlaw04.GlyfCheck", spec := "glyfCheck", plainKeys := false, apart := false, narrowed := true }
def GlyfCheckUptoSaid : Prop := glyfCheckUptoRow.holds Try.pinned (OpenSpec.upto glyfCheckSpec)

/-- 'punchcutlaw04.GlyfEncode', WHERE WHAT IT READS IS OF BULK AT MOST 1048576: true; the input reads as it did. -/
def glyfEncodeUptoRow : OpenClaim := { program := "ytjealbaomhjoaaa", sum := "dd7dca418d4904528890309d4399a56cd5fcb8b35ef34076a494710265f307aa", func := "punchcut/punchcutlaw04.GlyfEncode", spec := "glyfEncode", plainKeys := false, apart := false, narrowed := true }
def GlyfEncodeUptoSaid : Prop := glyfEncodeUptoRow.holds Try.pinned (OpenSpec.upto glyfEncodeSpec)

/-- 'punchcutlaw04.GlyfParse', WHERE WHAT IT READS IS OF BULK AT MOST 1048576: true; the input reads as it did. -/
def glyfParseUptoRow : OpenClaim := { program := "ytjealbaomhjoaaa", sum := "dd7dca418d4904528890309d4399a56cd5fcb8b35ef34076a494710265f307aa", func := "punchcut/punchcutlaw04.GlyfParse", spec := "glyfParse", plainKeys := false, apart := false, narrowed := true }
def GlyfParseUptoSaid : Prop := glyfParseUptoRow.holds Try.pinned (OpenSpec.upto glyfParseSpec)

/-- 'punchcutlaw04.GlyfCut', WHERE WHAT IT READS IS OF BULK AT MOST 1048576: true; the input reads as it did. -/
def glyfCutUptoRow : OpenClaim := { program := "ytjealbaomhjoaaa", sum := "dd7dca418d4904528890309d4399a56cd5fcb8b35ef34076a494710265f307aa", func := "punchcut/punchcutlaw04.GlyfCut", spec := "glyfCut", plainKeys := false, apart := false, narrowed := true }
def GlyfCutUptoSaid : Prop := glyfCutUptoRow.holds Try.pinned (OpenSpec.upto glyfCutSpec)

/-- 'punchcutlaw04.GlyfRound', WHERE WHAT IT READS IS OF BULK AT MOST 1048576: true; the input reads as it did. -/
def glyfRoundUptoRow : OpenClaim := { program := "ytjealbaomhjoaaa", sum := "dd7dca418d4904528890309d4399a56cd5fcb8b35ef34076a494710265f307aa", func := "punchcut/punchcutlaw04.GlyfRound", spec := "glyfRound", plainKeys := false, apart := false, narrowed := true }
def GlyfRoundUptoSaid : Prop := glyfRoundUptoRow.holds Try.pinned (OpenSpec.upto glyfRoundSpec)

/-- 'punchcutlaw04.GlyfAgain', WHERE WHAT IT READS IS OF BULK AT MOST 1048576: true; the input reads as it did. -/
def glyfAgainUptoRow : OpenClaim := { program := "ytjealbaomhjoaaa", sum := "dd7dca418d4904528890309d4399a56cd5fcb8b35ef34076a494710265f307aa", func := "punchcut/punchcutlaw04.GlyfAgain", spec := "glyfAgain", plainKeys := false, apart := false, narrowed := true }
def GlyfAgainUptoSaid : Prop := glyfAgainUptoRow.holds Try.pinned (OpenSpec.upto glyfAgainSpec)

/-- 'punchcutlaw04.GlyfSame', WHERE WHAT IT READS IS OF BULK AT MOST 1048576: true; the input reads as it did. -/
def glyfSameUptoRow : OpenClaim := { program := "ytjealbaomhjoaaa", sum := "dd7dca418d4904528890309d4399a56cd5fcb8b35ef34076a494710265f307aa", func := "punchcut/punchcutlaw04.GlyfSame", spec := "glyfSame", plainKeys := false, apart := false, narrowed := true }
def GlyfSameUptoSaid : Prop := glyfSameUptoRow.holds Try.pinned (OpenSpec.upto glyfSameSpec)

end Rows
end Go.Proofs.Ytjealbaomhjoaaa
