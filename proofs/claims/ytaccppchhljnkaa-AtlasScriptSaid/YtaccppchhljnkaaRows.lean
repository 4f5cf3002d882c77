/-
  No cell of these rows narrows 'for every input' (looked for: loops, veiled, ifaces, maps, wideKeys, modest, calm, conditions, laid).
  DERIVED. THE GIVEN ROWS OF THIS SEAT. 6 by the template 'for every input the law returns true; each argument reads behind the call as it read before'; 0 by the template 'total and deterministic' (their statements: YtaccppchhljnkaaTotals.lean).
  GIVEN WITH THE SEED: the statements are not yours to turn. If you find one false, say at which input.
  Laid BY PROGRAM, IN A SANDBOX (cutbox-rows.mjs): the forced cells as the released guide's own fill.sh prints them over the translation 5c711c42b8c3b145… (all of the seat's roots in one cut). By AI agents, Wed Nov 11 2026. No macro, syntax, notation, axiom, sorry.
-/
import Derived.Test.YtaccppchhljnkaaChecked
import GoSem.Claim
import GoSem.ClaimJoined
import GoSem.ClaimMapViews
import Derived.JoinedTies
import Derived.KernelRfl
namespace Go.Proofs.Ytaccppchhljnkaa
/- THE CELL 'sum', in the pinned program and in every row, IS THE sha256 OF THE DUMP (.gsa) THAT YtaccppchhljnkaaProg.lean LOADS. Nothing in Lean hashes anything: it is a label: what it is worth is what the hold of that sum in a sandbox is worth. -/
noncomputable def Try.pinned : Pinned := { name := "ytaccppchhljnkaa", sum := "5c711c42b8c3b145b3b47fc46382828740b9f224e941480541972c0167a04a0a", checked := Try.checked }
namespace Rows
def none {H : Type} : Left H := { results := [], args := [] }

/-- 'punchcutlaw16.AtlasApart': WHATEVER THE INPUT: true; the input reads as it did. -/
def atlasApartSpec : ChangeSpec := { name := "atlasApart", fn := fun _ => fun
  | [d1, d2, d3, d4] => { results := [.lit (.bool true)], args := [d1, d2, d3, d4] }
  | _ => none }
def atlasApartRow : OpenClaim := { program := "ytaccppchhljnkaa", sum := "5c711c42b8c3b145b3b47fc46382828740b9f224e941480541972c0167a04a0a", func := "punchcut/punchcutlaw16.AtlasApart", spec := "atlasApart", unfollowed := true, recurses := true, apart := false }
def AtlasApartSaid : Prop := atlasApartRow.holds Try.pinned (OpenSpec.ofChange atlasApartSpec)

/-- ITS FALSE NEIGHBOUR: 'it returns false'. Refute it at one input. -/
def atlasApartWrong : ChangeSpec := { name := "atlasApart", fn := fun _ => fun
  | [d1, d2, d3, d4] => { results := [.lit (.bool false)], args := [d1, d2, d3, d4] }
  | _ => none }
def AtlasApartWrongFalsely : Prop := atlasApartRow.holds Try.pinned (OpenSpec.ofChange atlasApartWrong)

/-- 'punchcutlaw16.AtlasSize': WHATEVER THE INPUT: true; the input reads as it did. -/
def atlasSizeSpec : ChangeSpec := { name := "atlasSize", fn := fun _ => fun
  | [d1, d2, d3, d4, d5, d6] => { results := [.lit (.bool true)], args := [d1, d2, d3, d4, d5, d6] }
  | _ => none }
def atlasSizeRow : OpenClaim := { program := "ytaccppchhljnkaa", sum := "5c711c42b8c3b145b3b47fc46382828740b9f224e941480541972c0167a04a0a", func := "punchcut/punchcutlaw16.AtlasSize", spec := "atlasSize", unfollowed := true, recurses := true, apart := false }
def AtlasSizeSaid : Prop := atlasSizeRow.holds Try.pinned (OpenSpec.ofChange atlasSizeSpec)

/-- ITS FALSE NEIGHBOUR: 'it returns false'. Refute it at one input. -/
def atlasSizeWrong : ChangeSpec := { name := "atlasSize", fn := fun _ => fun
  | [d1, d2, d3, d4, d5, d6] => { results := [.lit (.bool false)], args := [d1, d2, d3, d4, d5, d6] }
  | _ => none }
def AtlasSizeWrongFalsely : Prop := atlasSizeRow.holds Try.pinned (OpenSpec.ofChange atlasSizeWrong)

/-- 'punchcutlaw16.AtlasMany': WHATEVER THE INPUT: true; the input reads as it did. -/
def atlasManySpec : ChangeSpec := { name := "atlasMany", fn := fun _ => fun
  | [d1, d2] => { results := [.lit (.bool true)], args := [d1, d2] }
  | _ => none }
def atlasManyRow : OpenClaim := { program := "ytaccppchhljnkaa", sum := "5c711c42b8c3b145b3b47fc46382828740b9f224e941480541972c0167a04a0a", func := "punchcut/punchcutlaw16.AtlasMany", spec := "atlasMany", unfollowed := true, recurses := true, apart := false }
def AtlasManySaid : Prop := atlasManyRow.holds Try.pinned (OpenSpec.ofChange atlasManySpec)

/-- ITS FALSE NEIGHBOUR: 'it returns false'. Refute it at one input. -/
def atlasManyWrong : ChangeSpec := { name := "atlasMany", fn := fun _ => fun
  | [d1, d2] => { results := [.lit (.bool false)], args := [d1, d2] }
  | _ => none }
def AtlasManyWrongFalsely : Prop := atlasManyRow.holds Try.pinned (OpenSpec.ofChange atlasManyWrong)

/-- 'punchcutlaw16.AtlasOldest': WHATEVER THE INPUT: true; the input reads as it did. -/
def atlasOldestSpec : ChangeSpec := { name := "atlasOldest", fn := fun _ => fun
  | [d1, d2, d3, d4, d5] => { results := [.lit (.bool true)], args := [d1, d2, d3, d4, d5] }
  | _ => none }
def atlasOldestRow : OpenClaim := { program := "ytaccppchhljnkaa", sum := "5c711c42b8c3b145b3b47fc46382828740b9f224e941480541972c0167a04a0a", func := "punchcut/punchcutlaw16.AtlasOldest", spec := "atlasOldest", unfollowed := true, recurses := true, apart := false }
def AtlasOldestSaid : Prop := atlasOldestRow.holds Try.pinned (OpenSpec.ofChange atlasOldestSpec)

/-- ITS FALSE NEIGHBOUR: 'it returns false'. Refute it at one input. -/
def atlasOldestWrong : ChangeSpec := { name := "atlasOldest", fn := fun _ => fun
  | [d1, d2, d3, d4, d5] => { results := [.lit (.bool false)], args := [d1, d2, d3, d4, d5] }
  | _ => none }
def AtlasOldestWrongFalsely : Prop := atlasOldestRow.holds Try.pinned (OpenSpec.ofChange atlasOldestWrong)

/-- 'punchcutlaw16.AtlasEmpty': WHATEVER THE INPUT: true; the input reads as it did. -/
def atlasEmptySpec : ChangeSpec := { name := "atlasEmpty", fn := fun _ => fun
  | [d1, d2, d3, d4] => { results := [.lit (.bool true)], args := [d1, d2, d3, d4] }
  | _ => none }
def atlasEmptyRow : OpenClaim := { program := "ytaccppchhljnkaa", sum := "5c711c42b8c3b145b3b47fc46382828740b9f224e941480541972c0167a04a0a", func := "punchcut/punchcutlaw16.AtlasEmpty", spec := "atlasEmpty", unfollowed := true, recurses := true, apart := false }
def AtlasEmptySaid : Prop := atlasEmptyRow.holds Try.pinned (OpenSpec.ofChange atlasEmptySpec)

/-- ITS FALSE NEIGHBOUR: 'it returns false'. Refute it at one input. -/
def atlasEmptyWrong : ChangeSpec := { name := "atlasEmpty", fn := fun _ => fun
  | [d1, d2, d3, d4] => { results := [.lit (.bool false)], args := [d1, d2, d3, d4] }
  | _ => none }
def AtlasEmptyWrongFalsely : Prop := atlasEmptyRow.holds Try.pinned (OpenSpec.ofChange atlasEmptyWrong)

/-- 'punchcutlaw16.AtlasScript': WHATEVER THE INPUT: true; the input reads as it did. -/
def atlasScriptSpec : ChangeSpec := { name := "atlasScript", fn := fun _ => fun
  | [d1, d2, d3, d4] => { results := [.lit (.bool true)], args := [d1, d2, d3, d4] }
  | _ => none }
def atlasScriptRow : OpenClaim := { program := "ytaccppchhljnkaa", sum := "5c711c42b8c3b145b3b47fc46382828740b9f224e941480541972c0167a04a0a", func := "punchcut/punchcutlaw16.AtlasScript", spec := "atlasScript", unfollowed := true, recurses := true, apart := false }
def AtlasScriptSaid : Prop := atlasScriptRow.holds Try.pinned (OpenSpec.ofChange atlasScriptSpec)

/-- ITS FALSE NEIGHBOUR: 'it returns false'. Refute it at one input. -/
def atlasScriptWrong : ChangeSpec := { name := "atlasScript", fn := fun _ => fun
  | [d1, d2, d3, d4] => { results := [.lit (.bool false)], args := [d1, d2, d3, d4] }
  | _ => none }
def AtlasScriptWrongFalsely : Prop := atlasScriptRow.holds Try.pinned (OpenSpec.ofChange atlasScriptWrong)

/- THE SECOND FORM. 'bulk': how many values and letters a reading holds, each counted each time it is reached (what is shared counts as often as it is met; a slice's spare places count too). A statement '..UptoSaid' is the law's where the arguments, and the package variables that the reading takes, are together of bulk at most 1048576: NARROWER than '..Said'. Prove '..Said' where nothing that the law and all that it calls make is longer than what came in: it says more and counts as full. Else prove '..UptoSaid'. A law counts once. -/
mutual
def uptoBulk {H : Type} : DataW H → Nat
  | .lit (.string bytes) => bytes.length + 1
  | .lit _ => 1
  | .nil => 1
  | .ptr d => uptoBulk d + 1
  | .slice elems spare => uptoBulkAll elems + uptoBulkAll spare + 1
  | .agg parts => uptoBulkAll parts + 1
  | .iface _ d => uptoBulk d + 1
  | .map entries => uptoBulkEntries entries + 1
  | .held _ => 1
def uptoBulkAll {H : Type} : List (DataW H) → Nat
  | [] => 0
  | d :: r => uptoBulk d + uptoBulkAll r
def uptoBulkEntries {H : Type} : List (Lit × DataW H) → Nat
  | [] => 0
  | x :: r => uptoBulkEntry x + uptoBulkEntries r
def uptoBulkEntry {H : Type} : Lit × DataW H → Nat
  | (.string bytes, d) => bytes.length + uptoBulk d + 1
  | (_, d) => uptoBulk d + 1
 end
def uptoSmall : (H : Type) → List (DataW H) → Bool := fun _ ds => decide (uptoBulkAll ds ≤ 1048576)
def OpenSpec.upto (s : _root_.Go.ChangeSpec) : _root_.Go.OpenSpec := { _root_.Go.OpenSpec.ofChange s with cond := some uptoSmall }

/-- 'punchcutlaw16.AtlasApart', WHERE WHAT IT READS IS OF BULK AT MOST 1048576: true; the input reads as it did. -/
def atlasApartUptoRow : OpenClaim := { program := "ytaccppchhljnkaa", sum := "5c711c42b8c3b145b3b47fc46382828740b9f224e941480541972c0167a04a0a", func := "punchcut/punchcutlaw16.AtlasApart", spec := "atlasApart", unfollowed := true, recurses := true, apart := false, narrowed := true }
def AtlasApartUptoSaid : Prop := atlasApartUptoRow.holds Try.pinned (OpenSpec.upto atlasApartSpec)

/-- 'punchcutlaw16.AtlasSize', WHERE WHAT IT READS IS OF BULK AT MOST 1048576: true; the input reads as it did. -/
def atlasSizeUptoRow : OpenClaim := { program := "ytaccppchhljnkaa", sum := "5c711c42b8c3b145b3b47fc46382828740b9f224e941480541972c0167a04a0a", func := "punchcut/punchcutlaw16.AtlasSize", spec := "atlasSize", unfollowed := true, recurses := true, apart := false, narrowed := true }
def AtlasSizeUptoSaid : Prop := atlasSizeUptoRow.holds Try.pinned (OpenSpec.upto atlasSizeSpec)

/-- 'punchcutlaw16.AtlasMany', WHERE WHAT IT READS IS OF BULK AT MOST 1048576: true; the input reads as it did. -/
def atlasManyUptoRow : OpenClaim := { program := "ytaccppchhljnkaa", sum := "5c711c42b8c3b145b3b47fc46382828740b9f224e941480541972c0167a04a0a", func := "punchcut/punchcutlaw16.AtlasMany", spec := "atlasMany", unfollowed := true, recurses := true, apart := false, narrowed := true }
def AtlasManyUptoSaid : Prop := atlasManyUptoRow.holds Try.pinned (OpenSpec.upto atlasManySpec)

/-- 'punchcutlaw16.AtlasOldest', WHERE WHAT IT READS IS OF BULK AT MOST 1048576: true; the input reads as it did. -/
def atlasOldestUptoRow : OpenClaim := { program := "ytaccppchhljnkaa", sum := "5c711c42b8c3b145b3b47fc46382828740b9f224e941480541972c0167a04a0a", func := "punchcut/punchcutlaw16.AtlasOldest", spec := "atlasOldest", unfollowed := true, recurses := true, apart := false, narrowed := true }
def AtlasOldestUptoSaid : Prop := atlasOldestUptoRow.holds Try.pinned (OpenSpec.upto atlasOldestSpec)

/-- 'punchcutlaw16.AtlasEmpty', WHERE WHAT IT READS IS OF BULK AT MOST 1048576: true; the input reads as it did. -/
def atlasEmptyUptoRow : OpenClaim := { program := "ytaccppchhljnkaa", sum := "5c711c42b8c3b145b3b47fc46382828740b9f224e941480541972c0167a04a0a", func := "punchcut/punchcutlaw16.AtlasEmpty", spec := "atlasEmpty", unfollowed := true, recurses := true, apart := false, narrowed := true }
def AtlasEmptyUptoSaid : Prop := atlasEmptyUptoRow.holds Try.pinned (OpenSpec.upto atlasEmptySpec)

/-- 'punchcutlaw16.AtlasScript', WHERE WHAT IT READS IS OF BULK AT MOST 1048576: true; the input reads as it did. -/
def atlasScriptUptoRow : OpenClaim := { program := "ytaccppchhljnkaa", sum := "5c711c42b8c3b145b3b47fc46382828740b9f224e941480541972c0167a04a0a", func := "punchcut/punchcutlaw16.AtlasScript", spec := "atlasScript", unfollowed := true, recurses := true, apart := false, narrowed := true }
def AtlasScriptUptoSaid : Prop := atlasScriptUptoRow.holds Try.pinned (OpenSpec.upto atlasScriptSpec)

end Rows
end Go.Proofs.Ytaccppchhljnkaa
