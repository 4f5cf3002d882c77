/-
  No cell of these rows narrows 'for every input' (looked for: loops, veiled, ifaces, maps, wideKeys, modest, calm, conditions, laid).
  DERIVED. THE GIVEN ROWS OF THIS SEAT. 7 by the template 'for every input the law returns true; each argument reads behind the call as it read before'; 0 by the template 'total and deterministic' (their statements: YtphclfcidgljkaaTotals.lean).
  GIVEN WITH THE SEED: the statements are not yours to turn. If you find one false, say at which input.
  Laid BY PROGRAM, IN A SANDBOX (cutbox-rows.mjs): the forced cells as the released guide's own fill.sh prints them over the translation f4ff700164b28e17… (all of the seat's roots in one cut). By AI agents, Wed Nov 11 2026. No macro, syntax, notation, axiom, sorry.
-/
import Derived.Test.YtphclfcidgljkaaChecked
import GoSem.Claim
import GoSem.ClaimJoined
import GoSem.ClaimMapViews
import Derived.JoinedTies
import Derived.KernelRfl
namespace Go.Proofs.Ytphclfcidgljkaa
/- THE CELL 'sum', in the pinned program and in every row, IS THE sha256 OF THE DUMP (.gsa) THAT YtphclfcidgljkaaProg.lean LOADS. Nothing in Lean hashes anything: it is a label: what it is worth is what the hold of that sum in a sandbox is worth. -/
noncomputable def Try.pinned : Pinned := { name := "ytphclfcidgljkaa", sum := "f4ff700164b28e1735d8245c607ac85574aa2886248921a0a781c704d71276c3", checked := Try.checked }
namespace Rows
def none {H : Type} : Left H := { results := [], args := [] }

/-- 'punchcutlaw14.SkyScript': WHATEVER THE INPUT: true; the input reads as it did. -/
def skyScriptSpec : ChangeSpec := { name := "skyScript", fn := fun _ => fun
  | [d1, d2, d3] => { results := [.lit (.bool true)], args := [d1, d2, d3] }
  | _ => none }
def skyScriptRow : OpenClaim := { program := "ytphclfcidgljkaa", sum := "f4ff700164b28e1735d8245c607ac85574aa2886248921a0a781c704d71276c3", func := "punchcut/punchcutlaw14.SkyScript", spec := "skyScript", unfollowed := true, recurses := true, apart := false }
def SkyScriptSaid : Prop := skyScriptRow.holds Try.pinned (OpenSpec.ofChange skyScriptSpec)

/-- ITS FALSE NEIGHBOUR: 'it returns false'. Refute it at one input. -/
def skyScriptWrong : ChangeSpec := { name := "skyScript", fn := fun _ => fun
  | [d1, d2, d3] => { results := [.lit (.bool false)], args := [d1, d2, d3] }
  | _ => none }
def SkyScriptWrongFalsely : Prop := skyScriptRow.holds Try.pinned (OpenSpec.ofChange skyScriptWrong)

/-- 'punchcutlaw14.SkyRebuild': WHATEVER THE INPUT: true; the input reads as it did. -/
def skyRebuildSpec : ChangeSpec := { name := "skyRebuild", fn := fun _ => fun
  | [d1, d2, d3] => { results := [.lit (.bool true)], args := [d1, d2, d3] }
  | _ => none }
def skyRebuildRow : OpenClaim := { program := "ytphclfcidgljkaa", sum := "f4ff700164b28e1735d8245c607ac85574aa2886248921a0a781c704d71276c3", func := "punchcut/punchcutlaw14.SkyRebuild", spec := "skyRebuild", unfollowed := true, recurses := true, apart := false }
def SkyRebuildSaid : Prop := skyRebuildRow.holds Try.pinned (OpenSpec.ofChange skyRebuildSpec)

/-- ITS FALSE NEIGHBOUR: 'it returns false'. Refute it at one input. -/
def skyRebuildWrong : ChangeSpec := { name := "skyRebuild", fn := fun _ => fun
  | [d1, d2, d3] => { results := [.lit (.bool false)], args := [d1, d2, d3] }
  | _ => none }
def SkyRebuildWrongFalsely : Prop := skyRebuildRow.holds Try.pinned (OpenSpec.ofChange skyRebuildWrong)

/-- 'punchcutlaw14.SkyApart': WHATEVER THE INPUT: true; the input reads as it did. -/
def skyApartSpec : ChangeSpec := { name := "skyApart", fn := fun _ => fun
  | [d1, d2, d3] => { results := [.lit (.bool true)], args := [d1, d2, d3] }
  | _ => none }
def skyApartRow : OpenClaim := { program := "ytphclfcidgljkaa", sum := "f4ff700164b28e1735d8245c607ac85574aa2886248921a0a781c704d71276c3", func := "punchcut/punchcutlaw14.SkyApart", spec := "skyApart", unfollowed := true, recurses := true, apart := false }
def SkyApartSaid : Prop := skyApartRow.holds Try.pinned (OpenSpec.ofChange skyApartSpec)

/-- ITS FALSE NEIGHBOUR: 'it returns false'. Refute it at one input. -/
def skyApartWrong : ChangeSpec := { name := "skyApart", fn := fun _ => fun
  | [d1, d2, d3] => { results := [.lit (.bool false)], args := [d1, d2, d3] }
  | _ => none }
def SkyApartWrongFalsely : Prop := skyApartRow.holds Try.pinned (OpenSpec.ofChange skyApartWrong)

/-- 'punchcutlaw14.SkyAgain': WHATEVER THE INPUT: true; the input reads as it did. -/
def skyAgainSpec : ChangeSpec := { name := "skyAgain", fn := fun _ => fun
  | [d1, d2, d3] => { results := [.lit (.bool true)], args := [d1, d2, d3] }
  | _ => none }
def skyAgainRow : OpenClaim := { program := "ytphclfcidgljkaa", sum := "f4ff700164b28e1735d8245c607ac85574aa2886248921a0a781c704d71276c3", func := "punchcut/punchcutlaw14.SkyAgain", spec := "skyAgain", unfollowed := true, recurses := true, apart := false }
def SkyAgainSaid : Prop := skyAgainRow.holds Try.pinned (OpenSpec.ofChange skyAgainSpec)

/-- ITS FALSE NEIGHBOUR: 'it returns false'. Refute it at one input. -/
def skyAgainWrong : ChangeSpec := { name := "skyAgain", fn := fun _ => fun
  | [d1, d2, d3] => { results := [.lit (.bool false)], args := [d1, d2, d3] }
  | _ => none }
def SkyAgainWrongFalsely : Prop := skyAgainRow.holds Try.pinned (OpenSpec.ofChange skyAgainWrong)

/-- 'punchcutlaw14.SkyEmpty': WHATEVER THE INPUT: true; the input reads as it did. -/
def skyEmptySpec : ChangeSpec := { name := "skyEmpty", fn := fun _ => fun
  | [d1, d2, d3, d4] => { results := [.lit (.bool true)], args := [d1, d2, d3, d4] }
  | _ => none }
def skyEmptyRow : OpenClaim := { program := "ytphclfcidgljkaa", sum := "f4ff700164b28e1735d8245c607ac85574aa2886248921a0a781c704d71276c3", func := "punchcut/punchcutlaw14.SkyEmpty", spec := "skyEmpty", unfollowed := true, recurses := true, apart := false }
def SkyEmptySaid : Prop := skyEmptyRow.holds Try.pinned (OpenSpec.ofChange skyEmptySpec)

/-- ITS FALSE NEIGHBOUR: 'it returns false'. Refute it at one input. -/
def skyEmptyWrong : ChangeSpec := { name := "skyEmpty", fn := fun _ => fun
  | [d1, d2, d3, d4] => { results := [.lit (.bool false)], args := [d1, d2, d3, d4] }
  | _ => none }
def SkyEmptyWrongFalsely : Prop := skyEmptyRow.holds Try.pinned (OpenSpec.ofChange skyEmptyWrong)

/-- 'punchcutlaw14.SkyLow': WHATEVER THE INPUT: true; the input reads as it did. -/
def skyLowSpec : ChangeSpec := { name := "skyLow", fn := fun _ => fun
  | [d1, d2, d3, d4] => { results := [.lit (.bool true)], args := [d1, d2, d3, d4] }
  | _ => none }
def skyLowRow : OpenClaim := { program := "ytphclfcidgljkaa", sum := "f4ff700164b28e1735d8245c607ac85574aa2886248921a0a781c704d71276c3", func := "punchcut/punchcutlaw14.SkyLow", spec := "skyLow", unfollowed := true, recurses := true, apart := false }
def SkyLowSaid : Prop := skyLowRow.holds Try.pinned (OpenSpec.ofChange skyLowSpec)

/-- ITS FALSE NEIGHBOUR: 'it returns false'. Refute it at one input. -/
def skyLowWrong : ChangeSpec := { name := "skyLow", fn := fun _ => fun
  | [d1, d2, d3, d4] => { results := [.lit (.bool false)], args := [d1, d2, d3, d4] }
  | _ => none }
def SkyLowWrongFalsely : Prop := skyLowRow.holds Try.pinned (OpenSpec.ofChange skyLowWrong)

/-- 'punchcutlaw14.SkyGrows': WHATEVER THE INPUT: true; the input reads as it did. -/
def skyGrowsSpec : ChangeSpec := { name := "skyGrows", fn := fun _ => fun
  | [d1, d2, d3] => { results := [.lit (.bool true)], args := [d1, d2, d3] }
  | _ => none }
def skyGrowsRow : OpenClaim := { program := "ytphclfcidgljkaa", sum := "f4ff700164b28e1735d8245c607ac85574aa2886248921a0a781c704d71276c3", func := "punchcut/punchcutlaw14.SkyGrows", spec := "skyGrows", unfollowed := true, recurses := true, apart := false }
def SkyGrowsSaid : Prop := skyGrowsRow.holds Try.pinned (OpenSpec.ofChange skyGrowsSpec)

/-- ITS FALSE NEIGHBOUR: 'it returns false'. Refute it at one input. -/
def skyGrowsWrong : ChangeSpec := { name := "skyGrows", fn := fun _ => fun
  | [d1, d2, d3] => { results := [.lit (.bool false)], args := [d1, d2, d3] }
  | _ => none }
def SkyGrowsWrongFalsely : Prop := skyGrowsRow.holds Try.pinned (OpenSpec.ofChange skyGrowsWrong)

/- THE SECOND FORM. 'bulk': how many values and letters a reading holds, each counted each time it is reached (what is shared counts as often as it is met; a slice's spare places count too). A statement '..UptoSaid' is the law's where the arguments, and the package variables that the reading takes, are together of bulk at most 1048576: NARROWER than '..Said'. Prove '..Said' where nothing that the law and all that it calls make is longer than what came in: it says more and counts as full. Else prove '..UptoSaid'. A law counts once. -/
mutual
def uptoBulk {H : Type} : DataW H → Nat
  | .lit (.string bytes) => bytes.length + 1
  | .lit _ => 1
  | .nil => 1
  | .ptr d => uptoBulk d + 1
  | .slice elems spare => uptoBulkAll elems + uptoBulkAll spare + 1
  | .agg parts => uptoBulkAll parts + 1
  | .iface _ d => uptoBulk d + 1
  | .map entries => uptoBulkEntries entries + 1
  | .held _ => 1
def uptoBulkAll {H : Type} : List (DataW H) → Nat
  | [] => 0
  | d :: r => uptoBulk d + uptoBulkAll r
def uptoBulkEntries {H : Type} : List (Lit × DataW H) → Nat
  | [] => 0
  | x :: r => uptoBulkEntry x + uptoBulkEntries r
def uptoBulkEntry {H : Type} : Lit × DataW H → Nat
  | (.string bytes, d) => bytes.length + uptoBulk d + 1
  | (_, d) => uptoBulk d + 1
 end
def uptoSmall : (H : Type) → List (DataW H) → Bool := fun _ ds => decide (uptoBulkAll ds ≤ 1048576)
def OpenSpec.upto (s : _root_.Go.ChangeSpec) : _root_.Go.OpenSpec := { _root_.Go.OpenSpec.ofChange s with cond := some uptoSmall }

/-- 'punchcutlaw14.SkyScript', WHERE WHAT IT READS IS OF BULK AT MOST 1048576: true; the input reads as it did. -/
def skyScriptUptoRow : OpenClaim := { program := "ytphclfcidgljkaa", sum := "f4ff700164b28e1735d8245c607ac85574aa2886248921a0a781c704d71276c3", func := "punchcut/punchcutlaw14.SkyScript", spec := "skyScript", unfollowed := true, recurses := true, apart := false, narrowed := true }
def SkyScriptUptoSaid : Prop := skyScriptUptoRow.holds Try.pinned (OpenSpec.upto skyScriptSpec)

/-- 'punchcutlaw14.SkyRebuild', WHERE WHAT IT READS IS OF BULK AT MOST 1048576: true; the input reads as it did. -/
def skyRebuildUptoRow : OpenClaim := { program := "ytphclfcidgljkaa", sum := "f4ff700164b28e1735d8245c607ac85574aa2886248921a0a781c704d71276c3", func := "punchcut/punchcutlaw14.SkyRebuild", spec := "skyRebuild", unfollowed := true, recurses := true, apart := false, narrowed := true }
def SkyRebuildUptoSaid : Prop := skyRebuildUptoRow.holds Try.pinned (OpenSpec.upto skyRebuildSpec)

/-- 'punchcutlaw14.SkyApart', WHERE WHAT IT READS IS OF BULK AT MOST 1048576: true; the input reads as it did. -/
def skyApartUptoRow : OpenClaim := { program := "ytphclfcidgljkaa", sum := "f4ff700164b28e1735d8245c607ac85574aa2886248921a0a781c704d71276c3", func := "punchcut/punchcutlaw14.SkyApart", spec := "skyApart", unfollowed := true, recurses := true, apart := false, narrowed := true }
def SkyApartUptoSaid : Prop := skyApartUptoRow.holds Try.pinned (OpenSpec.upto skyApartSpec)

/-- 'punchcutlaw14.SkyAgain', WHERE WHAT IT READS IS OF BULK AT MOST 1048576: true; the input reads as it did. -/
def skyAgainUptoRow : OpenClaim := { program := "ytphclfcidgljkaa", sum := "f4ff700164b28e1735d8245c607ac85574aa2886248921a0a781c704d71276c3", func := "punchcut/punchcutlaw14.SkyAgain", spec := "skyAgain", unfollowed := true, recurses := true, apart := false, narrowed := true }
def SkyAgainUptoSaid : Prop := skyAgainUptoRow.holds Try.pinned (OpenSpec.upto skyAgainSpec)

/-- 'punchcutlaw14.SkyEmpty', WHERE WHAT IT READS IS OF BULK AT MOST 1048576: true; the input reads as it did. -/
def skyEmptyUptoRow : OpenClaim := { program := "ytphclfcidgljkaa", sum := "f4ff700164b28e1735d8245c607ac85574aa2886248921a0a781c704d71276c3", func := "punchcut/punchcutlaw14.SkyEmpty", spec := "skyEmpty", unfollowed := true, recurses := true, apart := false, narrowed := true }
def SkyEmptyUptoSaid : Prop := skyEmptyUptoRow.holds Try.pinned (OpenSpec.upto skyEmptySpec)

/-- 'punchcutlaw14.SkyLow', WHERE WHAT IT READS IS OF BULK AT MOST 1048576: true; the input reads as it did. -/
def skyLowUptoRow : OpenClaim := { program := "ytphclfcidgljkaa", sum := "f4ff700164b28e1735d8245c607ac85574aa2886248921a0a781c704d71276c3", func := "punchcut/punchcutlaw14.SkyLow", spec := "skyLow", unfollowed := true, recurses := true, apart := false, narrowed := true }
def SkyLowUptoSaid : Prop := skyLowUptoRow.holds Try.pinned (OpenSpec.upto skyLowSpec)

/-- 'punchcutlaw14.SkyGrows', WHERE WHAT IT READS IS OF BULK AT MOST 1048576: true; the input reads as it did. -/
def skyGrowsUptoRow : OpenClaim := { program := "ytphclfcidgljkaa", sum := "f4ff700164b28e1735d8245c607ac85574aa2886248921a0a781c704d71276c3", func := "punchcut/punchcutlaw14.SkyGrows", spec := "skyGrows", unfollowed := true, recurses := true, apart := false, narrowed := true }
def SkyGrowsUptoSaid : Prop := skyGrowsUptoRow.holds Try.pinned (OpenSpec.upto skyGrowsSpec)

end Rows
end Go.Proofs.Ytphclfcidgljkaa
