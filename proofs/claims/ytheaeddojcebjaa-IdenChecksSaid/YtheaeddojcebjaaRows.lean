/-
  No cell of these rows narrows 'for every input' (looked for: loops, veiled, ifaces, maps, wideKeys, modest, calm, conditions, laid).
  DERIVED. THE GIVEN ROWS OF THIS SEAT. 17 by the template 'for every input the law returns true; each argument reads behind the call as it read before'; 0 by the template 'total and deterministic' (their statements: YtheaeddojcebjaaTotals.lean).
  GIVEN WITH THE SEED: the statements are not yours to turn. If you find one false, say at which input.
  Laid BY PROGRAM, IN A SANDBOX (cutbox-rows.mjs): the forced cells as the released guide's own fill.sh prints them over the translation 77837268d98c495e… (all of the seat's roots in one cut). By AI agents, Wed Nov 11 2026. No macro, syntax, notation, axiom, sorry.
-/
import Derived.Test.YtheaeddojcebjaaChecked
import GoSem.Claim
import GoSem.ClaimJoined
import GoSem.ClaimMapViews
import Derived.JoinedTies
import Derived.KernelRfl
namespace Go.Proofs.Ytheaeddojcebjaa
/- THE CELL 'sum', in the pinned program and in every row, IS THE sha256 OF THE DUMP (.gsa) THAT YtheaeddojcebjaaProg.lean LOADS. Nothing in Lean hashes anything: it is a label: what it is worth is what the hold of that sum in a sandbox is worth. -/
noncomputable def Try.pinned : Pinned := { name := "ytheaeddojcebjaa", sum := "77837268d98c495e9f86a342a678ba49d7896b9f8baf8a6080de079b5bdfc309", checked := Try.checked }
namespace Rows
def none {H : Type} : Left H := { results := [], args := [] }

/-- 'busbarlaw7.IdenWalks': WHATEVER THE INPUT: true; the input reads as it did. -/
def idenWalksSpec : ChangeSpec := { name := "idenWalks", fn := fun _ => fun
  | [d1, d2] => { results := [.lit (.bool true)], args := [d1, d2] }
  | _ => none }
def idenWalksRow : OpenClaim := { program := "ytheaeddojcebjaa", sum := "77837268d98c495e9f86a342a678ba49d7896b9f8baf8a6080de079b5bdfc309", func := "busbar/busbarlaw7.IdenWalks", spec := "idenWalks", unfollowed := true, recurses := true, apart := false }
def IdenWalksSaid : Prop := idenWalksRow.holds Try.pinned (OpenSpec.ofChange idenWalksSpec)

/-- ITS FALSE NEIGHBOUR: 'it returns false'. Refute it at one input. -/
def idenWalksWrong : ChangeSpec := { name := "idenWalks", fn := fun _ => fun
  | [d1, d2] => { results := [.lit (.bool false)], args := [d1, d2] }
  | _ => none }
def IdenWalksWrongFalsely : Prop := idenWalksRow.holds Try.pinned (OpenSpec.ofChange idenWalksWrong)

/-- 'busbarlaw7.IdenAlone': WHATEVER THE INPUT: true; the input reads as it did. -/
def idenAloneSpec : ChangeSpec := { name := "idenAlone", fn := fun _ => fun
  | [d1, d2] => { results := [.lit (.bool true)], args := [d1, d2] }
  | _ => none }
def idenAloneRow : OpenClaim := { program := "ytheaeddojcebjaa", sum := "77837268d98c495e9f86a342a678ba49d7896b9f8baf8a6080de079b5bdfc309", func := "busbar/busbarlaw7.IdenAlone", spec := "idenAlone", unfollowed := true, recurses := true, apart := false }
def IdenAloneSaid : Prop := idenAloneRow.holds Try.pinned (OpenSpec.ofChange idenAloneSpec)

/-- ITS FALSE NEIGHBOUR: 'it returns false'. Refute it at one input. -/
def idenAloneWrong : ChangeSpec := { name := "idenAlone", fn := fun _ => fun
  | [d1, d2] => { results := [.lit (.bool false)], args := [d1, d2] }
  | _ => none }
def IdenAloneWrongFalsely : Prop := idenAloneRow.holds Try.pinned (OpenSpec.ofChange idenAloneWrong)

/-- 'busbarlaw7.IdenChecks': WHATEVER THE INPUT: true; the input reads as it did. -/
def idenChecksSpec : ChangeSpec := { name := "idenChecks", fn := fun _ => fun
  | [d1, d2, d3, d4] => { results := [.lit (.bool true)], args := [d1, d2, d3, d4] }
  | _ => none }
def idenChecksRow : OpenClaim := { program := "ytheaeddojcebjaa", sum := "77837268d98c495e9f86a342a678ba49d7896b9f8baf8a6080de079b5bdfc309", func := "busbar/busbarlaw7.IdenChecks", spec := "idenChecks", unfollowed := true, recurses := true, apart := false }
def IdenChecksSaid : Prop := idenChecksRow.holds Try.pinned (OpenSpec.ofChange idenChecksSpec)

/-- ITS FALSE NEIGHBOUR: 'it returns false'. Refute it at one input. -/
def idenChecksWrong : ChangeSpec := { name := "idenChecks", fn := fun _ => fun
  | [d1, d2, d3, d4] => { results := [.lit (.bool false)], args := [d1, d2, d3, d4] }
  | _ => none }
def IdenChecksWrongFalsely : Prop := idenChecksRow.holds Try.pinned (OpenSpec.ofChange idenChecksWrong)

/-- 'busbarlaw5.AskReads': WHATEVER THE INPUT: true; the input reads as it did. -/
def askReadsSpec : ChangeSpec := { name := "askReads", fn := fun _ => fun
  | [d1, d2, d3] => { results := [.lit (.bool true)], args := [d1, d2, d3] }
  | _ => none }
def askReadsRow : OpenClaim := { program := "ytheaeddojcebjaa", sum := "77837268d98c495e9f86a342a678ba49d7896b9f8baf8a6080de079b5bdfc309", func := "busbar/busbarlaw5.AskReads", spec := "askReads", apart := false }
def AskReadsSaid : Prop := askReadsRow.holds Try.pinned (OpenSpec.ofChange askReadsSpec)

/-- ITS FALSE NEIGHBOUR: 'it returns false'. Refute it at one input. -/
def askReadsWrong : ChangeSpec := { name := "askReads", fn := fun _ => fun
  | [d1, d2, d3] => { results := [.lit (.bool false)], args := [d1, d2, d3] }
  | _ => none }
def AskReadsWrongFalsely : Prop := askReadsRow.holds Try.pinned (OpenSpec.ofChange askReadsWrong)

/-- 'busbarlaw5.AskNames': WHATEVER THE INPUT: true; the input reads as it did. -/
def askNamesSpec : ChangeSpec := { name := "askNames", fn := fun _ => fun
  | [d1, d2] => { results := [.lit (.bool true)], args := [d1, d2] }
  | _ => none }
def askNamesRow : OpenClaim := { program := "ytheaeddojcebjaa", sum := "77837268d98c495e9f86a342a678ba49d7896b9f8baf8a6080de079b5bdfc309", func := "busbar/busbarlaw5.AskNames", spec := "askNames", apart := false }
def AskNamesSaid : Prop := askNamesRow.holds Try.pinned (OpenSpec.ofChange askNamesSpec)

/-- ITS FALSE NEIGHBOUR: 'it returns false'. Refute it at one input. -/
def askNamesWrong : ChangeSpec := { name := "askNames", fn := fun _ => fun
  | [d1, d2] => { results := [.lit (.bool false)], args := [d1, d2] }
  | _ => none }
def AskNamesWrongFalsely : Prop := askNamesRow.holds Try.pinned (OpenSpec.ofChange askNamesWrong)

/-- 'busbarlaw7.IdenAnswers': WHATEVER THE INPUT: true; the input reads as it did. -/
def idenAnswersSpec : ChangeSpec := { name := "idenAnswers", fn := fun _ => fun
  | [d1, d2, d3, d4] => { results := [.lit (.bool true)], args := [d1, d2, d3, d4] }
  | _ => none }
def idenAnswersRow : OpenClaim := { program := "ytheaeddojcebjaa", sum := "77837268d98c495e9f86a342a678ba49d7896b9f8baf8a6080de079b5bdfc309", func := "busbar/busbarlaw7.IdenAnswers", spec := "idenAnswers", unfollowed := true, recurses := true, apart := false }
def IdenAnswersSaid : Prop := idenAnswersRow.holds Try.pinned (OpenSpec.ofChange idenAnswersSpec)

/-- ITS FALSE NEIGHBOUR: 'it returns false'. Refute it at one input. -/
def idenAnswersWrong : ChangeSpec := { name := "idenAnswers", fn := fun _ => fun
  | [d1, d2, d3, d4] => { results := [.lit (.bool false)], args := [d1, d2, d3, d4] }
  | _ => none }
def IdenAnswersWrongFalsely : Prop := idenAnswersRow.holds Try.pinned (OpenSpec.ofChange idenAnswersWrong)

/-- 'busbarlaw5.AskBack': WHATEVER THE INPUT: true; the input reads as it did. -/
def askBackSpec : ChangeSpec := { name := "askBack", fn := fun _ => fun
  | [d1, d2, d3, d4, d5] => { results := [.lit (.bool true)], args := [d1, d2, d3, d4, d5] }
  | _ => none }
def askBackRow : OpenClaim := { program := "ytheaeddojcebjaa", sum := "77837268d98c495e9f86a342a678ba49d7896b9f8baf8a6080de079b5bdfc309", func := "busbar/busbarlaw5.AskBack", spec := "askBack", apart := false }
def AskBackSaid : Prop := askBackRow.holds Try.pinned (OpenSpec.ofChange askBackSpec)

/-- ITS FALSE NEIGHBOUR: 'it returns false'. Refute it at one input. -/
def askBackWrong : ChangeSpec := { name := "askBack", fn := fun _ => fun
  | [d1, d2, d3, d4, d5] => { results := [.lit (.bool false)], args := [d1, d2, d3, d4, d5] }
  | _ => none }
def AskBackWrongFalsely : Prop := askBackRow.holds Try.pinned (OpenSpec.ofChange askBackWrong)

/-- 'busbarlaw5.AskCuts': WHATEVER THE INPUT: true; the input reads as it did. -/
def askCutsSpec : ChangeSpec := { name := "askCuts", fn := fun _ => fun
  | [d1, d2, d3] => { results := [.lit (.bool true)], args := [d1, d2, d3] }
  | _ => none }
def askCutsRow : OpenClaim := { program := "ytheaeddojcebjaa", sum := "77837268d98c495e9f86a342a678ba49d7896b9f8baf8a6080de079b5bdfc309", func := "busbar/busbarlaw5.AskCuts", spec := "askCuts", apart := false }
def AskCutsSaid : Prop := askCutsRow.holds Try.pinned (OpenSpec.ofChange askCutsSpec)

/-- ITS FALSE NEIGHBOUR: 'it returns false'. Refute it at one input. -/
def askCutsWrong : ChangeSpec := { name := "askCuts", fn := fun _ => fun
  | [d1, d2, d3] => { results := [.lit (.bool false)], args := [d1, d2, d3] }
  | _ => none }
def AskCutsWrongFalsely : Prop := askCutsRow.holds Try.pinned (OpenSpec.ofChange askCutsWrong)

/-- 'busbarlaw5.AskFree': WHATEVER THE INPUT: true; the input reads as it did. -/
def askFreeSpec : ChangeSpec := { name := "askFree", fn := fun _ => fun
  | [d1, d2, d3] => { results := [.lit (.bool true)], args := [d1, d2, d3] }
  | _ => none }
def askFreeRow : OpenClaim := { program := "ytheaeddojcebjaa", sum := "77837268d98c495e9f86a342a678ba49d7896b9f8baf8a6080de079b5bdfc309", func := "busbar/busbarlaw5.AskFree", spec := "askFree", apart := false }
def AskFreeSaid : Prop := askFreeRow.holds Try.pinned (OpenSpec.ofChange askFreeSpec)

/-- ITS FALSE NEIGHBOUR: 'it returns false'. Refute it at one input. -/
def askFreeWrong : ChangeSpec := { name := "askFree", fn := fun _ => fun
  | [d1, d2, d3] => { results := [.lit (.bool false)], args := [d1, d2, d3] }
  | _ => none }
def AskFreeWrongFalsely : Prop := askFreeRow.holds Try.pinned (OpenSpec.ofChange askFreeWrong)

/-- 'busbarlaw5.AskBounds': WHATEVER THE INPUT: true; the input reads as it did. -/
def askBoundsSpec : ChangeSpec := { name := "askBounds", fn := fun _ => fun
  | [d1, d2, d3, d4] => { results := [.lit (.bool true)], args := [d1, d2, d3, d4] }
  | _ => none }
def askBoundsRow : OpenClaim := { program := "ytheaeddojcebjaa", sum := "77837268d98c495e9f86a342a678ba49d7896b9f8baf8a6080de079b5bdfc309", func := "busbar/busbarlaw5.AskBounds", spec := "askBounds", apart := false }
def AskBoundsSaid : Prop := askBoundsRow.holds Try.pinned (OpenSpec.ofChange askBoundsSpec)

/-- ITS FALSE NEIGHBOUR: 'it returns false'. Refute it at one input. -/
def askBoundsWrong : ChangeSpec := { name := "askBounds", fn := fun _ => fun
  | [d1, d2, d3, d4] => { results := [.lit (.bool false)], args := [d1, d2, d3, d4] }
  | _ => none }
def AskBoundsWrongFalsely : Prop := askBoundsRow.holds Try.pinned (OpenSpec.ofChange askBoundsWrong)

/-- 'busbarlaw5.AskTells': WHATEVER THE INPUT: true; the input reads as it did. -/
def askTellsSpec : ChangeSpec := { name := "askTells", fn := fun _ => fun
  | [d1, d2, d3, d4, d5] => { results := [.lit (.bool true)], args := [d1, d2, d3, d4, d5] }
  | _ => none }
def askTellsRow : OpenClaim := { program := "ytheaeddojcebjaa", sum := "77837268d98c495e9f86a342a678ba49d7896b9f8baf8a6080de079b5bdfc309", func := "busbar/busbarlaw5.AskTells", spec := "askTells", apart := false }
def AskTellsSaid : Prop := askTellsRow.holds Try.pinned (OpenSpec.ofChange askTellsSpec)

/-- ITS FALSE NEIGHBOUR: 'it returns false'. Refute it at one input. -/
def askTellsWrong : ChangeSpec := { name := "askTells", fn := fun _ => fun
  | [d1, d2, d3, d4, d5] => { results := [.lit (.bool false)], args := [d1, d2, d3, d4, d5] }
  | _ => none }
def AskTellsWrongFalsely : Prop := askTellsRow.holds Try.pinned (OpenSpec.ofChange askTellsWrong)

/-- 'busbarlaw6.TellTells': WHATEVER THE INPUT: true; the input reads as it did. -/
def tellTellsSpec : ChangeSpec := { name := "tellTells", fn := fun _ => fun
  | [d] => { results := [.lit (.bool true)], args := [d] }
  | _ => none }
def tellTellsRow : OpenClaim := { program := "ytheaeddojcebjaa", sum := "77837268d98c495e9f86a342a678ba49d7896b9f8baf8a6080de079b5bdfc309", func := "busbar/busbarlaw6.TellTells", spec := "tellTells", apart := false }
def TellTellsSaid : Prop := tellTellsRow.holds Try.pinned (OpenSpec.ofChange tellTellsSpec)

/-- ITS FALSE NEIGHBOUR: 'it returns false'. Refute it at one input. -/
def tellTellsWrong : ChangeSpec := { name := "tellTells", fn := fun _ => fun
  | [d] => { results := [.lit (.bool false)], args := [d] }
  | _ => none }
def TellTellsWrongFalsely : Prop := tellTellsRow.holds Try.pinned (OpenSpec.ofChange tellTellsWrong)

/-- 'busbarlaw6.TellReads': WHATEVER THE INPUT: true; the input reads as it did. -/
def tellReadsSpec : ChangeSpec := { name := "tellReads", fn := fun _ => fun
  | [d1, d2, d3, d4] => { results := [.lit (.bool true)], args := [d1, d2, d3, d4] }
  | _ => none }
def tellReadsRow : OpenClaim := { program := "ytheaeddojcebjaa", sum := "77837268d98c495e9f86a342a678ba49d7896b9f8baf8a6080de079b5bdfc309", func := "busbar/busbarlaw6.TellReads", spec := "tellReads", apart := false }
def TellReadsSaid : Prop := tellReadsRow.holds Try.pinned (OpenSpec.ofChange tellReadsSpec)

/-- ITS FALSE NEIGHBOUR: 'it returns false'. Refute it at one input. -/
def tellReadsWrong : ChangeSpec := { name := "tellReads", fn := fun _ => fun
  | [d1, d2, d3, d4] => { results := [.lit (.bool false)], args := [d1, d2, d3, d4] }
  | _ => none }
def TellReadsWrongFalsely : Prop := tellReadsRow.holds Try.pinned (OpenSpec.ofChange tellReadsWrong)

/-- 'busbarlaw6.TellBack': WHATEVER THE INPUT: true; the input reads as it did. -/
def tellBackSpec : ChangeSpec := { name := "tellBack", fn := fun _ => fun
  | [d1, d2, d3, d4, d5, d6, d7] => { results := [.lit (.bool true)], args := [d1, d2, d3, d4, d5, d6, d7] }
  | _ => none }
def tellBackRow : OpenClaim := { program := "ytheaeddojcebjaa", sum := "77837268d98c495e9f86a342a678ba49d7896b9f8baf8a6080de079b5bdfc309", func := "busbar/busbarlaw6.TellBack", spec := "tellBack", apart := false }
def TellBackSaid : Prop := tellBackRow.holds Try.pinned (OpenSpec.ofChange tellBackSpec)

/-- ITS FALSE NEIGHBOUR: 'it returns false'. Refute it at one input. -/
def tellBackWrong : ChangeSpec := { name := "tellBack", fn := fun _ => fun
  | [d1, d2, d3, d4, d5, d6, d7] => { results := [.lit (.bool false)], args := [d1, d2, d3, d4, d5, d6, d7] }
  | _ => none }
def TellBackWrongFalsely : Prop := tellBackRow.holds Try.pinned (OpenSpec.ofChange tellBackWrong)

/-- 'busbarlaw6.TellFails': WHATEVER THE INPUT: true; the input reads as it did. -/
def tellFailsSpec : ChangeSpec := { name := "tellFails", fn := fun _ => fun
  | [d1, d2, d3] => { results := [.lit (.bool true)], args := [d1, d2, d3] }
  | _ => none }
def tellFailsRow : OpenClaim := { program := "ytheaeddojcebjaa", sum := "77837268d98c495e9f86a342a678ba49d7896b9f8baf8a6080de079b5bdfc309", func := "busbar/busbarlaw6.TellFails", spec := "tellFails", apart := false }
def TellFailsSaid : Prop := tellFailsRow.holds Try.pinned (OpenSpec.ofChange tellFailsSpec)

/-- ITS FALSE NEIGHBOUR: 'it returns false'. Refute it at one input. -/
def tellFailsWrong : ChangeSpec := { name := "tellFails", fn := fun _ => fun
  | [d1, d2, d3] => { results := [.lit (.bool false)], args := [d1, d2, d3] }
  | _ => none }
def TellFailsWrongFalsely : Prop := tellFailsRow.holds Try.pinned (OpenSpec.ofChange tellFailsWrong)

/-- 'busbarlaw6.TellFits': WHATEVER THE INPUT: true; the input reads as it did. -/
def tellFitsSpec : ChangeSpec := { name := "tellFits", fn := fun _ => fun
  | [d1, d2, d3] => { results := [.lit (.bool true)], args := [d1, d2, d3] }
  | _ => none }
def tellFitsRow : OpenClaim := { program := "ytheaeddojcebjaa", sum := "77837268d98c495e9f86a342a678ba49d7896b9f8baf8a6080de079b5bdfc309", func := "busbar/busbarlaw6.TellFits", spec := "tellFits", apart := false }
def TellFitsSaid : Prop := tellFitsRow.holds Try.pinned (OpenSpec.ofChange tellFitsSpec)

/-- ITS FALSE NEIGHBOUR: 'it returns false'. Refute it at one input. -/
def tellFitsWrong : ChangeSpec := { name := "tellFits", fn := fun _ => fun
  | [d1, d2, d3] => { results := [.lit (.bool false)], args := [d1, d2, d3] }
  | _ => none }
def TellFitsWrongFalsely : Prop := tellFitsRow.holds Try.pinned (OpenSpec.ofChange tellFitsWrong)

/-- 'busbarlaw6.TellEchoes': WHATEVER THE INPUT: true; the input reads as it did. -/
def tellEchoesSpec : ChangeSpec := { name := "tellEchoes", fn := fun _ => fun
  | [d1, d2, d3] => { results := [.lit (.bool true)], args := [d1, d2, d3] }
  | _ => none }
def tellEchoesRow : OpenClaim := { program := "ytheaeddojcebjaa", sum := "77837268d98c495e9f86a342a678ba49d7896b9f8baf8a6080de079b5bdfc309", func := "busbar/busbarlaw6.TellEchoes", spec := "tellEchoes", apart := false }
def TellEchoesSaid : Prop := tellEchoesRow.holds Try.pinned (OpenSpec.ofChange tellEchoesSpec)

/-- ITS FALSE NEIGHBOUR: 'it returns false'. Refute it at one input. -/
def tellEchoesWrong : ChangeSpec := { name := "tellEchoes", fn := fun _ => fun
  | [d1, d2, d3] => { results := [.lit (.bool false)], args := [d1, d2, d3] }
  | _ => none }
def TellEchoesWrongFalsely : Prop := tellEchoesRow.holds Try.pinned (OpenSpec.ofChange tellEchoesWrong)

/- THE SECOND FORM. 'bulk': how many values and letters a reading holds, each counted each time it is reached (what is shared counts as often as it is met; a slice's spare places count too). A statement '..UptoSaid' is the law's where the arguments, and the package variables that the reading takes, are together of bulk at most 1048576: NARROWER than '..Said'. Prove '..Said' where nothing that the law and all that it calls make is longer than what came in: it says more and counts as full. Else prove '..UptoSaid'. A law counts once. -/
mutual
def uptoBulk {H : Type} : DataW H → Nat
  | .lit (.string bytes) => bytes.length + 1
  | .lit _ => 1
  | .nil => 1
  | .ptr d => uptoBulk d + 1
  | .slice elems spare => uptoBulkAll elems + uptoBulkAll spare + 1
  | .agg parts => uptoBulkAll parts + 1
  | .iface _ d => uptoBulk d + 1
  | .map entries => uptoBulkEntries entries + 1
  | .held _ => 1
def uptoBulkAll {H : Type} : List (DataW H) → Nat
  | [] => 0
  | d :: r => uptoBulk d + uptoBulkAll r
def uptoBulkEntries {H : Type} : List (Lit × DataW H) → Nat
  | [] => 0
  | x :: r => uptoBulkEntry x + uptoBulkEntries r
def uptoBulkEntry {H : Type} : Lit × DataW H → Nat
  | (.string bytes, d) => bytes.length + uptoBulk d + 1
  | (_, d) => uptoBulk d + 1
 end
def uptoSmall : (H : Type) → List (DataW H) → Bool := fun _ ds => decide (uptoBulkAll ds ≤ 1048576)
def OpenSpec.upto (s : _root_.Go.ChangeSpec) : _root_.Go.OpenSpec := { _root_.Go.OpenSpec.ofChange s with cond := some uptoSmall }

/-- 'busbarlaw7.IdenWalks', WHERE WHAT IT READS IS OF BULK AT MOST 1048576: true; the input reads as it did. -/
def idenWalksUptoRow : OpenClaim := { program := "ytheaeddojcebjaa", sum := "77837268d98c495e9f86a342a678ba49d7896b9f8baf8a6080de079b5bdfc309", func := "busbar/busbarlaw7.IdenWalks", spec := "idenWalks", unfollowed := true, recurses := true, apart := false, narrowed := true }
def IdenWalksUptoSaid : Prop := idenWalksUptoRow.holds Try.pinned (OpenSpec.upto idenWalksSpec)

/-- 'busbarlaw7.IdenAlone', WHERE WHAT IT READS IS OF BULK AT MOST 1048576: true; the input reads as it did. -/
def idenAloneUptoRow : OpenClaim := { program := "ytheaeddojcebjaa", sum := "77837268d98c495e9f86a342a678ba49d7896b9f8baf8a6080de079b5bdfc309", func := "busbar/busbarlaw7.IdenAlone", spec := "idenAlone", unfollowed := true, recurses := true, apart := false, narrowed := true }
def IdenAloneUptoSaid : Prop := idenAloneUptoRow.holds Try.pinned (OpenSpec.upto idenAloneSpec)

/-- 'busbarlaw7.IdenChecks', WHERE WHAT IT READS IS OF BULK AT MOST 1048576: true; the input reads as it did. -/
def idenChecksUptoRow : OpenClaim := { program := "ytheaeddojcebjaa", sum := "77837268d98c495e9f86a342a678ba49d7896b9f8baf8a6080de079b5bdfc309", func := "busbar/busbarlaw7.IdenChecks", spec := "idenChecks", unfollowed := true, recurses := true, apart := false, narrowed := true }
def IdenChecksUptoSaid : Prop := idenChecksUptoRow.holds Try.pinned (OpenSpec.upto idenChecksSpec)

/-- 'busbarlaw5.AskReads', WHERE WHAT IT READS IS OF BULK AT MOST 1048576: true; the input reads as it did. -/
def askReadsUptoRow : OpenClaim := { program := "ytheaeddojcebjaa", sum := "77837268d98c495e9f86a342a678ba49d7896b9f8baf8a6080de079b5bdfc309", func := "busbar/busbarlaw5.AskReads", spec := "askReads", apart := false, narrowed := true }
def AskReadsUptoSaid : Prop := askReadsUptoRow.holds Try.pinned (OpenSpec.upto askReadsSpec)

/-- 'busbarlaw5.AskNames', WHERE WHAT IT READS IS OF BULK AT MOST 1048576: true; the input reads as it did. -/
def askNamesUptoRow : OpenClaim := { program := "ytheaeddojcebjaa", sum := "77837268d98c495e9f86a342a678ba49d7896b9f8baf8a6080de079b5bdfc309", func := "busbar/busbarlaw5.AskNames", spec := "askNames", apart := false, narrowed := true }
def AskNamesUptoSaid : Prop := askNamesUptoRow.holds Try.pinned (OpenSpec.upto askNamesSpec)

/-- 'busbarlaw7.IdenAnswers', WHERE WHAT IT READS IS OF BULK AT MOST 1048576: true; the input reads as it did. -/
def idenAnswersUptoRow : OpenClaim := { program := "ytheaeddojcebjaa", sum := "77837268d98c495e9f86a342a678ba49d7896b9f8baf8a6080de079b5bdfc309", func := "busbar/busbarlaw7.IdenAnswers", spec := "idenAnswers", unfollowed := true, recurses := true, apart := false, narrowed := true }
def IdenAnswersUptoSaid : Prop := idenAnswersUptoRow.holds Try.pinned (OpenSpec.upto idenAnswersSpec)

/-- 'busbarlaw5.AskBack', WHERE WHAT IT READS IS OF BULK AT MOST 1048576: true; the input reads as it did. -/
def askBackUptoRow : OpenClaim := { program := "ytheaeddojcebjaa", sum := "77837268d98c495e9f86a342a678ba49d7896b9f8baf8a6080de079b5bdfc309", func := "busbar/busbarlaw5.AskBack", spec := "askBack", apart := false, narrowed := true }
def AskBackUptoSaid : Prop := askBackUptoRow.holds Try.pinned (OpenSpec.upto askBackSpec)

/-- 'busbarlaw5.AskCuts', WHERE WHAT IT READS IS OF BULK AT MOST 1048576: true; the input reads as it did. -/
def askCutsUptoRow : OpenClaim := { program := "ytheaeddojcebjaa", sum := "77837268d98c495e9f86a342a678ba49d7896b9f8baf8a6080de079b5bdfc309", func := "busbar/busbarlaw5.AskCuts", spec := "askCuts", apart := false, narrowed := true }
def AskCutsUptoSaid : Prop := askCutsUptoRow.holds Try.pinned (OpenSpec.upto askCutsSpec)

/-- 'busbarlaw5.AskFree', WHERE WHAT IT READS IS OF BULK AT MOST 1048576: true; the input reads as it did. -/
def askFreeUptoRow : OpenClaim := { program := "ytheaeddojcebjaa", sum := "77837268d98c495e9f86a342a678ba49d7896b9f8baf8a6080de079b5bdfc309", func := "busbar/busbarlaw5.AskFree", spec := "askFree", apart := false, narrowed := true }
def AskFreeUptoSaid : Prop := askFreeUptoRow.holds Try.pinned (OpenSpec.upto askFreeSpec)

/-- 'busbarlaw5.AskBounds', WHERE WHAT IT READS IS OF BULK AT MOST 1048576: true; the input reads as it did. -/
def askBoundsUptoRow : OpenClaim := { program := "ytheaeddojcebjaa", sum := "77837268d98c495e9f86a342a678ba49d7896b9f8baf8a6080de079b5bdfc309", func := "busbar/busbarlaw5.AskBounds", spec := "askBounds", apart := false, narrowed := true }
def AskBoundsUptoSaid : Prop := askBoundsUptoRow.holds Try.pinned (OpenSpec.upto askBoundsSpec)

/-- 'busbarlaw5.AskTells', WHERE WHAT IT READS IS OF BULK AT MOST 1048576: true; the input reads as it did. -/
def askTellsUptoRow : OpenClaim := { program := "ytheaeddojcebjaa", sum := "77837268d98c495e9f86a342a678ba49d7896b9f8baf8a6080de079b5bdfc309", func := "busbar/busbarlaw5.AskTells", spec := "askTells", apart := false, narrowed := true }
def AskTellsUptoSaid : Prop := askTellsUptoRow.holds Try.pinned (OpenSpec.upto askTellsSpec)

/-- 'busbarlaw6.TellTells', WHERE WHAT IT READS IS OF BULK AT MOST 1048576: true; the input reads as it did. -/
def tellTellsUptoRow : OpenClaim := { program := "ytheaeddojcebjaa", sum := "77837268d98c495e9f86a342a678ba49d7896b9f8baf8a6080de079b5bdfc309", func := "busbar/busbarlaw6.TellTells", spec := "tellTells", apart := false, narrowed := true }
def TellTellsUptoSaid : Prop := tellTellsUptoRow.holds Try.pinned (OpenSpec.upto tellTellsSpec)

/-- 'busbarlaw6.TellReads', WHERE WHAT IT READS IS OF BULK AT MOST 1048576: true; the input reads as it did. -/
def tellReadsUptoRow : OpenClaim := { program := "ytheaeddojcebjaa", sum := "77837268d98c495e9f86a342a678ba49d7896b9f8baf8a6080de079b5bdfc309", func := "busbar/busbarlaw6.TellReads", spec := "tellReads", apart := false, narrowed := true }
def TellReadsUptoSaid : Prop := tellReadsUptoRow.holds Try.pinned (OpenSpec.upto tellReadsSpec)

/-- 'busbarlaw6.TellBack', WHERE WHAT IT READS IS OF BULK AT MOST 1048576: true; the input reads as it did. -/
def tellBackUptoRow : OpenClaim := { program := "ytheaeddojcebjaa", sum := "77837268d98c495e9f86a342a678ba49d7896b9f8baf8a6080de079b5bdfc309", func := "busbar/busbarlaw6.TellBack", spec := "tellBack", apart := false, narrowed := true }
def TellBackUptoSaid : Prop := tellBackUptoRow.holds Try.pinned (OpenSpec.upto tellBackSpec)

/-- 'busbarlaw6.TellFails', WHERE WHAT IT READS IS OF BULK AT MOST 1048576: true; the input reads as it did. -/
def tellFailsUptoRow : OpenClaim := { program := "ytheaeddojcebjaa", sum := "77837268d98c495e9f86a342a678ba49d7896b9f8baf8a6080de079b5bdfc309", func := "busbar/busbarlaw6.TellFails", spec := "tellFails", apart := false, narrowed := true }
def TellFailsUptoSaid : Prop := tellFailsUptoRow.holds Try.pinned (OpenSpec.upto tellFailsSpec)

/-- 'busbarlaw6.TellFits', WHERE WHAT IT READS IS OF BULK AT MOST 1048576: true; the input reads as it did. -/
def tellFitsUptoRow : OpenClaim := { program := "ytheaeddojcebjaa", sum := "77837268d98c495e9f86a342a678ba49d7896b9f8baf8a6080de079b5bdfc309", func := "busbar/busbarlaw6.TellFits", spec := "tellFits", apart := false, narrowed := true }
def TellFitsUptoSaid : Prop := tellFitsUptoRow.holds Try.pinned (OpenSpec.upto tellFitsSpec)

/-- 'busbarlaw6.TellEchoes', WHERE WHAT IT READS IS OF BULK AT MOST 1048576: true; the input reads as it did. -/
def tellEchoesUptoRow : OpenClaim := { program := "ytheaeddojcebjaa", sum := "77837268d98c495e9f86a342a678ba49d7896b9f8baf8a6080de079b5bdfc309", func := "busbar/busbarlaw6.TellEchoes", spec := "tellEchoes", apart := false, narrowed := true }
def TellEchoesUptoSaid : Prop := tellEchoesUptoRow.holds Try.pinned (OpenSpec.upto tellEchoesSpec)

end Rows
end Go.Proofs.Ytheaeddojcebjaa
