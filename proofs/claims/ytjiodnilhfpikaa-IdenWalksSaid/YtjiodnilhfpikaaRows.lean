/-
  No cell of these rows narrows 'for every input' (looked for: loops, veiled, ifaces, maps, wideKeys, modest, calm, conditions, laid).
  DERIVED. THE GIVEN ROWS OF THIS SEAT. 4 by the template 'for every input the law returns true; each argument reads behind the call as it read before'; 0 by the template 'total and deterministic' (their statements: YtjiodnilhfpikaaTotals.lean).
  GIVEN WITH THE SEED: the statements are not yours to turn. If you find one false, say at which input.
  Laid BY PROGRAM, IN A SANDBOX (cutbox-rows.mjs): the forced cells as the released guide's own fill.sh prints them over the translation 97dee06c4621d70b… (all of the seat's roots in one cut). By AI agents, Wed Nov 11 2026. No macro, syntax, notation, axiom, sorry.
-/
import Derived.Test.YtjiodnilhfpikaaChecked
import GoSem.Claim
import GoSem.ClaimJoined
import GoSem.ClaimMapViews
import Derived.JoinedTies
import Derived.KernelRfl
namespace Go.Proofs.Ytjiodnilhfpikaa
/- THE CELL 'sum', in the pinned program and in every row, IS THE sha256 OF THE DUMP (.gsa) THAT YtjiodnilhfpikaaProg.lean LOADS. Nothing in Lean hashes anything: it is a label: what it is worth is what the hold of that sum in a sandbox is worth. -/
noncomputable def Try.pinned : Pinned := { name := "ytjiodnilhfpikaa", sum := "97dee06c4621d70b8774086708cf510408c471b48841d3c8abe79917116e6e97", checked := Try.checked }
namespace Rows
def none {H : Type} : Left H := { results := [], args := [] }

/-- 'busbarlaw7.IdenWalks': WHATEVER THE INPUT: true; the input reads as it did. -/
def idenWalksSpec : ChangeSpec := { name := "idenWalks", fn := fun _ => fun
  | [d1, d2] => { results := [.lit (.bool true)], args := [d1, d2] }
  | _ => none }
def idenWalksRow : OpenClaim := { program := "ytjiodnilhfpikaa", sum := "97dee06c4621d70b8774086708cf510408c471b48841d3c8abe79917116e6e97", func := "busbar/busbarlaw7.IdenWalks", spec := "idenWalks", unfollowed := true, recurses := true, apart := false }
def IdenWalksSaid : Prop := idenWalksRow.holds Try.pinned (OpenSpec.ofChange idenWalksSpec)

/-- ITS FALSE NEIGHBOUR: 'it returns false'. Refute it at one input. -/
def idenWalksWrong : ChangeSpec := { name := "idenWalks", fn := fun _ => fun
  | [d1, d2] => { results := [.lit (.bool false)], args := [d1, d2] }
  | _ => none }
def IdenWalksWrongFalsely : Prop := idenWalksRow.holds Try.pinned (OpenSpec.ofChange idenWalksWrong)

/-- 'busbarlaw7.IdenAlone': WHATEVER THE INPUT: true; the input reads as it did. -/
def idenAloneSpec : ChangeSpec := { name := "idenAlone", fn := fun _ => fun
  | [d1, d2] => { results := [.lit (.bool true)], args := [d1, d2] }
  | _ => none }
def idenAloneRow : OpenClaim := { program := "ytjiodnilhfpikaa", sum := "97dee06c4621d70b8774086708cf510408c471b48841d3c8abe79917116e6e97", func := "busbar/busbarlaw7.IdenAlone", spec := "idenAlone", unfollowed := true, recurses := true, apart := false }
def IdenAloneSaid : Prop := idenAloneRow.holds Try.pinned (OpenSpec.ofChange idenAloneSpec)

/-- ITS FALSE NEIGHBOUR: 'it returns false'. Refute it at one input. -/
def idenAloneWrong : ChangeSpec := { name := "idenAlone", fn := fun _ => fun
  | [d1, d2] => { results := [.lit (.bool false)], args := [d1, d2] }
  | _ => none }
def IdenAloneWrongFalsely : Prop := idenAloneRow.holds Try.pinned (OpenSpec.ofChange idenAloneWrong)

/-- 'busbarlaw7.IdenChecks': WHATEVER THE INPUT: true; the input reads as it did. -/
def idenChecksSpec : ChangeSpec := { name := "idenChecks", fn := fun _ => fun
  | [d1, d2, d3, d4] => { results := [.lit (.bool true)], args := [d1, d2, d3, d4] }
  | _ => none }
def idenChecksRow : OpenClaim := { program := "ytjiodnilhfpikaa", sum := "97dee06c4621d70b8774086708cf510408c471b48841d3c8abe79917116e6e97", func := "busbar/busbarlaw7.IdenChecks", spec := "idenChecks", unfollowed := true, recurses := true, apart := false }
def IdenChecksSaid : Prop := idenChecksRow.holds Try.pinned (OpenSpec.ofChange idenChecksSpec)

/-- ITS FALSE NEIGHBOUR: 'it returns false'. Refute it at one input. -/
def idenChecksWrong : ChangeSpec := { name := "idenChecks", fn := fun _ => fun
  | [d1, d2, d3, d4] => { results := [.lit (.bool false)], args := [d1, d2, d3, d4] }
  | _ => none }
def IdenChecksWrongFalsely : Prop := idenChecksRow.holds Try.pinned (OpenSpec.ofChange idenChecksWrong)

/-- 'busbarlaw7.IdenAnswers': WHATEVER THE INPUT: true; the input reads as it did. -/
def idenAnswersSpec : ChangeSpec := { name := "idenAnswers", fn := fun _ => fun
  | [d1, d2, d3, d4] => { results := [.lit (.bool true)], args := [d1, d2, d3, d4] }
  | _ => none }
def idenAnswersRow : OpenClaim := { program := "ytjiodnilhfpikaa", sum := "97dee06c4621d70b8774086708cf510408c471b48841d3c8abe79917116e6e97", func := "busbar/busbarlaw7.IdenAnswers", spec := "idenAnswers", unfollowed := true, recurses := true, apart := false }
def IdenAnswersSaid : Prop := idenAnswersRow.holds Try.pinned (OpenSpec.ofChange idenAnswersSpec)

/-- ITS FALSE NEIGHBOUR: 'it returns false'. Refute it at one input. -/
def idenAnswersWrong : ChangeSpec := { name := "idenAnswers", fn := fun _ => fun
  | [d1, d2, d3, d4] => { results := [.lit (.bool false)], args := [d1, d2, d3, d4] }
  | _ => none }
def IdenAnswersWrongFalsely : Prop := idenAnswersRow.holds Try.pinned (OpenSpec.ofChange idenAnswersWrong)

/- THE SECOND FORM. 'bulk': how many values and letters a reading holds, each counted each time it is reached (what is shared counts as often as it is met; a slice's spare places count too). A statement '..UptoSaid' is the law's where the arguments, and the package variables that the reading takes, are together of bulk at most 1048576: NARROWER than '..Said'. Prove '..Said' where nothing that the law and all that it calls make is longer than what came in: it says more and counts as full. Else prove '..UptoSaid'. A law counts once. -/
mutual
def uptoBulk {H : Type} : DataW H → Nat
  | .lit (.string bytes) => bytes.length + 1
  | .lit _ => 1
  | .nil => 1
  | .ptr d => uptoBulk d + 1
  | .slice elems spare => uptoBulkAll elems + uptoBulkAll spare + 1
  | .agg parts => uptoBulkAll parts + 1
  | .iface _ d => uptoBulk d + 1
  | .map entries => uptoBulkEntries entries + 1
  | .held _ => 1
def uptoBulkAll {H : Type} : List (DataW H) → Nat
  | [] => 0
  | d :: r => uptoBulk d + uptoBulkAll r
def uptoBulkEntries {H : Type} : List (Lit × DataW H) → Nat
  | [] => 0
  | x :: r => uptoBulkEntry x + uptoBulkEntries r
def uptoBulkEntry {H : Type} : Lit × DataW H → Nat
  | (.string bytes, d) => bytes.length + uptoBulk d + 1
  | (_, d) => uptoBulk d + 1
 end
def uptoSmall : (H : Type) → List (DataW H) → Bool := fun _ ds => decide (uptoBulkAll ds ≤ 1048576)
def OpenSpec.upto (s : _root_.Go.ChangeSpec) : _root_.Go.OpenSpec := { _root_.Go.OpenSpec.ofChange s with cond := some uptoSmall }

/-- 'busbarlaw7.IdenWalks', WHERE WHAT IT READS IS OF BULK AT MOST 1048576: true; the input reads as it did. -/
def idenWalksUptoRow : OpenClaim := { program := "ytjiodnilhfpikaa", sum := "97dee06c4621d70b8774086708cf510408c471b48841d3c8abe79917116e6e97", func := "busbar/busbarlaw7.IdenWalks", spec := "idenWalks", unfollowed := true, recurses := true, apart := false, narrowed := true }
def IdenWalksUptoSaid : Prop := idenWalksUptoRow.holds Try.pinned (OpenSpec.upto idenWalksSpec)

/-- 'busbarlaw7.IdenAlone', WHERE WHAT IT READS IS OF BULK AT MOST 1048576: true; the input reads as it did. -/
def idenAloneUptoRow : OpenClaim := { program := "ytjiodnilhfpikaa", sum := "97dee06c4621d70b8774086708cf510408c471b48841d3c8abe79917116e6e97", func := "busbar/busbarlaw7.IdenAlone", spec := "idenAlone", unfollowed := true, recurses := true, apart := false, narrowed := true }
def IdenAloneUptoSaid : Prop := idenAloneUptoRow.holds Try.pinned (OpenSpec.upto idenAloneSpec)

/-- 'busbarlaw7.IdenChecks', WHERE WHAT IT READS IS OF BULK AT MOST 1048576: true; the input reads as it did. -/
def idenChecksUptoRow : OpenClaim := { program := "ytjiodnilhfpikaa", sum := "97dee06c4621d70b8774086708cf510408c471b48841d3c8abe79917116e6e97", func := "busbar/busbarlaw7.IdenChecks", spec := "idenChecks", unfollowed := true, recurses := true, apart := false, narrowed := true }
def IdenChecksUptoSaid : Prop := idenChecksUptoRow.holds Try.pinned (OpenSpec.upto idenChecksSpec)

/-- 'busbarlaw7.IdenAnswers', WHERE WHAT IT READS IS OF BULK AT MOST 1048576: true; the input reads as it did. -/
def idenAnswersUptoRow : OpenClaim := { program := "ytjiodnilhfpikaa", sum := "97dee06c4621d70b8774086708cf510408c471b48841d3c8abe79917116e6e97", func := "busbar/busbarlaw7.IdenAnswers", spec := "idenAnswers", unfollowed := true, recurses := true, apart := false, narrowed := true }
def IdenAnswersUptoSaid : Prop := idenAnswersUptoRow.holds Try.pinned (OpenSpec.upto idenAnswersSpec)

end Rows
end Go.Proofs.Ytjiodnilhfpikaa
