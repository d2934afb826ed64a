/-
  No cell of these rows narrows 'for every input' (looked for: loops, veiled, ifaces, maps, wideKeys, modest, calm, conditions, laid).
  DERIVED. THE GIVEN ROWS OF THIS SEAT. 8 by the template 'for every input the law returns true; each argument reads behind the call as it read before'; 0 by the template 'total and deterministic' (their statements: YthddlkhfkncgpaaGreatTotals.lean).
  GIVEN WITH THE SEED: the statements are not yours to turn. If you find one false, say at which input.
  Laid BY PROGRAM, IN A SANDBOX (cutbox-rows.mjs): the forced cells as the released guide's own fill.sh prints them over the translation 7ab3239d12e85efe… (all of the seat's roots in one cut). By AI agents, Wed Nov 11 2026. No macro, syntax, notation, axiom, sorry.
-/
import Derived.Test.YthddlkhfkncgpaaGreatChecked
import GoSem.Claim
import GoSem.ClaimJoined
import GoSem.ClaimMapViews
import Derived.JoinedTies
import Derived.KernelRfl
namespace Go.Proofs.YthddlkhfkncgpaaGreat
/- THE CELL 'sum', in the pinned program and in every row, IS THE sha256 OF THE DUMP (.gsa) THAT YthddlkhfkncgpaaGreatProg.lean LOADS. Nothing in Lean hashes anything: it is a label: what it is worth is what the hold of that sum in a sandbox is worth. -/
noncomputable def Tryz.pinned : Pinned := { name := "ythddlkhfkncgpaagreat", sum := "7ab3239d12e85efe07e674d60c803def364676d57c6caa8571cc45c8e58ce0d6", checked := Tryz.checked }
namespace Rows
def none {H : Type} : Left H := { results := [], args := [] }

/-- 'busbarlaw25.ExecCells': WHATEVER THE INPUT: true; the input reads as it did. -/
def execCellsSpec : ChangeSpec := { name := "execCells", fn := fun _ => fun
  | [d1, d2, d3, d4, d5, d6] => { results := [.lit (.bool true)], args := [d1, d2, d3, d4, d5, d6] }
  | _ => none }
def execCellsRow : OpenClaim := { program := "ythddlkhfkncgpaagreat", sum := "7ab3239d12e85efe07e674d60c803def364676d57c6caa8571cc45c8e58ce0d6", func := "busbar/busbarlaw25.ExecCells", spec := "execCells", unfollowed := true, recurses := true, plainKeys := false, apart := false }
def ExecCellsSaid : Prop := execCellsRow.holds Tryz.pinned (OpenSpec.ofChange execCellsSpec)

/-- ITS FALSE NEIGHBOUR: 'it returns false'. Refute it at one input. -/
def execCellsWrong : ChangeSpec := { name := "execCells", fn := fun _ => fun
  | [d1, d2, d3, d4, d5, d6] => { results := [.lit (.bool false)], args := [d1, d2, d3, d4, d5, d6] }
  | _ => none }
def ExecCellsWrongFalsely : Prop := execCellsRow.holds Tryz.pinned (OpenSpec.ofChange execCellsWrong)

/-- 'busbarlaw25.ExecOrders': WHATEVER THE INPUT: true; the input reads as it did. -/
def execOrdersSpec : ChangeSpec := { name := "execOrders", fn := fun _ => fun
  | [d] => { results := [.lit (.bool true)], args := [d] }
  | _ => none }
def execOrdersRow : OpenClaim := { program := "ythddlkhfkncgpaagreat", sum := "7ab3239d12e85efe07e674d60c803def364676d57c6caa8571cc45c8e58ce0d6", func := "busbar/busbarlaw25.ExecOrders", spec := "execOrders", unfollowed := true, recurses := true, plainKeys := false, apart := false }
def ExecOrdersSaid : Prop := execOrdersRow.holds Tryz.pinned (OpenSpec.ofChange execOrdersSpec)

/-- ITS FALSE NEIGHBOUR: 'it returns false'. Refute it at one input. -/
def execOrdersWrong : ChangeSpec := { name := "execOrders", fn := fun _ => fun
  | [d] => { results := [.lit (.bool false)], args := [d] }
  | _ => none }
def ExecOrdersWrongFalsely : Prop := execOrdersRow.holds Tryz.pinned (OpenSpec.ofChange execOrdersWrong)

/-- 'busbarlaw25.ExecRefuses': WHATEVER THE INPUT: true; the input reads as it did. -/
def execRefusesSpec : ChangeSpec := { name := "execRefuses", fn := fun _ => fun
  | [d1, d2, d3, d4, d5] => { results := [.lit (.bool true)], args := [d1, d2, d3, d4, d5] }
  | _ => none }
def execRefusesRow : OpenClaim := { program := "ythddlkhfkncgpaagreat", sum := "7ab3239d12e85efe07e674d60c803def364676d57c6caa8571cc45c8e58ce0d6", func := "busbar/busbarlaw25.ExecRefuses", spec := "execRefuses", unfollowed := true, recurses := true, plainKeys := false, apart := false }
def ExecRefusesSaid : Prop := execRefusesRow.holds Tryz.pinned (OpenSpec.ofChange execRefusesSpec)

/-- ITS FALSE NEIGHBOUR: 'it returns false'. Refute it at one input. -/
def execRefusesWrong : ChangeSpec := { name := "execRefuses", fn := fun _ => fun
  | [d1, d2, d3, d4, d5] => { results := [.lit (.bool false)], args := [d1, d2, d3, d4, d5] }
  | _ => none }
def ExecRefusesWrongFalsely : Prop := execRefusesRow.holds Tryz.pinned (OpenSpec.ofChange execRefusesWrong)

/-- 'busbarlaw25.ExecIdentifies': WHATEVER THE INPUT: true; the input reads as it did. -/
def execIdentifiesSpec : ChangeSpec := { name := "execIdentifies", fn := fun _ => fun
  | [d1, d2, d3, d4, d5] => { results := [.lit (.bool true)], args := [d1, d2, d3, d4, d5] }
  | _ => none }
def execIdentifiesRow : OpenClaim := { program := "ythddlkhfkncgpaagreat", sum := "7ab3239d12e85efe07e674d60c803def364676d57c6caa8571cc45c8e58ce0d6", func := "busbar/busbarlaw25.ExecIdentifies", spec := "execIdentifies", unfollowed := true, recurses := true, plainKeys := false, apart := false }
def ExecIdentifiesSaid : Prop := execIdentifiesRow.holds Tryz.pinned (OpenSpec.ofChange execIdentifiesSpec)

/-- ITS FALSE NEIGHBOUR: 'it returns false'. Refute it at one input. -/
def execIdentifiesWrong : ChangeSpec := { name := "execIdentifies", fn := fun _ => fun
  | [d1, d2, d3, d4, d5] => { results := [.lit (.bool false)], args := [d1, d2, d3, d4, d5] }
  | _ => none }
def ExecIdentifiesWrongFalsely : Prop := execIdentifiesRow.holds Tryz.pinned (OpenSpec.ofChange execIdentifiesWrong)

/-- 'busbarlaw25.ExecWindow': WHATEVER THE INPUT: true; the input reads as it did. -/
def execWindowSpec : ChangeSpec := { name := "execWindow", fn := fun _ => fun
  | [d1, d2, d3] => { results := [.lit (.bool true)], args := [d1, d2, d3] }
  | _ => none }
def execWindowRow : OpenClaim := { program := "ythddlkhfkncgpaagreat", sum := "7ab3239d12e85efe07e674d60c803def364676d57c6caa8571cc45c8e58ce0d6", func := "busbar/busbarlaw25.ExecWindow", spec := "execWindow", unfollowed := true, recurses := true, plainKeys := false, apart := false }
def ExecWindowSaid : Prop := execWindowRow.holds Tryz.pinned (OpenSpec.ofChange execWindowSpec)

/-- ITS FALSE NEIGHBOUR: 'it returns false'. Refute it at one input. -/
def execWindowWrong : ChangeSpec := { name := "execWindow", fn := fun _ => fun
  | [d1, d2, d3] => { results := [.lit (.bool false)], args := [d1, d2, d3] }
  | _ => none }
def ExecWindowWrongFalsely : Prop := execWindowRow.holds Tryz.pinned (OpenSpec.ofChange execWindowWrong)

/-- 'busbarlaw25.ExecPlays': WHATEVER THE INPUT: true; the input reads as it did. -/
def execPlaysSpec : ChangeSpec := { name := "execPlays", fn := fun _ => fun
  | [d1, d2, d3, d4] => { results := [.lit (.bool true)], args := [d1, d2, d3, d4] }
  | _ => none }
def execPlaysRow : OpenClaim := { program := "ythddlkhfkncgpaagreat", sum := "7ab3239d12e85efe07e674d60c803def364676d57c6caa8571cc45c8e58ce0d6", func := "busbar/busbarlaw25.ExecPlays", spec := "execPlays", unfollowed := true, recurses := true, plainKeys := false, apart := false }
def ExecPlaysSaid : Prop := execPlaysRow.holds Tryz.pinned (OpenSpec.ofChange execPlaysSpec)

/-- ITS FALSE NEIGHBOUR: 'it returns false'. Refute it at one input. -/
def execPlaysWrong : ChangeSpec := { name := "execPlays", fn := fun _ => fun
  | [d1, d2, d3, d4] => { results := [.lit (.bool false)], args := [d1, d2, d3, d4] }
  | _ => none }
def ExecPlaysWrongFalsely : Prop := execPlaysRow.holds Tryz.pinned (OpenSpec.ofChange execPlaysWrong)

/-- 'busbarlaw25.ExecReads': WHATEVER THE INPUT: true; the input reads as it did. -/
def execReadsSpec : ChangeSpec := { name := "execReads", fn := fun _ => fun
  | [d1, d2] => { results := [.lit (.bool true)], args := [d1, d2] }
  | _ => none }
def execReadsRow : OpenClaim := { program := "ythddlkhfkncgpaagreat", sum := "7ab3239d12e85efe07e674d60c803def364676d57c6caa8571cc45c8e58ce0d6", func := "busbar/busbarlaw25.ExecReads", spec := "execReads", unfollowed := true, recurses := true, plainKeys := false, apart := false }
def ExecReadsSaid : Prop := execReadsRow.holds Tryz.pinned (OpenSpec.ofChange execReadsSpec)

/-- ITS FALSE NEIGHBOUR: 'it returns false'. Refute it at one input. -/
def execReadsWrong : ChangeSpec := { name := "execReads", fn := fun _ => fun
  | [d1, d2] => { results := [.lit (.bool false)], args := [d1, d2] }
  | _ => none }
def ExecReadsWrongFalsely : Prop := execReadsRow.holds Tryz.pinned (OpenSpec.ofChange execReadsWrong)

/-- 'busbarlaw25.ExecBytes': WHATEVER THE INPUT: true; the input reads as it did. -/
def execBytesSpec : ChangeSpec := { name := "execBytes", fn := fun _ => fun
  | [d1, d2, d3] => { results := [.lit (.bool true)], args := [d1, d2, d3] }
  | _ => none }
def execBytesRow : OpenClaim := { program := "ythddlkhfkncgpaagreat", sum := "7ab3239d12e85efe07e674d60c803def364676d57c6caa8571cc45c8e58ce0d6", func := "busbar/busbarlaw25.ExecBytes", spec := "execBytes", unfollowed := true, recurses := true, plainKeys := false, apart := false }
def ExecBytesSaid : Prop := execBytesRow.holds Tryz.pinned (OpenSpec.ofChange execBytesSpec)

/-- ITS FALSE NEIGHBOUR: 'it returns false'. Refute it at one input. -/
def execBytesWrong : ChangeSpec := { name := "execBytes", fn := fun _ => fun
  | [d1, d2, d3] => { results := [.lit (.bool false)], args := [d1, d2, d3] }
  | _ => none }
def ExecBytesWrongFalsely : Prop := execBytesRow.holds Tryz.pinned (OpenSpec.ofChange execBytesWrong)

/- THE SECOND FORM. 'bulk': how many values and letters a reading holds, each counted each time it is reached (what is shared counts as often as it is met; a slice's spare places count too). A statement '..UptoSaid' is the law's where the arguments, and the package variables that the reading takes, are together of bulk at most 1048576: NARROWER than '..Said'. Prove '..Said' where nothing that the law and all that it calls make is longer than what came in: it says more and counts as full. Else prove '..UptoSaid'. A law counts once. -/
mutual
def uptoBulk {H : Type} : DataW H → Nat
  | .lit (.string bytes) => bytes.length + 1
  | .lit _ => 1
  | .nil => 1
  | .ptr d => uptoBulk d + 1
  | .slice elems spare => uptoBulkAll elems + uptoBulkAll spare + 1
  | .agg parts => uptoBulkAll parts + 1
  | .iface _ d => uptoBulk d + 1
  | .map entries => uptoBulkEntries entries + 1
  | .held _ => 1
def uptoBulkAll {H : Type} : List (DataW H) → Nat
  | [] => 0
  | d :: r => uptoBulk d + uptoBulkAll r
def uptoBulkEntries {H : Type} : List (Lit × DataW H) → Nat
  | [] => 0
  | x :: r => uptoBulkEntry x + uptoBulkEntries r
def uptoBulkEntry {H : Type} : Lit × DataW H → Nat
  | (.string bytes, d) => bytes.length + uptoBulk d + 1
  | (_, d) => uptoBulk d + 1
 end
def uptoSmall : (H : Type) → List (DataW H) → Bool := fun _ ds => decide (uptoBulkAll ds ≤ 1048576)
def OpenSpec.upto (s : _root_.Go.ChangeSpec) : _root_.Go.OpenSpec := { _root_.Go.OpenSpec.ofChange s with cond := some uptoSmall }

/-- 'busbarlaw25.ExecCells', WHERE WHAT IT READS IS OF BULK AT MOST 1048576: true; the input reads as it did. -/
def execCellsUptoRow : OpenClaim := { program := "ythddlkhfkncgpaagreat", sum := "7ab3239d12e85efe07e674d60c803def364676d57c6caa8571cc45c8e58ce0d6", func := "busbar/busbarlaw25.ExecCells", spec := "execCells", unfollowed := true, recurses := true, plainKeys := false, apart := false, narrowed := true }
def ExecCellsUptoSaid : Prop := execCellsUptoRow.holds Tryz.pinned (OpenSpec.upto execCellsSpec)

/-- 'busbarlaw25.ExecOrders', WHERE WHAT IT READS IS OF BULK AT MOST 1048576: true; the input reads as it did. -/
def execOrdersUptoRow : OpenClaim := { program := "ythddlkhfkncgpaagreat", sum := "7ab3239d12e85efe07e674d60c803def364676d57c6caa8571cc45c8e58ce0d6", func := "busbar/busbarlaw25.ExecOrders", spec := "execOrders", unfollowed := true, recurses := true, plainKeys := false, apart := false, narrowed := true }
def ExecOrdersUptoSaid : Prop := execOrdersUptoRow.holds Tryz.pinned (OpenSpec.upto execOrdersSpec)

/-- 'busbarlaw25.ExecRefuses', WHERE WHAT IT READS IS OF BULK AT MOST 1048576: true; the input reads as it did. -/
def execRefusesUptoRow : OpenClaim := { program := "ythddlkhfkncgpaagreat", sum := "7ab3239d12e85efe07e674d60c803def364676d57c6caa8571cc45c8e58ce0d6", func := "busbar/busbarlaw25.ExecRefuses", spec := "execRefuses", unfollowed := true, recurses := true, plainKeys := false, apart := false, narrowed := true }
def ExecRefusesUptoSaid : Prop := execRefusesUptoRow.holds Tryz.pinned (OpenSpec.upto execRefusesSpec)

/-- 'busbarlaw25.ExecIdentifies', WHERE WHAT IT READS IS OF BULK AT MOST 1048576: true; the input reads as it did. -/
def execIdentifiesUptoRow : OpenClaim := { program := "ythddlkhfkncgpaagreat", sum := "7ab3239d12e85efe07e674d60c803def364676d57c6caa8571cc45c8e58ce0d6", func := "busbar/busbarlaw25.ExecIdentifies", spec := "execIdentifies", unfollowed := true, recurses := true, plainKeys := false, apart := false, narrowed := true }
def ExecIdentifiesUptoSaid : Prop := execIdentifiesUptoRow.holds Tryz.pinned (OpenSpec.upto execIdentifiesSpec)

/-- 'busbarlaw25.ExecWindow', WHERE WHAT IT READS IS OF BULK AT MOST 1048576: true; the input reads as it did. -/
def execWindowUptoRow : OpenClaim := { program := "ythddlkhfkncgpaagreat", sum := "7ab3239d12e85efe07e674d60c803def364676d57c6caa8571cc45c8e58ce0d6", func := "busbar/busbarlaw25.ExecWindow", spec := "execWindow", unfollowed := true, recurses := true, plainKeys := false, apart := false, narrowed := true }
def ExecWindowUptoSaid : Prop := execWindowUptoRow.holds Tryz.pinned (OpenSpec.upto execWindowSpec)

/-- 'busbarlaw25.ExecPlays', WHERE WHAT IT READS IS OF BULK AT MOST 1048576: true; the input reads as it did. -/
def execPlaysUptoRow : OpenClaim := { program := "ythddlkhfkncgpaagreat", sum := "7ab3239d12e85efe07e674d60c803def364676d57c6caa8571cc45c8e58ce0d6", func := "busbar/busbarlaw25.ExecPlays", spec := "execPlays", unfollowed := true, recurses := true, plainKeys := false, apart := false, narrowed := true }
def ExecPlaysUptoSaid : Prop := execPlaysUptoRow.holds Tryz.pinned (OpenSpec.upto execPlaysSpec)

/-- 'busbarlaw25.ExecReads', WHERE WHAT IT READS IS OF BULK AT MOST 1048576: true; the input reads as it did. -/
def execReadsUptoRow : OpenClaim := { program := "ythddlkhfkncgpaagreat", sum := "7ab3239d12e85efe07e674d60c803def364676d57c6caa8571cc45c8e58ce0d6", func := "busbar/busbarlaw25.ExecReads", spec := "execReads", unfollowed := true, recurses := true, plainKeys := false, apart := false, narrowed := true }
def ExecReadsUptoSaid : Prop := execReadsUptoRow.holds Tryz.pinned (OpenSpec.upto execReadsSpec)

/-- 'busbarlaw25.ExecBytes', WHERE WHAT IT READS IS OF BULK AT MOST 1048576: true; the input reads as it did. -/
def execBytesUptoRow : OpenClaim := { program := "ythddlkhfkncgpaagreat", sum := "7ab3239d12e85efe07e674d60c803def364676d57c6caa8571cc45c8e58ce0d6", func := "busbar/busbarlaw25.ExecBytes", spec := "execBytes", unfollowed := true, recurses := true, plainKeys := false, apart := false, narrowed := true }
def ExecBytesUptoSaid : Prop := execBytesUptoRow.holds Tryz.pinned (OpenSpec.upto execBytesSpec)

end Rows
end Go.Proofs.YthddlkhfkncgpaaGreat
