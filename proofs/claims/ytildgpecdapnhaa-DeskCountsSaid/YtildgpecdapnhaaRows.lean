/-
  No cell of these rows narrows 'for every input' (looked for: loops, veiled, ifaces, maps, wideKeys, modest, calm, conditions, laid).
  DERIVED. THE GIVEN ROWS OF THIS SEAT. 3 by the template 'for every input the law returns true; each argument reads behind the call as it read before'; 0 by the template 'total and deterministic' (their statements: YtildgpecdapnhaaTotals.lean).
  GIVEN WITH THE SEED: the statements are not yours to turn. If you find one false, say at which input.
  Laid BY PROGRAM, IN A SANDBOX (cutbox-rows.mjs): the forced cells as the released guide's own fill.sh prints them over the translation 64aface922873f9e… (all of the seat's roots in one cut). By AI agents, Wed Nov 11 2026. No macro, syntax, notation, axiom, sorry.
-/
import Derived.Test.YtildgpecdapnhaaChecked
import GoSem.Claim
import GoSem.ClaimJoined
import GoSem.ClaimMapViews
import Derived.JoinedTies
import Derived.KernelRfl
namespace Go.Proofs.Ytildgpecdapnhaa
/- THE CELL 'sum', in the pinned program and in every row, IS THE sha256 OF THE DUMP (.gsa) THAT YtildgpecdapnhaaProg.lean LOADS. Nothing in Lean hashes anything: it is a label: what it is worth is what the hold of that sum in a sandbox is worth. -/
noncomputable def Try.pinned : Pinned := { name := "ytildgpecdapnhaa", sum := "64aface922873f9e2eb0d23502786196b2d25cde6c7fda812e7582c0ae35479e", checked := Try.checked }
namespace Rows
def none {H : Type} : Left H := { results := [], args := [] }

/-- 'busbarlaw11.DeskPlays': WHATEVER THE INPUT: true; the input reads as it did. -/
def deskPlaysSpec : ChangeSpec := { name := "deskPlays", fn := fun _ => fun
  | [d1, d2, d3] => { results := [.lit (.bool true)], args := [d1, d2, d3] }
  | _ => none }
def deskPlaysRow : OpenClaim := { program := "ytildgpecdapnhaa", sum := "64aface922873f9e2eb0d23502786196b2d25cde6c7fda812e7582c0ae35479e", func := "busbar/busbarlaw11.DeskPlays", spec := "deskPlays", apart := false }
def DeskPlaysSaid : Prop := deskPlaysRow.holds Try.pinned (OpenSpec.ofChange deskPlaysSpec)

/-- ITS FALSE NEIGHBOUR: 'it returns false'. Refute it at one input. -/
def deskPlaysWrong : ChangeSpec := { name := "deskPlays", fn := fun _ => fun
  | [d1, d2, d3] => { results := [.lit (.bool false)], args := [d1, d2, d3] }
  | _ => none }
def DeskPlaysWrongFalsely : Prop := deskPlaysRow.holds Try.pinned (OpenSpec.ofChange deskPlaysWrong)

/-- 'busbarlaw11.DeskFull': WHATEVER THE INPUT: true; the input reads as it did. -/
def deskFullSpec : ChangeSpec := { name := "deskFull", fn := fun _ => fun
  | [d1, d2, d3] => { results := [.lit (.bool true)], args := [d1, d2, d3] }
  | _ => none }
def deskFullRow : OpenClaim := { program := "ytildgpecdapnhaa", sum := "64aface922873f9e2eb0d23502786196b2d25cde6c7fda812e7582c0ae35479e", func := "busbar/busbarlaw11.DeskFull", spec := "deskFull", apart := false }
def DeskFullSaid : Prop := deskFullRow.holds Try.pinned (OpenSpec.ofChange deskFullSpec)

/-- ITS FALSE NEIGHBOUR: 'it returns false'. Refute it at one input. -/
def deskFullWrong : ChangeSpec := { name := "deskFull", fn := fun _ => fun
  | [d1, d2, d3] => { results := [.lit (.bool false)], args := [d1, d2, d3] }
  | _ => none }
def DeskFullWrongFalsely : Prop := deskFullRow.holds Try.pinned (OpenSpec.ofChange deskFullWrong)

/-- 'busbarlaw11.DeskCounts': WHATEVER THE INPUT: true; the input reads as it did. -/
def deskCountsSpec : ChangeSpec := { name := "deskCounts", fn := fun _ => fun
  | [d] => { results := [.lit (.bool true)], args := [d] }
  | _ => none }
def deskCountsRow : OpenClaim := { program := "ytildgpecdapnhaa", sum := "64aface922873f9e2eb0d23502786196b2d25cde6c7fda812e7582c0ae35479e", func := "busbar/busbarlaw11.DeskCounts", spec := "deskCounts", apart := false }
def DeskCountsSaid : Prop := deskCountsRow.holds Try.pinned (OpenSpec.ofChange deskCountsSpec)

/-- ITS FALSE NEIGHBOUR: 'it returns false'. Refute it at one input. -/
def deskCountsWrong : ChangeSpec := { name := "deskCounts", fn := fun _ => fun
  | [d] => { results := [.lit (.bool false)], args := [d] }
  | _ => none }
def DeskCountsWrongFalsely : Prop := deskCountsRow.holds Try.pinned (OpenSpec.ofChange deskCountsWrong)

/- THE SECOND FORM. 'bulk': how many values and letters a reading holds, each counted each time it is reached (what is shared counts as often as it is met; a slice's spare places count too). A statement '..UptoSaid' is the law's where the arguments, and the package variables that the reading takes, are together of bulk at most 1048576: NARROWER than '..Said'. Prove '..Said' where nothing that the law and all that it calls make is longer than what came in: it says more and counts as full. Else prove '..UptoSaid'. A law counts once. -/
mutual
def uptoBulk {H : Type} : DataW H → Nat
  | .lit (.string bytes) => bytes.length + 1
  | .lit _ => 1
  | .nil => 1
  | .ptr d => uptoBulk d + 1
  | .slice elems spare => uptoBulkAll elems + uptoBulkAll spare + 1
  | .agg parts => uptoBulkAll parts + 1
  | .iface _ d => uptoBulk d + 1
  | .map entries => uptoBulkEntries entries + 1
  | .held _ => 1
def uptoBulkAll {H : Type} : List (DataW H) → Nat
  | [] => 0
  | d :: r => uptoBulk d + uptoBulkAll r
def uptoBulkEntries {H : Type} : List (Lit × DataW H) → Nat
  | [] => 0
  | x :: r => uptoBulkEntry x + uptoBulkEntries r
def uptoBulkEntry {H : Type} : Lit × DataW H → Nat
  | (.string bytes, d) => bytes.length + uptoBulk d + 1
  | (_, d) => uptoBulk d + 1
 end
def uptoSmall : (H : Type) → List (DataW H) → Bool := fun _ ds => decide (uptoBulkAll ds ≤ 1048576)
def OpenSpec.upto (s : _root_.Go.ChangeSpec) : _root_.Go.OpenSpec := { _root_.Go.OpenSpec.ofChange s with cond := some uptoSmall }

/-- 'busbarlaw11.DeskPlays', WHERE WHAT IT READS IS OF BULK AT MOST 1048576: true; the input reads as it did. -/
def deskPlaysUptoRow : OpenClaim := { program := "ytildgpecdapnhaa", sum := "64aface922873f9e2eb0d23502786196b2d25cde6c7fda812e7582c0ae35479e", func := "busbar/busbarlaw11.DeskPlays", spec := "deskPlays", apart := false, narrowed := true }
def DeskPlaysUptoSaid : Prop := deskPlaysUptoRow.holds Try.pinned (OpenSpec.upto deskPlaysSpec)

/-- 'busbarlaw11.DeskFull', WHERE WHAT IT READS IS OF BULK AT MOST 1048576: true; the input reads as it did. -/
def deskFullUptoRow : OpenClaim := { program := "ytildgpecdapnhaa", sum := "64aface922873f9e2eb0d23502786196b2d25cde6c7fda812e7582c0ae35479e", func := "busbar/busbarlaw11.DeskFull", spec := "deskFull", apart := false, narrowed := true }
def DeskFullUptoSaid : Prop := deskFullUptoRow.holds Try.pinned (OpenSpec.upto deskFullSpec)

/-- 'busbarlaw11.DeskCounts', WHERE WHAT IT READS IS OF BULK AT MOST 1048576: true; the input reads as it did. -/
def deskCountsUptoRow : OpenClaim := { program := "ytildgpecdapnhaa", sum := "64aface922873f9e2eb0d23502786196b2d25cde6c7fda812e7582c0ae35479e", func := "busbar/busbarlaw11.DeskCounts", spec := "deskCounts", apart := false, narrowed := true }
def DeskCountsUptoSaid : Prop := deskCountsUptoRow.holds Try.pinned (OpenSpec.upto deskCountsSpec)

end Rows
end Go.Proofs.Ytildgpecdapnhaa
