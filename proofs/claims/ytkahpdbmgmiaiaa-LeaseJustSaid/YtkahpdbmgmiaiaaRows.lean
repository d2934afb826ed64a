/-
  No cell of these rows narrows 'for every input' (looked for: loops, veiled, ifaces, maps, wideKeys, modest, calm, conditions, laid).
  DERIVED. THE GIVEN ROWS OF THIS SEAT. 3 by the template 'for every input the law returns true; each argument reads behind the call as it read before'; 0 by the template 'total and deterministic' (their statements: YtkahpdbmgmiaiaaTotals.lean).
  GIVEN WITH THE SEED: the statements are not yours to turn. If you find one false, say at which input.
  Laid BY PROGRAM, IN A SANDBOX (cutbox-rows.mjs): the forced cells as the released guide's own fill.sh prints them over the translation 5875429a6c9d4cbb… (all of the seat's roots in one cut). By AI agents, Wed Nov 11 2026. No macro, syntax, notation, axiom, sorry.
-/
import Derived.Test.YtkahpdbmgmiaiaaChecked
import GoSem.Claim
import GoSem.ClaimJoined
import GoSem.ClaimMapViews
import Derived.JoinedTies
import Derived.KernelRfl
namespace Go.Proofs.Ytkahpdbmgmiaiaa
/- THE CELL 'sum', in the pinned program and in every row, IS THE sha256 OF THE DUMP (.gsa) THAT YtkahpdbmgmiaiaaProg.lean LOADS. Nothing in Lean hashes anything: it is a label: what it is worth is what the hold of that sum in a sandbox is worth. -/
noncomputable def Try.pinned : Pinned := { name := "ytkahpdbmgmiaiaa", sum := "5875429a6c9d4cbb0a342a2f3e5de56cf276b39ffb6d26f25b32083d9b375ba6", checked := Try.checked }
namespace Rows
def none {H : Type} : Left H := { results := [], args := [] }

/-- 'busbarlaw22.LeasePlays': WHATEVER THE INPUT: true; the input reads as it did. -/
def leasePlaysSpec : ChangeSpec := { name := "leasePlays", fn := fun _ => fun
  | [d1, d2, d3] => { results := [.lit (.bool true)], args := [d1, d2, d3] }
  | _ => none }
def leasePlaysRow : OpenClaim := { program := "ytkahpdbmgmiaiaa", sum := "5875429a6c9d4cbb0a342a2f3e5de56cf276b39ffb6d26f25b32083d9b375ba6", func := "busbar/busbarlaw22.LeasePlays", spec := "leasePlays", recurses := true, apart := false }
def LeasePlaysSaid : Prop := leasePlaysRow.holds Try.pinned (OpenSpec.ofChange leasePlaysSpec)

/-- ITS FALSE NEIGHBOUR: 'it returns false'. Refute it at one input. -/
def leasePlaysWrong : ChangeSpec := { name := "leasePlays", fn := fun _ => fun
  | [d1, d2, d3] => { results := [.lit (.bool false)], args := [d1, d2, d3] }
  | _ => none }
def LeasePlaysWrongFalsely : Prop := leasePlaysRow.holds Try.pinned (OpenSpec.ofChange leasePlaysWrong)

/-- 'busbarlaw22.LeaseJust': WHATEVER THE INPUT: true; the input reads as it did. -/
def leaseJustSpec : ChangeSpec := { name := "leaseJust", fn := fun _ => fun
  | [d1, d2] => { results := [.lit (.bool true)], args := [d1, d2] }
  | _ => none }
def leaseJustRow : OpenClaim := { program := "ytkahpdbmgmiaiaa", sum := "5875429a6c9d4cbb0a342a2f3e5de56cf276b39ffb6d26f25b32083d9b375ba6", func := "busbar/busbarlaw22.LeaseJust", spec := "leaseJust", recurses := true, apart := false }
def LeaseJustSaid : Prop := leaseJustRow.holds Try.pinned (OpenSpec.ofChange leaseJustSpec)

/-- ITS FALSE NEIGHBOUR: 'it returns false'. Refute it at one input. -/
def leaseJustWrong : ChangeSpec := { name := "leaseJust", fn := fun _ => fun
  | [d1, d2] => { results := [.lit (.bool false)], args := [d1, d2] }
  | _ => none }
def LeaseJustWrongFalsely : Prop := leaseJustRow.holds Try.pinned (OpenSpec.ofChange leaseJustWrong)

/-- 'busbarlaw22.LeaseOthers': WHATEVER THE INPUT: true; the input reads as it did. -/
def leaseOthersSpec : ChangeSpec := { name := "leaseOthers", fn := fun _ => fun
  | [d1, d2] => { results := [.lit (.bool true)], args := [d1, d2] }
  | _ => none }
def leaseOthersRow : OpenClaim := { program := "ytkahpdbmgmiaiaa", sum := "5875429a6c9d4cbb0a342a2f3e5de56cf276b39ffb6d26f25b32083d9b375ba6", func := "busbar/busbarlaw22.LeaseOthers", spec := "leaseOthers", recurses := true, apart := false }
def LeaseOthersSaid : Prop := leaseOthersRow.holds Try.pinned (OpenSpec.ofChange leaseOthersSpec)

/-- ITS FALSE NEIGHBOUR: 'it returns false'. Refute it at one input. -/
def leaseOthersWrong : ChangeSpec := { name := "leaseOthers", fn := fun _ => fun
  | [d1, d2] => { results := [.lit (.bool false)], args := [d1, d2] }
  | _ => none }
def LeaseOthersWrongFalsely : Prop := leaseOthersRow.holds Try.pinned (OpenSpec.ofChange leaseOthersWrong)

/- THE SECOND FORM. 'bulk': how many values and letters a reading holds, each counted each time it is reached (what is shared counts as often as it is met; a slice's spare places count too). A statement '..UptoSaid' is the law's where the arguments, and the package variables that the reading takes, are together of bulk at most 1048576: NARROWER than '..Said'. Prove '..Said' where nothing that the law and all that it calls make is longer than what came in: it says more and counts as full. Else prove '..UptoSaid'. A law counts once. -/
mutual
def uptoBulk {H : Type} : DataW H → Nat
  | .lit (.string bytes) => bytes.length + 1
  | .lit _ => 1
  | .nil => 1
  | .ptr d => uptoBulk d + 1
  | .slice elems spare => uptoBulkAll elems + uptoBulkAll spare + 1
  | .agg parts => uptoBulkAll parts + 1
  | .iface _ d => uptoBulk d + 1
  | .map entries => uptoBulkEntries entries + 1
  | .held _ => 1
def uptoBulkAll {H : Type} : List (DataW H) → Nat
  | [] => 0
  | d :: r => uptoBulk d + uptoBulkAll r
def uptoBulkEntries {H : Type} : List (Lit × DataW H) → Nat
  | [] => 0
  | x :: r => uptoBulkEntry x + uptoBulkEntries r
def uptoBulkEntry {H : Type} : Lit × DataW H → Nat
  | (.string bytes, d) => bytes.length + uptoBulk d + 1
  | (_, d) => uptoBulk d + 1
 end
def uptoSmall : (H : Type) → List (DataW H) → Bool := fun _ ds => decide (uptoBulkAll ds ≤ 1048576)
def OpenSpec.upto (s : _root_.Go.ChangeSpec) : _root_.Go.OpenSpec := { _root_.Go.OpenSpec.ofChange s with cond := some uptoSmall }

/-- 'busbarlaw22.LeasePlays', WHERE WHAT IT READS IS OF BULK AT MOST 1048576: true; the input reads as it did. -/
def leasePlaysUptoRow : OpenClaim := { program := "ytkahpdbmgmiaiaa", sum := "5875429a6c9d4cbb0a342a2f3e5de56cf276b39ffb6d26f25b32083d9b375ba6", func := "busbar/busbarlaw22.LeasePlays", spec := "leasePlays", recurses := true, apart := false, narrowed := true }
def LeasePlaysUptoSaid : Prop := leasePlaysUptoRow.holds Try.pinned (OpenSpec.upto leasePlaysSpec)

/-- 'busbarlaw22.LeaseJust', WHERE WHAT IT READS IS OF BULK AT MOST 1048576: true; the input reads as it did. -/
def leaseJustUptoRow : OpenClaim := { program := "ytkahpdbmgmiaiaa", sum := "5875429a6c9d4cbb0a342a2f3e5de56cf276b39ffb6d26f25b32083d9b375ba6", func := "busbar/busbarlaw22.LeaseJust", spec := "leaseJust", recurses := true, apart := false, narrowed := true }
def LeaseJustUptoSaid : Prop := leaseJustUptoRow.holds Try.pinned (OpenSpec.upto leaseJustSpec)

/-- 'busbarlaw22.LeaseOthers', WHERE WHAT IT READS IS OF BULK AT MOST 1048576: true; the input reads as it did. -/
def leaseOthersUptoRow : OpenClaim := { program := "ytkahpdbmgmiaiaa", sum := "5875429a6c9d4cbb0a342a2f3e5de56cf276b39ffb6d26f25b32083d9b375ba6", func := "busbar/busbarlaw22.LeaseOthers", spec := "leaseOthers", recurses := true, apart := false, narrowed := true }
def LeaseOthersUptoSaid : Prop := leaseOthersUptoRow.holds Try.pinned (OpenSpec.upto leaseOthersSpec)

end Rows
end Go.Proofs.Ytkahpdbmgmiaiaa
