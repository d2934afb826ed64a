/-
  No cell of these rows narrows 'for every input' (looked for: loops, veiled, ifaces, maps, wideKeys, modest, calm, conditions, laid).
  DERIVED. THE GIVEN ROWS OF THIS SEAT. 8 by the template 'for every input the law returns true; each argument reads behind the call as it read before'; 0 by the template 'total and deterministic' (their statements: YtpnbncdclgmegaaTotals.lean).
  GIVEN WITH THE SEED: the statements are not yours to turn. If you find one false, say at which input.
  Laid BY PROGRAM, IN A SANDBOX (cutbox-rows.mjs): the forced cells as the released guide's own fill.sh prints them over the translation de928ced86df26c1… (all of the seat's roots in one cut). By AI agents, Wed Nov 11 2026. No macro, syntax, notation, axiom, sorry.
-/
import Derived.Test.YtpnbncdclgmegaaChecked
import GoSem.Claim
import GoSem.ClaimJoined
import GoSem.ClaimMapViews
import Derived.JoinedTies
import Derived.KernelRfl
namespace Go.Proofs.Ytpnbncdclgmegaa
/- THE CELL 'sum', in the pinned program and in every row, IS THE sha256 OF THE DUMP (.gsa) THAT YtpnbncdclgmegaaProg.lean LOADS. Nothing in Lean hashes anything: it is a label: what it is worth is what the hold of that sum in a sandbox is worth. -/
noncomputable def Try.pinned : Pinned := { name := "ytpnbncdclgmegaa", sum := "de928ced86df26c103685525a867df5c1f4e3ffecac1e9e0d32779c3fe6dacf5", checked := Try.checked }
namespace Rows
def none {H : Type} : Left H := { results := [], args := [] }

/-- 'busbarlaw21.TxnReplays': WHATEVER THE INPUT: true; the input reads as it did. -/
def txnReplaysSpec : ChangeSpec := { name := "txnReplays", fn := fun _ => fun
  | [d] => { results := [.lit (.bool true)], args := [d] }
  | _ => none }
def txnReplaysRow : OpenClaim := { program := "ytpnbncdclgmegaa", sum := "de928ced86df26c103685525a867df5c1f4e3ffecac1e9e0d32779c3fe6dacf5", func := "busbar/busbarlaw21.TxnReplays", spec := "txnReplays", unfollowed := true, recurses := true, plainKeys := false, apart := false }
def TxnReplaysSaid : Prop := txnReplaysRow.holds Try.pinned (OpenSpec.ofChange txnReplaysSpec)

/-- ITS FALSE NEIGHBOUR: 'it returns false'. Refute it at one input. -/
def txnReplaysWrong : ChangeSpec := { name := "txnReplays", fn := fun _ => fun
  | [d] => { results := [.lit (.bool false)], args := [d] }
  | _ => none }
def TxnReplaysWrongFalsely : Prop := txnReplaysRow.holds Try.pinned (OpenSpec.ofChange txnReplaysWrong)

/-- 'busbarlaw21.TxnClashes': WHATEVER THE INPUT: true; the input reads as it did. -/
def txnClashesSpec : ChangeSpec := { name := "txnClashes", fn := fun _ => fun
  | [d1, d2, d3, d4] => { results := [.lit (.bool true)], args := [d1, d2, d3, d4] }
  | _ => none }
def txnClashesRow : OpenClaim := { program := "ytpnbncdclgmegaa", sum := "de928ced86df26c103685525a867df5c1f4e3ffecac1e9e0d32779c3fe6dacf5", func := "busbar/busbarlaw21.TxnClashes", spec := "txnClashes", unfollowed := true, recurses := true, plainKeys := false, apart := false }
def TxnClashesSaid : Prop := txnClashesRow.holds Try.pinned (OpenSpec.ofChange txnClashesSpec)

/-- ITS FALSE NEIGHBOUR: 'it returns false'. Refute it at one input. -/
def txnClashesWrong : ChangeSpec := { name := "txnClashes", fn := fun _ => fun
  | [d1, d2, d3, d4] => { results := [.lit (.bool false)], args := [d1, d2, d3, d4] }
  | _ => none }
def TxnClashesWrongFalsely : Prop := txnClashesRow.holds Try.pinned (OpenSpec.ofChange txnClashesWrong)

/-- 'busbarlaw21.TxnLimits': WHATEVER THE INPUT: true; the input reads as it did. -/
def txnLimitsSpec : ChangeSpec := { name := "txnLimits", fn := fun _ => fun
  | [d1, d2, d3] => { results := [.lit (.bool true)], args := [d1, d2, d3] }
  | _ => none }
def txnLimitsRow : OpenClaim := { program := "ytpnbncdclgmegaa", sum := "de928ced86df26c103685525a867df5c1f4e3ffecac1e9e0d32779c3fe6dacf5", func := "busbar/busbarlaw21.TxnLimits", spec := "txnLimits", unfollowed := true, recurses := true, plainKeys := false, apart := false }
def TxnLimitsSaid : Prop := txnLimitsRow.holds Try.pinned (OpenSpec.ofChange txnLimitsSpec)

/-- ITS FALSE NEIGHBOUR: 'it returns false'. Refute it at one input. -/
def txnLimitsWrong : ChangeSpec := { name := "txnLimits", fn := fun _ => fun
  | [d1, d2, d3] => { results := [.lit (.bool false)], args := [d1, d2, d3] }
  | _ => none }
def TxnLimitsWrongFalsely : Prop := txnLimitsRow.holds Try.pinned (OpenSpec.ofChange txnLimitsWrong)

/-- 'busbarlaw24.SessAuto': WHATEVER THE INPUT: true; the input reads as it did. -/
def sessAutoSpec : ChangeSpec := { name := "sessAuto", fn := fun _ => fun
  | [d] => { results := [.lit (.bool true)], args := [d] }
  | _ => none }
def sessAutoRow : OpenClaim := { program := "ytpnbncdclgmegaa", sum := "de928ced86df26c103685525a867df5c1f4e3ffecac1e9e0d32779c3fe6dacf5", func := "busbar/busbarlaw24.SessAuto", spec := "sessAuto", unfollowed := true, recurses := true, plainKeys := false, apart := false }
def SessAutoSaid : Prop := sessAutoRow.holds Try.pinned (OpenSpec.ofChange sessAutoSpec)

/-- ITS FALSE NEIGHBOUR: 'it returns false'. Refute it at one input. -/
def sessAutoWrong : ChangeSpec := { name := "sessAuto", fn := fun _ => fun
  | [d] => { results := [.lit (.bool false)], args := [d] }
  | _ => none }
def SessAutoWrongFalsely : Prop := sessAutoRow.holds Try.pinned (OpenSpec.ofChange sessAutoWrong)

/-- 'busbarlaw24.SessDead': WHATEVER THE INPUT: true; the input reads as it did. -/
def sessDeadSpec : ChangeSpec := { name := "sessDead", fn := fun _ => fun
  | [d1, d2] => { results := [.lit (.bool true)], args := [d1, d2] }
  | _ => none }
def sessDeadRow : OpenClaim := { program := "ytpnbncdclgmegaa", sum := "de928ced86df26c103685525a867df5c1f4e3ffecac1e9e0d32779c3fe6dacf5", func := "busbar/busbarlaw24.SessDead", spec := "sessDead", unfollowed := true, recurses := true, plainKeys := false, apart := false }
def SessDeadSaid : Prop := sessDeadRow.holds Try.pinned (OpenSpec.ofChange sessDeadSpec)

/-- ITS FALSE NEIGHBOUR: 'it returns false'. Refute it at one input. -/
def sessDeadWrong : ChangeSpec := { name := "sessDead", fn := fun _ => fun
  | [d1, d2] => { results := [.lit (.bool false)], args := [d1, d2] }
  | _ => none }
def SessDeadWrongFalsely : Prop := sessDeadRow.holds Try.pinned (OpenSpec.ofChange sessDeadWrong)

/-- 'busbarlaw24.SessApart': WHATEVER THE INPUT: true; the input reads as it did. -/
def sessApartSpec : ChangeSpec := { name := "sessApart", fn := fun _ => fun
  | [d1, d2] => { results := [.lit (.bool true)], args := [d1, d2] }
  | _ => none }
def sessApartRow : OpenClaim := { program := "ytpnbncdclgmegaa", sum := "de928ced86df26c103685525a867df5c1f4e3ffecac1e9e0d32779c3fe6dacf5", func := "busbar/busbarlaw24.SessApart", spec := "sessApart", unfollowed := true, recurses := true, plainKeys := false, apart := false }
def SessApartSaid : Prop := sessApartRow.holds Try.pinned (OpenSpec.ofChange sessApartSpec)

/-- ITS FALSE NEIGHBOUR: 'it returns false'. Refute it at one input. -/
def sessApartWrong : ChangeSpec := { name := "sessApart", fn := fun _ => fun
  | [d1, d2] => { results := [.lit (.bool false)], args := [d1, d2] }
  | _ => none }
def SessApartWrongFalsely : Prop := sessApartRow.holds Try.pinned (OpenSpec.ofChange sessApartWrong)

/-- 'busbarlaw24.SessLeases': WHATEVER THE INPUT: true; the input reads as it did. -/
def sessLeasesSpec : ChangeSpec := { name := "sessLeases", fn := fun _ => fun
  | [d1, d2, d3] => { results := [.lit (.bool true)], args := [d1, d2, d3] }
  | _ => none }
def sessLeasesRow : OpenClaim := { program := "ytpnbncdclgmegaa", sum := "de928ced86df26c103685525a867df5c1f4e3ffecac1e9e0d32779c3fe6dacf5", func := "busbar/busbarlaw24.SessLeases", spec := "sessLeases", unfollowed := true, recurses := true, plainKeys := false, apart := false }
def SessLeasesSaid : Prop := sessLeasesRow.holds Try.pinned (OpenSpec.ofChange sessLeasesSpec)

/-- ITS FALSE NEIGHBOUR: 'it returns false'. Refute it at one input. -/
def sessLeasesWrong : ChangeSpec := { name := "sessLeases", fn := fun _ => fun
  | [d1, d2, d3] => { results := [.lit (.bool false)], args := [d1, d2, d3] }
  | _ => none }
def SessLeasesWrongFalsely : Prop := sessLeasesRow.holds Try.pinned (OpenSpec.ofChange sessLeasesWrong)

/-- 'busbarlaw24.SessReasons': WHATEVER THE INPUT: true; the input reads as it did. -/
def sessReasonsSpec : ChangeSpec := { name := "sessReasons", fn := fun _ => fun
  | [d1, d2] => { results := [.lit (.bool true)], args := [d1, d2] }
  | _ => none }
def sessReasonsRow : OpenClaim := { program := "ytpnbncdclgmegaa", sum := "de928ced86df26c103685525a867df5c1f4e3ffecac1e9e0d32779c3fe6dacf5", func := "busbar/busbarlaw24.SessReasons", spec := "sessReasons", unfollowed := true, recurses := true, plainKeys := false, apart := false }
def SessReasonsSaid : Prop := sessReasonsRow.holds Try.pinned (OpenSpec.ofChange sessReasonsSpec)

/-- ITS FALSE NEIGHBOUR: 'it returns false'. Refute it at one input. -/
def sessReasonsWrong : ChangeSpec := { name := "sessReasons", fn := fun _ => fun
  | [d1, d2] => { results := [.lit (.bool false)], args := [d1, d2] }
  | _ => none }
def SessReasonsWrongFalsely : Prop := sessReasonsRow.holds Try.pinned (OpenSpec.ofChange sessReasonsWrong)

/- THE SECOND FORM. 'bulk': how many values and letters a reading holds, each counted each time it is reached (what is shared counts as often as it is met; a slice's spare places count too). A statement '..UptoSaid' is the law's where the arguments, and the package variables that the reading takes, are together of bulk at most 1048576: NARROWER than '..Said'. Prove '..Said' where nothing that the law and all that it calls make is longer than what came in: it says more and counts as full. Else prove '..UptoSaid'. A law counts once. -/
mutual
def uptoBulk {H : Type} : DataW H → Nat
  | .lit (.string bytes) => bytes.length + 1
  | .lit _ => 1
  | .nil => 1
  | .ptr d => uptoBulk d + 1
  | .slice elems spare => uptoBulkAll elems + uptoBulkAll spare + 1
  | .agg parts => uptoBulkAll parts + 1
  | .iface _ d => uptoBulk d + 1
  | .map entries => uptoBulkEntries entries + 1
  | .held _ => 1
def uptoBulkAll {H : Type} : List (DataW H) → Nat
  | [] => 0
  | d :: r => uptoBulk d + uptoBulkAll r
def uptoBulkEntries {H : Type} : List (Lit × DataW H) → Nat
  | [] => 0
  | x :: r => uptoBulkEntry x + uptoBulkEntries r
def uptoBulkEntry {H : Type} : Lit × DataW H → Nat
  | (.string bytes, d) => bytes.length + uptoBulk d + 1
  | (_, d) => uptoBulk d + 1
 end
def uptoSmall : (H : Type) → List (DataW H) → Bool := fun _ ds => decide (uptoBulkAll ds ≤ 1048576)
def OpenSpec.upto (s : _root_.Go.ChangeSpec) : _root_.Go.OpenSpec := { _root_.Go.OpenSpec.ofChange s with cond := some uptoSmall }

/-- 'busbarlaw21.TxnReplays', WHERE WHAT IT READS IS OF BULK AT MOST 1048576: true; the input reads as it did. -/
def txnReplaysUptoRow : OpenClaim := { program := "ytpnbncdclgmegaa", sum := "de928ced86df26c103685525a867df5c1f4e3ffecac1e9e0d32779c3fe6dacf5", func := "busbar/busbarlaw21.TxnReplays", spec := "txnReplays", unfollowed := true, recurses := true, plainKeys := false, apart := false, narrowed := true }
def TxnReplaysUptoSaid : Prop := txnReplaysUptoRow.holds Try.pinned (OpenSpec.upto txnReplaysSpec)

/-- 'busbarlaw21.TxnClashes', WHERE WHAT IT READS IS OF BULK AT MOST 1048576: true; the input reads as it did. -/
def txnClashesUptoRow : OpenClaim := { program := "ytpnbncdclgmegaa", sum := "de928ced86df26c103685525a867df5c1f4e3ffecac1e9e0d32779c3fe6dacf5", func := "busbar/busbarlaw21.TxnClashes", spec := "txnClashes", unfollowed := true, recurses := true, plainKeys := false, apart := false, narrowed := true }
def TxnClashesUptoSaid : Prop := txnClashesUptoRow.holds Try.pinned (OpenSpec.upto txnClashesSpec)

/-- 'busbarlaw21.TxnLimits', WHERE WHAT IT READS IS OF BULK AT MOST 1048576: true; the input reads as it did. -/
def txnLimitsUptoRow : OpenClaim := { program := "ytpnbncdclgmegaa", sum := "de928ced86df26c103685525a867df5c1f4e3ffecac1e9e0d32779c3fe6dacf5", func := "busbar/busbarlaw21.TxnLimits", spec := "txnLimits", unfollowed := true, recurses := true, plainKeys := false, apart := false, narrowed := true }
def TxnLimitsUptoSaid : Prop := txnLimitsUptoRow.holds Try.pinned (OpenSpec.upto txnLimitsSpec)

/-- 'busbarlaw24.SessAuto', WHERE WHAT IT READS IS OF BULK AT MOST 1048576: true; the input reads as it did. -/
def sessAutoUptoRow : OpenClaim := { program := "ytpnbncdclgmegaa", sum := "de928ced86df26c103685525a867df5c1f4e3ffecac1e9e0d32779c3fe6dacf5", func := "busbar/busbarlaw24.SessAuto", spec := "sessAuto", unfollowed := true, recurses := true, plainKeys := false, apart := false, narrowed := true }
def SessAutoUptoSaid : Prop := sessAutoUptoRow.holds Try.pinned (OpenSpec.upto sessAutoSpec)

/-- 'busbarlaw24.SessDead', WHERE WHAT IT READS IS OF BULK AT MOST 1048576: true; the input reads as it did. -/
def sessDeadUptoRow : OpenClaim := { program := "ytpnbncdclgmegaa", sum := "de928ced86df26c103685525a867df5c1f4e3ffecac1e9e0d32779c3fe6dacf5", func := "busbar/busbarlaw24.SessDead", spec := "sessDead", unfollowed := true, recurses := true, plainKeys := false, apart := false, narrowed := true }
def SessDeadUptoSaid : Prop := sessDeadUptoRow.holds Try.pinned (OpenSpec.upto sessDeadSpec)

/-- 'busbarlaw24.SessApart', WHERE WHAT IT READS IS OF BULK AT MOST 1048576: true; the input reads as it did. -/
def sessApartUptoRow : OpenClaim := { program := "ytpnbncdclgmegaa", sum := "de928ced86df26c103685525a867df5c1f4e3ffecac1e9e0d32779c3fe6dacf5", func := "busbar/busbarlaw24.SessApart", spec := "sessApart", unfollowed := true, recurses := true, plainKeys := false, apart := false, narrowed := true }
def SessApartUptoSaid : Prop := sessApartUptoRow.holds Try.pinned (OpenSpec.upto sessApartSpec)

/-- 'busbarlaw24.SessLeases', WHERE WHAT IT READS IS OF BULK AT MOST 1048576: true; the input reads as it did. -/
def sessLeasesUptoRow : OpenClaim := { program := "ytpnbncdclgmegaa", sum := "de928ced86df26c103685525a867df5c1f4e3ffecac1e9e0d32779c3fe6dacf5", func := "busbar/busbarlaw24.SessLeases", spec := "sessLeases", unfollowed := true, recurses := true, plainKeys := false, apart := false, narrowed := true }
def SessLeasesUptoSaid : Prop := sessLeasesUptoRow.holds Try.pinned (OpenSpec.upto sessLeasesSpec)

/-- 'busbarlaw24.SessReasons', WHERE WHAT IT READS IS OF BULK AT MOST 1048576: true; the input reads as it did. -/
def sessReasonsUptoRow : OpenClaim := { program := "ytpnbncdclgmegaa", sum := "de928ced86df26c103685525a867df5c1f4e3ffecac1e9e0d32779c3fe6dacf5", func := "busbar/busbarlaw24.SessReasons", spec := "sessReasons", unfollowed := true, recurses := true, plainKeys := false, apart := false, narrowed := true }
def SessReasonsUptoSaid : Prop := sessReasonsUptoRow.holds Try.pinned (OpenSpec.upto sessReasonsSpec)

end Rows
end Go.Proofs.Ytpnbncdclgmegaa
