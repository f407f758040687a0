/-
  No cell of these rows narrows 'for every input' (looked for: loops, veiled, ifaces, maps, wideKeys, modest, calm, conditions, laid).
  DERIVED. THE GIVEN ROWS OF THIS SEAT. 9 by the template 'for every input the law returns true; each argument reads behind the call as it read before'; 0 by the template 'total and deterministic' (their statements: YtoogcdmdbogkeaaTotals.lean).
  GIVEN WITH THE SEED: the statements are not yours to turn. If you find one false, say at which input.
  Laid BY PROGRAM, IN A SANDBOX (cutbox-rows.mjs): the forced cells as the released guide's own fill.sh prints them over the translation a1ee6c7c1cce9279… (all of the seat's roots in one cut). By AI agents, Wed Nov 11 2026. No macro, syntax, notation, axiom, sorry.
-/
import Derived.Test.YtoogcdmdbogkeaaChecked
import GoSem.Claim
import GoSem.ClaimJoined
import GoSem.ClaimMapViews
import Derived.JoinedTies
import Derived.KernelRfl
namespace Go.Proofs.Ytoogcdmdbogkeaa
/- THE CELL 'sum', in the pinned program and in every row, IS THE sha256 OF THE DUMP (.gsa) THAT YtoogcdmdbogkeaaProg.lean LOADS. Nothing in Lean hashes anything: it is a label: what it is worth is what the hold of that sum in a sandbox is worth. -/
noncomputable def Try.pinned : Pinned := { name := "ytoogcdmdbogkeaa", sum := "a1ee6c7c1cce927999f532db9db682acbbd6f249bc18fae19bb7d9ca87408f6c", checked := Try.checked }
namespace Rows
def none {H : Type} : Left H := { results := [], args := [] }

/-- 'lightclientlaw04.SipSums': WHATEVER THE INPUT: true; the input reads as it did. -/
def sipSumsSpec : ChangeSpec := { name := "sipSums", fn := fun _ => fun
  | [d1, d2] => { results := [.lit (.bool true)], args := [d1, d2] }
  | _ => none }
def sipSumsRow : OpenClaim := { program := "ytoogcdmdbogkeaa", sum := "a1ee6c7c1cce927999f532db9db682acbbd6f249bc18fae19bb7d9ca87408f6c", func := "lightclient/lightclientlaw04.SipSums", spec := "sipSums", apart := false }
def SipSumsSaid : Prop := sipSumsRow.holds Try.pinned (OpenSpec.ofChange sipSumsSpec)

/-- ITS FALSE NEIGHBOUR: 'it returns false'. Refute it at one input. -/
def sipSumsWrong : ChangeSpec := { name := "sipSums", fn := fun _ => fun
  | [d1, d2] => { results := [.lit (.bool false)], args := [d1, d2] }
  | _ => none }
def SipSumsWrongFalsely : Prop := sipSumsRow.holds Try.pinned (OpenSpec.ofChange sipSumsWrong)

/-- 'lightclientlaw04.SipLengths': WHATEVER THE INPUT: true; the input reads as it did. -/
def sipLengthsSpec : ChangeSpec := { name := "sipLengths", fn := fun _ => fun
  | [d1, d2, d3] => { results := [.lit (.bool true)], args := [d1, d2, d3] }
  | _ => none }
def sipLengthsRow : OpenClaim := { program := "ytoogcdmdbogkeaa", sum := "a1ee6c7c1cce927999f532db9db682acbbd6f249bc18fae19bb7d9ca87408f6c", func := "lightclient/lightclientlaw04.SipLengths", spec := "sipLengths", apart := false }
def SipLengthsSaid : Prop := sipLengthsRow.holds Try.pinned (OpenSpec.ofChange sipLengthsSpec)

/-- ITS FALSE NEIGHBOUR: 'it returns false'. Refute it at one input. -/
def sipLengthsWrong : ChangeSpec := { name := "sipLengths", fn := fun _ => fun
  | [d1, d2, d3] => { results := [.lit (.bool false)], args := [d1, d2, d3] }
  | _ => none }
def SipLengthsWrongFalsely : Prop := sipLengthsRow.holds Try.pinned (OpenSpec.ofChange sipLengthsWrong)

/-- 'lightclientlaw04.SipMonotone': WHATEVER THE INPUT: true; the input reads as it did. -/
def sipMonotoneSpec : ChangeSpec := { name := "sipMonotone", fn := fun _ => fun
  | [d1, d2, d3] => { results := [.lit (.bool true)], args := [d1, d2, d3] }
  | _ => none }
def sipMonotoneRow : OpenClaim := { program := "ytoogcdmdbogkeaa", sum := "a1ee6c7c1cce927999f532db9db682acbbd6f249bc18fae19bb7d9ca87408f6c", func := "lightclient/lightclientlaw04.SipMonotone", spec := "sipMonotone", apart := false }
def SipMonotoneSaid : Prop := sipMonotoneRow.holds Try.pinned (OpenSpec.ofChange sipMonotoneSpec)

/-- ITS FALSE NEIGHBOUR: 'it returns false'. Refute it at one input. -/
def sipMonotoneWrong : ChangeSpec := { name := "sipMonotone", fn := fun _ => fun
  | [d1, d2, d3] => { results := [.lit (.bool false)], args := [d1, d2, d3] }
  | _ => none }
def SipMonotoneWrongFalsely : Prop := sipMonotoneRow.holds Try.pinned (OpenSpec.ofChange sipMonotoneWrong)

/-- 'lightclientlaw04.SipScales': WHATEVER THE INPUT: true; the input reads as it did. -/
def sipScalesSpec : ChangeSpec := { name := "sipScales", fn := fun _ => fun
  | [d1, d2, d3] => { results := [.lit (.bool true)], args := [d1, d2, d3] }
  | _ => none }
def sipScalesRow : OpenClaim := { program := "ytoogcdmdbogkeaa", sum := "a1ee6c7c1cce927999f532db9db682acbbd6f249bc18fae19bb7d9ca87408f6c", func := "lightclient/lightclientlaw04.SipScales", spec := "sipScales", apart := false }
def SipScalesSaid : Prop := sipScalesRow.holds Try.pinned (OpenSpec.ofChange sipScalesSpec)

/-- ITS FALSE NEIGHBOUR: 'it returns false'. Refute it at one input. -/
def sipScalesWrong : ChangeSpec := { name := "sipScales", fn := fun _ => fun
  | [d1, d2, d3] => { results := [.lit (.bool false)], args := [d1, d2, d3] }
  | _ => none }
def SipScalesWrongFalsely : Prop := sipScalesRow.holds Try.pinned (OpenSpec.ofChange sipScalesWrong)

/-- 'lightclientlaw39.ConnectSpreads': WHATEVER THE INPUT: true; the input reads as it did. -/
def connectSpreadsSpec : ChangeSpec := { name := "connectSpreads", fn := fun _ => fun
  | [d1, d2] => { results := [.lit (.bool true)], args := [d1, d2] }
  | _ => none }
def connectSpreadsRow : OpenClaim := { program := "ytoogcdmdbogkeaa", sum := "a1ee6c7c1cce927999f532db9db682acbbd6f249bc18fae19bb7d9ca87408f6c", func := "lightclient/lightclientlaw39.ConnectSpreads", spec := "connectSpreads", unfollowed := true, recurses := true, apart := false }
def ConnectSpreadsSaid : Prop := connectSpreadsRow.holds Try.pinned (OpenSpec.ofChange connectSpreadsSpec)

/-- ITS FALSE NEIGHBOUR: 'it returns false'. Refute it at one input. -/
def connectSpreadsWrong : ChangeSpec := { name := "connectSpreads", fn := fun _ => fun
  | [d1, d2] => { results := [.lit (.bool false)], args := [d1, d2] }
  | _ => none }
def ConnectSpreadsWrongFalsely : Prop := connectSpreadsRow.holds Try.pinned (OpenSpec.ofChange connectSpreadsWrong)

/-- 'lightclientlaw39.ConnectFair': WHATEVER THE INPUT: true; the input reads as it did. -/
def connectFairSpec : ChangeSpec := { name := "connectFair", fn := fun _ => fun
  | [d1, d2, d3] => { results := [.lit (.bool true)], args := [d1, d2, d3] }
  | _ => none }
def connectFairRow : OpenClaim := { program := "ytoogcdmdbogkeaa", sum := "a1ee6c7c1cce927999f532db9db682acbbd6f249bc18fae19bb7d9ca87408f6c", func := "lightclient/lightclientlaw39.ConnectFair", spec := "connectFair", unfollowed := true, recurses := true, apart := false }
def ConnectFairSaid : Prop := connectFairRow.holds Try.pinned (OpenSpec.ofChange connectFairSpec)

/-- ITS FALSE NEIGHBOUR: 'it returns false'. Refute it at one input. -/
def connectFairWrong : ChangeSpec := { name := "connectFair", fn := fun _ => fun
  | [d1, d2, d3] => { results := [.lit (.bool false)], args := [d1, d2, d3] }
  | _ => none }
def ConnectFairWrongFalsely : Prop := connectFairRow.holds Try.pinned (OpenSpec.ofChange connectFairWrong)

/-- 'lightclientlaw39.ConnectEclipse': WHATEVER THE INPUT: true; the input reads as it did. -/
def connectEclipseSpec : ChangeSpec := { name := "connectEclipse", fn := fun _ => fun
  | [d1, d2, d3] => { results := [.lit (.bool true)], args := [d1, d2, d3] }
  | _ => none }
def connectEclipseRow : OpenClaim := { program := "ytoogcdmdbogkeaa", sum := "a1ee6c7c1cce927999f532db9db682acbbd6f249bc18fae19bb7d9ca87408f6c", func := "lightclient/lightclientlaw39.ConnectEclipse", spec := "connectEclipse", unfollowed := true, recurses := true, apart := false }
def ConnectEclipseSaid : Prop := connectEclipseRow.holds Try.pinned (OpenSpec.ofChange connectEclipseSpec)

/-- ITS FALSE NEIGHBOUR: 'it returns false'. Refute it at one input. -/
def connectEclipseWrong : ChangeSpec := { name := "connectEclipse", fn := fun _ => fun
  | [d1, d2, d3] => { results := [.lit (.bool false)], args := [d1, d2, d3] }
  | _ => none }
def ConnectEclipseWrongFalsely : Prop := connectEclipseRow.holds Try.pinned (OpenSpec.ofChange connectEclipseWrong)

/-- 'lightclientlaw38.AddrbookFloods': WHATEVER THE INPUT: true; the input reads as it did. -/
def addrbookFloodsSpec : ChangeSpec := { name := "addrbookFloods", fn := fun _ => fun
  | [d1, d2] => { results := [.lit (.bool true)], args := [d1, d2] }
  | _ => none }
def addrbookFloodsRow : OpenClaim := { program := "ytoogcdmdbogkeaa", sum := "a1ee6c7c1cce927999f532db9db682acbbd6f249bc18fae19bb7d9ca87408f6c", func := "lightclient/lightclientlaw38.AddrbookFloods", spec := "addrbookFloods", inPlace := ["slices.overlaps[lightclient/api.Place]"], unfollowed := true, recurses := true, apart := false }
def AddrbookFloodsSaid : Prop := addrbookFloodsRow.holds Try.pinned (OpenSpec.ofChange addrbookFloodsSpec)

/-- ITS FALSE NEIGHBOUR: 'it returns false'. Refute it at one input. -/
def addrbookFloodsWrong : ChangeSpec := { name := "addrbookFloods", fn := fun _ => fun
  | [d1, d2] => { results := [.lit (.bool false)], args := [d1, d2] }
  | _ => none }
def AddrbookFloodsWrongFalsely : Prop := addrbookFloodsRow.holds Try.pinned (OpenSpec.ofChange addrbookFloodsWrong)

/-- 'lightclientlaw38.AddrbookGroups': WHATEVER THE INPUT: true; the input reads as it did. -/
def addrbookGroupsSpec : ChangeSpec := { name := "addrbookGroups", fn := fun _ => fun
  | [d1, d2] => { results := [.lit (.bool true)], args := [d1, d2] }
  | _ => none }
def addrbookGroupsRow : OpenClaim := { program := "ytoogcdmdbogkeaa", sum := "a1ee6c7c1cce927999f532db9db682acbbd6f249bc18fae19bb7d9ca87408f6c", func := "lightclient/lightclientlaw38.AddrbookGroups", spec := "addrbookGroups", inPlace := ["slices.overlaps[lightclient/api.Place]"], unfollowed := true, recurses := true, apart := false }
def AddrbookGroupsSaid : Prop := addrbookGroupsRow.holds Try.pinned (OpenSpec.ofChange addrbookGroupsSpec)

/-- ITS FALSE NEIGHBOUR: 'it returns false'. Refute it at one input. -/
def addrbookGroupsWrong : ChangeSpec := { name := "addrbookGroups", fn := fun _ => fun
  | [d1, d2] => { results := [.lit (.bool false)], args := [d1, d2] }
  | _ => none }
def AddrbookGroupsWrongFalsely : Prop := addrbookGroupsRow.holds Try.pinned (OpenSpec.ofChange addrbookGroupsWrong)

/- THE SECOND FORM. 'bulk': how many values and letters a reading holds, each counted each time it is reached (what is shared counts as often as it is met; a slice's spare places count too). A statement '..UptoSaid' is the law's where the arguments, and the package variables that the reading takes, are together of bulk at most 1048576: NARROWER than '..Said'. Prove '..Said' where nothing that the law and all that it calls make is longer than what came in: it says more and counts as full. Else prove '..UptoSaid'. A law counts once. -/
mutual
def uptoBulk {H : Type} : DataW H → Nat
  | .lit (.string bytes) => bytes.length + 1
  | .lit _ => 1
  | .nil => 1
  | .ptr d => uptoBulk d + 1
  | .slice elems spare => uptoBulkAll elems + uptoBulkAll spare + 1
  | .agg parts => uptoBulkAll parts + 1
  | .iface _ d => uptoBulk d + 1
  | .map entries => uptoBulkEntries entries + 1
  | .held _ => 1
def uptoBulkAll {H : Type} : List (DataW H) → Nat
  | [] => 0
  | d :: r => uptoBulk d + uptoBulkAll r
def uptoBulkEntries {H : Type} : List (Lit × DataW H) → Nat
  | [] => 0
  | x :: r => uptoBulkEntry x + uptoBulkEntries r
def uptoBulkEntry {H : Type} : Lit × DataW H → Nat
  | (.string bytes, d) => bytes.length + uptoBulk d + 1
  | (_, d) => uptoBulk d + 1
 end
def uptoSmall : (H : Type) → List (DataW H) → Bool := fun _ ds => decide (uptoBulkAll ds ≤ 1048576)
def OpenSpec.upto (s : _root_.Go.ChangeSpec) : _root_.Go.OpenSpec := { _root_.Go.OpenSpec.ofChange s with cond := some uptoSmall }

/-- 'lightclientlaw04.SipSums', WHERE WHAT IT READS IS OF BULK AT MOST 1048576: true; the input reads as it did. -/
def sipSumsUptoRow : OpenClaim := { program := "ytoogcdmdbogkeaa", sum := "a1ee6c7c1cce927999f532db9db682acbbd6f249bc18fae19bb7d9ca87408f6c", func := "lightclient/lightclientlaw04.SipSums", spec := "sipSums", apart := false, narrowed := true }
def SipSumsUptoSaid : Prop := sipSumsUptoRow.holds Try.pinned (OpenSpec.upto sipSumsSpec)

/-- 'lightclientlaw04.SipLengths', WHERE WHAT IT READS IS OF BULK AT MOST 1048576: true; the input reads as it did. -/
def sipLengthsUptoRow : OpenClaim := { program := "ytoogcdmdbogkeaa", sum := "a1ee6c7c1cce927999f532db9db682acbbd6f249bc18fae19bb7d9ca87408f6c", func := "lightclient/lightclientlaw04.SipLengths", spec := "sipLengths", apart := false, narrowed := true }
def SipLengthsUptoSaid : Prop := sipLengthsUptoRow.holds Try.pinned (OpenSpec.upto sipLengthsSpec)

/-- 'lightclientlaw04.SipMonotone', WHERE WHAT IT READS IS OF BULK AT MOST 1048576: true; the input reads as it did. -/
def sipMonotoneUptoRow : OpenClaim := { program := "ytoogcdmdbogkeaa", sum := "a1ee6c7c1cce927999f532db9db682acbbd6f249bc18fae19bb7d9ca87408f6c", func := "lightclient/lightclientlaw04.SipMonotone", spec := "sipMonotone", apart := false, narrowed := true }
def SipMonotoneUptoSaid : Prop := sipMonotoneUptoRow.holds Try.pinned (OpenSpec.upto sipMonotoneSpec)

/-- 'lightclientlaw04.SipScales', WHERE WHAT IT READS IS OF BULK AT MOST 1048576: true; the input reads as it did. -/
def sipScalesUptoRow : OpenClaim := { program := "ytoogcdmdbogkeaa", sum := "a1ee6c7c1cce927999f532db9db682acbbd6f249bc18fae19bb7d9ca87408f6c", func := "lightclient/lightclientlaw04.SipScales", spec := "sipScales", apart := false, narrowed := true }
def SipScalesUptoSaid : Prop := sipScalesUptoRow.holds Try.pinned (OpenSpec.upto sipScalesSpec)

/-- 'lightclientlaw39.ConnectSpreads', WHERE WHAT IT READS IS OF BULK AT MOST 1048576: true; the input reads as it did. -/
def connectSpreadsUptoRow : OpenClaim := { program := "ytoogcdmdbogkeaa", sum := "a1ee6c7c1cce927999f532db9db682acbbd6f249bc18fae19bb7d9ca87408f6c", func := "lightclient/lightclientlaw39.ConnectSpreads", spec := "connectSpreads", unfollowed := true, recurses := true, apart := false, narrowed := true }
def ConnectSpreadsUptoSaid : Prop := connectSpreadsUptoRow.holds Try.pinned (OpenSpec.upto connectSpreadsSpec)

/-- 'lightclientlaw39.ConnectFair', WHERE WHAT IT READS IS OF BULK AT MOST 1048576: true; the input reads as it did. -/
def connectFairUptoRow : OpenClaim := { program := "ytoogcdmdbogkeaa", sum := "a1ee6c7c1cce927999f532db9db682acbbd6f249bc18fae19bb7d9ca87408f6c", func := "lightclient/lightclientlaw39.ConnectFair", spec := "connectFair", unfollowed := true, recurses := true, apart := false, narrowed := true }
def ConnectFairUptoSaid : Prop := connectFairUptoRow.holds Try.pinned (OpenSpec.upto connectFairSpec)

/-- 'lightclientlaw39.ConnectEclipse', WHERE WHAT IT READS IS OF BULK AT MOST 1048576: true; the input reads as it did. -/
def connectEclipseUptoRow : OpenClaim := { program := "ytoogcdmdbogkeaa", sum := "a1ee6c7c1cce927999f532db9db682acbbd6f249bc18fae19bb7d9ca87408f6c", func := "lightclient/lightclientlaw39.ConnectEclipse", spec := "connectEclipse", unfollowed := true, recurses := true, apart := false, narrowed := true }
def ConnectEclipseUptoSaid : Prop := connectEclipseUptoRow.holds Try.pinned (OpenSpec.upto connectEclipseSpec)

/-- 'lightclientlaw38.AddrbookFloods', WHERE WHAT IT READS IS OF BULK AT MOST 1048576: true; the input reads as it did. -/
def addrbookFloodsUptoRow : OpenClaim := { program := "ytoogcdmdbogkeaa", sum := "a1ee6c7c1cce927999f532db9db682acbbd6f249bc18fae19bb7d9ca87408f6c", func := "lightclient/lightclientlaw38.AddrbookFloods", spec := "addrbookFloods", inPlace := ["slices.overlaps[lightclient/api.Place]"], unfollowed := true, recurses := true, apart := false, narrowed := true }
def AddrbookFloodsUptoSaid : Prop := addrbookFloodsUptoRow.holds Try.pinned (OpenSpec.upto addrbookFloodsSpec)

/-- 'lightclientlaw38.AddrbookGroups', WHERE WHAT IT READS IS OF BULK AT MOST 1048576: true; the input reads as it did. -/
def addrbookGroupsUptoRow : OpenClaim := { program := "ytoogcdmdbogkeaa", sum := "a1ee6c7c1cce927999f532db9db682acbbd6f249bc18fae19bb7d9ca87408f6c", func := "lightclient/lightclientlaw38.AddrbookGroups", spec := "addrbookGroups", inPlace := ["slices.overlaps[lightclient/api.Place]"], unfollowed := true, recurses := true, apart := false, narrowed := true }
def AddrbookGroupsUptoSaid : Prop := addrbookGroupsUptoRow.holds Try.pinned (OpenSpec.upto addrbookGroupsSpec)

end Rows
end Go.Proofs.Ytoogcdmdbogkeaa
