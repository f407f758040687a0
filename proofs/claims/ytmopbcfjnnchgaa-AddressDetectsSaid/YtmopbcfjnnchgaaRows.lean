/-
  No cell of these rows narrows 'for every input' (looked for: loops, veiled, ifaces, maps, wideKeys, modest, calm, conditions, laid).
  DERIVED. THE GIVEN ROWS OF THIS SEAT. 6 by the template 'for every input the law returns true; each argument reads behind the call as it read before'; 0 by the template 'total and deterministic' (their statements: YtmopbcfjnnchgaaTotals.lean).
  GIVEN WITH THE SEED: the statements are not yours to turn. If you find one false, say at which input.
  Laid BY PROGRAM, IN A SANDBOX (cutbox-rows.mjs): the forced cells as the released guide's own fill.sh prints them over the translation 81ce361183b205d5… (all of the seat's roots in one cut). By AI agents, Wed Nov 11 2026. No macro, syntax, notation, axiom, sorry.
-/
import Derived.Test.YtmopbcfjnnchgaaChecked
import GoSem.Claim
import GoSem.ClaimJoined
import GoSem.ClaimMapViews
import Derived.JoinedTies
import Derived.KernelRfl
namespace Go.Proofs.Ytmopbcfjnnchgaa
/- THE CELL 'sum', in the pinned program and in every row, IS THE sha256 OF THE DUMP (.gsa) THAT YtmopbcfjnnchgaaProg.lean LOADS. Nothing in Lean hashes anything: it is a label: what it is worth is what the hold of that sum in a sandbox is worth. -/
noncomputable def Try.pinned : Pinned := { name := "ytmopbcfjnnchgaa", sum := "81ce361183b205d5ef1a65e7bfb1183f9e8f8d02d44f5fbf97eac9b9ebd36461", checked := Try.checked }
namespace Rows
def none {H : Type} : Left H := { results := [], args := [] }

/-- 'lightclientlaw27.AddressDigits': WHATEVER THE INPUT: true; the input reads as it did. -/
def addressDigitsSpec : ChangeSpec := { name := "addressDigits", fn := fun _ => fun
  | [d1, d2] => { results := [.lit (.bool true)], args := [d1, d2] }
  | _ => none }
def addressDigitsRow : OpenClaim := { program := "ytmopbcfjnnchgaa", sum := "81ce361183b205d5ef1a65e7bfb1183f9e8f8d02d44f5fbf97eac9b9ebd36461", func := "lightclient/lightclientlaw27.AddressDigits", spec := "addressDigits", apart := false }
def AddressDigitsSaid : Prop := addressDigitsRow.holds Try.pinned (OpenSpec.ofChange addressDigitsSpec)

/-- ITS FALSE NEIGHBOUR: 'it returns false'. Refute it at one input. -/
def addressDigitsWrong : ChangeSpec := { name := "addressDigits", fn := fun _ => fun
  | [d1, d2] => { results := [.lit (.bool false)], args := [d1, d2] }
  | _ => none }
def AddressDigitsWrongFalsely : Prop := addressDigitsRow.holds Try.pinned (OpenSpec.ofChange addressDigitsWrong)

/-- 'lightclientlaw27.AddressPrefix': WHATEVER THE INPUT: true; the input reads as it did. -/
def addressPrefixSpec : ChangeSpec := { name := "addressPrefix", fn := fun _ => fun
  | [d1, d2, d3, d4] => { results := [.lit (.bool true)], args := [d1, d2, d3, d4] }
  | _ => none }
def addressPrefixRow : OpenClaim := { program := "ytmopbcfjnnchgaa", sum := "81ce361183b205d5ef1a65e7bfb1183f9e8f8d02d44f5fbf97eac9b9ebd36461", func := "lightclient/lightclientlaw27.AddressPrefix", spec := "addressPrefix", apart := false }
def AddressPrefixSaid : Prop := addressPrefixRow.holds Try.pinned (OpenSpec.ofChange addressPrefixSpec)

/-- ITS FALSE NEIGHBOUR: 'it returns false'. Refute it at one input. -/
def addressPrefixWrong : ChangeSpec := { name := "addressPrefix", fn := fun _ => fun
  | [d1, d2, d3, d4] => { results := [.lit (.bool false)], args := [d1, d2, d3, d4] }
  | _ => none }
def AddressPrefixWrongFalsely : Prop := addressPrefixRow.holds Try.pinned (OpenSpec.ofChange addressPrefixWrong)

/-- 'lightclientlaw27.AddressSums': WHATEVER THE INPUT: true; the input reads as it did. -/
def addressSumsSpec : ChangeSpec := { name := "addressSums", fn := fun _ => fun
  | [d1, d2, d3] => { results := [.lit (.bool true)], args := [d1, d2, d3] }
  | _ => none }
def addressSumsRow : OpenClaim := { program := "ytmopbcfjnnchgaa", sum := "81ce361183b205d5ef1a65e7bfb1183f9e8f8d02d44f5fbf97eac9b9ebd36461", func := "lightclient/lightclientlaw27.AddressSums", spec := "addressSums", apart := false }
def AddressSumsSaid : Prop := addressSumsRow.holds Try.pinned (OpenSpec.ofChange addressSumsSpec)

/-- ITS FALSE NEIGHBOUR: 'it returns false'. Refute it at one input. -/
def addressSumsWrong : ChangeSpec := { name := "addressSums", fn := fun _ => fun
  | [d1, d2, d3] => { results := [.lit (.bool false)], args := [d1, d2, d3] }
  | _ => none }
def AddressSumsWrongFalsely : Prop := addressSumsRow.holds Try.pinned (OpenSpec.ofChange addressSumsWrong)

/-- 'lightclientlaw27.AddressEncodes': WHATEVER THE INPUT: true; the input reads as it did. -/
def addressEncodesSpec : ChangeSpec := { name := "addressEncodes", fn := fun _ => fun
  | [d1, d2, d3] => { results := [.lit (.bool true)], args := [d1, d2, d3] }
  | _ => none }
def addressEncodesRow : OpenClaim := { program := "ytmopbcfjnnchgaa", sum := "81ce361183b205d5ef1a65e7bfb1183f9e8f8d02d44f5fbf97eac9b9ebd36461", func := "lightclient/lightclientlaw27.AddressEncodes", spec := "addressEncodes", apart := false }
def AddressEncodesSaid : Prop := addressEncodesRow.holds Try.pinned (OpenSpec.ofChange addressEncodesSpec)

/-- ITS FALSE NEIGHBOUR: 'it returns false'. Refute it at one input. -/
def addressEncodesWrong : ChangeSpec := { name := "addressEncodes", fn := fun _ => fun
  | [d1, d2, d3] => { results := [.lit (.bool false)], args := [d1, d2, d3] }
  | _ => none }
def AddressEncodesWrongFalsely : Prop := addressEncodesRow.holds Try.pinned (OpenSpec.ofChange addressEncodesWrong)

/-- 'lightclientlaw27.AddressBack': WHATEVER THE INPUT: true; the input reads as it did. -/
def addressBackSpec : ChangeSpec := { name := "addressBack", fn := fun _ => fun
  | [d1, d2] => { results := [.lit (.bool true)], args := [d1, d2] }
  | _ => none }
def addressBackRow : OpenClaim := { program := "ytmopbcfjnnchgaa", sum := "81ce361183b205d5ef1a65e7bfb1183f9e8f8d02d44f5fbf97eac9b9ebd36461", func := "lightclient/lightclientlaw27.AddressBack", spec := "addressBack", inPlace := ["internal/bytealg.IndexByteString"], apart := false }
def AddressBackSaid : Prop := addressBackRow.holds Try.pinned (OpenSpec.ofChange addressBackSpec)

/-- ITS FALSE NEIGHBOUR: 'it returns false'. Refute it at one input. -/
def addressBackWrong : ChangeSpec := { name := "addressBack", fn := fun _ => fun
  | [d1, d2] => { results := [.lit (.bool false)], args := [d1, d2] }
  | _ => none }
def AddressBackWrongFalsely : Prop := addressBackRow.holds Try.pinned (OpenSpec.ofChange addressBackWrong)

/-- 'lightclientlaw27.AddressDetects': WHATEVER THE INPUT: true; the input reads as it did. -/
def addressDetectsSpec : ChangeSpec := { name := "addressDetects", fn := fun _ => fun
  | [d1, d2, d3, d4] => { results := [.lit (.bool true)], args := [d1, d2, d3, d4] }
  | _ => none }
def addressDetectsRow : OpenClaim := { program := "ytmopbcfjnnchgaa", sum := "81ce361183b205d5ef1a65e7bfb1183f9e8f8d02d44f5fbf97eac9b9ebd36461", func := "lightclient/lightclientlaw27.AddressDetects", spec := "addressDetects", inPlace := ["internal/bytealg.IndexByteString"], apart := false }
def AddressDetectsSaid : Prop := addressDetectsRow.holds Try.pinned (OpenSpec.ofChange addressDetectsSpec)

/-- ITS FALSE NEIGHBOUR: 'it returns false'. Refute it at one input. -/
def addressDetectsWrong : ChangeSpec := { name := "addressDetects", fn := fun _ => fun
  | [d1, d2, d3, d4] => { results := [.lit (.bool false)], args := [d1, d2, d3, d4] }
  | _ => none }
def AddressDetectsWrongFalsely : Prop := addressDetectsRow.holds Try.pinned (OpenSpec.ofChange addressDetectsWrong)

/- THE SECOND FORM. 'bulk': how many values and letters a reading holds, each counted each time it is reached (what is shared counts as often as it is met; a slice's spare places count too). A statement '..UptoSaid' is the law's where the arguments, and the package variables that the reading takes, are together of bulk at most 1048576: NARROWER than '..Said'. Prove '..Said' where nothing that the law and all that it calls make is longer than what came in: it says more and counts as full. Else prove '..UptoSaid'. A law counts once. -/
mutual
def uptoBulk {H : Type} : DataW H → Nat
  | .lit (.string bytes) => bytes.length + 1
  | .lit _ => 1
  | .nil => 1
  | .ptr d => uptoBulk d + 1
  | .slice elems spare => uptoBulkAll elems + uptoBulkAll spare + 1
  | .agg parts => uptoBulkAll parts + 1
  | .iface _ d => uptoBulk d + 1
  | .map entries => uptoBulkEntries entries + 1
  | .held _ => 1
def uptoBulkAll {H : Type} : List (DataW H) → Nat
  | [] => 0
  | d :: r => uptoBulk d + uptoBulkAll r
def uptoBulkEntries {H : Type} : List (Lit × DataW H) → Nat
  | [] => 0
  | x :: r => uptoBulkEntry x + uptoBulkEntries r
def uptoBulkEntry {H : Type} : Lit × DataW H → Nat
  | (.string bytes, d) => bytes.length + uptoBulk d + 1
  | (_, d) => uptoBulk d + 1
 end
def uptoSmall : (H : Type) → List (DataW H) → Bool := fun _ ds => decide (uptoBulkAll ds ≤ 1048576)
def OpenSpec.upto (s : _root_.Go.ChangeSpec) : _root_.Go.OpenSpec := { _root_.Go.OpenSpec.ofChange s with cond := some uptoSmall }

/-- 'lightclientlaw27.AddressDigits', WHERE WHAT IT READS IS OF BULK AT MOST 1048576: true; the input reads as it did. -/
def addressDigitsUptoRow : OpenClaim := { program := "ytmopbcfjnnchgaa", sum := "81ce361183b205d5ef1a65e7bfb1183f9e8f8d02d44f5fbf97eac9b9ebd36461", func := "lightclient/lightclientlaw27.AddressDigits", spec := "addressDigits", apart := false, narrowed := true }
def AddressDigitsUptoSaid : Prop := addressDigitsUptoRow.holds Try.pinned (OpenSpec.upto addressDigitsSpec)

/-- 'lightclientlaw27.AddressPrefix', WHERE WHAT IT READS IS OF BULK AT MOST 1048576: true; the input reads as it did. -/
def addressPrefixUptoRow : OpenClaim := { program := "ytmopbcfjnnchgaa", sum := "81ce361183b205d5ef1a65e7bfb1183f9e8f8d02d44f5fbf97eac9b9ebd36461", func := "lightclient/lightclientlaw27.AddressPrefix", spec := "addressPrefix", apart := false, narrowed := true }
def AddressPrefixUptoSaid : Prop := addressPrefixUptoRow.holds Try.pinned (OpenSpec.upto addressPrefixSpec)

/-- 'lightclientlaw27.AddressSums', WHERE WHAT IT READS IS OF BULK AT MOST 1048576: true; the input reads as it did. -/
def addressSumsUptoRow : OpenClaim := { program := "ytmopbcfjnnchgaa", sum := "81ce361183b205d5ef1a65e7bfb1183f9e8f8d02d44f5fbf97eac9b9ebd36461", func := "lightclient/lightclientlaw27.AddressSums", spec := "addressSums", apart := false, narrowed := true }
def AddressSumsUptoSaid : Prop := addressSumsUptoRow.holds Try.pinned (OpenSpec.upto addressSumsSpec)

/-- 'lightclientlaw27.AddressEncodes', WHERE WHAT IT READS IS OF BULK AT MOST 1048576: true; the input reads as it did. -/
def addressEncodesUptoRow : OpenClaim := { program := "ytmopbcfjnnchgaa", sum := "81ce361183b205d5ef1a65e7bfb1183f9e8f8d02d44f5fbf97eac9b9ebd36461", func := "lightclient/lightclientlaw27.AddressEncodes", spec := "addressEncodes", apart := false, narrowed := true }
def AddressEncodesUptoSaid : Prop := addressEncodesUptoRow.holds Try.pinned (OpenSpec.upto addressEncodesSpec)

/-- 'lightclientlaw27.AddressBack', WHERE WHAT IT READS IS OF BULK AT MOST 1048576: true; the input reads as it did. -/
def addressBackUptoRow : OpenClaim := { program := "ytmopbcfjnnchgaa", sum := "81ce361183b205d5ef1a65e7bfb1183f9e8f8d02d44f5fbf97eac9b9ebd36461", func := "lightclient/lightclientlaw27.AddressBack", spec := "addressBack", inPlace := ["internal/bytealg.IndexByteString"], apart := false, narrowed := true }
def AddressBackUptoSaid : Prop := addressBackUptoRow.holds Try.pinned (OpenSpec.upto addressBackSpec)

/-- 'lightclientlaw27.AddressDetects', WHERE WHAT IT READS IS OF BULK AT MOST 1048576: true; the input reads as it did. -/
def addressDetectsUptoRow : OpenClaim := { program := "ytmopbcfjnnchgaa", sum := "81ce361183b205d5ef1a65e7bfb1183f9e8f8d02d44f5fbf97eac9b9ebd36461", func := "lightclient/lightclientlaw27.AddressDetects", spec := "addressDetects", inPlace := ["internal/bytealg.IndexByteString"], apart := false, narrowed := true }
def AddressDetectsUptoSaid : Prop := addressDetectsUptoRow.holds Try.pinned (OpenSpec.upto addressDetectsSpec)

end Rows
end Go.Proofs.Ytmopbcfjnnchgaa
