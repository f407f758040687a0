/-
  No cell of these rows narrows 'for every input' (looked for: loops, veiled, ifaces, maps, wideKeys, modest, calm, conditions, laid).
  DERIVED. THE GIVEN ROWS OF THIS SEAT. 3 by the template 'for every input the law returns true; each argument reads behind the call as it read before'; 0 by the template 'total and deterministic' (their statements: YtjdahineeoofiaaTotals.lean).
  GIVEN WITH THE SEED: the statements are not yours to turn. If you find one false, say at which input.
  Laid BY PROGRAM, IN A SANDBOX (cutbox-rows.mjs): the forced cells as the released guide's own fill.sh prints them over the translation c2b782f1ace9f3b0… (all of the seat's roots in one cut). By AI agents, Wed Nov 11 2026. No macro, syntax, notation, axiom, sorry.
-/
import Derived.Test.YtjdahineeoofiaaChecked
import GoSem.Claim
import GoSem.ClaimJoined
import GoSem.ClaimMapViews
import Derived.JoinedTies
import Derived.KernelRfl
namespace Go.Proofs.Ytjdahineeoofiaa
/- THE CELL 'sum', in the pinned program and in every row, IS THE sha256 OF THE DUMP (.gsa) THAT YtjdahineeoofiaaProg.lean LOADS. Nothing in Lean hashes anything: it is a label: what it is worth is what the hold of that sum in a sandbox is worth. -/
noncomputable def Try.pinned : Pinned := { name := "ytjdahineeoofiaa", sum := "c2b782f1ace9f3b0ef0d68fde1b49083f19a98c4e71d580f5678112598163208", checked := Try.checked }
namespace Rows
def none {H : Type} : Left H := { results := [], args := [] }

/-- 'lightclientlaw33.FeesClasses': WHATEVER THE INPUT: true; the input reads as it did. -/
def feesClassesSpec : ChangeSpec := { name := "feesClasses", fn := fun _ => fun
  | [d1, d2, d3, d4] => { results := [.lit (.bool true)], args := [d1, d2, d3, d4] }
  | _ => none }
def feesClassesRow : OpenClaim := { program := "ytjdahineeoofiaa", sum := "c2b782f1ace9f3b0ef0d68fde1b49083f19a98c4e71d580f5678112598163208", func := "lightclient/lightclientlaw33.FeesClasses", spec := "feesClasses", plainKeys := false, apart := false }
def FeesClassesSaid : Prop := feesClassesRow.holds Try.pinned (OpenSpec.ofChange feesClassesSpec)

/-- ITS FALSE NEIGHBOUR: 'it returns false'. Refute it at one input. -/
def feesClassesWrong : ChangeSpec := { name := "feesClasses", fn := fun _ => fun
  | [d1, d2, d3, d4] => { results := [.lit (.bool false)], args := [d1, d2, d3, d4] }
  | _ => none }
def FeesClassesWrongFalsely : Prop := feesClassesRow.holds Try.pinned (OpenSpec.ofChange feesClassesWrong)

/-- 'lightclientlaw33.FeesOrder': WHATEVER THE INPUT: true; the input reads as it did. -/
def feesOrderSpec : ChangeSpec := { name := "feesOrder", fn := fun _ => fun
  | [d1, d2, d3, d4, d5, d6] => { results := [.lit (.bool true)], args := [d1, d2, d3, d4, d5, d6] }
  | _ => none }
def feesOrderRow : OpenClaim := { program := "ytjdahineeoofiaa", sum := "c2b782f1ace9f3b0ef0d68fde1b49083f19a98c4e71d580f5678112598163208", func := "lightclient/lightclientlaw33.FeesOrder", spec := "feesOrder", plainKeys := false, apart := false }
def FeesOrderSaid : Prop := feesOrderRow.holds Try.pinned (OpenSpec.ofChange feesOrderSpec)

/-- ITS FALSE NEIGHBOUR: 'it returns false'. Refute it at one input. -/
def feesOrderWrong : ChangeSpec := { name := "feesOrder", fn := fun _ => fun
  | [d1, d2, d3, d4, d5, d6] => { results := [.lit (.bool false)], args := [d1, d2, d3, d4, d5, d6] }
  | _ => none }
def FeesOrderWrongFalsely : Prop := feesOrderRow.holds Try.pinned (OpenSpec.ofChange feesOrderWrong)

/-- 'lightclientlaw33.FeesUndone': WHATEVER THE INPUT: true; the input reads as it did. -/
def feesUndoneSpec : ChangeSpec := { name := "feesUndone", fn := fun _ => fun
  | [d1, d2] => { results := [.lit (.bool true)], args := [d1, d2] }
  | _ => none }
def feesUndoneRow : OpenClaim := { program := "ytjdahineeoofiaa", sum := "c2b782f1ace9f3b0ef0d68fde1b49083f19a98c4e71d580f5678112598163208", func := "lightclient/lightclientlaw33.FeesUndone", spec := "feesUndone", unfollowed := true, recurses := true, plainKeys := false, apart := false }
def FeesUndoneSaid : Prop := feesUndoneRow.holds Try.pinned (OpenSpec.ofChange feesUndoneSpec)

/-- ITS FALSE NEIGHBOUR: 'it returns false'. Refute it at one input. -/
def feesUndoneWrong : ChangeSpec := { name := "feesUndone", fn := fun _ => fun
  | [d1, d2] => { results := [.lit (.bool false)], args := [d1, d2] }
  | _ => none }
def FeesUndoneWrongFalsely : Prop := feesUndoneRow.holds Try.pinned (OpenSpec.ofChange feesUndoneWrong)

/- THE SECOND FORM. 'bulk': how many values and letters a reading holds, each counted each time it is reached (what is shared counts as often as it is met; a slice's spare places count too). A statement '..UptoSaid' is the law's where the arguments, and the package variables that the reading takes, are together of bulk at most 1048576: NARROWER than '..Said'. Prove '..Said' where nothing that the law and all that it calls make is longer than what came in: it says more and counts as full. Else prove '..UptoSaid'. A law counts once. -/
mutual
def uptoBulk {H : Type} : DataW H → Nat
  | .lit (.string bytes) => bytes.length + 1
  | .lit _ => 1
  | .nil => 1
  | .ptr d => uptoBulk d + 1
  | .slice elems spare => uptoBulkAll elems + uptoBulkAll spare + 1
  | .agg parts => uptoBulkAll parts + 1
  | .iface _ d => uptoBulk d + 1
  | .map entries => uptoBulkEntries entries + 1
  | .held _ => 1
def uptoBulkAll {H : Type} : List (DataW H) → Nat
  | [] => 0
  | d :: r => uptoBulk d + uptoBulkAll r
def uptoBulkEntries {H : Type} : List (Lit × DataW H) → Nat
  | [] => 0
  | x :: r => uptoBulkEntry x + uptoBulkEntries r
def uptoBulkEntry {H : Type} : Lit × DataW H → Nat
  | (.string bytes, d) => bytes.length + uptoBulk d + 1
  | (_, d) => uptoBulk d + 1
 end
def uptoSmall : (H : Type) → List (DataW H) → Bool := fun _ ds => decide (uptoBulkAll ds ≤ 1048576)
def OpenSpec.upto (s : _root_.Go.ChangeSpec) : _root_.Go.OpenSpec := { _root_.Go.OpenSpec.ofChange s with cond := some uptoSmall }

/-- 'lightclientlaw33.FeesClasses', WHERE WHAT IT READS IS OF BULK AT MOST 1048576: true; the input reads as it did. -/
def feesClassesUptoRow : OpenClaim := { program := "ytjdahineeoofiaa", sum := "c2b782f1ace9f3b0ef0d68fde1b49083f19a98c4e71d580f5678112598163208", func := "lightclient/lightclientlaw33.FeesClasses", spec := "feesClasses", plainKeys := false, apart := false, narrowed := true }
def FeesClassesUptoSaid : Prop := feesClassesUptoRow.holds Try.pinned (OpenSpec.upto feesClassesSpec)

/-- 'lightclientlaw33.FeesOrder', WHERE WHAT IT READS IS OF BULK AT MOST 1048576: true; the input reads as it did. -/
def feesOrderUptoRow : OpenClaim := { program := "ytjdahineeoofiaa", sum := "c2b782f1ace9f3b0ef0d68fde1b49083f19a98c4e71d580f5678112598163208", func := "lightclient/lightclientlaw33.FeesOrder", spec := "feesOrder", plainKeys := false, apart := false, narrowed := true }
def FeesOrderUptoSaid : Prop := feesOrderUptoRow.holds Try.pinned (OpenSpec.upto feesOrderSpec)

/-- 'lightclientlaw33.FeesUndone', WHERE WHAT IT READS IS OF BULK AT MOST 1048576: true; the input reads as it did. -/
def feesUndoneUptoRow : OpenClaim := { program := "ytjdahineeoofiaa", sum := "c2b782f1ace9f3b0ef0d68fde1b49083f19a98c4e71d580f5678112598163208", func := "lightclient/lightclientlaw33.FeesUndone", spec := "feesUndone", unfollowed := true, recurses := true, plainKeys := false, apart := false, narrowed := true }
def FeesUndoneUptoSaid : Prop := feesUndoneUptoRow.holds Try.pinned (OpenSpec.upto feesUndoneSpec)

end Rows
end Go.Proofs.Ytjdahineeoofiaa
