/-
  No cell of these rows narrows 'for every input' (looked for: loops, veiled, ifaces, maps, wideKeys, modest, calm, conditions, laid).
  DERIVED. THE GIVEN ROWS OF THIS SEAT. 4 by the template 'for every input the law returns true; each argument reads behind the call as it read before'; 0 by the template 'total and deterministic' (their statements: YtngfalbabgpnnaaGreatTotals.lean).
  GIVEN WITH THE SEED: the statements are not yours to turn. If you find one false, say at which input.
  Laid BY PROGRAM, IN A SANDBOX (cutbox-rows.mjs): the forced cells as the released guide's own fill.sh prints them over the translation 47eb11485e9421a8… (all of the seat's roots in one cut). By AI agents, Wed Nov 11 2026. No macro, syntax, notation, axiom, sorry.
-/
import Derived.Test.YtngfalbabgpnnaaGreatChecked
import GoSem.Claim
import GoSem.ClaimJoined
import GoSem.ClaimMapViews
import Derived.JoinedTies
import Derived.KernelRfl
namespace Go.Proofs.YtngfalbabgpnnaaGreat
/- THE CELL 'sum', in the pinned program and in every row, IS THE sha256 OF THE DUMP (.gsa) THAT YtngfalbabgpnnaaGreatProg.lean LOADS. Nothing in Lean hashes anything: it is a label: what it is worth is what the hold of that sum in a sandbox is worth. -/
noncomputable def Tryz.pinned : Pinned := { name := "ytngfalbabgpnnaagreat", sum := "47eb11485e9421a8f145893debbc9f584f993337a46197a0eb0b42549eca7a94", checked := Tryz.checked }
namespace Rows
def none {H : Type} : Left H := { results := [], args := [] }

/-- 'scriniumlaw12.VersionShares': WHATEVER THE INPUT: true; the input reads as it did. -/
def versionSharesSpec : ChangeSpec := { name := "versionShares", fn := fun _ => fun
  | [d1, d2] => { results := [.lit (.bool true)], args := [d1, d2] }
  | _ => none }
def versionSharesRow : OpenClaim := { program := "ytngfalbabgpnnaagreat", sum := "47eb11485e9421a8f145893debbc9f584f993337a46197a0eb0b42549eca7a94", func := "scrinium/scriniumlaw12.VersionShares", spec := "versionShares", unfollowed := true, recurses := true, apart := false }
def VersionSharesSaid : Prop := versionSharesRow.holds Tryz.pinned (OpenSpec.ofChange versionSharesSpec)

/-- ITS FALSE NEIGHBOUR: 'it returns false'. Refute it at one input. -/
def versionSharesWrong : ChangeSpec := { name := "versionShares", fn := fun _ => fun
  | [d1, d2] => { results := [.lit (.bool false)], args := [d1, d2] }
  | _ => none }
def VersionSharesWrongFalsely : Prop := versionSharesRow.holds Tryz.pinned (OpenSpec.ofChange versionSharesWrong)

/-- 'scriniumlaw16.PullBack': WHATEVER THE INPUT: true; the input reads as it did. -/
def pullBackSpec : ChangeSpec := { name := "pullBack", fn := fun _ => fun
  | [d1, d2] => { results := [.lit (.bool true)], args := [d1, d2] }
  | _ => none }
def pullBackRow : OpenClaim := { program := "ytngfalbabgpnnaagreat", sum := "47eb11485e9421a8f145893debbc9f584f993337a46197a0eb0b42549eca7a94", func := "scrinium/scriniumlaw16.PullBack", spec := "pullBack", unfollowed := true, recurses := true, apart := false }
def PullBackSaid : Prop := pullBackRow.holds Tryz.pinned (OpenSpec.ofChange pullBackSpec)

/-- ITS FALSE NEIGHBOUR: 'it returns false'. Refute it at one input. -/
def pullBackWrong : ChangeSpec := { name := "pullBack", fn := fun _ => fun
  | [d1, d2] => { results := [.lit (.bool false)], args := [d1, d2] }
  | _ => none }
def PullBackWrongFalsely : Prop := pullBackRow.holds Tryz.pinned (OpenSpec.ofChange pullBackWrong)

/-- 'scriniumlaw12.VersionTells': WHATEVER THE INPUT: true; the input reads as it did. -/
def versionTellsSpec : ChangeSpec := { name := "versionTells", fn := fun _ => fun
  | [d1, d2, d3, d4, d5] => { results := [.lit (.bool true)], args := [d1, d2, d3, d4, d5] }
  | _ => none }
def versionTellsRow : OpenClaim := { program := "ytngfalbabgpnnaagreat", sum := "47eb11485e9421a8f145893debbc9f584f993337a46197a0eb0b42549eca7a94", func := "scrinium/scriniumlaw12.VersionTells", spec := "versionTells", unfollowed := true, recurses := true, apart := false }
def VersionTellsSaid : Prop := versionTellsRow.holds Tryz.pinned (OpenSpec.ofChange versionTellsSpec)

/-- ITS FALSE NEIGHBOUR: 'it returns false'. Refute it at one input. -/
def versionTellsWrong : ChangeSpec := { name := "versionTells", fn := fun _ => fun
  | [d1, d2, d3, d4, d5] => { results := [.lit (.bool false)], args := [d1, d2, d3, d4, d5] }
  | _ => none }
def VersionTellsWrongFalsely : Prop := versionTellsRow.holds Tryz.pinned (OpenSpec.ofChange versionTellsWrong)

/-- 'scriniumlaw13.PutTells': WHATEVER THE INPUT: true; the input reads as it did. -/
def putTellsSpec : ChangeSpec := { name := "putTells", fn := fun _ => fun
  | [d1, d2, d3] => { results := [.lit (.bool true)], args := [d1, d2, d3] }
  | _ => none }
def putTellsRow : OpenClaim := { program := "ytngfalbabgpnnaagreat", sum := "47eb11485e9421a8f145893debbc9f584f993337a46197a0eb0b42549eca7a94", func := "scrinium/scriniumlaw13.PutTells", spec := "putTells", unfollowed := true, recurses := true, apart := false }
def PutTellsSaid : Prop := putTellsRow.holds Tryz.pinned (OpenSpec.ofChange putTellsSpec)

/-- ITS FALSE NEIGHBOUR: 'it returns false'. Refute it at one input. -/
def putTellsWrong : ChangeSpec := { name := "putTells", fn := fun _ => fun
  | [d1, d2, d3] => { results := [.lit (.bool false)], args := [d1, d2, d3] }
  | _ => none }
def PutTellsWrongFalsely : Prop := putTellsRow.holds Tryz.pinned (OpenSpec.ofChange putTellsWrong)

/- THE SECOND FORM. 'bulk': how many values and letters a reading holds, each counted each time it is reached (what is shared counts as often as it is met; a slice's spare places count too). A statement '..UptoSaid' is the law's where the arguments, and the package variables that the reading takes, are together of bulk at most 1048576: NARROWER than '..Said'. Prove '..Said' where nothing that the law and all that it calls make is longer than what came in: it says more and counts as full. Else prove '..UptoSaid'. A law counts once. -/
mutual
def uptoBulk {H : Type} : DataW H → Nat
  | .lit (.string bytes) => bytes.length + 1
  | .lit _ => 1
  | .nil => 1
  | .ptr d => uptoBulk d + 1
  | .slice elems spare => uptoBulkAll elems + uptoBulkAll spare + 1
  | .agg parts => uptoBulkAll parts + 1
  | .iface _ d => uptoBulk d + 1
  | .map entries => uptoBulkEntries entries + 1
  | .held _ => 1
def uptoBulkAll {H : Type} : List (DataW H) → Nat
  | [] => 0
  | d :: r => uptoBulk d + uptoBulkAll r
def uptoBulkEntries {H : Type} : List (Lit × DataW H) → Nat
  | [] => 0
  | x :: r => uptoBulkEntry x + uptoBulkEntries r
def uptoBulkEntry {H : Type} : Lit × DataW H → Nat
  | (.string bytes, d) => bytes.length + uptoBulk d + 1
  | (_, d) => uptoBulk d + 1
 end
def uptoSmall : (H : Type) → List (DataW H) → Bool := fun _ ds => decide (uptoBulkAll ds ≤ 1048576)
def OpenSpec.upto (s : _root_.Go.ChangeSpec) : _root_.Go.OpenSpec := { _root_.Go.OpenSpec.ofChange s with cond := some uptoSmall }

/-- 'scriniumlaw12.VersionShares', WHERE WHAT IT READS IS OF BULK AT MOST 1048576: true; the input reads as it did. -/
def versionSharesUptoRow : OpenClaim := { program := "ytngfalbabgpnnaagreat", sum := "47eb11485e9421a8f145893debbc9f584f993337a46197a0eb0b42549eca7a94", func := "scrinium/scriniumlaw12.VersionShares", spec := "versionShares", unfollowed := true, recurses := true, apart := false, narrowed := true }
def VersionSharesUptoSaid : Prop := versionSharesUptoRow.holds Tryz.pinned (OpenSpec.upto versionSharesSpec)

/-- 'scriniumlaw16.PullBack', WHERE WHAT IT READS IS OF BULK AT MOST 1048576: true; the input reads as it did. -/
def pullBackUptoRow : OpenClaim := { program := "ytngfalbabgpnnaagreat", sum := "47eb11485e9421a8f145893debbc9f584f993337a46197a0eb0b42549eca7a94", func := "scrinium/scriniumlaw16.PullBack", spec := "pullBack", unfollowed := true, recurses := true, apart := false, narrowed := true }
def PullBackUptoSaid : Prop := pullBackUptoRow.holds Tryz.pinned (OpenSpec.upto pullBackSpec)

/-- 'scriniumlaw12.VersionTells', WHERE WHAT IT READS IS OF BULK AT MOST 1048576: true; the input reads as it did. -/
def versionTellsUptoRow : OpenClaim := { program := "ytngfalbabgpnnaagreat", sum := "47eb11485e9421a8f145893debbc9f584f993337a46197a0eb0b42549eca7a94", func := "scrinium/scriniumlaw12.VersionTells", spec := "versionTells", unfollowed := true, recurses := true, apart := false, narrowed := true }
def VersionTellsUptoSaid : Prop := versionTellsUptoRow.holds Tryz.pinned (OpenSpec.upto versionTellsSpec)

/-- 'scriniumlaw13.PutTells', WHERE WHAT IT READS IS OF BULK AT MOST 1048576: true; the input reads as it did. -/
def putTellsUptoRow : OpenClaim := { program := "ytngfalbabgpnnaagreat", sum := "47eb11485e9421a8f145893debbc9f584f993337a46197a0eb0b42549eca7a94", func := "scrinium/scriniumlaw13.PutTells", spec := "putTells", unfollowed := true, recurses := true, apart := false, narrowed := true }
def PutTellsUptoSaid : Prop := putTellsUptoRow.holds Tryz.pinned (OpenSpec.upto putTellsSpec)

end Rows
end Go.Proofs.YtngfalbabgpnnaaGreat
