/-
  No cell of these rows narrows 'for every input' (looked for: loops, veiled, ifaces, maps, wideKeys, modest, calm, conditions, laid).
  DERIVED. THE GIVEN ROWS OF THIS SEAT. 3 by the template 'for every input the law returns true; each argument reads behind the call as it read before'; 0 by the template 'total and deterministic' (their statements: YtoeapcfnbomlgaaTotals.lean).
  GIVEN WITH THE SEED: the statements are not yours to turn. If you find one false, say at which input.
  Laid BY PROGRAM, IN A SANDBOX (cutbox-rows.mjs): the forced cells as the released guide's own fill.sh prints them over the translation ac6bf021958262d4… (all of the seat's roots in one cut). By AI agents, Wed Nov 11 2026. No macro, syntax, notation, axiom, sorry.
-/
import Derived.Test.YtoeapcfnbomlgaaChecked
import GoSem.Claim
import GoSem.ClaimJoined
import GoSem.ClaimMapViews
import Derived.JoinedTies
import Derived.KernelRfl
namespace Go.Proofs.Ytoeapcfnbomlgaa
/- THE CELL 'sum', in the pinned program and in every row, IS THE sha256 OF THE DUMP (.gsa) THAT YtoeapcfnbomlgaaProg.lean LOADS. Nothing in Lean hashes anything: it is a label: what it is worth is what the hold of that sum in a sandbox is worth. -/
noncomputable def Try.pinned : Pinned := { name := "ytoeapcfnbomlgaa", sum := "ac6bf021958262d45586b52664a170df4640ae90c09f0d0ef189d67bef9c8d7d", checked := Try.checked }
namespace Rows
def none {H : Type} : Left H := { results := [], args := [] }

/-- 'bulletinlaw32.TransferPrefix': WHATEVER THE INPUT: true; the input reads as it did. -/
def transferPrefixSpec : ChangeSpec := { name := "transferPrefix", fn := fun _ => fun
  | [d1, d2, d3] => { results := [.lit (.bool true)], args := [d1, d2, d3] }
  | _ => none }
def transferPrefixRow : OpenClaim := { program := "ytoeapcfnbomlgaa", sum := "ac6bf021958262d45586b52664a170df4640ae90c09f0d0ef189d67bef9c8d7d", func := "bulletin/bulletinlaw32.TransferPrefix", spec := "transferPrefix", inPlace := ["internal/abi.NoEscape"], unfollowed := true, recurses := true, apart := false }
def TransferPrefixSaid : Prop := transferPrefixRow.holds Try.pinned (OpenSpec.ofChange transferPrefixSpec)

/-- ITS FALSE NEIGHBOUR: 'it returns false'. Refute it at one input. -/
def transferPrefixWrong : ChangeSpec := { name := "transferPrefix", fn := fun _ => fun
  | [d1, d2, d3] => { results := [.lit (.bool false)], args := [d1, d2, d3] }
  | _ => none }
def TransferPrefixWrongFalsely : Prop := transferPrefixRow.holds Try.pinned (OpenSpec.ofChange transferPrefixWrong)

/-- 'bulletinlaw32.TransferClone': WHATEVER THE INPUT: true; the input reads as it did. -/
def transferCloneSpec : ChangeSpec := { name := "transferClone", fn := fun _ => fun
  | [d1, d2, d3, d4] => { results := [.lit (.bool true)], args := [d1, d2, d3, d4] }
  | _ => none }
def transferCloneRow : OpenClaim := { program := "ytoeapcfnbomlgaa", sum := "ac6bf021958262d45586b52664a170df4640ae90c09f0d0ef189d67bef9c8d7d", func := "bulletin/bulletinlaw32.TransferClone", spec := "transferClone", inPlace := ["internal/abi.NoEscape"], unfollowed := true, recurses := true, apart := false }
def TransferCloneSaid : Prop := transferCloneRow.holds Try.pinned (OpenSpec.ofChange transferCloneSpec)

/-- ITS FALSE NEIGHBOUR: 'it returns false'. Refute it at one input. -/
def transferCloneWrong : ChangeSpec := { name := "transferClone", fn := fun _ => fun
  | [d1, d2, d3, d4] => { results := [.lit (.bool false)], args := [d1, d2, d3, d4] }
  | _ => none }
def TransferCloneWrongFalsely : Prop := transferCloneRow.holds Try.pinned (OpenSpec.ofChange transferCloneWrong)

/-- 'bulletinlaw32.TransferOnce': WHATEVER THE INPUT: true; the input reads as it did. -/
def transferOnceSpec : ChangeSpec := { name := "transferOnce", fn := fun _ => fun
  | [d1, d2, d3, d4] => { results := [.lit (.bool true)], args := [d1, d2, d3, d4] }
  | _ => none }
def transferOnceRow : OpenClaim := { program := "ytoeapcfnbomlgaa", sum := "ac6bf021958262d45586b52664a170df4640ae90c09f0d0ef189d67bef9c8d7d", func := "bulletin/bulletinlaw32.TransferOnce", spec := "transferOnce", inPlace := ["internal/abi.NoEscape", "internal/bytealg.MakeNoZero"], unfollowed := true, recurses := true, apart := false }
def TransferOnceSaid : Prop := transferOnceRow.holds Try.pinned (OpenSpec.ofChange transferOnceSpec)

/-- ITS FALSE NEIGHBOUR: 'it returns false'. Refute it at one input. -/
def transferOnceWrong : ChangeSpec := { name := "transferOnce", fn := fun _ => fun
  | [d1, d2, d3, d4] => { results := [.lit (.bool false)], args := [d1, d2, d3, d4] }
  | _ => none }
def TransferOnceWrongFalsely : Prop := transferOnceRow.holds Try.pinned (OpenSpec.ofChange transferOnceWrong)

/- THE SECOND FORM. 'bulk': how many values and letters a reading holds, each counted each time it is reached (what is shared counts as often as it is met; a slice's spare places count too). A statement '..UptoSaid' is the law's where the arguments, and the package variables that the reading takes, are together of bulk at most 1048576: NARROWER than '..Said'. Prove '..Said' where nothing that the law and all that it calls make is longer than what came in: it says more and counts as full. Else prove '..UptoSaid'. A law counts once. -/
mutual
def uptoBulk {H : Type} : DataW H → Nat
  | .lit (.string bytes) => bytes.length + 1
  | .lit _ => 1
  | .nil => 1
  | .ptr d => uptoBulk d + 1
  | .slice elems spare => uptoBulkAll elems + uptoBulkAll spare + 1
  | .agg parts => uptoBulkAll parts + 1
  | .iface _ d => uptoBulk d + 1
  | .map entries => uptoBulkEntries entries + 1
  | .held _ => 1
def uptoBulkAll {H : Type} : List (DataW H) → Nat
  | [] => 0
  | d :: r => uptoBulk d + uptoBulkAll r
def uptoBulkEntries {H : Type} : List (Lit × DataW H) → Nat
  | [] => 0
  | x :: r => uptoBulkEntry x + uptoBulkEntries r
def uptoBulkEntry {H : Type} : Lit × DataW H → Nat
  | (.string bytes, d) => bytes.length + uptoBulk d + 1
  | (_, d) => uptoBulk d + 1
 end
def uptoSmall : (H : Type) → List (DataW H) → Bool := fun _ ds => decide (uptoBulkAll ds ≤ 1048576)
def OpenSpec.upto (s : _root_.Go.ChangeSpec) : _root_.Go.OpenSpec := { _root_.Go.OpenSpec.ofChange s with cond := some uptoSmall }

/-- 'bulletinlaw32.TransferPrefix', WHERE WHAT IT READS IS OF BULK AT MOST 1048576: true; the input reads as it did. -/
def transferPrefixUptoRow : OpenClaim := { program := "ytoeapcfnbomlgaa", sum := "ac6bf021958262d45586b52664a170df4640ae90c09f0d0ef189d67bef9c8d7d", func := "bulletin/bulletinlaw32.TransferPrefix", spec := "transferPrefix", inPlace := ["internal/abi.NoEscape"], unfollowed := true, recurses := true, apart := false, narrowed := true }
def TransferPrefixUptoSaid : Prop := transferPrefixUptoRow.holds Try.pinned (OpenSpec.upto transferPrefixSpec)

/-- 'bulletinlaw32.TransferClone', WHERE WHAT IT READS IS OF BULK AT MOST 1048576: true; the input reads as it did. -/
def transferCloneUptoRow : OpenClaim := { program := "ytoeapcfnbomlgaa", sum := "ac6bf021958262d45586b52664a170df4640ae90c09f0d0ef189d67bef9c8d7d", func := "bulletin/bulletinlaw32.TransferClone", spec := "transferClone", inPlace := ["internal/abi.NoEscape"], unfollowed := true, recurses := true, apart := false, narrowed := true }
def TransferCloneUptoSaid : Prop := transferCloneUptoRow.holds Try.pinned (OpenSpec.upto transferCloneSpec)

/-- 'bulletinlaw32.TransferOnce', WHERE WHAT IT READS IS OF BULK AT MOST 1048576: true; the input reads as it did. -/
def transferOnceUptoRow : OpenClaim := { program := "ytoeapcfnbomlgaa", sum := "ac6bf021958262d45586b52664a170df4640ae90c09f0d0ef189d67bef9c8d7d", func := "bulletin/bulletinlaw32.TransferOnce", spec := "transferOnce", inPlace := ["internal/abi.NoEscape", "internal/bytealg.MakeNoZero"], unfollowed := true, recurses := true, apart := false, narrowed := true }
def TransferOnceUptoSaid : Prop := transferOnceUptoRow.holds Try.pinned (OpenSpec.upto transferOnceSpec)

end Rows
end Go.Proofs.Ytoeapcfnbomlgaa
