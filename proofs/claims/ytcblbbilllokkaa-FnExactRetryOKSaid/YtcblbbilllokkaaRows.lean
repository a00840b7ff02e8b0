/-
  No cell of these rows narrows 'for every input' (looked for: loops, veiled, ifaces, maps, wideKeys, modest, calm, conditions, laid).
  DERIVED. THE GIVEN ROWS OF THIS SEAT. 4 by the template 'for every input the law returns true; each argument reads behind the call as it read before'; 0 by the template 'total and deterministic' (their statements: YtcblbbilllokkaaTotals.lean).
  GIVEN WITH THE SEED: the statements are not yours to turn. If you find one false, say at which input.
  Laid BY PROGRAM, IN A SANDBOX (cutbox-rows.mjs): the forced cells as the released guide's own fill.sh prints them over the translation ae5db13c96680d7d… (all of the seat's roots in one cut). By AI agents, Wed Nov 11 2026. No macro, syntax, notation, axiom, sorry.
-/
import Derived.Test.YtcblbbilllokkaaChecked
import GoSem.Claim
import GoSem.ClaimJoined
import GoSem.ClaimMapViews
import Derived.JoinedTies
import Derived.KernelRfl
namespace Go.Proofs.Ytcblbbilllokkaa
/- THE CELL 'sum', in the pinned program and in every row, IS THE sha256 OF THE DUMP (.gsa) THAT YtcblbbilllokkaaProg.lean LOADS. Nothing in Lean hashes anything: it is a label: what it is worth is what the hold of that sum in a sandbox is worth. -/
noncomputable def Try.pinned : Pinned := { name := "ytcblbbilllokkaa", sum := "ae5db13c96680d7d5419642086ff34b172974f8d19bb5426b0a92dba6110984b", checked := Try.checked }
namespace Rows
def none {H : Type} : Left H := { results := [], args := [] }

/-- 'laws.FnExactSplitDatagram': WHATEVER THE INPUT: true; the input reads as it did. -/
def fnExactSplitDatagramSpec : ChangeSpec := { name := "fnExactSplitDatagram", fn := fun _ => fun
  | [d1, d2] => { results := [.lit (.bool true)], args := [d1, d2] }
  | _ => none }
def fnExactSplitDatagramRow : OpenClaim := { program := "ytcblbbilllokkaa", sum := "ae5db13c96680d7d5419642086ff34b172974f8d19bb5426b0a92dba6110984b", func := "loop.example/g00012/laws.FnExactSplitDatagram", spec := "fnExactSplitDatagram", apart := false }
def FnExactSplitDatagramSaid : Prop := fnExactSplitDatagramRow.holds Try.pinned (OpenSpec.ofChange fnExactSplitDatagramSpec)

/-- ITS FALSE NEIGHBOUR: 'it returns false'. Refute it at one input. -/
def fnExactSplitDatagramWrong : ChangeSpec := { name := "fnExactSplitDatagram", fn := fun _ => fun
  | [d1, d2] => { results := [.lit (.bool false)], args := [d1, d2] }
  | _ => none }
def FnExactSplitDatagramWrongFalsely : Prop := fnExactSplitDatagramRow.holds Try.pinned (OpenSpec.ofChange fnExactSplitDatagramWrong)

/-- 'laws.FnExactPeek': WHATEVER THE INPUT: true; the input reads as it did. -/
def fnExactPeekSpec : ChangeSpec := { name := "fnExactPeek", fn := fun _ => fun
  | [d1, d2] => { results := [.lit (.bool true)], args := [d1, d2] }
  | _ => none }
def fnExactPeekRow : OpenClaim := { program := "ytcblbbilllokkaa", sum := "ae5db13c96680d7d5419642086ff34b172974f8d19bb5426b0a92dba6110984b", func := "loop.example/g00012/laws.FnExactPeek", spec := "fnExactPeek", apart := false }
def FnExactPeekSaid : Prop := fnExactPeekRow.holds Try.pinned (OpenSpec.ofChange fnExactPeekSpec)

/-- ITS FALSE NEIGHBOUR: 'it returns false'. Refute it at one input. -/
def fnExactPeekWrong : ChangeSpec := { name := "fnExactPeek", fn := fun _ => fun
  | [d1, d2] => { results := [.lit (.bool false)], args := [d1, d2] }
  | _ => none }
def FnExactPeekWrongFalsely : Prop := fnExactPeekRow.holds Try.pinned (OpenSpec.ofChange fnExactPeekWrong)

/-- 'laws.FnExactRetryOK': WHATEVER THE INPUT: true; the input reads as it did. -/
def fnExactRetryOKSpec : ChangeSpec := { name := "fnExactRetryOK", fn := fun _ => fun
  | [d1, d2] => { results := [.lit (.bool true)], args := [d1, d2] }
  | _ => none }
def fnExactRetryOKRow : OpenClaim := { program := "ytcblbbilllokkaa", sum := "ae5db13c96680d7d5419642086ff34b172974f8d19bb5426b0a92dba6110984b", func := "loop.example/g00012/laws.FnExactRetryOK", spec := "fnExactRetryOK", recurses := true, apart := false }
def FnExactRetryOKSaid : Prop := fnExactRetryOKRow.holds Try.pinned (OpenSpec.ofChange fnExactRetryOKSpec)

/-- ITS FALSE NEIGHBOUR: 'it returns false'. Refute it at one input. -/
def fnExactRetryOKWrong : ChangeSpec := { name := "fnExactRetryOK", fn := fun _ => fun
  | [d1, d2] => { results := [.lit (.bool false)], args := [d1, d2] }
  | _ => none }
def FnExactRetryOKWrongFalsely : Prop := fnExactRetryOKRow.holds Try.pinned (OpenSpec.ofChange fnExactRetryOKWrong)

/-- 'laws.FnPlainPackets': WHATEVER THE INPUT: true; the input reads as it did. -/
def fnPlainPacketsSpec : ChangeSpec := { name := "fnPlainPackets", fn := fun _ => fun
  | [d1, d2] => { results := [.lit (.bool true)], args := [d1, d2] }
  | _ => none }
def fnPlainPacketsRow : OpenClaim := { program := "ytcblbbilllokkaa", sum := "ae5db13c96680d7d5419642086ff34b172974f8d19bb5426b0a92dba6110984b", func := "loop.example/g00012/laws.FnPlainPackets", spec := "fnPlainPackets", recurses := true, apart := false }
def FnPlainPacketsSaid : Prop := fnPlainPacketsRow.holds Try.pinned (OpenSpec.ofChange fnPlainPacketsSpec)

/-- ITS FALSE NEIGHBOUR: 'it returns false'. Refute it at one input. -/
def fnPlainPacketsWrong : ChangeSpec := { name := "fnPlainPackets", fn := fun _ => fun
  | [d1, d2] => { results := [.lit (.bool false)], args := [d1, d2] }
  | _ => none }
def FnPlainPacketsWrongFalsely : Prop := fnPlainPacketsRow.holds Try.pinned (OpenSpec.ofChange fnPlainPacketsWrong)

/- THE SECOND FORM. 'bulk': how many values and letters a reading holds, each counted each time it is reached (what is shared counts as often as it is met; a slice's spare places count too). A statement '..UptoSaid' is the law's where the arguments, and the package variables that the reading takes, are together of bulk at most 1048576: NARROWER than '..Said'. Prove '..Said' where nothing that the law and all that it calls make is longer than what came in: it says more and counts as full. Else prove '..UptoSaid'. A law counts once. -/
mutual
def uptoBulk {H : Type} : DataW H → Nat
  | .lit (.string bytes) => bytes.length + 1
  | .lit _ => 1
  | .nil => 1
  | .ptr d => uptoBulk d + 1
  | .slice elems spare => uptoBulkAll elems + uptoBulkAll spare + 1
  | .agg parts => uptoBulkAll parts + 1
  | .iface _ d => uptoBulk d + 1
  | .map entries => uptoBulkEntries entries + 1
  | .held _ => 1
def uptoBulkAll {H : Type} : List (DataW H) → Nat
  | [] => 0
  | d :: r => uptoBulk d + uptoBulkAll r
def uptoBulkEntries {H : Type} : List (Lit × DataW H) → Nat
  | [] => 0
  | x :: r => uptoBulkEntry x + uptoBulkEntries r
def uptoBulkEntry {H : Type} : Lit × DataW H → Nat
  | (.string bytes, d) => bytes.length + uptoBulk d + 1
  | (_, d) => uptoBulk d + 1
 end
def uptoSmall : (H : Type) → List (DataW H) → Bool := fun _ ds => decide (uptoBulkAll ds ≤ 1048576)
def OpenSpec.upto (s : _root_.Go.ChangeSpec) : _root_.Go.OpenSpec := { _root_.Go.OpenSpec.ofChange s with cond := some uptoSmall }

/-- 'laws.FnExactSplitDatagram', WHERE WHAT IT READS IS OF BULK AT MOST 1048576: true; the input reads as it did. -/
def fnExactSplitDatagramUptoRow : OpenClaim := { program := "ytcblbbilllokkaa", sum := "ae5db13c96680d7d5419642086ff34b172974f8d19bb5426b0a92dba6110984b", func := "loop.example/g00012/laws.FnExactSplitDatagram", spec := "fnExactSplitDatagram", apart := false, narrowed := true }
def FnExactSplitDatagramUptoSaid : Prop := fnExactSplitDatagramUptoRow.holds Try.pinned (OpenSpec.upto fnExactSplitDatagramSpec)

/-- 'laws.FnExactPeek', WHERE WHAT IT READS IS OF BULK AT MOST 1048576: true; the input reads as it did. -/
def fnExactPeekUptoRow : OpenClaim := { program := "ytcblbbilllokkaa", sum := "ae5db13c96680d7d5419642086ff34b172974f8d19bb5426b0a92dba6110984b", func := "loop.example/g00012/laws.FnExactPeek", spec := "fnExactPeek", apart := false, narrowed := true }
def FnExactPeekUptoSaid : Prop := fnExactPeekUptoRow.holds Try.pinned (OpenSpec.upto fnExactPeekSpec)

/-- 'laws.FnExactRetryOK', WHERE WHAT IT READS IS OF BULK AT MOST 1048576: true; the input reads as it did. -/
def fnExactRetryOKUptoRow : OpenClaim := { program := "ytcblbbilllokkaa", sum := "ae5db13c96680d7d5419642086ff34b172974f8d19bb5426b0a92dba6110984b", func := "loop.example/g00012/laws.FnExactRetryOK", spec := "fnExactRetryOK", recurses := true, apart := false, narrowed := true }
def FnExactRetryOKUptoSaid : Prop := fnExactRetryOKUptoRow.holds Try.pinned (OpenSpec.upto fnExactRetryOKSpec)

/-- 'laws.FnPlainPackets', WHERE WHAT IT READS IS OF BULK AT MOST 1048576: true; the input reads as it did. -/
def fnPlainPacketsUptoRow : OpenClaim := { program := "ytcblbbilllokkaa", sum := "ae5db13c96680d7d5419642086ff34b172974f8d19bb5426b0a92dba6110984b", func := "loop.example/g00012/laws.FnPlainPackets", spec := "fnPlainPackets", recurses := true, apart := false, narrowed := true }
def FnPlainPacketsUptoSaid : Prop := fnPlainPacketsUptoRow.holds Try.pinned (OpenSpec.upto fnPlainPacketsSpec)

end Rows
end Go.Proofs.Ytcblbbilllokkaa
