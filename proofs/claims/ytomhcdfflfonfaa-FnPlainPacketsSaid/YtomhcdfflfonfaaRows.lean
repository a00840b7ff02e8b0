/-
  No cell of these rows narrows 'for every input' (looked for: loops, veiled, ifaces, maps, wideKeys, modest, calm, conditions, laid).
  DERIVED. THE GIVEN ROWS OF THIS SEAT. 4 by the template 'for every input the law returns true; each argument reads behind the call as it read before'; 0 by the template 'total and deterministic' (their statements: YtomhcdfflfonfaaTotals.lean).
  GIVEN WITH THE SEED: the statements are not yours to turn. If you find one false, say at which input.
  Laid BY PROGRAM, IN A SANDBOX (cutbox-rows.mjs): the forced cells as the released guide's own fill.sh prints them over the translation d84614674a41e788… (all of the seat's roots in one cut). By AI agents, Wed Nov 11 2026. No macro, syntax, notation, axiom, sorry.
-/
import Derived.Test.YtomhcdfflfonfaaChecked
import GoSem.Claim
import GoSem.ClaimJoined
import GoSem.ClaimMapViews
import Derived.JoinedTies
import Derived.KernelRfl
namespace Go.Proofs.Ytomhcdfflfonfaa
/- THE CELL 'sum', in the pinned program and in every row, IS THE sha256 OF THE DUMP (.gsa) THAT YtomhcdfflfonfaaProg.lean LOADS. Nothing in Lean hashes anything: it is a label: what it is worth is what the hold of that sum in a sandbox is worth. -/
noncomputable def Try.pinned : Pinned := { name := "ytomhcdfflfonfaa", sum := "d84614674a41e7886e67432ef065c98b96eadccf6f1e0c290cf34ebd12cafe5a", checked := Try.checked }
namespace Rows
def none {H : Type} : Left H := { results := [], args := [] }

/-- 'laws.FnPlainPackets': WHATEVER THE INPUT: true; the input reads as it did. -/
def fnPlainPacketsSpec : ChangeSpec := { name := "fnPlainPackets", fn := fun _ => fun
  | [d1, d2] => { results := [.lit (.bool true)], args := [d1, d2] }
  | _ => none }
def fnPlainPacketsRow : OpenClaim := { program := "ytomhcdfflfonfaa", sum := "d84614674a41e7886e67432ef065c98b96eadccf6f1e0c290cf34ebd12cafe5a", func := "loop.example/g00012/laws.FnPlainPackets", spec := "fnPlainPackets", recurses := true, apart := false }
def FnPlainPacketsSaid : Prop := fnPlainPacketsRow.holds Try.pinned (OpenSpec.ofChange fnPlainPacketsSpec)

/-- ITS FALSE NEIGHBOUR: 'it returns false'. Refute it at one input. -/
def fnPlainPacketsWrong : ChangeSpec := { name := "fnPlainPackets", fn := fun _ => fun
  | [d1, d2] => { results := [.lit (.bool false)], args := [d1, d2] }
  | _ => none }
def FnPlainPacketsWrongFalsely : Prop := fnPlainPacketsRow.holds Try.pinned (OpenSpec.ofChange fnPlainPacketsWrong)

/-- 'laws.FnCoalesced': WHATEVER THE INPUT: true; the input reads as it did. -/
def fnCoalescedSpec : ChangeSpec := { name := "fnCoalesced", fn := fun _ => fun
  | [d1, d2] => { results := [.lit (.bool true)], args := [d1, d2] }
  | _ => none }
def fnCoalescedRow : OpenClaim := { program := "ytomhcdfflfonfaa", sum := "d84614674a41e7886e67432ef065c98b96eadccf6f1e0c290cf34ebd12cafe5a", func := "loop.example/g00012/laws.FnCoalesced", spec := "fnCoalesced", recurses := true, apart := false }
def FnCoalescedSaid : Prop := fnCoalescedRow.holds Try.pinned (OpenSpec.ofChange fnCoalescedSpec)

/-- ITS FALSE NEIGHBOUR: 'it returns false'. Refute it at one input. -/
def fnCoalescedWrong : ChangeSpec := { name := "fnCoalesced", fn := fun _ => fun
  | [d1, d2] => { results := [.lit (.bool false)], args := [d1, d2] }
  | _ => none }
def FnCoalescedWrongFalsely : Prop := fnCoalescedRow.holds Try.pinned (OpenSpec.ofChange fnCoalescedWrong)

/-- 'laws.FnExactOpenPacket': WHATEVER THE INPUT: true; the input reads as it did. -/
def fnExactOpenPacketSpec : ChangeSpec := { name := "fnExactOpenPacket", fn := fun _ => fun
  | [d1, d2, d3, d4] => { results := [.lit (.bool true)], args := [d1, d2, d3, d4] }
  | _ => none }
def fnExactOpenPacketRow : OpenClaim := { program := "ytomhcdfflfonfaa", sum := "d84614674a41e7886e67432ef065c98b96eadccf6f1e0c290cf34ebd12cafe5a", func := "loop.example/g00012/laws.FnExactOpenPacket", spec := "fnExactOpenPacket", recurses := true, apart := false }
def FnExactOpenPacketSaid : Prop := fnExactOpenPacketRow.holds Try.pinned (OpenSpec.ofChange fnExactOpenPacketSpec)

/-- ITS FALSE NEIGHBOUR: 'it returns false'. Refute it at one input. -/
def fnExactOpenPacketWrong : ChangeSpec := { name := "fnExactOpenPacket", fn := fun _ => fun
  | [d1, d2, d3, d4] => { results := [.lit (.bool false)], args := [d1, d2, d3, d4] }
  | _ => none }
def FnExactOpenPacketWrongFalsely : Prop := fnExactOpenPacketRow.holds Try.pinned (OpenSpec.ofChange fnExactOpenPacketWrong)

/-- 'laws.FnPackets': WHATEVER THE INPUT: true; the input reads as it did. -/
def fnPacketsSpec : ChangeSpec := { name := "fnPackets", fn := fun _ => fun
  | [d1, d2] => { results := [.lit (.bool true)], args := [d1, d2] }
  | _ => none }
def fnPacketsRow : OpenClaim := { program := "ytomhcdfflfonfaa", sum := "d84614674a41e7886e67432ef065c98b96eadccf6f1e0c290cf34ebd12cafe5a", func := "loop.example/g00012/laws.FnPackets", spec := "fnPackets", recurses := true, apart := false }
def FnPacketsSaid : Prop := fnPacketsRow.holds Try.pinned (OpenSpec.ofChange fnPacketsSpec)

/-- ITS FALSE NEIGHBOUR: 'it returns false'. Refute it at one input. -/
def fnPacketsWrong : ChangeSpec := { name := "fnPackets", fn := fun _ => fun
  | [d1, d2] => { results := [.lit (.bool false)], args := [d1, d2] }
  | _ => none }
def FnPacketsWrongFalsely : Prop := fnPacketsRow.holds Try.pinned (OpenSpec.ofChange fnPacketsWrong)

/- THE SECOND FORM. 'bulk': how many values and letters a reading holds, each counted each time it is reached (what is shared counts as often as it is met; a slice's spare places count too). A statement '..UptoSaid' is the law's where the arguments, and the package variables that the reading takes, are together of bulk at most 1048576: NARROWER than '..Said'. Prove '..Said' where nothing that the law and all that it calls make is longer than what came in: it says more and counts as full. Else prove '..UptoSaid'. A law counts once. -/
mutual
def uptoBulk {H : Type} : DataW H → Nat
  | .lit (.string bytes) => bytes.length + 1
  | .lit _ => 1
  | .nil => 1
  | .ptr d => uptoBulk d + 1
  | .slice elems spare => uptoBulkAll elems + uptoBulkAll spare + 1
  | .agg parts => uptoBulkAll parts + 1
  | .iface _ d => uptoBulk d + 1
  | .map entries => uptoBulkEntries entries + 1
  | .held _ => 1
def uptoBulkAll {H : Type} : List (DataW H) → Nat
  | [] => 0
  | d :: r => uptoBulk d + uptoBulkAll r
def uptoBulkEntries {H : Type} : List (Lit × DataW H) → Nat
  | [] => 0
  | x :: r => uptoBulkEntry x + uptoBulkEntries r
def uptoBulkEntry {H : Type} : Lit × DataW H → Nat
  | (.string bytes, d) => bytes.length + uptoBulk d + 1
  | (_, d) => uptoBulk d + 1
 end
def uptoSmall : (H : Type) → List (DataW H) → Bool := fun _ ds => decide (uptoBulkAll ds ≤ 1048576)
def OpenSpec.upto (s : _root_.Go.ChangeSpec) : _root_.Go.OpenSpec := { _root_.Go.OpenSpec.ofChange s with cond := some uptoSmall }

/-- 'laws.FnPlainPackets', WHERE WHAT IT READS IS OF BULK AT MOST 1048576: true; the input reads as it did. -/
def fnPlainPacketsUptoRow : OpenClaim := { program := "ytomhcdfflfonfaa", sum := "d84614674a41e7886e67432ef065c98b96eadccf6f1e0c290cf34ebd12cafe5a", func := "loop.example/g00012/laws.FnPlainPackets", spec := "fnPlainPackets", recurses := true, apart := false, narrowed := true }
def FnPlainPacketsUptoSaid : Prop := fnPlainPacketsUptoRow.holds Try.pinned (OpenSpec.upto fnPlainPacketsSpec)

/-- 'laws.FnCoalesced', WHERE WHAT IT READS IS OF BULK AT MOST 1048576: true; the input reads as it did. -/
def fnCoalescedUptoRow : OpenClaim := { program := "ytomhcdfflfonfaa", sum := "d84614674a41e7886e67432ef065c98b96eadccf6f1e0c290cf34ebd12cafe5a", func := "loop.example/g00012/laws.FnCoalesced", spec := "fnCoalesced", recurses := true, apart := false, narrowed := true }
def FnCoalescedUptoSaid : Prop := fnCoalescedUptoRow.holds Try.pinned (OpenSpec.upto fnCoalescedSpec)

/-- 'laws.FnExactOpenPacket', WHERE WHAT IT READS IS OF BULK AT MOST 1048576: true; the input reads as it did. -/
def fnExactOpenPacketUptoRow : OpenClaim := { program := "ytomhcdfflfonfaa", sum := "d84614674a41e7886e67432ef065c98b96eadccf6f1e0c290cf34ebd12cafe5a", func := "loop.example/g00012/laws.FnExactOpenPacket", spec := "fnExactOpenPacket", recurses := true, apart := false, narrowed := true }
def FnExactOpenPacketUptoSaid : Prop := fnExactOpenPacketUptoRow.holds Try.pinned (OpenSpec.upto fnExactOpenPacketSpec)

/-- 'laws.FnPackets', WHERE WHAT IT READS IS OF BULK AT MOST 1048576: true; the input reads as it did. -/
def fnPacketsUptoRow : OpenClaim := { program := "ytomhcdfflfonfaa", sum := "d84614674a41e7886e67432ef065c98b96eadccf6f1e0c290cf34ebd12cafe5a", func := "loop.example/g00012/laws.FnPackets", spec := "fnPackets", recurses := true, apart := false, narrowed := true }
def FnPacketsUptoSaid : Prop := fnPacketsUptoRow.holds Try.pinned (OpenSpec.upto fnPacketsSpec)

end Rows
end Go.Proofs.Ytomhcdfflfonfaa
