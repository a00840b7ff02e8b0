/-
  No cell of these rows narrows 'for every input' (looked for: loops, veiled, ifaces, maps, wideKeys, modest, calm, conditions, laid).
  DERIVED. THE GIVEN ROWS OF THIS SEAT. 12 by the template 'for every input the law returns true; each argument reads behind the call as it read before'; 0 by the template 'total and deterministic' (their statements: YtnoacfilglgbgaaTotals.lean).
  GIVEN WITH THE SEED: the statements are not yours to turn. If you find one false, say at which input.
  Laid BY PROGRAM, IN A SANDBOX (cutbox-rows.mjs): the forced cells as the released guide's own fill.sh prints them over the translation c730fc6e4b2670d0… (all of the seat's roots in one cut). By AI agents, Wed Nov 11 2026. No macro, syntax, notation, axiom, sorry.
-/
import Derived.Test.YtnoacfilglgbgaaChecked
import GoSem.Claim
import GoSem.ClaimJoined
import GoSem.ClaimMapViews
import Derived.JoinedTies
import Derived.KernelRfl
namespace Go.Proofs.Ytnoacfilglgbgaa
/- THE CELL 'sum', in the pinned program and in every row, IS THE sha256 OF THE DUMP (.gsa) THAT YtnoacfilglgbgaaProg.lean LOADS. Nothing in Lean hashes anything: it is a label: what it is worth is what the hold of that sum in a sandbox is worth. -/
noncomputable def Try.pinned : Pinned := { name := "ytnoacfilglgbgaa", sum := "c730fc6e4b2670d0959113cef9db7f79ac145f111598ae57cb8479fc025a2cfb", checked := Try.checked }
namespace Rows
def none {H : Type} : Left H := { results := [], args := [] }

/-- 'laws.FnExactCcRun': WHATEVER THE INPUT: true; the input reads as it did. -/
def fnExactCcRunSpec : ChangeSpec := { name := "fnExactCcRun", fn := fun _ => fun
  | [d1, d2] => { results := [.lit (.bool true)], args := [d1, d2] }
  | _ => none }
def fnExactCcRunRow : OpenClaim := { program := "ytnoacfilglgbgaa", sum := "c730fc6e4b2670d0959113cef9db7f79ac145f111598ae57cb8479fc025a2cfb", func := "loop.example/g00012/laws.FnExactCcRun", spec := "fnExactCcRun", unfollowed := true, recurses := true, apart := false }
def FnExactCcRunSaid : Prop := fnExactCcRunRow.holds Try.pinned (OpenSpec.ofChange fnExactCcRunSpec)

/-- ITS FALSE NEIGHBOUR: 'it returns false'. Refute it at one input. -/
def fnExactCcRunWrong : ChangeSpec := { name := "fnExactCcRun", fn := fun _ => fun
  | [d1, d2] => { results := [.lit (.bool false)], args := [d1, d2] }
  | _ => none }
def FnExactCcRunWrongFalsely : Prop := fnExactCcRunRow.holds Try.pinned (OpenSpec.ofChange fnExactCcRunWrong)

/-- 'laws.FnWindow': WHATEVER THE INPUT: true; the input reads as it did. -/
def fnWindowSpec : ChangeSpec := { name := "fnWindow", fn := fun _ => fun
  | [d] => { results := [.lit (.bool true)], args := [d] }
  | _ => none }
def fnWindowRow : OpenClaim := { program := "ytnoacfilglgbgaa", sum := "c730fc6e4b2670d0959113cef9db7f79ac145f111598ae57cb8479fc025a2cfb", func := "loop.example/g00012/laws.FnWindow", spec := "fnWindow", unfollowed := true, recurses := true, apart := false }
def FnWindowSaid : Prop := fnWindowRow.holds Try.pinned (OpenSpec.ofChange fnWindowSpec)

/-- ITS FALSE NEIGHBOUR: 'it returns false'. Refute it at one input. -/
def fnWindowWrong : ChangeSpec := { name := "fnWindow", fn := fun _ => fun
  | [d] => { results := [.lit (.bool false)], args := [d] }
  | _ => none }
def FnWindowWrongFalsely : Prop := fnWindowRow.holds Try.pinned (OpenSpec.ofChange fnWindowWrong)

/-- 'laws.FnExactFlowRun': WHATEVER THE INPUT: true; the input reads as it did. -/
def fnExactFlowRunSpec : ChangeSpec := { name := "fnExactFlowRun", fn := fun _ => fun
  | [d1, d2] => { results := [.lit (.bool true)], args := [d1, d2] }
  | _ => none }
def fnExactFlowRunRow : OpenClaim := { program := "ytnoacfilglgbgaa", sum := "c730fc6e4b2670d0959113cef9db7f79ac145f111598ae57cb8479fc025a2cfb", func := "loop.example/g00012/laws.FnExactFlowRun", spec := "fnExactFlowRun", unfollowed := true, recurses := true, apart := false }
def FnExactFlowRunSaid : Prop := fnExactFlowRunRow.holds Try.pinned (OpenSpec.ofChange fnExactFlowRunSpec)

/-- ITS FALSE NEIGHBOUR: 'it returns false'. Refute it at one input. -/
def fnExactFlowRunWrong : ChangeSpec := { name := "fnExactFlowRun", fn := fun _ => fun
  | [d1, d2] => { results := [.lit (.bool false)], args := [d1, d2] }
  | _ => none }
def FnExactFlowRunWrongFalsely : Prop := fnExactFlowRunRow.holds Try.pinned (OpenSpec.ofChange fnExactFlowRunWrong)

/-- 'laws.FnFlowBooks': WHATEVER THE INPUT: true; the input reads as it did. -/
def fnFlowBooksSpec : ChangeSpec := { name := "fnFlowBooks", fn := fun _ => fun
  | [d] => { results := [.lit (.bool true)], args := [d] }
  | _ => none }
def fnFlowBooksRow : OpenClaim := { program := "ytnoacfilglgbgaa", sum := "c730fc6e4b2670d0959113cef9db7f79ac145f111598ae57cb8479fc025a2cfb", func := "loop.example/g00012/laws.FnFlowBooks", spec := "fnFlowBooks", unfollowed := true, recurses := true, apart := false }
def FnFlowBooksSaid : Prop := fnFlowBooksRow.holds Try.pinned (OpenSpec.ofChange fnFlowBooksSpec)

/-- ITS FALSE NEIGHBOUR: 'it returns false'. Refute it at one input. -/
def fnFlowBooksWrong : ChangeSpec := { name := "fnFlowBooks", fn := fun _ => fun
  | [d] => { results := [.lit (.bool false)], args := [d] }
  | _ => none }
def FnFlowBooksWrongFalsely : Prop := fnFlowBooksRow.holds Try.pinned (OpenSpec.ofChange fnFlowBooksWrong)

/-- 'laws.FnCredits': WHATEVER THE INPUT: true; the input reads as it did. -/
def fnCreditsSpec : ChangeSpec := { name := "fnCredits", fn := fun _ => fun
  | [d] => { results := [.lit (.bool true)], args := [d] }
  | _ => none }
def fnCreditsRow : OpenClaim := { program := "ytnoacfilglgbgaa", sum := "c730fc6e4b2670d0959113cef9db7f79ac145f111598ae57cb8479fc025a2cfb", func := "loop.example/g00012/laws.FnCredits", spec := "fnCredits", unfollowed := true, recurses := true, apart := false }
def FnCreditsSaid : Prop := fnCreditsRow.holds Try.pinned (OpenSpec.ofChange fnCreditsSpec)

/-- ITS FALSE NEIGHBOUR: 'it returns false'. Refute it at one input. -/
def fnCreditsWrong : ChangeSpec := { name := "fnCredits", fn := fun _ => fun
  | [d] => { results := [.lit (.bool false)], args := [d] }
  | _ => none }
def FnCreditsWrongFalsely : Prop := fnCreditsRow.holds Try.pinned (OpenSpec.ofChange fnCreditsWrong)

/-- 'laws.FnExactReadFrame': WHATEVER THE INPUT: true; the input reads as it did. -/
def fnExactReadFrameSpec : ChangeSpec := { name := "fnExactReadFrame", fn := fun _ => fun
  | [d1, d2] => { results := [.lit (.bool true)], args := [d1, d2] }
  | _ => none }
def fnExactReadFrameRow : OpenClaim := { program := "ytnoacfilglgbgaa", sum := "c730fc6e4b2670d0959113cef9db7f79ac145f111598ae57cb8479fc025a2cfb", func := "loop.example/g00012/laws.FnExactReadFrame", spec := "fnExactReadFrame", apart := false }
def FnExactReadFrameSaid : Prop := fnExactReadFrameRow.holds Try.pinned (OpenSpec.ofChange fnExactReadFrameSpec)

/-- ITS FALSE NEIGHBOUR: 'it returns false'. Refute it at one input. -/
def fnExactReadFrameWrong : ChangeSpec := { name := "fnExactReadFrame", fn := fun _ => fun
  | [d1, d2] => { results := [.lit (.bool false)], args := [d1, d2] }
  | _ => none }
def FnExactReadFrameWrongFalsely : Prop := fnExactReadFrameRow.holds Try.pinned (OpenSpec.ofChange fnExactReadFrameWrong)

/-- 'laws.FnFrames': WHATEVER THE INPUT: true; the input reads as it did. -/
def fnFramesSpec : ChangeSpec := { name := "fnFrames", fn := fun _ => fun
  | [d] => { results := [.lit (.bool true)], args := [d] }
  | _ => none }
def fnFramesRow : OpenClaim := { program := "ytnoacfilglgbgaa", sum := "c730fc6e4b2670d0959113cef9db7f79ac145f111598ae57cb8479fc025a2cfb", func := "loop.example/g00012/laws.FnFrames", spec := "fnFrames", recurses := true, apart := false }
def FnFramesSaid : Prop := fnFramesRow.holds Try.pinned (OpenSpec.ofChange fnFramesSpec)

/-- ITS FALSE NEIGHBOUR: 'it returns false'. Refute it at one input. -/
def fnFramesWrong : ChangeSpec := { name := "fnFrames", fn := fun _ => fun
  | [d] => { results := [.lit (.bool false)], args := [d] }
  | _ => none }
def FnFramesWrongFalsely : Prop := fnFramesRow.holds Try.pinned (OpenSpec.ofChange fnFramesWrong)

/-- 'laws.FnRanges': WHATEVER THE INPUT: true; the input reads as it did. -/
def fnRangesSpec : ChangeSpec := { name := "fnRanges", fn := fun _ => fun
  | [d] => { results := [.lit (.bool true)], args := [d] }
  | _ => none }
def fnRangesRow : OpenClaim := { program := "ytnoacfilglgbgaa", sum := "c730fc6e4b2670d0959113cef9db7f79ac145f111598ae57cb8479fc025a2cfb", func := "loop.example/g00012/laws.FnRanges", spec := "fnRanges", apart := false }
def FnRangesSaid : Prop := fnRangesRow.holds Try.pinned (OpenSpec.ofChange fnRangesSpec)

/-- ITS FALSE NEIGHBOUR: 'it returns false'. Refute it at one input. -/
def fnRangesWrong : ChangeSpec := { name := "fnRanges", fn := fun _ => fun
  | [d] => { results := [.lit (.bool false)], args := [d] }
  | _ => none }
def FnRangesWrongFalsely : Prop := fnRangesRow.holds Try.pinned (OpenSpec.ofChange fnRangesWrong)

/-- 'laws.FnExactIdsRun': WHATEVER THE INPUT: true; the input reads as it did. -/
def fnExactIdsRunSpec : ChangeSpec := { name := "fnExactIdsRun", fn := fun _ => fun
  | [d1, d2] => { results := [.lit (.bool true)], args := [d1, d2] }
  | _ => none }
def fnExactIdsRunRow : OpenClaim := { program := "ytnoacfilglgbgaa", sum := "c730fc6e4b2670d0959113cef9db7f79ac145f111598ae57cb8479fc025a2cfb", func := "loop.example/g00012/laws.FnExactIdsRun", spec := "fnExactIdsRun", unfollowed := true, recurses := true, apart := false }
def FnExactIdsRunSaid : Prop := fnExactIdsRunRow.holds Try.pinned (OpenSpec.ofChange fnExactIdsRunSpec)

/-- ITS FALSE NEIGHBOUR: 'it returns false'. Refute it at one input. -/
def fnExactIdsRunWrong : ChangeSpec := { name := "fnExactIdsRun", fn := fun _ => fun
  | [d1, d2] => { results := [.lit (.bool false)], args := [d1, d2] }
  | _ => none }
def FnExactIdsRunWrongFalsely : Prop := fnExactIdsRunRow.holds Try.pinned (OpenSpec.ofChange fnExactIdsRunWrong)

/-- 'laws.FnIds': WHATEVER THE INPUT: true; the input reads as it did. -/
def fnIdsSpec : ChangeSpec := { name := "fnIds", fn := fun _ => fun
  | [d] => { results := [.lit (.bool true)], args := [d] }
  | _ => none }
def fnIdsRow : OpenClaim := { program := "ytnoacfilglgbgaa", sum := "c730fc6e4b2670d0959113cef9db7f79ac145f111598ae57cb8479fc025a2cfb", func := "loop.example/g00012/laws.FnIds", spec := "fnIds", unfollowed := true, recurses := true, apart := false }
def FnIdsSaid : Prop := fnIdsRow.holds Try.pinned (OpenSpec.ofChange fnIdsSpec)

/-- ITS FALSE NEIGHBOUR: 'it returns false'. Refute it at one input. -/
def fnIdsWrong : ChangeSpec := { name := "fnIds", fn := fun _ => fun
  | [d] => { results := [.lit (.bool false)], args := [d] }
  | _ => none }
def FnIdsWrongFalsely : Prop := fnIdsRow.holds Try.pinned (OpenSpec.ofChange fnIdsWrong)

/-- 'laws.FnExactReadHello': WHATEVER THE INPUT: true; the input reads as it did. -/
def fnExactReadHelloSpec : ChangeSpec := { name := "fnExactReadHello", fn := fun _ => fun
  | [d] => { results := [.lit (.bool true)], args := [d] }
  | _ => none }
def fnExactReadHelloRow : OpenClaim := { program := "ytnoacfilglgbgaa", sum := "c730fc6e4b2670d0959113cef9db7f79ac145f111598ae57cb8479fc025a2cfb", func := "loop.example/g00012/laws.FnExactReadHello", spec := "fnExactReadHello", unfollowed := true, recurses := true, apart := false }
def FnExactReadHelloSaid : Prop := fnExactReadHelloRow.holds Try.pinned (OpenSpec.ofChange fnExactReadHelloSpec)

/-- ITS FALSE NEIGHBOUR: 'it returns false'. Refute it at one input. -/
def fnExactReadHelloWrong : ChangeSpec := { name := "fnExactReadHello", fn := fun _ => fun
  | [d] => { results := [.lit (.bool false)], args := [d] }
  | _ => none }
def FnExactReadHelloWrongFalsely : Prop := fnExactReadHelloRow.holds Try.pinned (OpenSpec.ofChange fnExactReadHelloWrong)

/-- 'laws.FnHellos': WHATEVER THE INPUT: true; the input reads as it did. -/
def fnHellosSpec : ChangeSpec := { name := "fnHellos", fn := fun _ => fun
  | [d1, d2] => { results := [.lit (.bool true)], args := [d1, d2] }
  | _ => none }
def fnHellosRow : OpenClaim := { program := "ytnoacfilglgbgaa", sum := "c730fc6e4b2670d0959113cef9db7f79ac145f111598ae57cb8479fc025a2cfb", func := "loop.example/g00012/laws.FnHellos", spec := "fnHellos", unfollowed := true, recurses := true, apart := false }
def FnHellosSaid : Prop := fnHellosRow.holds Try.pinned (OpenSpec.ofChange fnHellosSpec)

/-- ITS FALSE NEIGHBOUR: 'it returns false'. Refute it at one input. -/
def fnHellosWrong : ChangeSpec := { name := "fnHellos", fn := fun _ => fun
  | [d1, d2] => { results := [.lit (.bool false)], args := [d1, d2] }
  | _ => none }
def FnHellosWrongFalsely : Prop := fnHellosRow.holds Try.pinned (OpenSpec.ofChange fnHellosWrong)

/- THE SECOND FORM. 'bulk': how many values and letters a reading holds, each counted each time it is reached (what is shared counts as often as it is met; a slice's spare places count too). A statement '..UptoSaid' is the law's where the arguments, and the package variables that the reading takes, are together of bulk at most 1048576: NARROWER than '..Said'. Prove '..Said' where nothing that the law and all that it calls make is longer than what came in: it says more and counts as full. Else prove '..UptoSaid'. A law counts once. -/
mutual
def uptoBulk {H : Type} : DataW H → Nat
  | .lit (.string bytes) => bytes.length + 1
  | .lit _ => 1
  | .nil => 1
  | .ptr d => uptoBulk d + 1
  | .slice elems spare => uptoBulkAll elems + uptoBulkAll spare + 1
  | .agg parts => uptoBulkAll parts + 1
  | .iface _ d => uptoBulk d + 1
  | .map entries => uptoBulkEntries entries + 1
  | .held _ => 1
def uptoBulkAll {H : Type} : List (DataW H) → Nat
  | [] => 0
  | d :: r => uptoBulk d + uptoBulkAll r
def uptoBulkEntries {H : Type} : List (Lit × DataW H) → Nat
  | [] => 0
  | x :: r => uptoBulkEntry x + uptoBulkEntries r
def uptoBulkEntry {H : Type} : Lit × DataW H → Nat
  | (.string bytes, d) => bytes.length + uptoBulk d + 1
  | (_, d) => uptoBulk d + 1
 end
def uptoSmall : (H : Type) → List (DataW H) → Bool := fun _ ds => decide (uptoBulkAll ds ≤ 1048576)
def OpenSpec.upto (s : _root_.Go.ChangeSpec) : _root_.Go.OpenSpec := { _root_.Go.OpenSpec.ofChange s with cond := some uptoSmall }

/-- 'laws.FnExactCcRun', WHERE WHAT IT READS IS OF BULK AT MOST 1048576: true; the input reads as it did. -/
def fnExactCcRunUptoRow : OpenClaim := { program := "ytnoacfilglgbgaa", sum := "c730fc6e4b2670d0959113cef9db7f79ac145f111598ae57cb8479fc025a2cfb", func := "loop.example/g00012/laws.FnExactCcRun", spec := "fnExactCcRun", unfollowed := true, recurses := true, apart := false, narrowed := true }
def FnExactCcRunUptoSaid : Prop := fnExactCcRunUptoRow.holds Try.pinned (OpenSpec.upto fnExactCcRunSpec)

/-- 'laws.FnWindow', WHERE WHAT IT READS IS OF BULK AT MOST 1048576: true; the input reads as it did. -/
def fnWindowUptoRow : OpenClaim := { program := "ytnoacfilglgbgaa", sum := "c730fc6e4b2670d0959113cef9db7f79ac145f111598ae57cb8479fc025a2cfb", func := "loop.example/g00012/laws.FnWindow", spec := "fnWindow", unfollowed := true, recurses := true, apart := false, narrowed := true }
def FnWindowUptoSaid : Prop := fnWindowUptoRow.holds Try.pinned (OpenSpec.upto fnWindowSpec)

/-- 'laws.FnExactFlowRun', WHERE WHAT IT READS IS OF BULK AT MOST 1048576: true; the input reads as it did. -/
def fnExactFlowRunUptoRow : OpenClaim := { program := "ytnoacfilglgbgaa", sum := "c730fc6e4b2670d0959113cef9db7f79ac145f111598ae57cb8479fc025a2cfb", func := "loop.example/g00012/laws.FnExactFlowRun", spec := "fnExactFlowRun", unfollowed := true, recurses := true, apart := false, narrowed := true }
def FnExactFlowRunUptoSaid : Prop := fnExactFlowRunUptoRow.holds Try.pinned (OpenSpec.upto fnExactFlowRunSpec)

/-- 'laws.FnFlowBooks', WHERE WHAT IT READS IS OF BULK AT MOST 1048576: true; the input reads as it did. -/
def fnFlowBooksUptoRow : OpenClaim := { program := "ytnoacfilglgbgaa", sum := "c730fc6e4b2670d0959113cef9db7f79ac145f111598ae57cb8479fc025a2cfb", func := "loop.example/g00012/laws.FnFlowBooks", spec := "fnFlowBooks", unfollowed := true, recurses := true, apart := false, narrowed := true }
def FnFlowBooksUptoSaid : Prop := fnFlowBooksUptoRow.holds Try.pinned (OpenSpec.upto fnFlowBooksSpec)

/-- 'laws.FnCredits', WHERE WHAT IT READS IS OF BULK AT MOST 1048576: true; the input reads as it did. -/
def fnCreditsUptoRow : OpenClaim := { program := "ytnoacfilglgbgaa", sum := "c730fc6e4b2670d0959113cef9db7f79ac145f111598ae57cb8479fc025a2cfb", func := "loop.example/g00012/laws.FnCredits", spec := "fnCredits", unfollowed := true, recurses := true, apart := false, narrowed := true }
def FnCreditsUptoSaid : Prop := fnCreditsUptoRow.holds Try.pinned (OpenSpec.upto fnCreditsSpec)

/-- 'laws.FnExactReadFrame', WHERE WHAT IT READS IS OF BULK AT MOST 1048576: true; the input reads as it did. -/
def fnExactReadFrameUptoRow : OpenClaim := { program := "ytnoacfilglgbgaa", sum := "c730fc6e4b2670d0959113cef9db7f79ac145f111598ae57cb8479fc025a2cfb", func := "loop.example/g00012/laws.FnExactReadFrame", spec := "fnExactReadFrame", apart := false, narrowed := true }
def FnExactReadFrameUptoSaid : Prop := fnExactReadFrameUptoRow.holds Try.pinned (OpenSpec.upto fnExactReadFrameSpec)

/-- 'laws.FnFrames', WHERE WHAT IT READS IS OF BULK AT MOST 1048576: true; the input reads as it did. -/
def fnFramesUptoRow : OpenClaim := { program := "ytnoacfilglgbgaa", sum := "c730fc6e4b2670d0959113cef9db7f79ac145f111598ae57cb8479fc025a2cfb", func := "loop.example/g00012/laws.FnFrames", spec := "fnFrames", recurses := true, apart := false, narrowed := true }
def FnFramesUptoSaid : Prop := fnFramesUptoRow.holds Try.pinned (OpenSpec.upto fnFramesSpec)

/-- 'laws.FnRanges', WHERE WHAT IT READS IS OF BULK AT MOST 1048576: true; the input reads as it did. -/
def fnRangesUptoRow : OpenClaim := { program := "ytnoacfilglgbgaa", sum := "c730fc6e4b2670d0959113cef9db7f79ac145f111598ae57cb8479fc025a2cfb", func := "loop.example/g00012/laws.FnRanges", spec := "fnRanges", apart := false, narrowed := true }
def FnRangesUptoSaid : Prop := fnRangesUptoRow.holds Try.pinned (OpenSpec.upto fnRangesSpec)

/-- 'laws.FnExactIdsRun', WHERE WHAT IT READS IS OF BULK AT MOST 1048576: true; the input reads as it did. -/
def fnExactIdsRunUptoRow : OpenClaim := { program := "ytnoacfilglgbgaa", sum := "c730fc6e4b2670d0959113cef9db7f79ac145f111598ae57cb8479fc025a2cfb", func := "loop.example/g00012/laws.FnExactIdsRun", spec := "fnExactIdsRun", unfollowed := true, recurses := true, apart := false, narrowed := true }
def FnExactIdsRunUptoSaid : Prop := fnExactIdsRunUptoRow.holds Try.pinned (OpenSpec.upto fnExactIdsRunSpec)

/-- 'laws.FnIds', WHERE WHAT IT READS IS OF BULK AT MOST 1048576: true; the input reads as it did. -/
def fnIdsUptoRow : OpenClaim := { program := "ytnoacfilglgbgaa", sum := "c730fc6e4b2670d0959113cef9db7f79ac145f111598ae57cb8479fc025a2cfb", func := "loop.example/g00012/laws.FnIds", spec := "fnIds", unfollowed := true, recurses := true, apart := false, narrowed := true }
def FnIdsUptoSaid : Prop := fnIdsUptoRow.holds Try.pinned (OpenSpec.upto fnIdsSpec)

/-- 'laws.FnExactReadHello', WHERE WHAT IT READS IS OF BULK AT MOST 1048576: true; the input reads as it did. -/
def fnExactReadHelloUptoRow : OpenClaim := { program := "ytnoacfilglgbgaa", sum := "c730fc6e4b2670d0959113cef9db7f79ac145f111598ae57cb8479fc025a2cfb", func := "loop.example/g00012/laws.FnExactReadHello", spec := "fnExactReadHello", unfollowed := true, recurses := true, apart := false, narrowed := true }
def FnExactReadHelloUptoSaid : Prop := fnExactReadHelloUptoRow.holds Try.pinned (OpenSpec.upto fnExactReadHelloSpec)

/-- 'laws.FnHellos', WHERE WHAT IT READS IS OF BULK AT MOST 1048576: true; the input reads as it did. -/
def fnHellosUptoRow : OpenClaim := { program := "ytnoacfilglgbgaa", sum := "c730fc6e4b2670d0959113cef9db7f79ac145f111598ae57cb8479fc025a2cfb", func := "loop.example/g00012/laws.FnHellos", spec := "fnHellos", unfollowed := true, recurses := true, apart := false, narrowed := true }
def FnHellosUptoSaid : Prop := fnHellosUptoRow.holds Try.pinned (OpenSpec.upto fnHellosSpec)

end Rows
end Go.Proofs.Ytnoacfilglgbgaa
