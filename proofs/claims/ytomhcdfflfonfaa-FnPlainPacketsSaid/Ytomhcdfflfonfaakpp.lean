/- Proved: the law FnPlainPackets of the given program answers true at every argument, and writes nothing that was there. Condition: none beyond the row's own. -/
import Derived.Test.YtomhcdfflfonfaaRows
import Derived.Test.YtomhcdfflfonfaaEv11
import Derived.WalkKit
import Derived.ProofKit
import Derived.OpenShut
import Derived.ShutString
import Derived.ChangeOld
import Derived.Below
namespace Go.Proofs.Ytomhcdfflfonfaa.fnPlainPackets
open Go.ChangeShapes Go.WideShapes Go.ChangeAt Go.RowKit
open Go.ChangeMaps (open_string shut_string)
set_option linter.unusedVariables false

theorem own : ownKnob Try.prog.godebug = none := by kernel_rfl
theorem laidOut : laidOutB Try.prog = true := by kernel_rfl

theorem fits0 : Go.Ev.Fits Try.prog 22 (.sl 5 (.int .u8)) := (.sl Try.underlying22 (by kernel_rfl) (.int Try.underlying5))
theorem fits1 : Go.Ev.Fits Try.prog 22 (.sl 5 (.int .u8)) := (.sl Try.underlying22 (by kernel_rfl) (.int Try.underlying5))

set_option maxRecDepth 100000 in
theorem lifted (os : Os) (started : os.Started) (H : Type) (enc : TypeId × Value → H) :
    ReturnsInHanded {} Try.checked os 3 .any (Rows.fnPlainPacketsSpec.pre6 enc Try.prog Try.f3 Rows.fnPlainPacketsRow.domain false) (Rows.fnPlainPacketsSpec.post enc Try.prog Try.f3 false true false false) := by
  refine returnsInHanded_of_change (C := Try.checked) own started (by kernel_rfl) Try.func3
    (ChangeSpec.witness6 (enc := enc) (C := Try.checked) false ⟨#[], #[.slice none 0 0, .slice none 0 0], []⟩ 8 (by kernel_rfl) (by kernel_rfl) (by kernel_rfl) (by kernel_rfl)) ?_
  intro W base args ds gs before hval0 hW hcnd _
  have hval : ∀ (j : Nat) t v, Try.f3.params[j]? = some t → args[j]? = some v → Value.okWide Try.prog W .any base t v := hval0
  have hW' := hW
  obtain ⟨p, q, hA0, hV, rfl, hfz, hnd⟩ := hW
  have hA : DataW.TrodAll enc Try.prog W 0 (fun _ => true) true Try.f3.params.toList args.toList ds p := hA0
  rw [Try.params3] at hA hval
  obtain ⟨v0, vs0, d0, ds0, p0, q0, hargs, rfl, rfl, h0, r0⟩ := trodAll_cons hA
  obtain ⟨v1, vs1, d1, ds1, p1, q1, rfl, rfl, rfl, h1, r1⟩ := trodAll_cons r0
  obtain ⟨rfl, rfl, rfl⟩ := trodAll_nil r1
  obtain rfl : args = #[v0, v1] := by cases args; simp_all
  obtain ⟨rfl, rfl⟩ := trodVars_none hV
  have lt0 : ∀ x ∈ p0, x.block < W.heap.size := by obtain ⟨m, hm⟩ := h0; exact DataW.trod_lt m _ _ _ hm
  have lt1 : ∀ x ∈ p1, x.block < W.heap.size := by obtain ⟨m, hm⟩ := h1; exact DataW.trod_lt m _ _ _ hm
  obtain ⟨H0, μ0, a0, e0, b0, x0, g0, k0, V0, R0, s0⟩ := Go.Ev.argSl fits0 Try.underlying22 (hval 0 22 v0 rfl rfl) h0 (Go.Ev.rel_empty Try.prog W)
  obtain ⟨H1, μ1, a1, e1, b1, x1, g1, k1, V1, R1, s1⟩ := Go.Ev.argSl fits1 Try.underlying22 (hval 1 22 v1 rfl rfl) h1 g0
  obtain ⟨H', hlaw⟩ := Go.Ev.lawPp (R0.kp k1) R1 s0 s1 4000000 (Nat.le_refl _)
  clear hA0 hval0
  refine (Go.Ev.law_run2 (by kernel_rfl) g1 hlaw ⟨_, _, rfl, (Go.Ev.VR.mono x1 _ _ V0), ⟨_, _, rfl, V1, rfl⟩⟩).mono fun e W' ⟨he, bel⟩ => ?_
  subst he
  exact ⟨_, rfl, _, _, _, [], _, [], hW', trodAll_mk1 (shut_bool Try.underlying4 _), (trodAll_cons_mk (Below.trod laidOut (by kernel_rfl) (of_decide_eq_true (by kernel_rfl)) h0 bel lt0) (trodAll_cons_mk (Below.trod laidOut (by kernel_rfl) (of_decide_eq_true (by kernel_rfl)) h1 bel lt1) trodAll_mk0)), rfl, bel.frame _, fun h => by cases h⟩

theorem band {a b : Bool} (ha : a = true) (hb : b = true) : (a && b) = true := by rw [ha, hb]; rfl
set_option maxHeartbeats 40000000 in
theorem closed : joinedFacts Try.pinned.checked.prog 3 Try.f3 Rows.fnPlainPacketsSpec Rows.fnPlainPacketsRow = true := by
  unfold joinedFacts
  repeat' with_reducible refine band ?_ ?_
  all_goals (as_aux_lemma => kernel_rfl)
theorem over : Rows.fnPlainPacketsRow.holds Try.pinned (OpenSpec.ofChange Rows.fnPlainPacketsSpec) :=
  OpenClaim.holds_of_wide 3 Try.f3 rfl rfl rfl rfl rfl rfl rfl ⟨rfl, rfl, rfl, rfl, rfl⟩ rfl rfl rfl rfl rfl (by kernel_rfl) Try.func3 closed
    (of_decide_eq_true (by kernel_rfl)) (by unfold Func.isWrapper; first | (rw [if_pos (by decide +kernel)]; kernel_rfl) | (rw [if_neg (by decide +kernel)]; exact ⟨rfl, rfl⟩))
    (fun os started H enc _ => lifted os started H enc)

/-- ████ THE STATEMENT ████ -/
theorem proved : Rows.FnPlainPacketsSaid := over
#print axioms proved
end Go.Proofs.Ytomhcdfflfonfaa.fnPlainPackets
