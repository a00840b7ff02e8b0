/- Lemmas of an evaluator of the given code and of what the functions answer; no condition of its own. -/
import Derived.Test.YtnoacfilglgbgaaEv18
/- Congestion: an operation of the program, its parts. -/
namespace Go.Ev
open Go Go.Proofs
set_option linter.unusedSimpArgs false
set_option linter.unusedVariables false

theorem timeI_ev (x : Int) (H : AH) (m : Nat) (hm : 1 ≤ m) : ev Try.prog m 196 [.int .i64 x] H = some (.bool (decide (0 ≤ x ∧ x ≤ 1000000000000)), H) := by
  obtain ⟨m, rfl⟩ : ∃ k, m = k + 1 := ⟨m - 1, by omega⟩
  rw [ev_eq Try.func196 ok196 m _ H (by simp [Try.f196])]
  by_cases h1 : 0 ≤ x
  · by_cases h2 : x ≤ 1000000000000
    · simp [Try.f196, h1, h2]
    · simp [Try.f196, h1, h2]
  · simp [Try.f196, h1]
theorem newI1_ev (H : AH) (m : Nat) (hm : 1 ≤ m) : ev Try.prog m 95 [.int .i64 1] H = some (.ptr (H.next + 1) 0, (H.push (.cells 252 false (lossC Cc0))).push (.cells 152 false [.iface 250 (.ptr H.next 0), .int .i64 0])) := by
  obtain ⟨m, rfl⟩ : ∃ k, m = k + 1 := ⟨m - 1, by omega⟩
  rw [ev_eq Try.func95 ok95 m _ H (by simp [Try.f95])]
  simp [Try.f95, fillA, spl, lossC, Cc0]
theorem newI2_ev (H : AH) (m : Nat) (hm : 1 ≤ m) : ev Try.prog m 95 [.int .i64 2] H = some (.ptr (H.next + 1) 0, (H.push (.cells 256 false (mdC Cc0 .nilSlice .nilSlice))).push (.cells 152 false [.iface 253 (.ptr H.next 0), .int .i64 0])) := by
  obtain ⟨m, rfl⟩ : ∃ k, m = k + 1 := ⟨m - 1, by omega⟩
  rw [ev_eq Try.func95 ok95 m _ H (by simp [Try.f95])]
  simp [Try.f95, fillA, spl, mdC, Cc0]
def obj (T : TypeId) (r : Nat) (f : Int) : List AV := [.iface T (.ptr r 0), .int .i64 f]
theorem windowI_ev {H : AH} {q r : Nat} {T : TypeId} {f w rt st : Int} {Ft m : Nat} (hg : H.get q = some (.cells 152 false (obj T r f))) (ht : mthA Try.prog T "loop.example/g00012/impl.tells" = some Ft)
    (he : ev Try.prog m Ft [.ptr r 0] H = some (.tuple [.int .i64 w, .int .i64 rt, .int .i64 st], H)) : ev Try.prog (m + 1) 262 [.ptr q 0] H = some (.int .i64 w, H) := by
  simp only [obj] at hg
  rw [ev_eq Try.func262 ok262 m _ H (by simp [Try.f262])]
  simp [Try.f262, ldVar, hg, ht, he, evHist, ObsOk, ObOk, List.getElem?_cons_zero]
theorem mayI_ev {H : AH} {q r : Nat} {T : TypeId} {f w rt st b : Int} {Ft m : Nat} (hg : H.get q = some (.cells 152 false (obj T r f))) (ht : mthA Try.prog T "loop.example/g00012/impl.tells" = some Ft)
    (he : ev Try.prog m Ft [.ptr r 0] H = some (.tuple [.int .i64 w, .int .i64 rt, .int .i64 st], H)) (w1 : IntKind.i64.wrap (f + b) = f + b) : ev Try.prog (m + 2) 197 [.ptr q 0, .int .i64 b] H = some (.bool (decide (f + b ≤ w)), H) := by
  have hw := windowI_ev hg ht he
  simp only [obj] at hg
  rw [ev_eq Try.func197 ok197 (m + 1) _ H (by simp [Try.f197])]
  simp [Try.f197, ldVar, hg, hw, w1, evHist, ObsOk, ObOk, List.getElem?_cons_zero]
theorem badI {H : AH} {q : Nat} {op : CcOpP} (hb : badP op) (m : Nat) (hm : 1 ≤ m) : ev Try.prog (m + 1) 96 [.ptr q 0, .agg (opC op)] H = some (.tuple [.bool false, .int .i64 1], H.push (.cells 40 false (opC op))) := by
  rw [ev_cut Try.func96 ok96 [6, 7] m _ H (by simp [Try.f96])]
  simp [Try.f96, opC]
  rw [at_cut Try.func96 6 (by decide) 3 (by decide) (by kernel_rfl) []]
  by_cases c1 : op.k < 1
  · simp [Try.f96, U, ldVar, timeI_ev _ (H.push (.cells 40 false [.int .i64 op.k, .int .i64 op.t, .int .i64 op.b, .int .i64 op.s, .int .i64 op.p])) m hm, c1, evHist, ObsOk, ObOk, List.getElem?_cons_zero]
  by_cases c2 : op.k > 4
  · simp [Try.f96, U, ldVar, timeI_ev _ (H.push (.cells 40 false [.int .i64 op.k, .int .i64 op.t, .int .i64 op.b, .int .i64 op.s, .int .i64 op.p])) m hm, c1, c2, evHist, ObsOk, ObOk, List.getElem?_cons_zero]
  by_cases c3 : 0 ≤ op.t ∧ op.t ≤ 1000000000000
  case neg => simp [Try.f96, U, ldVar, timeI_ev _ (H.push (.cells 40 false [.int .i64 op.k, .int .i64 op.t, .int .i64 op.b, .int .i64 op.s, .int .i64 op.p])) m hm, c1, c2, c3, evHist, ObsOk, ObOk, List.getElem?_cons_zero]
  by_cases c4 : 0 ≤ op.s ∧ op.s ≤ 1000000000000
  case neg => simp [Try.f96, U, ldVar, timeI_ev _ (H.push (.cells 40 false [.int .i64 op.k, .int .i64 op.t, .int .i64 op.b, .int .i64 op.s, .int .i64 op.p])) m hm, c1, c2, c3, c4, evHist, ObsOk, ObOk, List.getElem?_cons_zero]
  by_cases c7 : op.b < 0
  · simp [Try.f96, U, ldVar, timeI_ev _ (H.push (.cells 40 false [.int .i64 op.k, .int .i64 op.t, .int .i64 op.b, .int .i64 op.s, .int .i64 op.p])) m hm, c1, c2, c3, c4, c7, evHist, ObsOk, ObOk, List.getElem?_cons_zero]
  by_cases c8 : op.b > 2000
  · simp [Try.f96, U, ldVar, timeI_ev _ (H.push (.cells 40 false [.int .i64 op.k, .int .i64 op.t, .int .i64 op.b, .int .i64 op.s, .int .i64 op.p])) m hm, c1, c2, c3, c4, c7, c8, evHist, ObsOk, ObOk, List.getElem?_cons_zero]
  have k2 : op.k = 2 := by unfold badP at hb; omega
  simp [Try.f96, U, ldVar, timeI_ev _ (H.push (.cells 40 false [.int .i64 op.k, .int .i64 op.t, .int .i64 op.b, .int .i64 op.s, .int .i64 op.p])) m hm, c1, c2, c3, c4, c7, c8, evHist, ObsOk, ObOk, List.getElem?_cons_zero]
  rw [at_cut Try.func96 7 (by decide) 3 (by decide) (by kernel_rfl) [15]]
  by_cases c5 : op.p < 1
  · simp [Try.f96, U, ldVar, timeI_ev _ (H.push (.cells 40 false [.int .i64 op.k, .int .i64 op.t, .int .i64 op.b, .int .i64 op.s, .int .i64 op.p])) m hm, k2, c5, evHist, ObsOk, ObOk, List.getElem?_cons_zero]
  · have c6 : op.p > 1000000000000 := by unfold badP at hb; omega
    simp [Try.f96, U, ldVar, timeI_ev _ (H.push (.cells 40 false [.int .i64 op.k, .int .i64 op.t, .int .i64 op.b, .int .i64 op.s, .int .i64 op.p])) m hm, k2, c5, c6, evHist, ObsOk, ObOk, List.getElem?_cons_zero]
/-- a good operation comes to place 15 -/
theorem goodI {H : AH} {q : Nat} {op : CcOpP} (hb : ¬ badP op) (m : Nat) (hm : 1 ≤ m) {r1 r2 : AV} {H3 : AH} (hk : ∀ τ : Tm, τ 0 = .ptr q 0 → τ 3 = .ptr H.next 0 → ∃ τ', evAt Try.prog (ev Try.prog m) m 96 15 τ (H.push (.cells 40 false (opC op))) = some (.ret, τ', H3) ∧ τ' 4 = r1 ∧ τ' 5 = r2) :
    ev Try.prog (m + 1) 96 [.ptr q 0, .agg (opC op)] H = some (.tuple [r1, r2], H3) := by
  have ho := opGood.of hb
  have c1 : ¬ op.k < 1 := by have := ho.k; omega
  have c2 : ¬ 4 < op.k := by have := ho.k; omega
  have c3 := ho.t
  have c4 := ho.s
  have c7 : ¬ op.b < 0 := by have := ho.b; omega
  have c8 : ¬ 2000 < op.b := by have := ho.b; omega
  simp only [opC] at hk
  rw [ev_cut Try.func96 ok96 [6, 7] m _ H (by simp [Try.f96])]
  simp [Try.f96, opC]
  rw [at_cut Try.func96 6 (by decide) 3 (by decide) (by kernel_rfl) []]
  simp [Try.f96, U, ldVar, timeI_ev _ (H.push (.cells 40 false [.int .i64 op.k, .int .i64 op.t, .int .i64 op.b, .int .i64 op.s, .int .i64 op.p])) m hm, c1, c2, c3, c4, c7, c8, evHist, ObsOk, ObOk, List.getElem?_cons_zero]
  rw [at_cut Try.func96 7 (by decide) 3 (by decide) (by kernel_rfl) [15]]
  by_cases k2 : op.k = 2
  · have c5 : ¬ op.p < 1 := by have := ho.p k2; omega
    have c6 : ¬ 1000000000000 < op.p := by have := ho.p k2; omega
    simp [Try.f96, U, ldVar, k2, c5, c6, evHist, ObsOk, ObOk, List.getElem?_cons_zero]
    rw [k2] at hk
    generalize hτ : upd _ _ _ = τ2
    obtain ⟨τ3, e1, e2, e3⟩ := hk τ2 (by rw [← hτ]; simp) (by rw [← hτ]; simp)
    simp [e1, e2, e3]
  · simp [Try.f96, U, ldVar, k2, evHist, ObsOk, ObOk, List.getElem?_cons_zero]
    generalize hτ : upd _ _ _ = τ2
    obtain ⟨τ3, e1, e2, e3⟩ := hk τ2 (by rw [← hτ]; simp) (by rw [← hτ]; simp)
    simp [e1, e2, e3]
section
variable {A : AH} {p q r : Nat} {T : TypeId} {f : Int} {op : CcOpP} {m : Nat} {τ : Tm}
theorem at15_1 (hp : A.get p = some (.cells 40 false (opC op))) (hq : A.get q = some (.cells 152 false (obj T r f))) (hpq : p ≠ q) (k1 : op.k = 1) (w1 : IntKind.i64.wrap (f + op.b) = f + op.b) (t0 : τ 0 = .ptr q 0) (t3 : τ 3 = .ptr p 0) :
    ∃ τ', evAt Try.prog (ev Try.prog m) m 96 15 τ A = some (.ret, τ', A.set q (.cells 152 false (obj T r (f + op.b)))) ∧ τ' 4 = .bool false ∧ τ' 5 = .int .i64 0 := by
  have hqp := Ne.symm hpq
  simp only [opC] at hp
  simp only [obj] at hq
  rw [at_cut Try.func96 15 (by decide) 4 (by decide) (by kernel_rfl) [31]]
  simp [Try.f96, t0, t3, ldVar, stVar, spl, hp, hq, hpq, hqp, k1, w1, obj, evHist, ObsOk, ObOk, List.getElem?_cons_zero]
theorem at15_4 (hp : A.get p = some (.cells 40 false (opC op))) (k4 : op.k = 4) {mm : Bool} (hmay : ev Try.prog m 197 [.ptr q 0, .int .i64 op.b] A = some (.bool mm, A)) (t0 : τ 0 = .ptr q 0) (t3 : τ 3 = .ptr p 0) :
    ∃ τ', evAt Try.prog (ev Try.prog m) m 96 15 τ A = some (.ret, τ', A) ∧ τ' 4 = .bool mm ∧ τ' 5 = .int .i64 0 := by
  simp only [opC] at hp
  rw [at_cut Try.func96 15 (by decide) 4 (by decide) (by kernel_rfl) [31]]
  simp [Try.f96, t0, t3, ldVar, stVar, spl, hp, k4, hmay, evHist, ObsOk, ObOk, List.getElem?_cons_zero]
theorem at15_23 (hp : A.get p = some (.cells 40 false (opC op))) (k1 : ¬ op.k = 1) (k4 : ¬ op.k = 4) (t0 : τ 0 = .ptr q 0) (t3 : τ 3 = .ptr p 0) {r1 r2 : AV} {H3 : AH}
    (hk : ∀ τ : Tm, τ 0 = .ptr q 0 → τ 3 = .ptr p 0 → ∃ τ', evAt Try.prog (ev Try.prog m) m 96 31 τ A = some (.ret, τ', H3) ∧ τ' 4 = r1 ∧ τ' 5 = r2) :
    ∃ τ', evAt Try.prog (ev Try.prog m) m 96 15 τ A = some (.ret, τ', H3) ∧ τ' 4 = r1 ∧ τ' 5 = r2 := by
  simp only [opC] at hp
  rw [at_cut Try.func96 15 (by decide) 4 (by decide) (by kernel_rfl) [31]]
  simp [Try.f96, t0, t3, ldVar, hp, k1, k4, evHist, ObsOk, ObOk, List.getElem?_cons_zero]
  generalize hτ : upd _ _ _ = τ2
  obtain ⟨τ3, e1, e2, e3⟩ := hk τ2 (by rw [← hτ]; simp [t0]) (by rw [← hτ]; simp [t3])
  exact ⟨τ3, e1, e2, e3⟩
theorem at31_7 (hp : A.get p = some (.cells 40 false (opC op))) (hq : A.get q = some (.cells 152 false (obj T r f))) (hf : f < op.b) (t0 : τ 0 = .ptr q 0) (t3 : τ 3 = .ptr p 0) :
    ∃ τ', evAt Try.prog (ev Try.prog m) m 96 31 τ A = some (.ret, τ', A) ∧ τ' 4 = .bool false ∧ τ' 5 = .int .i64 7 := by
  simp only [opC] at hp
  simp only [obj] at hq
  rw [at_cut Try.func96 31 (by decide) 5 (by decide) (by kernel_rfl) [63]]
  simp [Try.f96, t0, t3, ldVar, hp, hq, hf, evHist, ObsOk, ObOk, List.getElem?_cons_zero]
theorem at31 (hp : A.get p = some (.cells 40 false (opC op))) (hq : A.get q = some (.cells 152 false (obj T r f))) (hpq : p ≠ q) (hf : ¬ f < op.b) (w1 : IntKind.i64.wrap (f - op.b) = f - op.b) (t0 : τ 0 = .ptr q 0) (t3 : τ 3 = .ptr p 0) {r1 r2 : AV} {H3 : AH}
    (hk : ∀ τ : Tm, τ 0 = .ptr q 0 → τ 3 = .ptr p 0 → ∃ τ', evAt Try.prog (ev Try.prog m) m 96 127 τ (A.set q (.cells 152 false (obj T r (f - op.b)))) = some (.ret, τ', H3) ∧ τ' 4 = r1 ∧ τ' 5 = r2) :
    ∃ τ', evAt Try.prog (ev Try.prog m) m 96 31 τ A = some (.ret, τ', H3) ∧ τ' 4 = r1 ∧ τ' 5 = r2 := by
  have hqp := Ne.symm hpq
  simp only [opC] at hp
  simp only [obj] at hq hk
  rw [at_cut Try.func96 31 (by decide) 5 (by decide) (by kernel_rfl) [127]]
  simp [Try.f96, t0, t3, ldVar, stVar, spl, hp, hq, hf, hpq, hqp, w1, evHist, ObsOk, ObOk, List.getElem?_cons_zero]
  generalize hτ : upd _ _ _ = τ2
  obtain ⟨τ3, e1, e2, e3⟩ := hk τ2 (by rw [← hτ]; simp [t0]) (by rw [← hτ]; simp [t3])
  exact ⟨τ3, e1, e2, e3⟩
theorem at127_2 (hp : A.get p = some (.cells 40 false (opC op))) (hq : A.get q = some (.cells 152 false (obj T r f))) (k2 : op.k = 2) {Fa : Nat} (hm : mthA Try.prog T "loop.example/g00012/impl.acked" = some Fa) {H3 : AH}
    (he : ev Try.prog m Fa [.ptr r 0, .agg (opC op), .int .i64 f] A = some (U, H3)) (hp3 : H3.get p = A.get p) (hq3 : H3.get q = A.get q) (t0 : τ 0 = .ptr q 0) (t3 : τ 3 = .ptr p 0) :
    ∃ τ', evAt Try.prog (ev Try.prog m) m 96 127 τ A = some (.ret, τ', H3) ∧ τ' 4 = .bool false ∧ τ' 5 = .int .i64 0 := by
  rw [hp] at hp3
  rw [hq] at hq3
  simp only [opC, k2] at hp hp3 he
  simp only [obj] at hq hq3
  rw [at_cut Try.func96 127 (by decide) 7 (by decide) (by kernel_rfl) []]
  simp [Try.f96, t0, t3, ldVar, hp, hq, hp3, hq3, k2, hm, he, evHist, ObsOk, ObOk, List.getElem?_cons_zero]
theorem at127_3 (hp : A.get p = some (.cells 40 false (opC op))) (hq : A.get q = some (.cells 152 false (obj T r f))) (k3 : ¬ op.k = 2) {Fl : Nat} (hm : mthA Try.prog T "loop.example/g00012/impl.lost" = some Fl) {H3 : AH}
    (he : ev Try.prog m Fl [.ptr r 0, .agg (opC op)] A = some (U, H3)) (hp3 : H3.get p = A.get p) (hq3 : H3.get q = A.get q) (t0 : τ 0 = .ptr q 0) (t3 : τ 3 = .ptr p 0) :
    ∃ τ', evAt Try.prog (ev Try.prog m) m 96 127 τ A = some (.ret, τ', H3) ∧ τ' 4 = .bool false ∧ τ' 5 = .int .i64 0 := by
  rw [hp] at hp3
  rw [hq] at hq3
  simp only [opC] at hp hp3 he
  simp only [obj] at hq hq3
  rw [at_cut Try.func96 127 (by decide) 7 (by decide) (by kernel_rfl) []]
  simp [Try.f96, t0, t3, ldVar, hp, hq, hp3, hq3, k3, hm, he, evHist, ObsOk, ObOk, List.getElem?_cons_zero]
end
end Go.Ev

/- Congestion: the program's object and an operation on it. -/
namespace Go.Ev
open Go Go.Proofs
set_option linter.unusedSimpArgs false
set_option linter.unusedVariables false

def RuleI (k : Int) (H : AH) (T : TypeId) (r : Nat) (S : Cc) (own : List Nat) : Prop :=
  (k = 1 ∧ T = 250 ∧ own = [r] ∧ r < H.next ∧ H.get r = some (.cells 252 false (lossC S))) ∨
  (k = 2 ∧ T = 253 ∧ ∃ va vs ba bs, own = ccR r ba bs ∧ CcM H r S va vs ba bs)
theorem RuleI.mem {k : Int} {H : AH} {T : TypeId} {r : Nat} {S : Cc} {own : List Nat} (h : RuleI k H T r S own) : ∀ b ∈ own, b < H.next := by
  rcases h with ⟨_, _, rfl, h1, _⟩ | ⟨_, _, va, vs, ba, bs, rfl, h1⟩
  · simpa using h1
  · exact h1.mem
theorem RuleI.stay {k : Int} {H H' : AH} {T : TypeId} {r : Nat} {S : Cc} {own : List Nat} (h : RuleI k H T r S own) (hn : H.next ≤ H'.next) (hg : ∀ b ∈ own, H'.get b = H.get b) : RuleI k H' T r S own := by
  rcases h with ⟨h1, h2, rfl, h3, h4⟩ | ⟨h1, h2, va, vs, ba, bs, rfl, h3⟩
  · exact .inl ⟨h1, h2, rfl, by omega, (hg r (by simp)).trans h4⟩
  · exact .inr ⟨h1, h2, va, vs, ba, bs, rfl, h3.stay hn hg⟩
theorem RuleI.flight {k f : Int} {H : AH} {T : TypeId} {r : Nat} {S : Cc} {own : List Nat} (h : RuleI k H T r S own) : RuleI k H T r { S with flight := f } own := by
  rcases h with ⟨h1, h2, rfl, h3, h4⟩ | ⟨h1, h2, va, vs, ba, bs, rfl, h3⟩
  · exact .inl ⟨h1, h2, rfl, h3, h4⟩
  · exact .inr ⟨h1, h2, va, vs, ba, bs, rfl, ⟨h3.get, h3.ra, h3.rs, h3.nd, h3.lt⟩⟩
theorem RuleI.tells {k : Int} {H : AH} {T : TypeId} {r : Nat} {S : Cc} {own : List Nat} {n : Nat} (h : RuleI k H T r S own) (hok : S.ok k n) : ∃ Ft, mthA Try.prog T "loop.example/g00012/impl.tells" = some Ft ∧
    ∀ m, 1 ≤ m → ev Try.prog m Ft [.ptr r 0] H = some (.tuple [.int .i64 S.window, .int .i64 S.rate, .int .i64 S.state], H) := by
  rcases h with ⟨h1, rfl, rfl, h3, h4⟩ | ⟨h1, rfl, va, vs, ba, bs, rfl, h3⟩
  · refine ⟨322, by simp, fun m hm => ?_⟩
    rw [tellsL_ev h4 m hm, hok.rt1 h1]
  · exact ⟨326, by simp, fun m hm => tellsM_ev h3.get m hm⟩
theorem RuleI.acked {k : Int} {H : AH} {T : TypeId} {r : Nat} {S : Cc} {own : List Nat} {n : Nat} (h : RuleI k H T r S own) (hok : S.ok k n) (hn : n + 1 ≤ 600) {op : CcOpP} (ho : opGood op) (h2 : op.k = 2) (m : Nat) (hm : 730 ≤ m) :
    ∃ Fa H' own', mthA Try.prog T "loop.example/g00012/impl.acked" = some Fa ∧ ev Try.prog m Fa [.ptr r 0, .agg (opC op), .int .i64 S.flight] H = some (U, H') ∧
      RuleI k H' T r (if k = 1 then ackLossP S op else ackModelP S op) own' ∧ KoS own H H' ∧ (∀ b ∈ own', b ∈ own ∨ H.next ≤ b) := by
  rcases h with ⟨rfl, rfl, rfl, h3, h4⟩ | ⟨rfl, rfl, va, vs, ba, bs, rfl, h3⟩
  · obtain ⟨H', e1, e2, e3⟩ := ackLossI_ev h4 h3 hok ho S.flight m (by omega)
    exact ⟨320, H', [r], by simp, e1, .inl ⟨rfl, rfl, rfl, by have := e3.next; omega, e2⟩, e3, fun b hb => .inl hb⟩
  · obtain ⟨H', va', vs', ba', bs', e1, e2, e3, e4⟩ := ackModelI_ev h3 (by omega) hok hn ho h2 rfl m hm
    exact ⟨323, H', _, by simp, e1, .inr ⟨rfl, rfl, va', vs', ba', bs', rfl, e2⟩, e3, e4⟩
theorem RuleI.lost {k : Int} {H : AH} {T : TypeId} {r : Nat} {S : Cc} {own : List Nat} {n : Nat} (h : RuleI k H T r S own) (hok : S.ok k n) (op : CcOpP) (m : Nat) (hm : 1 ≤ m) :
    ∃ Fl H', mthA Try.prog T "loop.example/g00012/impl.lost" = some Fl ∧ ev Try.prog m Fl [.ptr r 0, .agg (opC op)] H = some (U, H') ∧
      RuleI k H' T r (if k = 1 then lostP S op else S) own ∧ KoS own H H' := by
  rcases h with ⟨rfl, rfl, rfl, h3, h4⟩ | ⟨rfl, rfl, va, vs, ba, bs, rfl, h3⟩
  · obtain ⟨H', e1, e2, e3⟩ := lostI_ev (op := op) h4 h3 hok m (by omega)
    exact ⟨321, H', by simp, e1, .inl ⟨rfl, rfl, rfl, by have := e3.next; omega, e2⟩, e3⟩
  · have hK : Kp H (H.push (.cells 40 false (opC op))) := (Kp.refl H).push _
    exact ⟨325, _, by simp, lostM_ev r op H m hm, .inr ⟨rfl, rfl, va, vs, ba, bs, rfl, h3.stay hK.next fun b hb => hK.get b (h3.mem b hb)⟩, ⟨hK.next, fun b hb _ => hK.get b hb⟩⟩
/-- the whole object -/
structure ObjI (k : Int) (H : AH) (q : Nat) (S : Cc) (T : TypeId) (r : Nat) (own : List Nat) : Prop where
  get : H.get q = some (.cells 152 false (obj T r S.flight))
  lt : q < H.next
  nin : q ∉ own
  rule : RuleI k H T r S own
theorem ObjI.mem {k : Int} {H : AH} {q : Nat} {S : Cc} {T : TypeId} {r : Nat} {own : List Nat} (h : ObjI k H q S T r own) : ∀ b ∈ q :: own, b < H.next := by
  intro b hb
  rcases List.mem_cons.1 hb with rfl | hb
  · exact h.lt
  · exact h.rule.mem b hb
theorem ObjI.stay {k : Int} {H H' : AH} {q : Nat} {S : Cc} {T : TypeId} {r : Nat} {own : List Nat} (h : ObjI k H q S T r own) (hn : H.next ≤ H'.next) (hg : ∀ b ∈ q :: own, H'.get b = H.get b) : ObjI k H' q S T r own :=
  ⟨(hg q (by simp)).trans h.get, by have := h.lt; omega, h.nin, h.rule.stay hn fun b hb => hg b (by simp [hb])⟩
theorem doI_ev {H : AH} {q : Nat} {k : Int} {S : Cc} {T : TypeId} {r : Nat} {own : List Nat} {n : Nat} (h : ObjI k H q S T r own) (hkd : k = 1 ∨ k = 2) (hok : S.ok k n) (hn : n + 1 ≤ 600) (op : CcOpP) (m : Nat) (hm : 740 ≤ m) :
    ∃ H' own', ev Try.prog m 96 [.ptr q 0, .agg (opC op)] H = some (.tuple [.bool (ccDo k S op).2.1, .int .i64 (ccDo k S op).2.2], H') ∧ ObjI k H' q (ccDo k S op).1 T r own' ∧ KoS (q :: own) H H' ∧ (∀ b ∈ own', b ∈ own ∨ H.next ≤ b) := by
  obtain ⟨m, rfl⟩ : ∃ k, m = k + 1 := ⟨m - 1, by omega⟩
  have hq := h.lt
  have hpq : H.next ≠ q := by omega
  let A : AH := H.push (.cells 40 false (opC op))
  have KA : Kp H A := (Kp.refl H).push _
  have hA : ObjI k A q S T r own := h.stay KA.next fun b hb => KA.get b (h.mem b hb)
  have gp : A.get H.next = some (.cells 40 false (opC op)) := by simp [A]
  have hpo : H.next ∉ own := fun e => by have := h.rule.mem _ e; omega
  have hmem := h.mem
  have KS : ∀ {X : AH} {l : List Nat}, KoS l A X → (∀ b ∈ l, b ∈ q :: own) → KoS (q :: own) H X := fun hX hl =>
    ⟨by have := hX.next; have := KA.next; omega, fun b hb hnb => by rw [hX.get b (by have := KA.next; omega) (fun e => hnb (hl b e)), KA.get b hb]⟩
  by_cases hb : badP op
  · have e := badI (q := q) (H := H) hb m (by omega)
    have hR : ccDo k S op = (S, false, 1) := by unfold ccDo; rw [if_pos hb]
    rw [hR]
    exact ⟨A, own, e, hA, KS (KoS.refl [] _) (by simp), fun b hb => .inl hb⟩
  · have ho := opGood.of hb
    have hk4 := ho.k
    have hbb := ho.b
    have hfl := hok.flight
    have hle := hok.le
    have w1 := wrap_i64 (n := S.flight + op.b) (by omega) (by omega)
    have w2 := wrap_i64 (n := S.flight - op.b) (by omega) (by omega)
    have hF : ∀ f : Int, ObjI k (A.set q (.cells 152 false (obj T r f))) q { S with flight := f } T r own ∧ KoS [q] A (A.set q (.cells 152 false (obj T r f))) := fun f =>
      ⟨⟨AH.set_getS _ _ _, hA.lt, h.nin, (hA.rule.stay (by simp) fun b hb => AH.set_getN _ _ (fun e => h.nin (by rw [← e]; exact hb))).flight⟩, ⟨by simp, fun b _ hb => AH.set_getN _ _ (by simpa using hb)⟩⟩
    by_cases k1 : op.k = 1
    · have hR : ccDo k S op = ({ S with flight := S.flight + op.b }, false, 0) := by unfold ccDo; rw [if_neg hb, if_neg (by omega), if_pos k1]
      rw [hR]
      refine ⟨_, own, goodI hb m (by omega) fun τ t0 t3 => at15_1 gp hA.get hpq k1 w1 t0 t3, (hF _).1, KS (hF _).2 (by simp), fun b hb => .inl hb⟩
    · by_cases k4 : op.k = 4
      · have hR : ccDo k S op = (S, decide (S.flight + op.b ≤ S.window), 0) := by unfold ccDo; rw [if_neg hb, if_neg (by omega), if_neg k1, if_neg (by omega), if_neg (by omega)]
        rw [hR]
        obtain ⟨Ft, f1, f2⟩ := hA.rule.tells hok
        obtain ⟨m, rfl⟩ : ∃ k, m = k + 2 := ⟨m - 2, by omega⟩
        have hmay := mayI_ev hA.get f1 (f2 m (by omega)) w1
        exact ⟨A, own, goodI hb (m + 2) (by omega) fun τ t0 t3 => at15_4 gp k4 hmay t0 t3, hA, KS (KoS.refl [] _) (by simp), fun b hb => .inl hb⟩
      · by_cases hs : S.flight < op.b
        · have hR : ccDo k S op = (S, false, 7) := by unfold ccDo; rw [if_neg hb, if_pos ⟨by omega, hs⟩]
          rw [hR]
          exact ⟨A, own, goodI hb m (by omega) fun τ t0 t3 => at15_23 gp k1 k4 t0 t3 fun τ t0 t3 => at31_7 gp hA.get hs t0 t3, hA, KS (KoS.refl [] _) (by simp), fun b hb => .inl hb⟩
        · have hFf := hF (S.flight - op.b)
          have hokF := flight_ok (f := S.flight - op.b) hok (by omega) (by omega)
          have gp2 : (A.set q (.cells 152 false (obj T r (S.flight - op.b)))).get H.next = some (.cells 40 false (opC op)) := (AH.set_getN _ _ hpq).trans gp
          by_cases k2 : op.k = 2
          · obtain ⟨Fa, H2, own', a1, a2, a3, a4, a5⟩ := hFf.1.rule.acked hokF hn ho k2 m (by omega)
            have hR : ccDo k S op = (if k = 1 then ackLossP { S with flight := S.flight - op.b } op else ackModelP { S with flight := S.flight - op.b } op, false, 0) := by unfold ccDo; rw [if_neg hb, if_neg (by omega), if_neg k1, if_pos k2]
            rw [hR]
            have hqk := a4.get q hFf.1.lt h.nin
            have hpk := a4.get H.next (by simp [A]) hpo
            have K2 : KoS (q :: own) A H2 := KoS.trans (bs := q :: own) (bs' := own) (hFf.2.mono fun b hb => .inl (by rw [List.mem_singleton] at hb; simp [hb])) a4 (fun b hb => .inl (by simp [hb]))
            have hfl : (if k = 1 then ackLossP { S with flight := S.flight - op.b } op else ackModelP { S with flight := S.flight - op.b } op).flight = S.flight - op.b := by
              split
              · unfold ackLossP; repeat' split
                all_goals rfl
              · unfold ackModelP ack3P; unfold ack2P; repeat' split
                all_goals rfl
            refine ⟨H2, own', goodI hb m (by omega) fun τ t0 t3 => at15_23 gp k1 k4 t0 t3 fun τ t0 t3 => at31 gp hA.get hpq hs w2 t0 t3 fun τ t0 t3 => at127_2 gp2 (AH.set_getS _ _ _) k2 a1 a2 hpk hqk t0 t3, ⟨?_, by have := a4.next; have := hFf.1.lt; omega, fun e => ?_, a3⟩, KS K2 (fun _ hb => hb), fun b hb => ?_⟩
            · rw [hfl]; exact hqk.trans (AH.set_getS _ _ _)
            · rcases a5 q e with e | e
              · exact h.nin e
              · have := hFf.1.lt; omega
            · rcases a5 b hb with e | e
              · exact .inl e
              · exact .inr (by simp [A] at e; omega)
          · have k3 : op.k = 3 := by omega
            obtain ⟨Fl, H2, a1, a2, a3, a4⟩ := hFf.1.rule.lost hokF op m (by omega)
            have hR : ccDo k S op = (if k = 1 then lostP { S with flight := S.flight - op.b } op else { S with flight := S.flight - op.b }, false, 0) := by unfold ccDo; rw [if_neg hb, if_neg (by omega), if_neg k1, if_neg k2, if_pos k3]
            rw [hR]
            have hqk := a4.get q hFf.1.lt h.nin
            have hpk := a4.get H.next (by simp [A]) hpo
            have K2 : KoS (q :: own) A H2 := KoS.trans (bs := q :: own) (bs' := own) (hFf.2.mono fun b hb => .inl (by rw [List.mem_singleton] at hb; simp [hb])) a4 (fun b hb => .inl (by simp [hb]))
            have hfl : (if k = 1 then lostP { S with flight := S.flight - op.b } op else { S with flight := S.flight - op.b }).flight = S.flight - op.b := by
              split
              · unfold lostP; split <;> rfl
              · rfl
            refine ⟨H2, own, goodI hb m (by omega) fun τ t0 t3 => at15_23 gp k1 k4 t0 t3 fun τ t0 t3 => at31 gp hA.get hpq hs w2 t0 t3 fun τ t0 t3 => at127_3 gp2 (AH.set_getS _ _ _) k2 a1 a2 hpk hqk t0 t3, ⟨?_, by have := a4.next; have := hFf.1.lt; omega, h.nin, a3⟩, KS K2 (fun _ hb => hb), fun b hb => .inl hb⟩
            rw [hfl]; exact hqk.trans (AH.set_getS _ _ _)
end Go.Ev
