/- Lemmas of an evaluator of the given code and of what the functions answer; no condition of its own. -/
import Derived.Test.YtnoacfilglgbgaaEv11
/- What a kind of frame uses, in the reference. -/
namespace Go.Ev
open Go Go.Proofs
set_option linter.unusedSimpArgs false
set_option linter.unusedVariables false

/-- A, B, C, Fin, Ranges, the least and the greatest length of Data, the length of Token -/
structure Us where
  a : Bool
  b : Bool
  c : Bool
  fin : Bool
  r : Bool
  lo : Int
  hi : Int
  tok : Int
def usesL : List (Int × Us) :=
  [(0, ⟨true, false, false, false, false, 0, 0, 0⟩), (1, ⟨false, false, false, false, false, 0, 0, 0⟩), (2, ⟨true, false, false, false, true, 0, 0, 0⟩), (4, ⟨true, true, true, false, false, 0, 0, 0⟩),
   (5, ⟨true, true, false, false, false, 0, 0, 0⟩), (6, ⟨true, false, false, false, false, 0, 1500, 0⟩), (7, ⟨false, false, false, false, false, 1, 64, 0⟩), (8, ⟨true, true, false, true, false, 0, 1500, 0⟩),
   (16, ⟨true, false, false, false, false, 0, 0, 0⟩), (17, ⟨true, true, false, false, false, 0, 0, 0⟩), (18, ⟨true, true, false, false, false, 0, 0, 0⟩), (20, ⟨true, false, false, false, false, 0, 0, 0⟩),
   (21, ⟨true, true, false, false, false, 0, 0, 0⟩), (22, ⟨true, true, false, false, false, 0, 0, 0⟩), (24, ⟨true, true, false, false, false, 1, 8, 8⟩), (25, ⟨true, false, false, false, false, 0, 0, 0⟩),
   (26, ⟨false, false, false, false, false, 8, 8, 0⟩), (27, ⟨false, false, false, false, false, 8, 8, 0⟩), (28, ⟨true, true, false, false, false, 0, 200, 0⟩), (29, ⟨true, false, false, false, false, 0, 200, 0⟩),
   (30, ⟨false, false, false, false, false, 0, 0, 0⟩), (48, ⟨false, false, false, false, false, 0, 1500, 0⟩)]
def usN : Us := ⟨false, false, false, false, false, 0, 0, 0⟩
def usC (ok : Bool) (u : Us) : AV := .agg [.bool ok, .bool u.a, .bool u.b, .bool u.c, .bool u.fin, .bool u.r, .int .i64 u.lo, .int .i64 u.hi, .int .i64 u.tok]
def kindIn (k : Int) : Prop := k = 0 ∨ k = 1 ∨ k = 2 ∨ k = 4 ∨ k = 5 ∨ k = 6 ∨ k = 7 ∨ k = 8 ∨ k = 16 ∨ k = 17 ∨ k = 18 ∨ k = 20 ∨ k = 21 ∨ k = 22 ∨ k = 24 ∨ k = 25 ∨ k = 26 ∨ k = 27 ∨ k = 28 ∨ k = 29 ∨ k = 30 ∨ k = 48
instance (k : Int) : Decidable (kindIn k) := by unfold kindIn; infer_instance
theorem uses_not {k : Int} (h : ¬ kindIn k) : usesL.lookup k = none := by
  rw [List.lookup_eq_none_iff]
  intro p hp
  have : p.1 ≠ k := by
    intro e
    apply h
    rw [← e]
    simp only [usesL, List.mem_cons, List.not_mem_nil, or_false] at hp
    rcases hp with rfl | rfl | rfl | rfl | rfl | rfl | rfl | rfl | rfl | rfl | rfl | rfl | rfl | rfl | rfl | rfl | rfl | rfl | rfl | rfl | rfl | rfl <;> decide
  simpa using fun e => this e.symm
theorem shape_not {k : Int} (h : ¬ kindIn k) : shapeL.lookup k = none := by
  rw [List.lookup_eq_none_iff]
  intro p hp
  have : p.1 ≠ k := by
    intro e
    apply h
    rw [← e]
    simp only [shapeL, List.mem_cons, List.not_mem_nil, or_false] at hp
    rcases hp with rfl | rfl | rfl | rfl | rfl | rfl | rfl | rfl | rfl | rfl | rfl | rfl | rfl | rfl | rfl | rfl | rfl | rfl | rfl | rfl | rfl | rfl <;> decide
  simpa using fun e => this e.symm
def kdC (ok : Bool) (u : Us) : List AV := [.bool ok, .bool u.a, .bool u.b, .bool u.c, .bool u.fin, .bool u.r, .int .i64 u.lo, .int .i64 u.hi, .int .i64 u.tok]
/-- what a segment of the switch leaves -/
structure KdE (B : Nat) (H H' : AH) (τ τ' : Tm) (c : List AV) : Prop where
  t2 : τ' 2 = τ 2
  t3 : τ' 3 = τ 3
  next : H'.next = H.next
  get : H'.get B = some (.cells 222 false c)
  rest : ∀ b, b ≠ B → H'.get b = H.get b
theorem kdS_58 (k : Int) (h1 : ¬ (k = 1)) (h30 : ¬ (k = 30)) (m : Nat) (τ : Tm) (H : AH) (t5 : τ 5 = .int .i64 k) :
    ∃ τ', evAt Try.prog (ev Try.prog m) m 156 58 τ H = evAt Try.prog (ev Try.prog m) m 156 235 τ' H ∧ τ' 2 = τ 2 ∧ τ' 3 = τ 3 ∧ τ' 5 = .int .i64 k := by
  rw [at_M Try.func156 58 (by decide) 6 (by decide) (by kernel_rfl) [235]]
  exact ⟨_, by simp [Try.f156, t5, beqF, h1, h30]; rfl, by simp, by simp, by simp [t5]⟩
theorem kdF_1 (m : Nat) (τ : Tm) (H : AH) (t5 : τ 5 = .int .i64 1) (B : Nat) (t3 : τ 3 = .ptr B 0) (hB : H.get B = some (.cells 222 false (kdC true usN))) :
    ∃ τ' H', evAt Try.prog (ev Try.prog m) m 156 58 τ H = some (.normal, τ', H') ∧ KdE B H H' τ τ' (kdC true ((usesL.lookup 1).getD usN)) := by
  rw [at_M Try.func156 58 (by decide) 6 (by decide) (by kernel_rfl) [235]]
  simp only [kdC, usN] at hB ⊢
  exact ⟨_, _, by simp [Try.f156, t5, t3, hB, stVar, spl]; exact ⟨rfl, rfl⟩, by simp, by simp, by simp, by simp [usesL, List.lookup_cons, hB], fun b hb => by simp [hb]⟩
theorem kdF_30 (m : Nat) (τ : Tm) (H : AH) (t5 : τ 5 = .int .i64 30) (B : Nat) (t3 : τ 3 = .ptr B 0) (hB : H.get B = some (.cells 222 false (kdC true usN))) :
    ∃ τ' H', evAt Try.prog (ev Try.prog m) m 156 58 τ H = some (.normal, τ', H') ∧ KdE B H H' τ τ' (kdC true ((usesL.lookup 30).getD usN)) := by
  rw [at_M Try.func156 58 (by decide) 6 (by decide) (by kernel_rfl) [235]]
  simp only [kdC, usN] at hB ⊢
  exact ⟨_, _, by simp [Try.f156, t5, t3, hB, stVar, spl]; exact ⟨rfl, rfl⟩, by simp, by simp, by simp, by simp [usesL, List.lookup_cons, hB], fun b hb => by simp [hb]⟩
theorem kdS_235 (k : Int) (h0 : ¬ (k = 0)) (h16 : ¬ (k = 16)) (h20 : ¬ (k = 20)) (h25 : ¬ (k = 25)) (m : Nat) (τ : Tm) (H : AH) (t5 : τ 5 = .int .i64 k) :
    ∃ τ', evAt Try.prog (ev Try.prog m) m 156 235 τ H = evAt Try.prog (ev Try.prog m) m 156 943 τ' H ∧ τ' 2 = τ 2 ∧ τ' 3 = τ 3 ∧ τ' 5 = .int .i64 k := by
  rw [at_M Try.func156 235 (by decide) 8 (by decide) (by kernel_rfl) [943]]
  exact ⟨_, by simp [Try.f156, t5, beqF, h0, h16, h20, h25]; rfl, by simp, by simp, by simp [t5]⟩
theorem kdF_0 (m : Nat) (τ : Tm) (H : AH) (t5 : τ 5 = .int .i64 0) (B : Nat) (t3 : τ 3 = .ptr B 0) (hB : H.get B = some (.cells 222 false (kdC true usN))) :
    ∃ τ' H', evAt Try.prog (ev Try.prog m) m 156 235 τ H = some (.normal, τ', H') ∧ KdE B H H' τ τ' (kdC true ((usesL.lookup 0).getD usN)) := by
  rw [at_M Try.func156 235 (by decide) 8 (by decide) (by kernel_rfl) [943]]
  simp only [kdC, usN] at hB ⊢
  exact ⟨_, _, by simp [Try.f156, t5, t3, hB, stVar, spl]; exact ⟨rfl, rfl⟩, by simp, by simp, by simp, by simp [usesL, List.lookup_cons, hB], fun b hb => by simp [hb]⟩
theorem kdF_16 (m : Nat) (τ : Tm) (H : AH) (t5 : τ 5 = .int .i64 16) (B : Nat) (t3 : τ 3 = .ptr B 0) (hB : H.get B = some (.cells 222 false (kdC true usN))) :
    ∃ τ' H', evAt Try.prog (ev Try.prog m) m 156 235 τ H = some (.normal, τ', H') ∧ KdE B H H' τ τ' (kdC true ((usesL.lookup 16).getD usN)) := by
  rw [at_M Try.func156 235 (by decide) 8 (by decide) (by kernel_rfl) [943]]
  simp only [kdC, usN] at hB ⊢
  exact ⟨_, _, by simp [Try.f156, t5, t3, hB, stVar, spl]; exact ⟨rfl, rfl⟩, by simp, by simp, by simp, by simp [usesL, List.lookup_cons, hB], fun b hb => by simp [hb]⟩
theorem kdF_20 (m : Nat) (τ : Tm) (H : AH) (t5 : τ 5 = .int .i64 20) (B : Nat) (t3 : τ 3 = .ptr B 0) (hB : H.get B = some (.cells 222 false (kdC true usN))) :
    ∃ τ' H', evAt Try.prog (ev Try.prog m) m 156 235 τ H = some (.normal, τ', H') ∧ KdE B H H' τ τ' (kdC true ((usesL.lookup 20).getD usN)) := by
  rw [at_M Try.func156 235 (by decide) 8 (by decide) (by kernel_rfl) [943]]
  simp only [kdC, usN] at hB ⊢
  exact ⟨_, _, by simp [Try.f156, t5, t3, hB, stVar, spl]; exact ⟨rfl, rfl⟩, by simp, by simp, by simp, by simp [usesL, List.lookup_cons, hB], fun b hb => by simp [hb]⟩
theorem kdF_25 (m : Nat) (τ : Tm) (H : AH) (t5 : τ 5 = .int .i64 25) (B : Nat) (t3 : τ 3 = .ptr B 0) (hB : H.get B = some (.cells 222 false (kdC true usN))) :
    ∃ τ' H', evAt Try.prog (ev Try.prog m) m 156 235 τ H = some (.normal, τ', H') ∧ KdE B H H' τ τ' (kdC true ((usesL.lookup 25).getD usN)) := by
  rw [at_M Try.func156 235 (by decide) 8 (by decide) (by kernel_rfl) [943]]
  simp only [kdC, usN] at hB ⊢
  exact ⟨_, _, by simp [Try.f156, t5, t3, hB, stVar, spl]; exact ⟨rfl, rfl⟩, by simp, by simp, by simp, by simp [usesL, List.lookup_cons, hB], fun b hb => by simp [hb]⟩
theorem kdS_943 (k : Int) (h2 : ¬ (k = 2)) (m : Nat) (τ : Tm) (H : AH) (t5 : τ 5 = .int .i64 k) :
    ∃ τ', evAt Try.prog (ev Try.prog m) m 156 943 τ H = evAt Try.prog (ev Try.prog m) m 156 3775 τ' H ∧ τ' 2 = τ 2 ∧ τ' 3 = τ 3 ∧ τ' 5 = .int .i64 k := by
  rw [at_M Try.func156 943 (by decide) 10 (by decide) (by kernel_rfl) [3775]]
  exact ⟨_, by simp [Try.f156, t5, beqF, h2]; rfl, by simp, by simp, by simp [t5]⟩
theorem kdF_2 (m : Nat) (τ : Tm) (H : AH) (t5 : τ 5 = .int .i64 2) (B : Nat) (t3 : τ 3 = .ptr B 0) (hB : H.get B = some (.cells 222 false (kdC true usN))) :
    ∃ τ' H', evAt Try.prog (ev Try.prog m) m 156 943 τ H = some (.normal, τ', H') ∧ KdE B H H' τ τ' (kdC true ((usesL.lookup 2).getD usN)) := by
  rw [at_M Try.func156 943 (by decide) 10 (by decide) (by kernel_rfl) [3775]]
  simp only [kdC, usN] at hB ⊢
  exact ⟨_, _, by simp [Try.f156, t5, t3, hB, stVar, spl]; exact ⟨rfl, rfl⟩, by simp, by simp, by simp, by simp [usesL, List.lookup_cons, hB], fun b hb => by simp [hb]⟩
theorem kdS_3775 (k : Int) (h4 : ¬ (k = 4)) (m : Nat) (τ : Tm) (H : AH) (t5 : τ 5 = .int .i64 k) :
    ∃ τ', evAt Try.prog (ev Try.prog m) m 156 3775 τ H = evAt Try.prog (ev Try.prog m) m 156 15103 τ' H ∧ τ' 2 = τ 2 ∧ τ' 3 = τ 3 ∧ τ' 5 = .int .i64 k := by
  rw [at_M Try.func156 3775 (by decide) 12 (by decide) (by kernel_rfl) [15103]]
  exact ⟨_, by simp [Try.f156, t5, beqF, h4]; rfl, by simp, by simp, by simp [t5]⟩
theorem kdF_4 (m : Nat) (τ : Tm) (H : AH) (t5 : τ 5 = .int .i64 4) (B : Nat) (t3 : τ 3 = .ptr B 0) (hB : H.get B = some (.cells 222 false (kdC true usN))) :
    ∃ τ' H', evAt Try.prog (ev Try.prog m) m 156 3775 τ H = some (.normal, τ', H') ∧ KdE B H H' τ τ' (kdC true ((usesL.lookup 4).getD usN)) := by
  rw [at_M Try.func156 3775 (by decide) 12 (by decide) (by kernel_rfl) [15103]]
  simp only [kdC, usN] at hB ⊢
  exact ⟨_, _, by simp [Try.f156, t5, t3, hB, stVar, spl]; exact ⟨rfl, rfl⟩, by simp, by simp, by simp, by simp [usesL, List.lookup_cons, hB], fun b hb => by simp [hb]⟩
theorem kdS_15103 (k : Int) (h5 : ¬ (k = 5)) (h17 : ¬ (k = 17)) (h21 : ¬ (k = 21)) (h18 : ¬ (k = 18)) (h22 : ¬ (k = 22)) (m : Nat) (τ : Tm) (H : AH) (t5 : τ 5 = .int .i64 k) :
    ∃ τ', evAt Try.prog (ev Try.prog m) m 156 15103 τ H = evAt Try.prog (ev Try.prog m) m 156 60415 τ' H ∧ τ' 2 = τ 2 ∧ τ' 3 = τ 3 ∧ τ' 5 = .int .i64 k := by
  rw [at_M Try.func156 15103 (by decide) 14 (by decide) (by kernel_rfl) [60415]]
  exact ⟨_, by simp [Try.f156, t5, beqF, h5, h17, h21, h18, h22]; rfl, by simp, by simp, by simp [t5]⟩
theorem kdF_5 (m : Nat) (τ : Tm) (H : AH) (t5 : τ 5 = .int .i64 5) (B : Nat) (t3 : τ 3 = .ptr B 0) (hB : H.get B = some (.cells 222 false (kdC true usN))) :
    ∃ τ' H', evAt Try.prog (ev Try.prog m) m 156 15103 τ H = some (.normal, τ', H') ∧ KdE B H H' τ τ' (kdC true ((usesL.lookup 5).getD usN)) := by
  rw [at_M Try.func156 15103 (by decide) 14 (by decide) (by kernel_rfl) [60415]]
  simp only [kdC, usN] at hB ⊢
  exact ⟨_, _, by simp [Try.f156, t5, t3, hB, stVar, spl]; exact ⟨rfl, rfl⟩, by simp, by simp, by simp, by simp [usesL, List.lookup_cons, hB], fun b hb => by simp [hb]⟩
theorem kdF_17 (m : Nat) (τ : Tm) (H : AH) (t5 : τ 5 = .int .i64 17) (B : Nat) (t3 : τ 3 = .ptr B 0) (hB : H.get B = some (.cells 222 false (kdC true usN))) :
    ∃ τ' H', evAt Try.prog (ev Try.prog m) m 156 15103 τ H = some (.normal, τ', H') ∧ KdE B H H' τ τ' (kdC true ((usesL.lookup 17).getD usN)) := by
  rw [at_M Try.func156 15103 (by decide) 14 (by decide) (by kernel_rfl) [60415]]
  simp only [kdC, usN] at hB ⊢
  exact ⟨_, _, by simp [Try.f156, t5, t3, hB, stVar, spl]; exact ⟨rfl, rfl⟩, by simp, by simp, by simp, by simp [usesL, List.lookup_cons, hB], fun b hb => by simp [hb]⟩
theorem kdF_21 (m : Nat) (τ : Tm) (H : AH) (t5 : τ 5 = .int .i64 21) (B : Nat) (t3 : τ 3 = .ptr B 0) (hB : H.get B = some (.cells 222 false (kdC true usN))) :
    ∃ τ' H', evAt Try.prog (ev Try.prog m) m 156 15103 τ H = some (.normal, τ', H') ∧ KdE B H H' τ τ' (kdC true ((usesL.lookup 21).getD usN)) := by
  rw [at_M Try.func156 15103 (by decide) 14 (by decide) (by kernel_rfl) [60415]]
  simp only [kdC, usN] at hB ⊢
  exact ⟨_, _, by simp [Try.f156, t5, t3, hB, stVar, spl]; exact ⟨rfl, rfl⟩, by simp, by simp, by simp, by simp [usesL, List.lookup_cons, hB], fun b hb => by simp [hb]⟩
theorem kdF_18 (m : Nat) (τ : Tm) (H : AH) (t5 : τ 5 = .int .i64 18) (B : Nat) (t3 : τ 3 = .ptr B 0) (hB : H.get B = some (.cells 222 false (kdC true usN))) :
    ∃ τ' H', evAt Try.prog (ev Try.prog m) m 156 15103 τ H = some (.normal, τ', H') ∧ KdE B H H' τ τ' (kdC true ((usesL.lookup 18).getD usN)) := by
  rw [at_M Try.func156 15103 (by decide) 14 (by decide) (by kernel_rfl) [60415]]
  simp only [kdC, usN] at hB ⊢
  exact ⟨_, _, by simp [Try.f156, t5, t3, hB, stVar, spl]; exact ⟨rfl, rfl⟩, by simp, by simp, by simp, by simp [usesL, List.lookup_cons, hB], fun b hb => by simp [hb]⟩
theorem kdF_22 (m : Nat) (τ : Tm) (H : AH) (t5 : τ 5 = .int .i64 22) (B : Nat) (t3 : τ 3 = .ptr B 0) (hB : H.get B = some (.cells 222 false (kdC true usN))) :
    ∃ τ' H', evAt Try.prog (ev Try.prog m) m 156 15103 τ H = some (.normal, τ', H') ∧ KdE B H H' τ τ' (kdC true ((usesL.lookup 22).getD usN)) := by
  rw [at_M Try.func156 15103 (by decide) 14 (by decide) (by kernel_rfl) [60415]]
  simp only [kdC, usN] at hB ⊢
  exact ⟨_, _, by simp [Try.f156, t5, t3, hB, stVar, spl]; exact ⟨rfl, rfl⟩, by simp, by simp, by simp, by simp [usesL, List.lookup_cons, hB], fun b hb => by simp [hb]⟩
theorem kdS_60415 (k : Int) (h6 : ¬ (k = 6)) (m : Nat) (τ : Tm) (H : AH) (t5 : τ 5 = .int .i64 k) :
    ∃ τ', evAt Try.prog (ev Try.prog m) m 156 60415 τ H = evAt Try.prog (ev Try.prog m) m 156 241663 τ' H ∧ τ' 2 = τ 2 ∧ τ' 3 = τ 3 ∧ τ' 5 = .int .i64 k := by
  rw [at_M Try.func156 60415 (by decide) 16 (by decide) (by kernel_rfl) [241663]]
  exact ⟨_, by simp [Try.f156, t5, beqF, h6]; rfl, by simp, by simp, by simp [t5]⟩
theorem kdF_6 (m : Nat) (τ : Tm) (H : AH) (t5 : τ 5 = .int .i64 6) (B : Nat) (t3 : τ 3 = .ptr B 0) (hB : H.get B = some (.cells 222 false (kdC true usN))) :
    ∃ τ' H', evAt Try.prog (ev Try.prog m) m 156 60415 τ H = some (.normal, τ', H') ∧ KdE B H H' τ τ' (kdC true ((usesL.lookup 6).getD usN)) := by
  rw [at_M Try.func156 60415 (by decide) 16 (by decide) (by kernel_rfl) [241663]]
  simp only [kdC, usN] at hB ⊢
  exact ⟨_, _, by simp [Try.f156, t5, t3, hB, stVar, spl]; exact ⟨rfl, rfl⟩, by simp, by simp, by simp, by simp [usesL, List.lookup_cons, hB], fun b hb => by simp [hb]⟩
theorem kdS_241663 (k : Int) (h7 : ¬ (k = 7)) (m : Nat) (τ : Tm) (H : AH) (t5 : τ 5 = .int .i64 k) :
    ∃ τ', evAt Try.prog (ev Try.prog m) m 156 241663 τ H = evAt Try.prog (ev Try.prog m) m 156 966655 τ' H ∧ τ' 2 = τ 2 ∧ τ' 3 = τ 3 ∧ τ' 5 = .int .i64 k := by
  rw [at_M Try.func156 241663 (by decide) 18 (by decide) (by kernel_rfl) [966655]]
  exact ⟨_, by simp [Try.f156, t5, beqF, h7]; rfl, by simp, by simp, by simp [t5]⟩
theorem kdF_7 (m : Nat) (τ : Tm) (H : AH) (t5 : τ 5 = .int .i64 7) (B : Nat) (t3 : τ 3 = .ptr B 0) (hB : H.get B = some (.cells 222 false (kdC true usN))) :
    ∃ τ' H', evAt Try.prog (ev Try.prog m) m 156 241663 τ H = some (.normal, τ', H') ∧ KdE B H H' τ τ' (kdC true ((usesL.lookup 7).getD usN)) := by
  rw [at_M Try.func156 241663 (by decide) 18 (by decide) (by kernel_rfl) [966655]]
  simp only [kdC, usN] at hB ⊢
  exact ⟨_, _, by simp [Try.f156, t5, t3, hB, stVar, spl]; exact ⟨rfl, rfl⟩, by simp, by simp, by simp, by simp [usesL, List.lookup_cons, hB], fun b hb => by simp [hb]⟩
theorem kdS_966655 (k : Int) (h8 : ¬ (k = 8)) (m : Nat) (τ : Tm) (H : AH) (t5 : τ 5 = .int .i64 k) :
    ∃ τ', evAt Try.prog (ev Try.prog m) m 156 966655 τ H = evAt Try.prog (ev Try.prog m) m 156 3866623 τ' H ∧ τ' 2 = τ 2 ∧ τ' 3 = τ 3 ∧ τ' 5 = .int .i64 k := by
  rw [at_M Try.func156 966655 (by decide) 20 (by decide) (by kernel_rfl) [3866623]]
  exact ⟨_, by simp [Try.f156, t5, beqF, h8]; rfl, by simp, by simp, by simp [t5]⟩
theorem kdF_8 (m : Nat) (τ : Tm) (H : AH) (t5 : τ 5 = .int .i64 8) (B : Nat) (t3 : τ 3 = .ptr B 0) (hB : H.get B = some (.cells 222 false (kdC true usN))) :
    ∃ τ' H', evAt Try.prog (ev Try.prog m) m 156 966655 τ H = some (.normal, τ', H') ∧ KdE B H H' τ τ' (kdC true ((usesL.lookup 8).getD usN)) := by
  rw [at_M Try.func156 966655 (by decide) 20 (by decide) (by kernel_rfl) [3866623]]
  simp only [kdC, usN] at hB ⊢
  exact ⟨_, _, by simp [Try.f156, t5, t3, hB, stVar, spl]; exact ⟨rfl, rfl⟩, by simp, by simp, by simp, by simp [usesL, List.lookup_cons, hB], fun b hb => by simp [hb]⟩
theorem kdS_3866623 (k : Int) (h24 : ¬ (k = 24)) (m : Nat) (τ : Tm) (H : AH) (t5 : τ 5 = .int .i64 k) :
    ∃ τ', evAt Try.prog (ev Try.prog m) m 156 3866623 τ H = evAt Try.prog (ev Try.prog m) m 156 15466495 τ' H ∧ τ' 2 = τ 2 ∧ τ' 3 = τ 3 ∧ τ' 5 = .int .i64 k := by
  rw [at_M Try.func156 3866623 (by decide) 22 (by decide) (by kernel_rfl) [15466495]]
  exact ⟨_, by simp [Try.f156, t5, beqF, h24]; rfl, by simp, by simp, by simp [t5]⟩
theorem kdF_24 (m : Nat) (τ : Tm) (H : AH) (t5 : τ 5 = .int .i64 24) (B : Nat) (t3 : τ 3 = .ptr B 0) (hB : H.get B = some (.cells 222 false (kdC true usN))) :
    ∃ τ' H', evAt Try.prog (ev Try.prog m) m 156 3866623 τ H = some (.normal, τ', H') ∧ KdE B H H' τ τ' (kdC true ((usesL.lookup 24).getD usN)) := by
  rw [at_M Try.func156 3866623 (by decide) 22 (by decide) (by kernel_rfl) [15466495]]
  simp only [kdC, usN] at hB ⊢
  exact ⟨_, _, by simp [Try.f156, t5, t3, hB, stVar, spl]; exact ⟨rfl, rfl⟩, by simp, by simp, by simp, by simp [usesL, List.lookup_cons, hB], fun b hb => by simp [hb]⟩
theorem kdS_15466495 (k : Int) (h26 : ¬ (k = 26)) (h27 : ¬ (k = 27)) (m : Nat) (τ : Tm) (H : AH) (t5 : τ 5 = .int .i64 k) :
    ∃ τ', evAt Try.prog (ev Try.prog m) m 156 15466495 τ H = evAt Try.prog (ev Try.prog m) m 156 61865983 τ' H ∧ τ' 2 = τ 2 ∧ τ' 3 = τ 3 ∧ τ' 5 = .int .i64 k := by
  rw [at_M Try.func156 15466495 (by decide) 24 (by decide) (by kernel_rfl) [61865983]]
  exact ⟨_, by simp [Try.f156, t5, beqF, h26, h27]; rfl, by simp, by simp, by simp [t5]⟩
theorem kdF_26 (m : Nat) (τ : Tm) (H : AH) (t5 : τ 5 = .int .i64 26) (B : Nat) (t3 : τ 3 = .ptr B 0) (hB : H.get B = some (.cells 222 false (kdC true usN))) :
    ∃ τ' H', evAt Try.prog (ev Try.prog m) m 156 15466495 τ H = some (.normal, τ', H') ∧ KdE B H H' τ τ' (kdC true ((usesL.lookup 26).getD usN)) := by
  rw [at_M Try.func156 15466495 (by decide) 24 (by decide) (by kernel_rfl) [61865983]]
  simp only [kdC, usN] at hB ⊢
  exact ⟨_, _, by simp [Try.f156, t5, t3, hB, stVar, spl]; exact ⟨rfl, rfl⟩, by simp, by simp, by simp, by simp [usesL, List.lookup_cons, hB], fun b hb => by simp [hb]⟩
theorem kdF_27 (m : Nat) (τ : Tm) (H : AH) (t5 : τ 5 = .int .i64 27) (B : Nat) (t3 : τ 3 = .ptr B 0) (hB : H.get B = some (.cells 222 false (kdC true usN))) :
    ∃ τ' H', evAt Try.prog (ev Try.prog m) m 156 15466495 τ H = some (.normal, τ', H') ∧ KdE B H H' τ τ' (kdC true ((usesL.lookup 27).getD usN)) := by
  rw [at_M Try.func156 15466495 (by decide) 24 (by decide) (by kernel_rfl) [61865983]]
  simp only [kdC, usN] at hB ⊢
  exact ⟨_, _, by simp [Try.f156, t5, t3, hB, stVar, spl]; exact ⟨rfl, rfl⟩, by simp, by simp, by simp, by simp [usesL, List.lookup_cons, hB], fun b hb => by simp [hb]⟩
theorem kdS_61865983 (k : Int) (h28 : ¬ (k = 28)) (m : Nat) (τ : Tm) (H : AH) (t5 : τ 5 = .int .i64 k) :
    ∃ τ', evAt Try.prog (ev Try.prog m) m 156 61865983 τ H = evAt Try.prog (ev Try.prog m) m 156 247463935 τ' H ∧ τ' 2 = τ 2 ∧ τ' 3 = τ 3 ∧ τ' 5 = .int .i64 k := by
  rw [at_M Try.func156 61865983 (by decide) 26 (by decide) (by kernel_rfl) [247463935]]
  exact ⟨_, by simp [Try.f156, t5, beqF, h28]; rfl, by simp, by simp, by simp [t5]⟩
theorem kdF_28 (m : Nat) (τ : Tm) (H : AH) (t5 : τ 5 = .int .i64 28) (B : Nat) (t3 : τ 3 = .ptr B 0) (hB : H.get B = some (.cells 222 false (kdC true usN))) :
    ∃ τ' H', evAt Try.prog (ev Try.prog m) m 156 61865983 τ H = some (.normal, τ', H') ∧ KdE B H H' τ τ' (kdC true ((usesL.lookup 28).getD usN)) := by
  rw [at_M Try.func156 61865983 (by decide) 26 (by decide) (by kernel_rfl) [247463935]]
  simp only [kdC, usN] at hB ⊢
  exact ⟨_, _, by simp [Try.f156, t5, t3, hB, stVar, spl]; exact ⟨rfl, rfl⟩, by simp, by simp, by simp, by simp [usesL, List.lookup_cons, hB], fun b hb => by simp [hb]⟩
theorem kdS_247463935 (k : Int) (h29 : ¬ (k = 29)) (m : Nat) (τ : Tm) (H : AH) (t5 : τ 5 = .int .i64 k) :
    ∃ τ', evAt Try.prog (ev Try.prog m) m 156 247463935 τ H = evAt Try.prog (ev Try.prog m) m 156 989855743 τ' H ∧ τ' 2 = τ 2 ∧ τ' 3 = τ 3 ∧ τ' 5 = .int .i64 k := by
  rw [at_M Try.func156 247463935 (by decide) 28 (by decide) (by kernel_rfl) [989855743]]
  exact ⟨_, by simp [Try.f156, t5, beqF, h29]; rfl, by simp, by simp, by simp [t5]⟩
theorem kdF_29 (m : Nat) (τ : Tm) (H : AH) (t5 : τ 5 = .int .i64 29) (B : Nat) (t3 : τ 3 = .ptr B 0) (hB : H.get B = some (.cells 222 false (kdC true usN))) :
    ∃ τ' H', evAt Try.prog (ev Try.prog m) m 156 247463935 τ H = some (.normal, τ', H') ∧ KdE B H H' τ τ' (kdC true ((usesL.lookup 29).getD usN)) := by
  rw [at_M Try.func156 247463935 (by decide) 28 (by decide) (by kernel_rfl) [989855743]]
  simp only [kdC, usN] at hB ⊢
  exact ⟨_, _, by simp [Try.f156, t5, t3, hB, stVar, spl]; exact ⟨rfl, rfl⟩, by simp, by simp, by simp, by simp [usesL, List.lookup_cons, hB], fun b hb => by simp [hb]⟩
theorem kdF_not (k : Int) (h48 : ¬ (k = 48)) (m : Nat) (τ : Tm) (H : AH) (t5 : τ 5 = .int .i64 k) (B : Nat) (t3 : τ 3 = .ptr B 0) (hB : H.get B = some (.cells 222 false (kdC true usN))) :
    ∃ τ' H', evAt Try.prog (ev Try.prog m) m 156 989855743 τ H = some (.normal, τ', H') ∧ KdE B H H' τ τ' (kdC false usN) := by
  rw [at_M Try.func156 989855743 (by decide) 30 (by decide) (by kernel_rfl) []]
  simp only [kdC, usN] at hB ⊢
  exact ⟨_, _, by simp [Try.f156, t5, t3, hB, stVar, spl, beqF, h48]; exact ⟨rfl, rfl⟩, by simp, by simp, by simp, by simp, fun b hb => by simp [hb]⟩
theorem kdF_48 (m : Nat) (τ : Tm) (H : AH) (t5 : τ 5 = .int .i64 48) (B : Nat) (t3 : τ 3 = .ptr B 0) (hB : H.get B = some (.cells 222 false (kdC true usN))) :
    ∃ τ' H', evAt Try.prog (ev Try.prog m) m 156 989855743 τ H = some (.normal, τ', H') ∧ KdE B H H' τ τ' (kdC true ((usesL.lookup 48).getD usN)) := by
  rw [at_M Try.func156 989855743 (by decide) 30 (by decide) (by kernel_rfl) []]
  simp only [kdC, usN] at hB ⊢
  exact ⟨_, _, by simp [Try.f156, t5, t3, hB, stVar, spl]; exact ⟨rfl, rfl⟩, by simp, by simp, by simp, by simp [usesL, List.lookup_cons, hB], fun b hb => by simp [hb]⟩
theorem kdA_0 (m : Nat) (τ : Tm) (H : AH) (t5 : τ 5 = .int .i64 0) (B : Nat) (t3 : τ 3 = .ptr B 0) (hB : H.get B = some (.cells 222 false (kdC true usN))) :
    ∃ τ' H', evAt Try.prog (ev Try.prog m) m 156 58 τ H = some (.normal, τ', H') ∧ KdE B H H' τ τ' (kdC true ((usesL.lookup 0).getD usN)) := by
  obtain ⟨τ1, e1, a1, b1, c1⟩ := kdS_58 0 (by decide) (by decide) m τ H t5
  obtain ⟨τ', H', e, g⟩ := kdF_0 m τ1 H c1 B (by rw [b1]; exact t3) hB
  refine ⟨τ', H', by rw [e1, e], ⟨g.t2.trans (by rw [a1]), g.t3.trans (by rw [b1]), g.next, g.get, g.rest⟩⟩
theorem kdA_1 (m : Nat) (τ : Tm) (H : AH) (t5 : τ 5 = .int .i64 1) (B : Nat) (t3 : τ 3 = .ptr B 0) (hB : H.get B = some (.cells 222 false (kdC true usN))) :
    ∃ τ' H', evAt Try.prog (ev Try.prog m) m 156 58 τ H = some (.normal, τ', H') ∧ KdE B H H' τ τ' (kdC true ((usesL.lookup 1).getD usN)) := by
  obtain ⟨τ', H', e, g⟩ := kdF_1 m τ H t5 B (t3) hB
  exact ⟨τ', H', e, g⟩
theorem kdA_2 (m : Nat) (τ : Tm) (H : AH) (t5 : τ 5 = .int .i64 2) (B : Nat) (t3 : τ 3 = .ptr B 0) (hB : H.get B = some (.cells 222 false (kdC true usN))) :
    ∃ τ' H', evAt Try.prog (ev Try.prog m) m 156 58 τ H = some (.normal, τ', H') ∧ KdE B H H' τ τ' (kdC true ((usesL.lookup 2).getD usN)) := by
  obtain ⟨τ1, e1, a1, b1, c1⟩ := kdS_58 2 (by decide) (by decide) m τ H t5
  obtain ⟨τ2, e2, a2, b2, c2⟩ := kdS_235 2 (by decide) (by decide) (by decide) (by decide) m τ1 H c1
  obtain ⟨τ', H', e, g⟩ := kdF_2 m τ2 H c2 B (by rw [b2, b1]; exact t3) hB
  refine ⟨τ', H', by rw [e1, e2, e], ⟨g.t2.trans (by rw [a2, a1]), g.t3.trans (by rw [b2, b1]), g.next, g.get, g.rest⟩⟩
theorem kdA_4 (m : Nat) (τ : Tm) (H : AH) (t5 : τ 5 = .int .i64 4) (B : Nat) (t3 : τ 3 = .ptr B 0) (hB : H.get B = some (.cells 222 false (kdC true usN))) :
    ∃ τ' H', evAt Try.prog (ev Try.prog m) m 156 58 τ H = some (.normal, τ', H') ∧ KdE B H H' τ τ' (kdC true ((usesL.lookup 4).getD usN)) := by
  obtain ⟨τ1, e1, a1, b1, c1⟩ := kdS_58 4 (by decide) (by decide) m τ H t5
  obtain ⟨τ2, e2, a2, b2, c2⟩ := kdS_235 4 (by decide) (by decide) (by decide) (by decide) m τ1 H c1
  obtain ⟨τ3, e3, a3, b3, c3⟩ := kdS_943 4 (by decide) m τ2 H c2
  obtain ⟨τ', H', e, g⟩ := kdF_4 m τ3 H c3 B (by rw [b3, b2, b1]; exact t3) hB
  refine ⟨τ', H', by rw [e1, e2, e3, e], ⟨g.t2.trans (by rw [a3, a2, a1]), g.t3.trans (by rw [b3, b2, b1]), g.next, g.get, g.rest⟩⟩
theorem kdA_5 (m : Nat) (τ : Tm) (H : AH) (t5 : τ 5 = .int .i64 5) (B : Nat) (t3 : τ 3 = .ptr B 0) (hB : H.get B = some (.cells 222 false (kdC true usN))) :
    ∃ τ' H', evAt Try.prog (ev Try.prog m) m 156 58 τ H = some (.normal, τ', H') ∧ KdE B H H' τ τ' (kdC true ((usesL.lookup 5).getD usN)) := by
  obtain ⟨τ1, e1, a1, b1, c1⟩ := kdS_58 5 (by decide) (by decide) m τ H t5
  obtain ⟨τ2, e2, a2, b2, c2⟩ := kdS_235 5 (by decide) (by decide) (by decide) (by decide) m τ1 H c1
  obtain ⟨τ3, e3, a3, b3, c3⟩ := kdS_943 5 (by decide) m τ2 H c2
  obtain ⟨τ4, e4, a4, b4, c4⟩ := kdS_3775 5 (by decide) m τ3 H c3
  obtain ⟨τ', H', e, g⟩ := kdF_5 m τ4 H c4 B (by rw [b4, b3, b2, b1]; exact t3) hB
  refine ⟨τ', H', by rw [e1, e2, e3, e4, e], ⟨g.t2.trans (by rw [a4, a3, a2, a1]), g.t3.trans (by rw [b4, b3, b2, b1]), g.next, g.get, g.rest⟩⟩
theorem kdA_6 (m : Nat) (τ : Tm) (H : AH) (t5 : τ 5 = .int .i64 6) (B : Nat) (t3 : τ 3 = .ptr B 0) (hB : H.get B = some (.cells 222 false (kdC true usN))) :
    ∃ τ' H', evAt Try.prog (ev Try.prog m) m 156 58 τ H = some (.normal, τ', H') ∧ KdE B H H' τ τ' (kdC true ((usesL.lookup 6).getD usN)) := by
  obtain ⟨τ1, e1, a1, b1, c1⟩ := kdS_58 6 (by decide) (by decide) m τ H t5
  obtain ⟨τ2, e2, a2, b2, c2⟩ := kdS_235 6 (by decide) (by decide) (by decide) (by decide) m τ1 H c1
  obtain ⟨τ3, e3, a3, b3, c3⟩ := kdS_943 6 (by decide) m τ2 H c2
  obtain ⟨τ4, e4, a4, b4, c4⟩ := kdS_3775 6 (by decide) m τ3 H c3
  obtain ⟨τ5, e5, a5, b5, c5⟩ := kdS_15103 6 (by decide) (by decide) (by decide) (by decide) (by decide) m τ4 H c4
  obtain ⟨τ', H', e, g⟩ := kdF_6 m τ5 H c5 B (by rw [b5, b4, b3, b2, b1]; exact t3) hB
  refine ⟨τ', H', by rw [e1, e2, e3, e4, e5, e], ⟨g.t2.trans (by rw [a5, a4, a3, a2, a1]), g.t3.trans (by rw [b5, b4, b3, b2, b1]), g.next, g.get, g.rest⟩⟩
theorem kdA_7 (m : Nat) (τ : Tm) (H : AH) (t5 : τ 5 = .int .i64 7) (B : Nat) (t3 : τ 3 = .ptr B 0) (hB : H.get B = some (.cells 222 false (kdC true usN))) :
    ∃ τ' H', evAt Try.prog (ev Try.prog m) m 156 58 τ H = some (.normal, τ', H') ∧ KdE B H H' τ τ' (kdC true ((usesL.lookup 7).getD usN)) := by
  obtain ⟨τ1, e1, a1, b1, c1⟩ := kdS_58 7 (by decide) (by decide) m τ H t5
  obtain ⟨τ2, e2, a2, b2, c2⟩ := kdS_235 7 (by decide) (by decide) (by decide) (by decide) m τ1 H c1
  obtain ⟨τ3, e3, a3, b3, c3⟩ := kdS_943 7 (by decide) m τ2 H c2
  obtain ⟨τ4, e4, a4, b4, c4⟩ := kdS_3775 7 (by decide) m τ3 H c3
  obtain ⟨τ5, e5, a5, b5, c5⟩ := kdS_15103 7 (by decide) (by decide) (by decide) (by decide) (by decide) m τ4 H c4
  obtain ⟨τ6, e6, a6, b6, c6⟩ := kdS_60415 7 (by decide) m τ5 H c5
  obtain ⟨τ', H', e, g⟩ := kdF_7 m τ6 H c6 B (by rw [b6, b5, b4, b3, b2, b1]; exact t3) hB
  refine ⟨τ', H', by rw [e1, e2, e3, e4, e5, e6, e], ⟨g.t2.trans (by rw [a6, a5, a4, a3, a2, a1]), g.t3.trans (by rw [b6, b5, b4, b3, b2, b1]), g.next, g.get, g.rest⟩⟩
theorem kdA_8 (m : Nat) (τ : Tm) (H : AH) (t5 : τ 5 = .int .i64 8) (B : Nat) (t3 : τ 3 = .ptr B 0) (hB : H.get B = some (.cells 222 false (kdC true usN))) :
    ∃ τ' H', evAt Try.prog (ev Try.prog m) m 156 58 τ H = some (.normal, τ', H') ∧ KdE B H H' τ τ' (kdC true ((usesL.lookup 8).getD usN)) := by
  obtain ⟨τ1, e1, a1, b1, c1⟩ := kdS_58 8 (by decide) (by decide) m τ H t5
  obtain ⟨τ2, e2, a2, b2, c2⟩ := kdS_235 8 (by decide) (by decide) (by decide) (by decide) m τ1 H c1
  obtain ⟨τ3, e3, a3, b3, c3⟩ := kdS_943 8 (by decide) m τ2 H c2
  obtain ⟨τ4, e4, a4, b4, c4⟩ := kdS_3775 8 (by decide) m τ3 H c3
  obtain ⟨τ5, e5, a5, b5, c5⟩ := kdS_15103 8 (by decide) (by decide) (by decide) (by decide) (by decide) m τ4 H c4
  obtain ⟨τ6, e6, a6, b6, c6⟩ := kdS_60415 8 (by decide) m τ5 H c5
  obtain ⟨τ7, e7, a7, b7, c7⟩ := kdS_241663 8 (by decide) m τ6 H c6
  obtain ⟨τ', H', e, g⟩ := kdF_8 m τ7 H c7 B (by rw [b7, b6, b5, b4, b3, b2, b1]; exact t3) hB
  refine ⟨τ', H', by rw [e1, e2, e3, e4, e5, e6, e7, e], ⟨g.t2.trans (by rw [a7, a6, a5, a4, a3, a2, a1]), g.t3.trans (by rw [b7, b6, b5, b4, b3, b2, b1]), g.next, g.get, g.rest⟩⟩
theorem kdA_16 (m : Nat) (τ : Tm) (H : AH) (t5 : τ 5 = .int .i64 16) (B : Nat) (t3 : τ 3 = .ptr B 0) (hB : H.get B = some (.cells 222 false (kdC true usN))) :
    ∃ τ' H', evAt Try.prog (ev Try.prog m) m 156 58 τ H = some (.normal, τ', H') ∧ KdE B H H' τ τ' (kdC true ((usesL.lookup 16).getD usN)) := by
  obtain ⟨τ1, e1, a1, b1, c1⟩ := kdS_58 16 (by decide) (by decide) m τ H t5
  obtain ⟨τ', H', e, g⟩ := kdF_16 m τ1 H c1 B (by rw [b1]; exact t3) hB
  refine ⟨τ', H', by rw [e1, e], ⟨g.t2.trans (by rw [a1]), g.t3.trans (by rw [b1]), g.next, g.get, g.rest⟩⟩
theorem kdA_17 (m : Nat) (τ : Tm) (H : AH) (t5 : τ 5 = .int .i64 17) (B : Nat) (t3 : τ 3 = .ptr B 0) (hB : H.get B = some (.cells 222 false (kdC true usN))) :
    ∃ τ' H', evAt Try.prog (ev Try.prog m) m 156 58 τ H = some (.normal, τ', H') ∧ KdE B H H' τ τ' (kdC true ((usesL.lookup 17).getD usN)) := by
  obtain ⟨τ1, e1, a1, b1, c1⟩ := kdS_58 17 (by decide) (by decide) m τ H t5
  obtain ⟨τ2, e2, a2, b2, c2⟩ := kdS_235 17 (by decide) (by decide) (by decide) (by decide) m τ1 H c1
  obtain ⟨τ3, e3, a3, b3, c3⟩ := kdS_943 17 (by decide) m τ2 H c2
  obtain ⟨τ4, e4, a4, b4, c4⟩ := kdS_3775 17 (by decide) m τ3 H c3
  obtain ⟨τ', H', e, g⟩ := kdF_17 m τ4 H c4 B (by rw [b4, b3, b2, b1]; exact t3) hB
  refine ⟨τ', H', by rw [e1, e2, e3, e4, e], ⟨g.t2.trans (by rw [a4, a3, a2, a1]), g.t3.trans (by rw [b4, b3, b2, b1]), g.next, g.get, g.rest⟩⟩
theorem kdA_18 (m : Nat) (τ : Tm) (H : AH) (t5 : τ 5 = .int .i64 18) (B : Nat) (t3 : τ 3 = .ptr B 0) (hB : H.get B = some (.cells 222 false (kdC true usN))) :
    ∃ τ' H', evAt Try.prog (ev Try.prog m) m 156 58 τ H = some (.normal, τ', H') ∧ KdE B H H' τ τ' (kdC true ((usesL.lookup 18).getD usN)) := by
  obtain ⟨τ1, e1, a1, b1, c1⟩ := kdS_58 18 (by decide) (by decide) m τ H t5
  obtain ⟨τ2, e2, a2, b2, c2⟩ := kdS_235 18 (by decide) (by decide) (by decide) (by decide) m τ1 H c1
  obtain ⟨τ3, e3, a3, b3, c3⟩ := kdS_943 18 (by decide) m τ2 H c2
  obtain ⟨τ4, e4, a4, b4, c4⟩ := kdS_3775 18 (by decide) m τ3 H c3
  obtain ⟨τ', H', e, g⟩ := kdF_18 m τ4 H c4 B (by rw [b4, b3, b2, b1]; exact t3) hB
  refine ⟨τ', H', by rw [e1, e2, e3, e4, e], ⟨g.t2.trans (by rw [a4, a3, a2, a1]), g.t3.trans (by rw [b4, b3, b2, b1]), g.next, g.get, g.rest⟩⟩
theorem kdA_20 (m : Nat) (τ : Tm) (H : AH) (t5 : τ 5 = .int .i64 20) (B : Nat) (t3 : τ 3 = .ptr B 0) (hB : H.get B = some (.cells 222 false (kdC true usN))) :
    ∃ τ' H', evAt Try.prog (ev Try.prog m) m 156 58 τ H = some (.normal, τ', H') ∧ KdE B H H' τ τ' (kdC true ((usesL.lookup 20).getD usN)) := by
  obtain ⟨τ1, e1, a1, b1, c1⟩ := kdS_58 20 (by decide) (by decide) m τ H t5
  obtain ⟨τ', H', e, g⟩ := kdF_20 m τ1 H c1 B (by rw [b1]; exact t3) hB
  refine ⟨τ', H', by rw [e1, e], ⟨g.t2.trans (by rw [a1]), g.t3.trans (by rw [b1]), g.next, g.get, g.rest⟩⟩
theorem kdA_21 (m : Nat) (τ : Tm) (H : AH) (t5 : τ 5 = .int .i64 21) (B : Nat) (t3 : τ 3 = .ptr B 0) (hB : H.get B = some (.cells 222 false (kdC true usN))) :
    ∃ τ' H', evAt Try.prog (ev Try.prog m) m 156 58 τ H = some (.normal, τ', H') ∧ KdE B H H' τ τ' (kdC true ((usesL.lookup 21).getD usN)) := by
  obtain ⟨τ1, e1, a1, b1, c1⟩ := kdS_58 21 (by decide) (by decide) m τ H t5
  obtain ⟨τ2, e2, a2, b2, c2⟩ := kdS_235 21 (by decide) (by decide) (by decide) (by decide) m τ1 H c1
  obtain ⟨τ3, e3, a3, b3, c3⟩ := kdS_943 21 (by decide) m τ2 H c2
  obtain ⟨τ4, e4, a4, b4, c4⟩ := kdS_3775 21 (by decide) m τ3 H c3
  obtain ⟨τ', H', e, g⟩ := kdF_21 m τ4 H c4 B (by rw [b4, b3, b2, b1]; exact t3) hB
  refine ⟨τ', H', by rw [e1, e2, e3, e4, e], ⟨g.t2.trans (by rw [a4, a3, a2, a1]), g.t3.trans (by rw [b4, b3, b2, b1]), g.next, g.get, g.rest⟩⟩
theorem kdA_22 (m : Nat) (τ : Tm) (H : AH) (t5 : τ 5 = .int .i64 22) (B : Nat) (t3 : τ 3 = .ptr B 0) (hB : H.get B = some (.cells 222 false (kdC true usN))) :
    ∃ τ' H', evAt Try.prog (ev Try.prog m) m 156 58 τ H = some (.normal, τ', H') ∧ KdE B H H' τ τ' (kdC true ((usesL.lookup 22).getD usN)) := by
  obtain ⟨τ1, e1, a1, b1, c1⟩ := kdS_58 22 (by decide) (by decide) m τ H t5
  obtain ⟨τ2, e2, a2, b2, c2⟩ := kdS_235 22 (by decide) (by decide) (by decide) (by decide) m τ1 H c1
  obtain ⟨τ3, e3, a3, b3, c3⟩ := kdS_943 22 (by decide) m τ2 H c2
  obtain ⟨τ4, e4, a4, b4, c4⟩ := kdS_3775 22 (by decide) m τ3 H c3
  obtain ⟨τ', H', e, g⟩ := kdF_22 m τ4 H c4 B (by rw [b4, b3, b2, b1]; exact t3) hB
  refine ⟨τ', H', by rw [e1, e2, e3, e4, e], ⟨g.t2.trans (by rw [a4, a3, a2, a1]), g.t3.trans (by rw [b4, b3, b2, b1]), g.next, g.get, g.rest⟩⟩
theorem kdA_24 (m : Nat) (τ : Tm) (H : AH) (t5 : τ 5 = .int .i64 24) (B : Nat) (t3 : τ 3 = .ptr B 0) (hB : H.get B = some (.cells 222 false (kdC true usN))) :
    ∃ τ' H', evAt Try.prog (ev Try.prog m) m 156 58 τ H = some (.normal, τ', H') ∧ KdE B H H' τ τ' (kdC true ((usesL.lookup 24).getD usN)) := by
  obtain ⟨τ1, e1, a1, b1, c1⟩ := kdS_58 24 (by decide) (by decide) m τ H t5
  obtain ⟨τ2, e2, a2, b2, c2⟩ := kdS_235 24 (by decide) (by decide) (by decide) (by decide) m τ1 H c1
  obtain ⟨τ3, e3, a3, b3, c3⟩ := kdS_943 24 (by decide) m τ2 H c2
  obtain ⟨τ4, e4, a4, b4, c4⟩ := kdS_3775 24 (by decide) m τ3 H c3
  obtain ⟨τ5, e5, a5, b5, c5⟩ := kdS_15103 24 (by decide) (by decide) (by decide) (by decide) (by decide) m τ4 H c4
  obtain ⟨τ6, e6, a6, b6, c6⟩ := kdS_60415 24 (by decide) m τ5 H c5
  obtain ⟨τ7, e7, a7, b7, c7⟩ := kdS_241663 24 (by decide) m τ6 H c6
  obtain ⟨τ8, e8, a8, b8, c8⟩ := kdS_966655 24 (by decide) m τ7 H c7
  obtain ⟨τ', H', e, g⟩ := kdF_24 m τ8 H c8 B (by rw [b8, b7, b6, b5, b4, b3, b2, b1]; exact t3) hB
  refine ⟨τ', H', by rw [e1, e2, e3, e4, e5, e6, e7, e8, e], ⟨g.t2.trans (by rw [a8, a7, a6, a5, a4, a3, a2, a1]), g.t3.trans (by rw [b8, b7, b6, b5, b4, b3, b2, b1]), g.next, g.get, g.rest⟩⟩
theorem kdA_25 (m : Nat) (τ : Tm) (H : AH) (t5 : τ 5 = .int .i64 25) (B : Nat) (t3 : τ 3 = .ptr B 0) (hB : H.get B = some (.cells 222 false (kdC true usN))) :
    ∃ τ' H', evAt Try.prog (ev Try.prog m) m 156 58 τ H = some (.normal, τ', H') ∧ KdE B H H' τ τ' (kdC true ((usesL.lookup 25).getD usN)) := by
  obtain ⟨τ1, e1, a1, b1, c1⟩ := kdS_58 25 (by decide) (by decide) m τ H t5
  obtain ⟨τ', H', e, g⟩ := kdF_25 m τ1 H c1 B (by rw [b1]; exact t3) hB
  refine ⟨τ', H', by rw [e1, e], ⟨g.t2.trans (by rw [a1]), g.t3.trans (by rw [b1]), g.next, g.get, g.rest⟩⟩
theorem kdA_26 (m : Nat) (τ : Tm) (H : AH) (t5 : τ 5 = .int .i64 26) (B : Nat) (t3 : τ 3 = .ptr B 0) (hB : H.get B = some (.cells 222 false (kdC true usN))) :
    ∃ τ' H', evAt Try.prog (ev Try.prog m) m 156 58 τ H = some (.normal, τ', H') ∧ KdE B H H' τ τ' (kdC true ((usesL.lookup 26).getD usN)) := by
  obtain ⟨τ1, e1, a1, b1, c1⟩ := kdS_58 26 (by decide) (by decide) m τ H t5
  obtain ⟨τ2, e2, a2, b2, c2⟩ := kdS_235 26 (by decide) (by decide) (by decide) (by decide) m τ1 H c1
  obtain ⟨τ3, e3, a3, b3, c3⟩ := kdS_943 26 (by decide) m τ2 H c2
  obtain ⟨τ4, e4, a4, b4, c4⟩ := kdS_3775 26 (by decide) m τ3 H c3
  obtain ⟨τ5, e5, a5, b5, c5⟩ := kdS_15103 26 (by decide) (by decide) (by decide) (by decide) (by decide) m τ4 H c4
  obtain ⟨τ6, e6, a6, b6, c6⟩ := kdS_60415 26 (by decide) m τ5 H c5
  obtain ⟨τ7, e7, a7, b7, c7⟩ := kdS_241663 26 (by decide) m τ6 H c6
  obtain ⟨τ8, e8, a8, b8, c8⟩ := kdS_966655 26 (by decide) m τ7 H c7
  obtain ⟨τ9, e9, a9, b9, c9⟩ := kdS_3866623 26 (by decide) m τ8 H c8
  obtain ⟨τ', H', e, g⟩ := kdF_26 m τ9 H c9 B (by rw [b9, b8, b7, b6, b5, b4, b3, b2, b1]; exact t3) hB
  refine ⟨τ', H', by rw [e1, e2, e3, e4, e5, e6, e7, e8, e9, e], ⟨g.t2.trans (by rw [a9, a8, a7, a6, a5, a4, a3, a2, a1]), g.t3.trans (by rw [b9, b8, b7, b6, b5, b4, b3, b2, b1]), g.next, g.get, g.rest⟩⟩
theorem kdA_27 (m : Nat) (τ : Tm) (H : AH) (t5 : τ 5 = .int .i64 27) (B : Nat) (t3 : τ 3 = .ptr B 0) (hB : H.get B = some (.cells 222 false (kdC true usN))) :
    ∃ τ' H', evAt Try.prog (ev Try.prog m) m 156 58 τ H = some (.normal, τ', H') ∧ KdE B H H' τ τ' (kdC true ((usesL.lookup 27).getD usN)) := by
  obtain ⟨τ1, e1, a1, b1, c1⟩ := kdS_58 27 (by decide) (by decide) m τ H t5
  obtain ⟨τ2, e2, a2, b2, c2⟩ := kdS_235 27 (by decide) (by decide) (by decide) (by decide) m τ1 H c1
  obtain ⟨τ3, e3, a3, b3, c3⟩ := kdS_943 27 (by decide) m τ2 H c2
  obtain ⟨τ4, e4, a4, b4, c4⟩ := kdS_3775 27 (by decide) m τ3 H c3
  obtain ⟨τ5, e5, a5, b5, c5⟩ := kdS_15103 27 (by decide) (by decide) (by decide) (by decide) (by decide) m τ4 H c4
  obtain ⟨τ6, e6, a6, b6, c6⟩ := kdS_60415 27 (by decide) m τ5 H c5
  obtain ⟨τ7, e7, a7, b7, c7⟩ := kdS_241663 27 (by decide) m τ6 H c6
  obtain ⟨τ8, e8, a8, b8, c8⟩ := kdS_966655 27 (by decide) m τ7 H c7
  obtain ⟨τ9, e9, a9, b9, c9⟩ := kdS_3866623 27 (by decide) m τ8 H c8
  obtain ⟨τ', H', e, g⟩ := kdF_27 m τ9 H c9 B (by rw [b9, b8, b7, b6, b5, b4, b3, b2, b1]; exact t3) hB
  refine ⟨τ', H', by rw [e1, e2, e3, e4, e5, e6, e7, e8, e9, e], ⟨g.t2.trans (by rw [a9, a8, a7, a6, a5, a4, a3, a2, a1]), g.t3.trans (by rw [b9, b8, b7, b6, b5, b4, b3, b2, b1]), g.next, g.get, g.rest⟩⟩
theorem kdA_28 (m : Nat) (τ : Tm) (H : AH) (t5 : τ 5 = .int .i64 28) (B : Nat) (t3 : τ 3 = .ptr B 0) (hB : H.get B = some (.cells 222 false (kdC true usN))) :
    ∃ τ' H', evAt Try.prog (ev Try.prog m) m 156 58 τ H = some (.normal, τ', H') ∧ KdE B H H' τ τ' (kdC true ((usesL.lookup 28).getD usN)) := by
  obtain ⟨τ1, e1, a1, b1, c1⟩ := kdS_58 28 (by decide) (by decide) m τ H t5
  obtain ⟨τ2, e2, a2, b2, c2⟩ := kdS_235 28 (by decide) (by decide) (by decide) (by decide) m τ1 H c1
  obtain ⟨τ3, e3, a3, b3, c3⟩ := kdS_943 28 (by decide) m τ2 H c2
  obtain ⟨τ4, e4, a4, b4, c4⟩ := kdS_3775 28 (by decide) m τ3 H c3
  obtain ⟨τ5, e5, a5, b5, c5⟩ := kdS_15103 28 (by decide) (by decide) (by decide) (by decide) (by decide) m τ4 H c4
  obtain ⟨τ6, e6, a6, b6, c6⟩ := kdS_60415 28 (by decide) m τ5 H c5
  obtain ⟨τ7, e7, a7, b7, c7⟩ := kdS_241663 28 (by decide) m τ6 H c6
  obtain ⟨τ8, e8, a8, b8, c8⟩ := kdS_966655 28 (by decide) m τ7 H c7
  obtain ⟨τ9, e9, a9, b9, c9⟩ := kdS_3866623 28 (by decide) m τ8 H c8
  obtain ⟨τ10, e10, a10, b10, c10⟩ := kdS_15466495 28 (by decide) (by decide) m τ9 H c9
  obtain ⟨τ', H', e, g⟩ := kdF_28 m τ10 H c10 B (by rw [b10, b9, b8, b7, b6, b5, b4, b3, b2, b1]; exact t3) hB
  refine ⟨τ', H', by rw [e1, e2, e3, e4, e5, e6, e7, e8, e9, e10, e], ⟨g.t2.trans (by rw [a10, a9, a8, a7, a6, a5, a4, a3, a2, a1]), g.t3.trans (by rw [b10, b9, b8, b7, b6, b5, b4, b3, b2, b1]), g.next, g.get, g.rest⟩⟩
theorem kdA_29 (m : Nat) (τ : Tm) (H : AH) (t5 : τ 5 = .int .i64 29) (B : Nat) (t3 : τ 3 = .ptr B 0) (hB : H.get B = some (.cells 222 false (kdC true usN))) :
    ∃ τ' H', evAt Try.prog (ev Try.prog m) m 156 58 τ H = some (.normal, τ', H') ∧ KdE B H H' τ τ' (kdC true ((usesL.lookup 29).getD usN)) := by
  obtain ⟨τ1, e1, a1, b1, c1⟩ := kdS_58 29 (by decide) (by decide) m τ H t5
  obtain ⟨τ2, e2, a2, b2, c2⟩ := kdS_235 29 (by decide) (by decide) (by decide) (by decide) m τ1 H c1
  obtain ⟨τ3, e3, a3, b3, c3⟩ := kdS_943 29 (by decide) m τ2 H c2
  obtain ⟨τ4, e4, a4, b4, c4⟩ := kdS_3775 29 (by decide) m τ3 H c3
  obtain ⟨τ5, e5, a5, b5, c5⟩ := kdS_15103 29 (by decide) (by decide) (by decide) (by decide) (by decide) m τ4 H c4
  obtain ⟨τ6, e6, a6, b6, c6⟩ := kdS_60415 29 (by decide) m τ5 H c5
  obtain ⟨τ7, e7, a7, b7, c7⟩ := kdS_241663 29 (by decide) m τ6 H c6
  obtain ⟨τ8, e8, a8, b8, c8⟩ := kdS_966655 29 (by decide) m τ7 H c7
  obtain ⟨τ9, e9, a9, b9, c9⟩ := kdS_3866623 29 (by decide) m τ8 H c8
  obtain ⟨τ10, e10, a10, b10, c10⟩ := kdS_15466495 29 (by decide) (by decide) m τ9 H c9
  obtain ⟨τ11, e11, a11, b11, c11⟩ := kdS_61865983 29 (by decide) m τ10 H c10
  obtain ⟨τ', H', e, g⟩ := kdF_29 m τ11 H c11 B (by rw [b11, b10, b9, b8, b7, b6, b5, b4, b3, b2, b1]; exact t3) hB
  refine ⟨τ', H', by rw [e1, e2, e3, e4, e5, e6, e7, e8, e9, e10, e11, e], ⟨g.t2.trans (by rw [a11, a10, a9, a8, a7, a6, a5, a4, a3, a2, a1]), g.t3.trans (by rw [b11, b10, b9, b8, b7, b6, b5, b4, b3, b2, b1]), g.next, g.get, g.rest⟩⟩
theorem kdA_30 (m : Nat) (τ : Tm) (H : AH) (t5 : τ 5 = .int .i64 30) (B : Nat) (t3 : τ 3 = .ptr B 0) (hB : H.get B = some (.cells 222 false (kdC true usN))) :
    ∃ τ' H', evAt Try.prog (ev Try.prog m) m 156 58 τ H = some (.normal, τ', H') ∧ KdE B H H' τ τ' (kdC true ((usesL.lookup 30).getD usN)) := by
  obtain ⟨τ', H', e, g⟩ := kdF_30 m τ H t5 B (t3) hB
  exact ⟨τ', H', e, g⟩
theorem kdA_48 (m : Nat) (τ : Tm) (H : AH) (t5 : τ 5 = .int .i64 48) (B : Nat) (t3 : τ 3 = .ptr B 0) (hB : H.get B = some (.cells 222 false (kdC true usN))) :
    ∃ τ' H', evAt Try.prog (ev Try.prog m) m 156 58 τ H = some (.normal, τ', H') ∧ KdE B H H' τ τ' (kdC true ((usesL.lookup 48).getD usN)) := by
  obtain ⟨τ1, e1, a1, b1, c1⟩ := kdS_58 48 (by decide) (by decide) m τ H t5
  obtain ⟨τ2, e2, a2, b2, c2⟩ := kdS_235 48 (by decide) (by decide) (by decide) (by decide) m τ1 H c1
  obtain ⟨τ3, e3, a3, b3, c3⟩ := kdS_943 48 (by decide) m τ2 H c2
  obtain ⟨τ4, e4, a4, b4, c4⟩ := kdS_3775 48 (by decide) m τ3 H c3
  obtain ⟨τ5, e5, a5, b5, c5⟩ := kdS_15103 48 (by decide) (by decide) (by decide) (by decide) (by decide) m τ4 H c4
  obtain ⟨τ6, e6, a6, b6, c6⟩ := kdS_60415 48 (by decide) m τ5 H c5
  obtain ⟨τ7, e7, a7, b7, c7⟩ := kdS_241663 48 (by decide) m τ6 H c6
  obtain ⟨τ8, e8, a8, b8, c8⟩ := kdS_966655 48 (by decide) m τ7 H c7
  obtain ⟨τ9, e9, a9, b9, c9⟩ := kdS_3866623 48 (by decide) m τ8 H c8
  obtain ⟨τ10, e10, a10, b10, c10⟩ := kdS_15466495 48 (by decide) (by decide) m τ9 H c9
  obtain ⟨τ11, e11, a11, b11, c11⟩ := kdS_61865983 48 (by decide) m τ10 H c10
  obtain ⟨τ12, e12, a12, b12, c12⟩ := kdS_247463935 48 (by decide) m τ11 H c11
  obtain ⟨τ', H', e, g⟩ := kdF_48 m τ12 H c12 B (by rw [b12, b11, b10, b9, b8, b7, b6, b5, b4, b3, b2, b1]; exact t3) hB
  refine ⟨τ', H', by rw [e1, e2, e3, e4, e5, e6, e7, e8, e9, e10, e11, e12, e], ⟨g.t2.trans (by rw [a12, a11, a10, a9, a8, a7, a6, a5, a4, a3, a2, a1]), g.t3.trans (by rw [b12, b11, b10, b9, b8, b7, b6, b5, b4, b3, b2, b1]), g.next, g.get, g.rest⟩⟩
theorem kdA_not (k : Int) (hk : ¬ kindIn k) (m : Nat) (τ : Tm) (H : AH) (t5 : τ 5 = .int .i64 k) (B : Nat) (t3 : τ 3 = .ptr B 0) (hB : H.get B = some (.cells 222 false (kdC true usN))) :
    ∃ τ' H', evAt Try.prog (ev Try.prog m) m 156 58 τ H = some (.normal, τ', H') ∧ KdE B H H' τ τ' (kdC false usN) := by
  simp only [kindIn, not_or] at hk
  obtain ⟨h0, h1, h2, h4, h5, h6, h7, h8, h16, h17, h18, h20, h21, h22, h24, h25, h26, h27, h28, h29, h30, h48⟩ := hk
  obtain ⟨τ1, e1, a1, b1, c1⟩ := kdS_58 k h1 h30 m τ H t5
  obtain ⟨τ2, e2, a2, b2, c2⟩ := kdS_235 k h0 h16 h20 h25 m τ1 H c1
  obtain ⟨τ3, e3, a3, b3, c3⟩ := kdS_943 k h2 m τ2 H c2
  obtain ⟨τ4, e4, a4, b4, c4⟩ := kdS_3775 k h4 m τ3 H c3
  obtain ⟨τ5, e5, a5, b5, c5⟩ := kdS_15103 k h5 h17 h21 h18 h22 m τ4 H c4
  obtain ⟨τ6, e6, a6, b6, c6⟩ := kdS_60415 k h6 m τ5 H c5
  obtain ⟨τ7, e7, a7, b7, c7⟩ := kdS_241663 k h7 m τ6 H c6
  obtain ⟨τ8, e8, a8, b8, c8⟩ := kdS_966655 k h8 m τ7 H c7
  obtain ⟨τ9, e9, a9, b9, c9⟩ := kdS_3866623 k h24 m τ8 H c8
  obtain ⟨τ10, e10, a10, b10, c10⟩ := kdS_15466495 k h26 h27 m τ9 H c9
  obtain ⟨τ11, e11, a11, b11, c11⟩ := kdS_61865983 k h28 m τ10 H c10
  obtain ⟨τ12, e12, a12, b12, c12⟩ := kdS_247463935 k h29 m τ11 H c11
  obtain ⟨τ', H', e, g⟩ := kdF_not k h48 m τ12 H c12 B (by rw [b12, b11, b10, b9, b8, b7, b6, b5, b4, b3, b2, b1]; exact t3) hB
  refine ⟨τ', H', by rw [e1, e2, e3, e4, e5, e6, e7, e8, e9, e10, e11, e12, e], ⟨g.t2.trans (by rw [a12, a11, a10, a9, a8, a7, a6, a5, a4, a3, a2, a1]), g.t3.trans (by rw [b12, b11, b10, b9, b8, b7, b6, b5, b4, b3, b2, b1]), g.next, g.get, g.rest⟩⟩
theorem kdA (k : Int) (m : Nat) (τ : Tm) (H : AH) (t5 : τ 5 = .int .i64 k) (B : Nat) (t3 : τ 3 = .ptr B 0) (hB : H.get B = some (.cells 222 false (kdC true usN))) :
    ∃ τ' H', evAt Try.prog (ev Try.prog m) m 156 58 τ H = some (.normal, τ', H') ∧ KdE B H H' τ τ' (kdC (usesL.lookup k).isSome ((usesL.lookup k).getD usN)) := by
  by_cases hk : kindIn k
  · simp only [kindIn] at hk
    rcases hk with rfl | rfl | rfl | rfl | rfl | rfl | rfl | rfl | rfl | rfl | rfl | rfl | rfl | rfl | rfl | rfl | rfl | rfl | rfl | rfl | rfl | rfl
    · exact kdA_0 m τ H t5 B t3 hB
    · exact kdA_1 m τ H t5 B t3 hB
    · exact kdA_2 m τ H t5 B t3 hB
    · exact kdA_4 m τ H t5 B t3 hB
    · exact kdA_5 m τ H t5 B t3 hB
    · exact kdA_6 m τ H t5 B t3 hB
    · exact kdA_7 m τ H t5 B t3 hB
    · exact kdA_8 m τ H t5 B t3 hB
    · exact kdA_16 m τ H t5 B t3 hB
    · exact kdA_17 m τ H t5 B t3 hB
    · exact kdA_18 m τ H t5 B t3 hB
    · exact kdA_20 m τ H t5 B t3 hB
    · exact kdA_21 m τ H t5 B t3 hB
    · exact kdA_22 m τ H t5 B t3 hB
    · exact kdA_24 m τ H t5 B t3 hB
    · exact kdA_25 m τ H t5 B t3 hB
    · exact kdA_26 m τ H t5 B t3 hB
    · exact kdA_27 m τ H t5 B t3 hB
    · exact kdA_28 m τ H t5 B t3 hB
    · exact kdA_29 m τ H t5 B t3 hB
    · exact kdA_30 m τ H t5 B t3 hB
    · exact kdA_48 m τ H t5 B t3 hB
  · rw [uses_not hk]; exact kdA_not k hk m τ H t5 B t3 hB
theorem l05Kind_ev (k : Int) (H : AH) (m : Nat) (hm : 1 ≤ m) : ∃ H', ev Try.prog m 156 [.int .i64 k] H = some (usC (usesL.lookup k).isSome ((usesL.lookup k).getD usN), H') ∧ Kp H H' := by
  obtain ⟨m, rfl⟩ : ∃ k, m = k + 1 := ⟨m - 1, by omega⟩
  rw [ev_M Try.func156 ok156 [58] m _ H (by simp [Try.f156])]
  simp [Try.f156, tm0, fillA, stVar, spl]
  generalize hτ : upd _ 5 _ = τ1
  generalize hX : AH.set _ _ _ = X1
  have n0 : ¬ (H.next = H.next + 1) := by omega
  have g0 : X1.get H.next = some (.cells 222 false (kdC false usN)) := by rw [← hX]; simp [kdC, usN, n0]
  have gk : ∀ b, b < H.next → X1.get b = H.get b := fun b hb => by
    have n1 : ¬ (b = H.next) := by omega
    have n2 : ¬ (b = H.next + 1) := by omega
    rw [← hX]; simp [n1, n2]
  have gn : X1.next = H.next + 2 := by rw [← hX]; simp
  obtain ⟨τ', H', e, g⟩ := kdA k m τ1 X1 (by rw [← hτ]; simp) (H.next + 1) (by rw [← hτ]; simp) (by rw [← hX]; simp [kdC, usN])
  have t2 : τ' 2 = .ptr H.next 0 := g.t2.trans (by rw [← hτ]; simp)
  have t3 : τ' 3 = .ptr (H.next + 1) 0 := g.t3.trans (by rw [← hτ]; simp)
  have f1 := g.get
  have f0 := (g.rest H.next n0).trans g0
  simp only [kdC] at f0 f1
  rw [e]
  refine ⟨_, by simp [t2, t3, f0, f1, n0, ldVar, stVar, spl, usC]; rfl, ?_⟩
  refine ⟨by simp [g.next, gn], fun b hb => ?_⟩
  have n1 : ¬ (b = H.next) := by omega
  have n2 : ¬ (b = H.next + 1) := by omega
  simp [n1, g.rest b n2, gk b hb]
end Go.Ev

/- Whether a frame is right, in the reference: the fields. -/
namespace Go.Ev
open Go Go.Proofs
set_option linter.unusedSimpArgs false
set_option linter.unusedVariables false

/-- a frame's cells -/
def frC (k a b c : Int) (fin : Bool) (d t r : AV) : List AV := [.int .i64 k, .int .i64 a, .int .i64 b, .int .i64 c, .bool fin, d, t, r]
structure FkT (τ : Tm) (A B : Nat) : Prop where
  t1 : τ 1 = .ptr A 0
  t3 : τ 3 = .ptr B 0
/-- a field that is not used is empty -/
def fldOK (u : Bool) (p : Prop) : Prop := u = true ∨ (u = false ∧ p)
theorem fk0_pass {k a b c : Int} {fin : Bool} {d t r : AV} {ua ub uc uf ur : Bool} {lo hi tok : Int} {A B : Nat} {H : AH}
    (hA : H.get A = some (.cells 72 false (frC k a b c fin d t r))) (hB : H.get B = some (.cells 222 false (kdC true ⟨ua, ub, uc, uf, ur, lo, hi, tok⟩)))
    (ia : inV a) (ib : inV b) (ic : inV c) (pa : fldOK ua (a = 0)) (pb : fldOK ub (b = 0)) (pc : fldOK uc (c = 0)) (pf : fldOK uf (fin = false)) (m : Nat) (hm : 1 ≤ m) (τ : Tm) (T : FkT τ A B) :
    ∃ τ', evAt Try.prog (ev Try.prog m) m 75 7 τ H = evAt Try.prog (ev Try.prog m) m 75 15 τ' H ∧ FkT τ' A B := by
  obtain ⟨t1, t3⟩ := T
  have c1 := fun H => l05Var_ev a H m hm
  have c2 := fun H => l05Var_ev b H m hm
  have c3 := fun H => l05Var_ev c H m hm
  simp only [frC, kdC] at hA hB
  rw [at_M Try.func75 7 (by decide) 3 (by decide) (by kernel_rfl) [15]]
  rcases pa with rfl | ⟨rfl, rfl⟩ <;> rcases pb with rfl | ⟨rfl, rfl⟩ <;> rcases pc with rfl | ⟨rfl, rfl⟩ <;> rcases pf with rfl | ⟨rfl, rfl⟩
  all_goals exact ⟨_, by simp [Try.f75, t1, t3, hA, hB, ldVar, c1, c2, c3, ia, ib, ic]; rfl, by simp [t1], by simp [t3]⟩
theorem fld_cases (u : Bool) (p : Prop) : u = true ∨ (u = false ∧ p) ∨ (u = false ∧ ¬ p) := by
  cases u
  · by_cases h : p
    · exact .inr (.inl ⟨rfl, h⟩)
    · exact .inr (.inr ⟨rfl, h⟩)
  · exact .inl rfl
theorem fk0_fail {k a b c : Int} {fin : Bool} {d t r : AV} {ok ua ub uc uf ur : Bool} {lo hi tok : Int} {A B : Nat} {H : AH}
    (hA : H.get A = some (.cells 72 false (frC k a b c fin d t r))) (hB : H.get B = some (.cells 222 false (kdC ok ⟨ua, ub, uc, uf, ur, lo, hi, tok⟩)))
    (h : ¬ (ok = true ∧ inV a ∧ inV b ∧ inV c ∧ fldOK ua (a = 0) ∧ fldOK ub (b = 0) ∧ fldOK uc (c = 0) ∧ fldOK uf (fin = false))) (m : Nat) (hm : 1 ≤ m) (τ : Tm) (T : FkT τ A B) :
    ∃ τ', evAt Try.prog (ev Try.prog m) m 75 7 τ H = some (.ret, τ', H) ∧ τ' 2 = .bool false := by
  obtain ⟨t1, t3⟩ := T
  have c1 := fun H => l05Var_ev a H m hm
  have c2 := fun H => l05Var_ev b H m hm
  have c3 := fun H => l05Var_ev c H m hm
  simp only [frC, kdC] at hA hB
  rw [at_M Try.func75 7 (by decide) 3 (by decide) (by kernel_rfl) [15]]
  cases ok
  · exact ⟨_, by simp [Try.f75, t1, t3, hA, hB, ldVar, c1, c2, c3, beqF]; rfl, by simp⟩
  · by_cases ia : inV a
    rotate_left 1
    · exact ⟨_, by simp [Try.f75, t1, t3, hA, hB, ldVar, c1, c2, c3, beqF, ia]; rfl, by simp⟩
    · by_cases ib : inV b
      rotate_left 1
      · exact ⟨_, by simp [Try.f75, t1, t3, hA, hB, ldVar, c1, c2, c3, beqF, ia, ib]; rfl, by simp⟩
      · by_cases ic : inV c
        rotate_left 1
        · exact ⟨_, by simp [Try.f75, t1, t3, hA, hB, ldVar, c1, c2, c3, beqF, ia, ib, ic]; rfl, by simp⟩
        · rcases fld_cases ua (a = 0) with rfl | ⟨rfl, rfl⟩ | ⟨rfl, na⟩
          · rcases fld_cases ub (b = 0) with rfl | ⟨rfl, rfl⟩ | ⟨rfl, nb⟩
            · rcases fld_cases uc (c = 0) with rfl | ⟨rfl, rfl⟩ | ⟨rfl, nc⟩
              · rcases fld_cases uf (fin = false) with rfl | ⟨rfl, rfl⟩ | ⟨rfl, nf⟩
                · exact absurd ⟨rfl, ia, ib, ic, .inl rfl, .inl rfl, .inl rfl, .inl rfl⟩ h
                · exact absurd ⟨rfl, ia, ib, ic, .inl rfl, .inl rfl, .inl rfl, .inr ⟨rfl, rfl⟩⟩ h
                · have nf' : fin = true := by simpa using nf
                  exact ⟨_, by simp [Try.f75, t1, t3, hA, hB, ldVar, c1, c2, c3, beqF, ia, ib, ic, nf']; rfl, by simp⟩
              · rcases fld_cases uf (fin = false) with rfl | ⟨rfl, rfl⟩ | ⟨rfl, nf⟩
                · exact absurd ⟨rfl, ia, ib, ic, .inl rfl, .inl rfl, .inr ⟨rfl, rfl⟩, .inl rfl⟩ h
                · exact absurd ⟨rfl, ia, ib, ic, .inl rfl, .inl rfl, .inr ⟨rfl, rfl⟩, .inr ⟨rfl, rfl⟩⟩ h
                · have nf' : fin = true := by simpa using nf
                  exact ⟨_, by simp [Try.f75, t1, t3, hA, hB, ldVar, c1, c2, c3, beqF, ia, ib, ic, nf']; rfl, by simp⟩
              · have nc' : (c != 0) = true := by simpa using nc
                exact ⟨_, by simp [Try.f75, t1, t3, hA, hB, ldVar, c1, c2, c3, beqF, ia, ib, ic, nc']; rfl, by simp⟩
            · rcases fld_cases uc (c = 0) with rfl | ⟨rfl, rfl⟩ | ⟨rfl, nc⟩
              · rcases fld_cases uf (fin = false) with rfl | ⟨rfl, rfl⟩ | ⟨rfl, nf⟩
                · exact absurd ⟨rfl, ia, ib, ic, .inl rfl, .inr ⟨rfl, rfl⟩, .inl rfl, .inl rfl⟩ h
                · exact absurd ⟨rfl, ia, ib, ic, .inl rfl, .inr ⟨rfl, rfl⟩, .inl rfl, .inr ⟨rfl, rfl⟩⟩ h
                · have nf' : fin = true := by simpa using nf
                  exact ⟨_, by simp [Try.f75, t1, t3, hA, hB, ldVar, c1, c2, c3, beqF, ia, ib, ic, nf']; rfl, by simp⟩
              · rcases fld_cases uf (fin = false) with rfl | ⟨rfl, rfl⟩ | ⟨rfl, nf⟩
                · exact absurd ⟨rfl, ia, ib, ic, .inl rfl, .inr ⟨rfl, rfl⟩, .inr ⟨rfl, rfl⟩, .inl rfl⟩ h
                · exact absurd ⟨rfl, ia, ib, ic, .inl rfl, .inr ⟨rfl, rfl⟩, .inr ⟨rfl, rfl⟩, .inr ⟨rfl, rfl⟩⟩ h
                · have nf' : fin = true := by simpa using nf
                  exact ⟨_, by simp [Try.f75, t1, t3, hA, hB, ldVar, c1, c2, c3, beqF, ia, ib, ic, nf']; rfl, by simp⟩
              · have nc' : (c != 0) = true := by simpa using nc
                exact ⟨_, by simp [Try.f75, t1, t3, hA, hB, ldVar, c1, c2, c3, beqF, ia, ib, ic, nc']; rfl, by simp⟩
            · have nb' : (b != 0) = true := by simpa using nb
              exact ⟨_, by simp [Try.f75, t1, t3, hA, hB, ldVar, c1, c2, c3, beqF, ia, ib, ic, nb']; rfl, by simp⟩
          · rcases fld_cases ub (b = 0) with rfl | ⟨rfl, rfl⟩ | ⟨rfl, nb⟩
            · rcases fld_cases uc (c = 0) with rfl | ⟨rfl, rfl⟩ | ⟨rfl, nc⟩
              · rcases fld_cases uf (fin = false) with rfl | ⟨rfl, rfl⟩ | ⟨rfl, nf⟩
                · exact absurd ⟨rfl, ia, ib, ic, .inr ⟨rfl, rfl⟩, .inl rfl, .inl rfl, .inl rfl⟩ h
                · exact absurd ⟨rfl, ia, ib, ic, .inr ⟨rfl, rfl⟩, .inl rfl, .inl rfl, .inr ⟨rfl, rfl⟩⟩ h
                · have nf' : fin = true := by simpa using nf
                  exact ⟨_, by simp [Try.f75, t1, t3, hA, hB, ldVar, c1, c2, c3, beqF, ia, ib, ic, nf']; rfl, by simp⟩
              · rcases fld_cases uf (fin = false) with rfl | ⟨rfl, rfl⟩ | ⟨rfl, nf⟩
                · exact absurd ⟨rfl, ia, ib, ic, .inr ⟨rfl, rfl⟩, .inl rfl, .inr ⟨rfl, rfl⟩, .inl rfl⟩ h
                · exact absurd ⟨rfl, ia, ib, ic, .inr ⟨rfl, rfl⟩, .inl rfl, .inr ⟨rfl, rfl⟩, .inr ⟨rfl, rfl⟩⟩ h
                · have nf' : fin = true := by simpa using nf
                  exact ⟨_, by simp [Try.f75, t1, t3, hA, hB, ldVar, c1, c2, c3, beqF, ia, ib, ic, nf']; rfl, by simp⟩
              · have nc' : (c != 0) = true := by simpa using nc
                exact ⟨_, by simp [Try.f75, t1, t3, hA, hB, ldVar, c1, c2, c3, beqF, ia, ib, ic, nc']; rfl, by simp⟩
            · rcases fld_cases uc (c = 0) with rfl | ⟨rfl, rfl⟩ | ⟨rfl, nc⟩
              · rcases fld_cases uf (fin = false) with rfl | ⟨rfl, rfl⟩ | ⟨rfl, nf⟩
                · exact absurd ⟨rfl, ia, ib, ic, .inr ⟨rfl, rfl⟩, .inr ⟨rfl, rfl⟩, .inl rfl, .inl rfl⟩ h
                · exact absurd ⟨rfl, ia, ib, ic, .inr ⟨rfl, rfl⟩, .inr ⟨rfl, rfl⟩, .inl rfl, .inr ⟨rfl, rfl⟩⟩ h
                · have nf' : fin = true := by simpa using nf
                  exact ⟨_, by simp [Try.f75, t1, t3, hA, hB, ldVar, c1, c2, c3, beqF, ia, ib, ic, nf']; rfl, by simp⟩
              · rcases fld_cases uf (fin = false) with rfl | ⟨rfl, rfl⟩ | ⟨rfl, nf⟩
                · exact absurd ⟨rfl, ia, ib, ic, .inr ⟨rfl, rfl⟩, .inr ⟨rfl, rfl⟩, .inr ⟨rfl, rfl⟩, .inl rfl⟩ h
                · exact absurd ⟨rfl, ia, ib, ic, .inr ⟨rfl, rfl⟩, .inr ⟨rfl, rfl⟩, .inr ⟨rfl, rfl⟩, .inr ⟨rfl, rfl⟩⟩ h
                · have nf' : fin = true := by simpa using nf
                  exact ⟨_, by simp [Try.f75, t1, t3, hA, hB, ldVar, c1, c2, c3, beqF, ia, ib, ic, nf']; rfl, by simp⟩
              · have nc' : (c != 0) = true := by simpa using nc
                exact ⟨_, by simp [Try.f75, t1, t3, hA, hB, ldVar, c1, c2, c3, beqF, ia, ib, ic, nc']; rfl, by simp⟩
            · have nb' : (b != 0) = true := by simpa using nb
              exact ⟨_, by simp [Try.f75, t1, t3, hA, hB, ldVar, c1, c2, c3, beqF, ia, ib, ic, nb']; rfl, by simp⟩
          · have na' : (a != 0) = true := by simpa using na
            exact ⟨_, by simp [Try.f75, t1, t3, hA, hB, ldVar, c1, c2, c3, beqF, ia, ib, ic, na']; rfl, by simp⟩
end Go.Ev

/- Whether a frame is right, in the reference: lengths, ranges, bounds. -/
namespace Go.Ev
open Go Go.Proofs
set_option linter.unusedSimpArgs false
set_option linter.unusedVariables false

theorem fk1 {k a b c : Int} {fin : Bool} {d t r : AV} {ok : Bool} {u : Us} {dl tl : Nat} {rs : List (Int × Int)} {A B : Nat} {H H2 : AH}
    (hA : H.get A = some (.cells 72 false (frC k a b c fin d t r))) (hB : H.get B = some (.cells 222 false (kdC ok u))) (m : Nat)
    (hd : ∀ h, lenA Try.prog 34 d h = some (.int .i64 dl)) (ht : ∀ h, lenA Try.prog 34 t h = some (.int .i64 tl)) (hr : ∀ h, lenA Try.prog 70 r h = some (.int .i64 rs.length))
    (c4 : ev Try.prog m 141 [r] H = some (.bool (decide (rgOK rs)), H2)) (hK : Kp H H2) (τ : Tm) (T : FkT τ A B) :
    ∃ τ' H', Kp H H' ∧ ((u.lo ≤ dl ∧ dl ≤ u.hi ∧ (tl : Int) = u.tok ∧ u.r = decide (0 < rs.length) ∧ rgOK rs ∧ evAt Try.prog (ev Try.prog m) m 75 15 τ H = evAt Try.prog (ev Try.prog m) m 75 31 τ' H' ∧ FkT τ' A B) ∨
      (¬ (u.lo ≤ dl ∧ dl ≤ u.hi ∧ (tl : Int) = u.tok ∧ u.r = decide (0 < rs.length) ∧ rgOK rs) ∧ evAt Try.prog (ev Try.prog m) m 75 15 τ H = some (.ret, τ', H') ∧ τ' 2 = .bool false)) := by
  obtain ⟨t1, t3⟩ := T
  obtain ⟨ua, ub, uc, uf, ur, lo, hi, tok⟩ := u
  simp only [frC, kdC] at hA hB
  rw [at_M Try.func75 15 (by decide) 4 (by decide) (by kernel_rfl) [31]]
  simp only
  by_cases q1 : lo ≤ dl
  · have q1' : ((dl : Int) < lo) = False := eq_false (by omega)
    by_cases q2 : (dl : Int) ≤ hi
    · have q2' : (hi < (dl : Int)) = False := eq_false (by omega)
      by_cases q3 : (tl : Int) = tok
      · subst q3
        by_cases q4 : ur = decide (0 < rs.length)
        · subst q4
          have b4 : ((decide (0 < rs.length)) != decide (0 < rs.length)) = false := by simp
          by_cases q5 : rgOK rs
          · simp only [q5, decide_true] at c4
            exact ⟨_, H2, hK, .inl ⟨q1, q2, rfl, rfl, q5, by simp [Try.f75, t1, t3, hA, hB, ldVar, hd, ht, hr, c4, q1', q2']; rfl, by simp [t1], by simp [t3]⟩⟩
          · simp only [q5, decide_false] at c4
            exact ⟨_, H2, hK, .inr ⟨fun h => q5 h.2.2.2.2, by simp [Try.f75, t1, t3, hA, hB, ldVar, hd, ht, hr, c4, q1', q2']; rfl, by simp⟩⟩
        · have b4 : (ur == decide (0 < rs.length)) = false := by simpa using q4
          exact ⟨_, H, Kp.refl H, .inr ⟨fun h => q4 h.2.2.2.1, by simp [Try.f75, t1, t3, hA, hB, ldVar, hd, ht, hr, q1', q2', b4]; rfl, by simp⟩⟩
      · have b3 : ((tl : Int) != tok) = true := by simpa using q3
        exact ⟨_, H, Kp.refl H, .inr ⟨fun h => q3 h.2.2.1, by simp [Try.f75, t1, t3, hA, hB, ldVar, hd, ht, hr, q1', q2', b3]; rfl, by simp⟩⟩
    · have q2' : (hi < (dl : Int)) = True := eq_true (by omega)
      exact ⟨_, H, Kp.refl H, .inr ⟨fun h => q2 h.2.1, by simp [Try.f75, t1, t3, hA, hB, ldVar, hd, ht, hr, q1', q2']; rfl, by simp⟩⟩
  · have q1' : ((dl : Int) < lo) = True := eq_true (by omega)
    exact ⟨_, H, Kp.refl H, .inr ⟨fun h => q1 h.1, by simp [Try.f75, t1, t3, hA, hB, ldVar, hd, ht, hr, q1']; rfl, by simp⟩⟩
/-- the bounds of a kind -/
def frX (k a b : Int) (dl : Nat) : Prop :=
  if k = 0 then 1 ≤ a ∧ a ≤ 1500 else if k = 18 ∨ k = 22 then a ≤ 1152921504606846976 ∧ b ≤ 1 else if k = 6 then a ≤ 4611686018427387903 - dl else if k = 8 then b ≤ 4611686018427387903 - dl else if k = 24 then b ≤ a else True
instance (k a b : Int) (dl : Nat) : Decidable (frX k a b dl) := by unfold frX; infer_instance
theorem fk2 {k a b c : Int} {fin : Bool} {d t r : AV} {dl : Nat} {A B : Nat} {H : AH}
    (hA : H.get A = some (.cells 72 false (frC k a b c fin d t r))) (m : Nat) (hd : ∀ h, lenA Try.prog 34 d h = some (.int .i64 dl)) (hl : dl ≤ 1048576) (τ : Tm) (T : FkT τ A B) :
    ∃ τ', evAt Try.prog (ev Try.prog m) m 75 31 τ H = some (.ret, τ', H) ∧ τ' 2 = .bool (decide (frX k a b dl)) := by
  obtain ⟨t1, t3⟩ := T
  simp only [frC] at hA
  have w1 : IntKind.i64.wrap (4611686018427387903 - (dl : Int)) = 4611686018427387903 - (dl : Int) := wrap_i64 (n := 4611686018427387903 - (dl : Int)) (by omega) (by omega)
  rw [at_M Try.func75 31 (by decide) 5 (by decide) (by kernel_rfl) []]
  by_cases k0 : k = 0
  · subst k0
    by_cases q1 : 1 ≤ a
    · exact ⟨_, by simp [Try.f75, t1, hA, ldVar, q1]; rfl, by simp [frX, q1]⟩
    · have q1' : (1 ≤ a) = False := eq_false q1
      exact ⟨_, by simp [Try.f75, t1, hA, ldVar, q1']; rfl, by simp [frX, q1']⟩
  · by_cases k18 : k = 18 ∨ k = 22
    · by_cases q1 : a ≤ 1152921504606846976
      · rcases k18 with rfl | rfl
        all_goals exact ⟨_, by simp [Try.f75, t1, hA, ldVar, q1]; rfl, by simp [frX, q1]⟩
      · have q1' : (a ≤ 1152921504606846976) = False := eq_false q1
        rcases k18 with rfl | rfl
        all_goals exact ⟨_, by simp [Try.f75, t1, hA, ldVar, q1']; rfl, by simp [frX, q1']⟩
    · obtain ⟨k18, k22⟩ := not_or.1 k18
      by_cases k6 : k = 6
      · subst k6
        exact ⟨_, by simp [Try.f75, t1, hA, ldVar, hd, w1]; rfl, by simp [frX]⟩
      · by_cases k8 : k = 8
        · subst k8
          exact ⟨_, by simp [Try.f75, t1, hA, ldVar, hd, w1]; rfl, by simp [frX]⟩
        · by_cases k24 : k = 24
          · subst k24
            exact ⟨_, by simp [Try.f75, t1, hA, ldVar]; rfl, by simp [frX]⟩
          · have b0 : (k == 0) = false := by simpa using k0
            exact ⟨_, by simp [Try.f75, t1, hA, ldVar, k0, k18, k22, k6, k8, k24, beqF]; rfl, by simp [frX, k0, k18, k22, k6, k8, k24]⟩
/-- a frame is right -/
def frOK (k a b c : Int) (fin : Bool) (dl tl : Nat) (rs : List (Int × Int)) : Prop :=
  ((usesL.lookup k).isSome = true ∧ inV a ∧ inV b ∧ inV c ∧ fldOK ((usesL.lookup k).getD usN).a (a = 0) ∧ fldOK ((usesL.lookup k).getD usN).b (b = 0) ∧ fldOK ((usesL.lookup k).getD usN).c (c = 0) ∧ fldOK ((usesL.lookup k).getD usN).fin (fin = false)) ∧
  (((usesL.lookup k).getD usN).lo ≤ dl ∧ dl ≤ ((usesL.lookup k).getD usN).hi ∧ (tl : Int) = ((usesL.lookup k).getD usN).tok ∧ ((usesL.lookup k).getD usN).r = decide (0 < rs.length) ∧ rgOK rs) ∧ frX k a b dl
noncomputable instance (k a b c : Int) (fin : Bool) (dl tl : Nat) (rs : List (Int × Int)) : Decidable (frOK k a b c fin dl tl rs) := Classical.propDecidable _
theorem FrameOKS_ev {rw : Bool} {Hb H : AH} {k a b c : Int} {fin : Bool} {d t r : AV} {dl tl : Nat} {rs : List (Int × Int)} {bs : List Nat} (hr : (Ty.sl 94 tT94).R rw Hb [r] rs bs) (hK : Kp Hb H)
    (hd : ∀ h, lenA Try.prog 34 d h = some (.int .i64 dl)) (ht : ∀ h, lenA Try.prog 34 t h = some (.int .i64 tl)) (od : d.one = true) (ot : t.one = true) (hdl : dl ≤ 1048576) (hrl : rs.length ≤ 1048576) (m : Nat) (hm : 75 ≤ m) :
    ∃ H', ev Try.prog m 75 [.agg (frC k a b c fin d t r)] H = some (.bool (decide (frOK k a b c fin dl tl rs)), H') ∧ Kp H H' := by
  obtain ⟨m, rfl⟩ : ∃ k, m = k + 1 := ⟨m - 1, by omega⟩
  have hrl' := Ty.R.lenA hr (P := Try.prog) (T := 70) (by simp)
  rw [ev_M Try.func75 ok75 [7] m _ H (by simp [Try.f75, frC])]
  have k0 : Kp H (H.push (.cells 72 false (frC k a b c fin d t r))) := (Kp.refl H).push _
  obtain ⟨H1, e1, k1⟩ := l05Kind_ev k (H.push (.cells 72 false (frC k a b c fin d t r))) m (by omega)
  simp only [frC] at e1
  have n1 := k1.next
  simp at n1
  have or_ : r.one = true := hr.sl_one
  simp (disch := omega) [Try.f75, tm0, frC, od, ot, or_, e1, fillA, stVar, spl, ldVar, usC]
  generalize hτ : upd _ 3 _ = τ1
  generalize hX : AH.push _ _ = X1
  have T1 : FkT τ1 H.next H1.next := ⟨by rw [← hτ]; simp, by rw [← hτ]; simp⟩
  have kX : Kp (H.push (.cells 72 false (frC k a b c fin d t r))) X1 := by rw [← hX]; exact k1.push _
  have hA : X1.get H.next = some (.cells 72 false (frC k a b c fin d t r)) := by rw [kX.get _ (by simp)]; simp
  have hB : X1.get H1.next = some (.cells 222 false (kdC (usesL.lookup k).isSome ((usesL.lookup k).getD usN))) := by rw [← hX]; simp [kdC]
  have kH := k0.trans kX
  by_cases c1 : ((usesL.lookup k).isSome = true ∧ inV a ∧ inV b ∧ inV c ∧ fldOK ((usesL.lookup k).getD usN).a (a = 0) ∧ fldOK ((usesL.lookup k).getD usN).b (b = 0) ∧ fldOK ((usesL.lookup k).getD usN).c (c = 0) ∧ fldOK ((usesL.lookup k).getD usN).fin (fin = false))
  · obtain ⟨p0, p1, p2, p3, p4, p5, p6, p7⟩ := c1
    rw [p0] at hB
    obtain ⟨τ2, e2, T2⟩ := fk0_pass hA hB p1 p2 p3 p4 p5 p6 p7 m (by omega) τ1 T1
    obtain ⟨H2, e3, k3⟩ := l05RangesOK_ev (H := X1) hr (hK.trans kH) hrl m (by omega)
    obtain ⟨τ3, H3, k4, g⟩ := fk1 hA hB m hd ht hrl' e3 k3 τ2 T2
    rw [e2]
    rcases g with ⟨q1, q2, q3, q4, q5, e4, T3⟩ | ⟨q, e4, t4⟩
    · have hA3 : H3.get H.next = some (.cells 72 false (frC k a b c fin d t r)) := by rw [k4.get _ (by have := kX.next; simp at this; omega)]; exact hA
      obtain ⟨τ4, e5, t5⟩ := fk2 hA3 m hd hdl τ3 T3
      refine ⟨H3, ?_, kH.trans k4⟩
      rw [e4, e5]
      have : frOK k a b c fin dl tl rs ↔ frX k a b dl := ⟨fun h => h.2.2, fun h => ⟨⟨p0, p1, p2, p3, p4, p5, p6, p7⟩, ⟨q1, q2, q3, q4, q5⟩, h⟩⟩
      simp [t5, this]
    · refine ⟨H3, ?_, kH.trans k4⟩
      have : ¬ frOK k a b c fin dl tl rs := fun h => q h.2.1
      rw [e4]
      simp [t4, this]
  · obtain ⟨τ2, e2, t2⟩ := fk0_fail hA hB c1 m (by omega) τ1 T1
    refine ⟨X1, ?_, kH⟩
    have : ¬ frOK k a b c fin dl tl rs := fun h => c1 h.1
    rw [e2]
    simp [t2, this]
end Go.Ev

/- Whether a frame is right, in the program. -/
namespace Go.Ev
open Go Go.Proofs
set_option linter.unusedSimpArgs false
set_option linter.unusedVariables false

structure FiT (τ : Tm) (A B : Nat) : Prop where
  t1 : τ 1 = .ptr A 0
  t3 : τ 3 = .ptr B 0
abbrev Shp := Bool × Bool × Bool × Bool × Bool × Bool
def shL (s : Shp) : List AV := [.bool s.1, .bool s.2.1, .bool s.2.2.1, .bool s.2.2.2.1, .bool s.2.2.2.2.1, .bool s.2.2.2.2.2]
theorem fi0 {k a b c : Int} {fin : Bool} {d t r : AV} {ok : Bool} {A B : Nat} {H : AH}
    (hA : H.get A = some (.cells 72 false (frC k a b c fin d t r))) (m : Nat) (hm : 1 ≤ m) (τ : Tm) (T : FiT τ A B) (t4 : τ 4 = .bool ok) :
    ∃ τ', ((ok = true ∧ inV a ∧ inV b ∧ inV c) ∧ evAt Try.prog (ev Try.prog m) m 50 7 τ H = evAt Try.prog (ev Try.prog m) m 50 15 τ' H ∧ FiT τ' A B) ∨
      (¬ (ok = true ∧ inV a ∧ inV b ∧ inV c) ∧ evAt Try.prog (ev Try.prog m) m 50 7 τ H = some (.ret, τ', H) ∧ τ' 2 = .bool false) := by
  obtain ⟨t1, t3⟩ := T
  have c1 := fun H => inVar_ev a H m hm
  have c2 := fun H => inVar_ev b H m hm
  have c3 := fun H => inVar_ev c H m hm
  simp only [frC] at hA
  rw [at_M Try.func50 7 (by decide) 3 (by decide) (by kernel_rfl) [15]]
  cases ok
  · exact ⟨_, .inr ⟨by simp, by simp [Try.f50, t1, t3, t4, hA, ldVar]; rfl, by simp⟩⟩
  · by_cases ia : inV a
    · by_cases ib : inV b
      · by_cases ic : inV c
        · exact ⟨_, .inl ⟨⟨rfl, ia, ib, ic⟩, by simp [Try.f50, t1, t3, t4, hA, ldVar, c1, c2, c3, ia, ib, ic]; rfl, by simp [t1], by simp [t3]⟩⟩
        · exact ⟨_, .inr ⟨by simp [ic], by simp [Try.f50, t1, t3, t4, hA, ldVar, c1, c2, c3, ia, ib, ic]; rfl, by simp⟩⟩
      · exact ⟨_, .inr ⟨by simp [ib], by simp [Try.f50, t1, t3, t4, hA, ldVar, c1, c2, c3, ia, ib]; rfl, by simp⟩⟩
    · exact ⟨_, .inr ⟨by simp [ia], by simp [Try.f50, t1, t3, t4, hA, ldVar, c1, c2, c3, ia]; rfl, by simp⟩⟩
theorem fi1_0 {k a b c : Int} {fin : Bool} {d t r : AV} {dl tl rl : Nat} {A B : Nat} {H : AH}
    (hA : H.get A = some (.cells 72 false (frC k a b c fin d t r))) (hB : H.get B = some (.cells 197 false (shL (true, false, false, false, false, false)))) (m : Nat) (hk4 : k ≠ 4)
    (hd : ∀ h, lenA Try.prog 34 d h = some (.int .i64 dl)) (ht : ∀ h, lenA Try.prog 34 t h = some (.int .i64 tl)) (hr : ∀ h, lenA Try.prog 70 r h = some (.int .i64 rl)) (τ : Tm) (T : FiT τ A B) :
    ∃ τ', ((b = 0 ∧ fin = false ∧ dl = 0 ∧ tl = 0 ∧ rl = 0) ∧ evAt Try.prog (ev Try.prog m) m 50 15 τ H = evAt Try.prog (ev Try.prog m) m 50 31 τ' H ∧ FiT τ' A B) ∨
      (¬ (b = 0 ∧ fin = false ∧ dl = 0 ∧ tl = 0 ∧ rl = 0) ∧ evAt Try.prog (ev Try.prog m) m 50 15 τ H = some (.ret, τ', H) ∧ τ' 2 = .bool false) := by
  obtain ⟨t1, t3⟩ := T
  simp only [frC, shL] at hA hB
  rw [at_M Try.func50 15 (by decide) 4 (by decide) (by kernel_rfl) [31]]
  have k4 : (k != 4) = true := by simpa using hk4
  by_cases z1 : b = 0
  rotate_left 1
  · have w1 : (b != 0) = true := by simpa using z1
    exact ⟨_, .inr ⟨fun h => z1 h.1, by simp [Try.f50, t1, t3, hA, hB, ldVar, hd, ht, hr, k4, w1]; rfl, by simp⟩⟩
  subst z1
  by_cases z2 : fin = false
  rotate_left 1
  · have w2 : fin = true := by simpa using z2
    exact ⟨_, .inr ⟨fun h => z2 h.2.1, by simp [Try.f50, t1, t3, hA, hB, ldVar, hd, ht, hr, k4, w2]; rfl, by simp⟩⟩
  subst z2
  by_cases z3 : dl = 0
  rotate_left 1
  · have w3 : 0 < dl := by omega
    exact ⟨_, .inr ⟨fun h => z3 h.2.2.1, by simp [Try.f50, t1, t3, hA, hB, ldVar, hd, ht, hr, k4, w3]; rfl, by simp⟩⟩
  subst z3
  by_cases z4 : tl = 0
  rotate_left 1
  · have w4 : 0 < tl := by omega
    exact ⟨_, .inr ⟨fun h => z4 h.2.2.2.1, by simp [Try.f50, t1, t3, hA, hB, ldVar, hd, ht, hr, k4, w4]; rfl, by simp⟩⟩
  subst z4
  by_cases z5 : rl = 0
  rotate_left 1
  · have w5 : 0 < rl := by omega
    exact ⟨_, .inr ⟨fun h => z5 h.2.2.2.2, by simp [Try.f50, t1, t3, hA, hB, ldVar, hd, ht, hr, k4, w5]; rfl, by simp⟩⟩
  subst z5
  exact ⟨_, .inl ⟨⟨rfl, rfl, rfl, rfl, rfl⟩, by simp [Try.f50, t1, t3, hA, hB, ldVar, hd, ht, hr, k4]; rfl, by simp [t1], by simp [t3]⟩⟩
theorem fi1_1 {k a b c : Int} {fin : Bool} {d t r : AV} {dl tl rl : Nat} {A B : Nat} {H : AH}
    (hA : H.get A = some (.cells 72 false (frC k a b c fin d t r))) (hB : H.get B = some (.cells 197 false (shL (false, false, false, false, false, false)))) (m : Nat) (hk4 : k ≠ 4)
    (hd : ∀ h, lenA Try.prog 34 d h = some (.int .i64 dl)) (ht : ∀ h, lenA Try.prog 34 t h = some (.int .i64 tl)) (hr : ∀ h, lenA Try.prog 70 r h = some (.int .i64 rl)) (τ : Tm) (T : FiT τ A B) :
    ∃ τ', ((a = 0 ∧ b = 0 ∧ fin = false ∧ dl = 0 ∧ tl = 0 ∧ rl = 0) ∧ evAt Try.prog (ev Try.prog m) m 50 15 τ H = evAt Try.prog (ev Try.prog m) m 50 31 τ' H ∧ FiT τ' A B) ∨
      (¬ (a = 0 ∧ b = 0 ∧ fin = false ∧ dl = 0 ∧ tl = 0 ∧ rl = 0) ∧ evAt Try.prog (ev Try.prog m) m 50 15 τ H = some (.ret, τ', H) ∧ τ' 2 = .bool false) := by
  obtain ⟨t1, t3⟩ := T
  simp only [frC, shL] at hA hB
  rw [at_M Try.func50 15 (by decide) 4 (by decide) (by kernel_rfl) [31]]
  have k4 : (k != 4) = true := by simpa using hk4
  by_cases z0 : a = 0
  rotate_left 1
  · have w0 : (a != 0) = true := by simpa using z0
    exact ⟨_, .inr ⟨fun h => z0 h.1, by simp [Try.f50, t1, t3, hA, hB, ldVar, hd, ht, hr, k4, w0]; rfl, by simp⟩⟩
  subst z0
  by_cases z1 : b = 0
  rotate_left 1
  · have w1 : (b != 0) = true := by simpa using z1
    exact ⟨_, .inr ⟨fun h => z1 h.2.1, by simp [Try.f50, t1, t3, hA, hB, ldVar, hd, ht, hr, k4, w1]; rfl, by simp⟩⟩
  subst z1
  by_cases z2 : fin = false
  rotate_left 1
  · have w2 : fin = true := by simpa using z2
    exact ⟨_, .inr ⟨fun h => z2 h.2.2.1, by simp [Try.f50, t1, t3, hA, hB, ldVar, hd, ht, hr, k4, w2]; rfl, by simp⟩⟩
  subst z2
  by_cases z3 : dl = 0
  rotate_left 1
  · have w3 : 0 < dl := by omega
    exact ⟨_, .inr ⟨fun h => z3 h.2.2.2.1, by simp [Try.f50, t1, t3, hA, hB, ldVar, hd, ht, hr, k4, w3]; rfl, by simp⟩⟩
  subst z3
  by_cases z4 : tl = 0
  rotate_left 1
  · have w4 : 0 < tl := by omega
    exact ⟨_, .inr ⟨fun h => z4 h.2.2.2.2.1, by simp [Try.f50, t1, t3, hA, hB, ldVar, hd, ht, hr, k4, w4]; rfl, by simp⟩⟩
  subst z4
  by_cases z5 : rl = 0
  rotate_left 1
  · have w5 : 0 < rl := by omega
    exact ⟨_, .inr ⟨fun h => z5 h.2.2.2.2.2, by simp [Try.f50, t1, t3, hA, hB, ldVar, hd, ht, hr, k4, w5]; rfl, by simp⟩⟩
  subst z5
  exact ⟨_, .inl ⟨⟨rfl, rfl, rfl, rfl, rfl, rfl⟩, by simp [Try.f50, t1, t3, hA, hB, ldVar, hd, ht, hr, k4]; rfl, by simp [t1], by simp [t3]⟩⟩
theorem fi1_2 {k a b c : Int} {fin : Bool} {d t r : AV} {dl tl rl : Nat} {A B : Nat} {H : AH}
    (hA : H.get A = some (.cells 72 false (frC k a b c fin d t r))) (hB : H.get B = some (.cells 197 false (shL (true, false, false, false, false, true)))) (m : Nat) (hk4 : k ≠ 4)
    (hd : ∀ h, lenA Try.prog 34 d h = some (.int .i64 dl)) (ht : ∀ h, lenA Try.prog 34 t h = some (.int .i64 tl)) (hr : ∀ h, lenA Try.prog 70 r h = some (.int .i64 rl)) (τ : Tm) (T : FiT τ A B) :
    ∃ τ', ((b = 0 ∧ fin = false ∧ dl = 0 ∧ tl = 0) ∧ evAt Try.prog (ev Try.prog m) m 50 15 τ H = evAt Try.prog (ev Try.prog m) m 50 31 τ' H ∧ FiT τ' A B) ∨
      (¬ (b = 0 ∧ fin = false ∧ dl = 0 ∧ tl = 0) ∧ evAt Try.prog (ev Try.prog m) m 50 15 τ H = some (.ret, τ', H) ∧ τ' 2 = .bool false) := by
  obtain ⟨t1, t3⟩ := T
  simp only [frC, shL] at hA hB
  rw [at_M Try.func50 15 (by decide) 4 (by decide) (by kernel_rfl) [31]]
  have k4 : (k != 4) = true := by simpa using hk4
  by_cases z1 : b = 0
  rotate_left 1
  · have w1 : (b != 0) = true := by simpa using z1
    exact ⟨_, .inr ⟨fun h => z1 h.1, by simp [Try.f50, t1, t3, hA, hB, ldVar, hd, ht, hr, k4, w1]; rfl, by simp⟩⟩
  subst z1
  by_cases z2 : fin = false
  rotate_left 1
  · have w2 : fin = true := by simpa using z2
    exact ⟨_, .inr ⟨fun h => z2 h.2.1, by simp [Try.f50, t1, t3, hA, hB, ldVar, hd, ht, hr, k4, w2]; rfl, by simp⟩⟩
  subst z2
  by_cases z3 : dl = 0
  rotate_left 1
  · have w3 : 0 < dl := by omega
    exact ⟨_, .inr ⟨fun h => z3 h.2.2.1, by simp [Try.f50, t1, t3, hA, hB, ldVar, hd, ht, hr, k4, w3]; rfl, by simp⟩⟩
  subst z3
  by_cases z4 : tl = 0
  rotate_left 1
  · have w4 : 0 < tl := by omega
    exact ⟨_, .inr ⟨fun h => z4 h.2.2.2, by simp [Try.f50, t1, t3, hA, hB, ldVar, hd, ht, hr, k4, w4]; rfl, by simp⟩⟩
  subst z4
  exact ⟨_, .inl ⟨⟨rfl, rfl, rfl, rfl⟩, by simp [Try.f50, t1, t3, hA, hB, ldVar, hd, ht, hr, k4]; rfl, by simp [t1], by simp [t3]⟩⟩
theorem fi1_3 {k a b c : Int} {fin : Bool} {d t r : AV} {dl tl rl : Nat} {A B : Nat} {H : AH}
    (hA : H.get A = some (.cells 72 false (frC k a b c fin d t r))) (hB : H.get B = some (.cells 197 false (shL (true, true, false, false, false, false)))) (m : Nat) (hk4 : True)
    (hd : ∀ h, lenA Try.prog 34 d h = some (.int .i64 dl)) (ht : ∀ h, lenA Try.prog 34 t h = some (.int .i64 tl)) (hr : ∀ h, lenA Try.prog 70 r h = some (.int .i64 rl)) (τ : Tm) (T : FiT τ A B) :
    ∃ τ', ((fin = false ∧ dl = 0 ∧ tl = 0 ∧ rl = 0) ∧ evAt Try.prog (ev Try.prog m) m 50 15 τ H = evAt Try.prog (ev Try.prog m) m 50 31 τ' H ∧ FiT τ' A B) ∨
      (¬ (fin = false ∧ dl = 0 ∧ tl = 0 ∧ rl = 0) ∧ evAt Try.prog (ev Try.prog m) m 50 15 τ H = some (.ret, τ', H) ∧ τ' 2 = .bool false) := by
  obtain ⟨t1, t3⟩ := T
  simp only [frC, shL] at hA hB
  rw [at_M Try.func50 15 (by decide) 4 (by decide) (by kernel_rfl) [31]]
  by_cases z2 : fin = false
  rotate_left 1
  · have w2 : fin = true := by simpa using z2
    exact ⟨_, .inr ⟨fun h => z2 h.1, by simp [Try.f50, t1, t3, hA, hB, ldVar, hd, ht, hr, w2]; rfl, by simp⟩⟩
  subst z2
  by_cases z3 : dl = 0
  rotate_left 1
  · have w3 : 0 < dl := by omega
    exact ⟨_, .inr ⟨fun h => z3 h.2.1, by simp [Try.f50, t1, t3, hA, hB, ldVar, hd, ht, hr, w3]; rfl, by simp⟩⟩
  subst z3
  by_cases z4 : tl = 0
  rotate_left 1
  · have w4 : 0 < tl := by omega
    exact ⟨_, .inr ⟨fun h => z4 h.2.2.1, by simp [Try.f50, t1, t3, hA, hB, ldVar, hd, ht, hr, w4]; rfl, by simp⟩⟩
  subst z4
  by_cases z5 : rl = 0
  rotate_left 1
  · have w5 : 0 < rl := by omega
    exact ⟨_, .inr ⟨fun h => z5 h.2.2.2, by simp [Try.f50, t1, t3, hA, hB, ldVar, hd, ht, hr, w5]; rfl, by simp⟩⟩
  subst z5
  exact ⟨_, .inl ⟨⟨rfl, rfl, rfl, rfl⟩, by simp [Try.f50, t1, t3, hA, hB, ldVar, hd, ht, hr]; rfl, by simp [t1], by simp [t3]⟩⟩
theorem fi1_4 {k a b c : Int} {fin : Bool} {d t r : AV} {dl tl rl : Nat} {A B : Nat} {H : AH}
    (hA : H.get A = some (.cells 72 false (frC k a b c fin d t r))) (hB : H.get B = some (.cells 197 false (shL (true, false, false, true, false, false)))) (m : Nat) (hk4 : k ≠ 4)
    (hd : ∀ h, lenA Try.prog 34 d h = some (.int .i64 dl)) (ht : ∀ h, lenA Try.prog 34 t h = some (.int .i64 tl)) (hr : ∀ h, lenA Try.prog 70 r h = some (.int .i64 rl)) (τ : Tm) (T : FiT τ A B) :
    ∃ τ', ((b = 0 ∧ fin = false ∧ tl = 0 ∧ rl = 0) ∧ evAt Try.prog (ev Try.prog m) m 50 15 τ H = evAt Try.prog (ev Try.prog m) m 50 31 τ' H ∧ FiT τ' A B) ∨
      (¬ (b = 0 ∧ fin = false ∧ tl = 0 ∧ rl = 0) ∧ evAt Try.prog (ev Try.prog m) m 50 15 τ H = some (.ret, τ', H) ∧ τ' 2 = .bool false) := by
  obtain ⟨t1, t3⟩ := T
  simp only [frC, shL] at hA hB
  rw [at_M Try.func50 15 (by decide) 4 (by decide) (by kernel_rfl) [31]]
  have k4 : (k != 4) = true := by simpa using hk4
  by_cases z1 : b = 0
  rotate_left 1
  · have w1 : (b != 0) = true := by simpa using z1
    exact ⟨_, .inr ⟨fun h => z1 h.1, by simp [Try.f50, t1, t3, hA, hB, ldVar, hd, ht, hr, k4, w1]; rfl, by simp⟩⟩
  subst z1
  by_cases z2 : fin = false
  rotate_left 1
  · have w2 : fin = true := by simpa using z2
    exact ⟨_, .inr ⟨fun h => z2 h.2.1, by simp [Try.f50, t1, t3, hA, hB, ldVar, hd, ht, hr, k4, w2]; rfl, by simp⟩⟩
  subst z2
  by_cases z4 : tl = 0
  rotate_left 1
  · have w4 : 0 < tl := by omega
    exact ⟨_, .inr ⟨fun h => z4 h.2.2.1, by simp [Try.f50, t1, t3, hA, hB, ldVar, hd, ht, hr, k4, w4]; rfl, by simp⟩⟩
  subst z4
  by_cases z5 : rl = 0
  rotate_left 1
  · have w5 : 0 < rl := by omega
    exact ⟨_, .inr ⟨fun h => z5 h.2.2.2, by simp [Try.f50, t1, t3, hA, hB, ldVar, hd, ht, hr, k4, w5]; rfl, by simp⟩⟩
  subst z5
  exact ⟨_, .inl ⟨⟨rfl, rfl, rfl, rfl⟩, by simp [Try.f50, t1, t3, hA, hB, ldVar, hd, ht, hr, k4]; rfl, by simp [t1], by simp [t3]⟩⟩
theorem fi1_5 {k a b c : Int} {fin : Bool} {d t r : AV} {dl tl rl : Nat} {A B : Nat} {H : AH}
    (hA : H.get A = some (.cells 72 false (frC k a b c fin d t r))) (hB : H.get B = some (.cells 197 false (shL (false, false, false, true, false, false)))) (m : Nat) (hk4 : k ≠ 4)
    (hd : ∀ h, lenA Try.prog 34 d h = some (.int .i64 dl)) (ht : ∀ h, lenA Try.prog 34 t h = some (.int .i64 tl)) (hr : ∀ h, lenA Try.prog 70 r h = some (.int .i64 rl)) (τ : Tm) (T : FiT τ A B) :
    ∃ τ', ((a = 0 ∧ b = 0 ∧ fin = false ∧ tl = 0 ∧ rl = 0) ∧ evAt Try.prog (ev Try.prog m) m 50 15 τ H = evAt Try.prog (ev Try.prog m) m 50 31 τ' H ∧ FiT τ' A B) ∨
      (¬ (a = 0 ∧ b = 0 ∧ fin = false ∧ tl = 0 ∧ rl = 0) ∧ evAt Try.prog (ev Try.prog m) m 50 15 τ H = some (.ret, τ', H) ∧ τ' 2 = .bool false) := by
  obtain ⟨t1, t3⟩ := T
  simp only [frC, shL] at hA hB
  rw [at_M Try.func50 15 (by decide) 4 (by decide) (by kernel_rfl) [31]]
  have k4 : (k != 4) = true := by simpa using hk4
  by_cases z0 : a = 0
  rotate_left 1
  · have w0 : (a != 0) = true := by simpa using z0
    exact ⟨_, .inr ⟨fun h => z0 h.1, by simp [Try.f50, t1, t3, hA, hB, ldVar, hd, ht, hr, k4, w0]; rfl, by simp⟩⟩
  subst z0
  by_cases z1 : b = 0
  rotate_left 1
  · have w1 : (b != 0) = true := by simpa using z1
    exact ⟨_, .inr ⟨fun h => z1 h.2.1, by simp [Try.f50, t1, t3, hA, hB, ldVar, hd, ht, hr, k4, w1]; rfl, by simp⟩⟩
  subst z1
  by_cases z2 : fin = false
  rotate_left 1
  · have w2 : fin = true := by simpa using z2
    exact ⟨_, .inr ⟨fun h => z2 h.2.2.1, by simp [Try.f50, t1, t3, hA, hB, ldVar, hd, ht, hr, k4, w2]; rfl, by simp⟩⟩
  subst z2
  by_cases z4 : tl = 0
  rotate_left 1
  · have w4 : 0 < tl := by omega
    exact ⟨_, .inr ⟨fun h => z4 h.2.2.2.1, by simp [Try.f50, t1, t3, hA, hB, ldVar, hd, ht, hr, k4, w4]; rfl, by simp⟩⟩
  subst z4
  by_cases z5 : rl = 0
  rotate_left 1
  · have w5 : 0 < rl := by omega
    exact ⟨_, .inr ⟨fun h => z5 h.2.2.2.2, by simp [Try.f50, t1, t3, hA, hB, ldVar, hd, ht, hr, k4, w5]; rfl, by simp⟩⟩
  subst z5
  exact ⟨_, .inl ⟨⟨rfl, rfl, rfl, rfl, rfl⟩, by simp [Try.f50, t1, t3, hA, hB, ldVar, hd, ht, hr, k4]; rfl, by simp [t1], by simp [t3]⟩⟩
theorem fi1_6 {k a b c : Int} {fin : Bool} {d t r : AV} {dl tl rl : Nat} {A B : Nat} {H : AH}
    (hA : H.get A = some (.cells 72 false (frC k a b c fin d t r))) (hB : H.get B = some (.cells 197 false (shL (true, true, true, true, false, false)))) (m : Nat) (hk4 : True)
    (hd : ∀ h, lenA Try.prog 34 d h = some (.int .i64 dl)) (ht : ∀ h, lenA Try.prog 34 t h = some (.int .i64 tl)) (hr : ∀ h, lenA Try.prog 70 r h = some (.int .i64 rl)) (τ : Tm) (T : FiT τ A B) :
    ∃ τ', ((tl = 0 ∧ rl = 0) ∧ evAt Try.prog (ev Try.prog m) m 50 15 τ H = evAt Try.prog (ev Try.prog m) m 50 31 τ' H ∧ FiT τ' A B) ∨
      (¬ (tl = 0 ∧ rl = 0) ∧ evAt Try.prog (ev Try.prog m) m 50 15 τ H = some (.ret, τ', H) ∧ τ' 2 = .bool false) := by
  obtain ⟨t1, t3⟩ := T
  simp only [frC, shL] at hA hB
  rw [at_M Try.func50 15 (by decide) 4 (by decide) (by kernel_rfl) [31]]
  by_cases z4 : tl = 0
  rotate_left 1
  · have w4 : 0 < tl := by omega
    exact ⟨_, .inr ⟨fun h => z4 h.1, by simp [Try.f50, t1, t3, hA, hB, ldVar, hd, ht, hr, w4]; rfl, by simp⟩⟩
  subst z4
  by_cases z5 : rl = 0
  rotate_left 1
  · have w5 : 0 < rl := by omega
    exact ⟨_, .inr ⟨fun h => z5 h.2, by simp [Try.f50, t1, t3, hA, hB, ldVar, hd, ht, hr, w5]; rfl, by simp⟩⟩
  subst z5
  exact ⟨_, .inl ⟨⟨rfl, rfl⟩, by simp [Try.f50, t1, t3, hA, hB, ldVar, hd, ht, hr]; rfl, by simp [t1], by simp [t3]⟩⟩
theorem fi1_7 {k a b c : Int} {fin : Bool} {d t r : AV} {dl tl rl : Nat} {A B : Nat} {H : AH}
    (hA : H.get A = some (.cells 72 false (frC k a b c fin d t r))) (hB : H.get B = some (.cells 197 false (shL (true, true, false, true, true, false)))) (m : Nat) (hk4 : True)
    (hd : ∀ h, lenA Try.prog 34 d h = some (.int .i64 dl)) (ht : ∀ h, lenA Try.prog 34 t h = some (.int .i64 tl)) (hr : ∀ h, lenA Try.prog 70 r h = some (.int .i64 rl)) (τ : Tm) (T : FiT τ A B) :
    ∃ τ', ((fin = false ∧ rl = 0) ∧ evAt Try.prog (ev Try.prog m) m 50 15 τ H = evAt Try.prog (ev Try.prog m) m 50 31 τ' H ∧ FiT τ' A B) ∨
      (¬ (fin = false ∧ rl = 0) ∧ evAt Try.prog (ev Try.prog m) m 50 15 τ H = some (.ret, τ', H) ∧ τ' 2 = .bool false) := by
  obtain ⟨t1, t3⟩ := T
  simp only [frC, shL] at hA hB
  rw [at_M Try.func50 15 (by decide) 4 (by decide) (by kernel_rfl) [31]]
  by_cases z2 : fin = false
  rotate_left 1
  · have w2 : fin = true := by simpa using z2
    exact ⟨_, .inr ⟨fun h => z2 h.1, by simp [Try.f50, t1, t3, hA, hB, ldVar, hd, ht, hr, w2]; rfl, by simp⟩⟩
  subst z2
  by_cases z5 : rl = 0
  rotate_left 1
  · have w5 : 0 < rl := by omega
    exact ⟨_, .inr ⟨fun h => z5 h.2, by simp [Try.f50, t1, t3, hA, hB, ldVar, hd, ht, hr, w5]; rfl, by simp⟩⟩
  subst z5
  exact ⟨_, .inl ⟨⟨rfl, rfl⟩, by simp [Try.f50, t1, t3, hA, hB, ldVar, hd, ht, hr]; rfl, by simp [t1], by simp [t3]⟩⟩
theorem fi1_8 {k a b c : Int} {fin : Bool} {d t r : AV} {dl tl rl : Nat} {A B : Nat} {H : AH}
    (hA : H.get A = some (.cells 72 false (frC k a b c fin d t r))) (hB : H.get B = some (.cells 197 false (shL (true, true, false, true, false, false)))) (m : Nat) (hk4 : True)
    (hd : ∀ h, lenA Try.prog 34 d h = some (.int .i64 dl)) (ht : ∀ h, lenA Try.prog 34 t h = some (.int .i64 tl)) (hr : ∀ h, lenA Try.prog 70 r h = some (.int .i64 rl)) (τ : Tm) (T : FiT τ A B) :
    ∃ τ', ((fin = false ∧ tl = 0 ∧ rl = 0) ∧ evAt Try.prog (ev Try.prog m) m 50 15 τ H = evAt Try.prog (ev Try.prog m) m 50 31 τ' H ∧ FiT τ' A B) ∨
      (¬ (fin = false ∧ tl = 0 ∧ rl = 0) ∧ evAt Try.prog (ev Try.prog m) m 50 15 τ H = some (.ret, τ', H) ∧ τ' 2 = .bool false) := by
  obtain ⟨t1, t3⟩ := T
  simp only [frC, shL] at hA hB
  rw [at_M Try.func50 15 (by decide) 4 (by decide) (by kernel_rfl) [31]]
  by_cases z2 : fin = false
  rotate_left 1
  · have w2 : fin = true := by simpa using z2
    exact ⟨_, .inr ⟨fun h => z2 h.1, by simp [Try.f50, t1, t3, hA, hB, ldVar, hd, ht, hr, w2]; rfl, by simp⟩⟩
  subst z2
  by_cases z4 : tl = 0
  rotate_left 1
  · have w4 : 0 < tl := by omega
    exact ⟨_, .inr ⟨fun h => z4 h.2.1, by simp [Try.f50, t1, t3, hA, hB, ldVar, hd, ht, hr, w4]; rfl, by simp⟩⟩
  subst z4
  by_cases z5 : rl = 0
  rotate_left 1
  · have w5 : 0 < rl := by omega
    exact ⟨_, .inr ⟨fun h => z5 h.2.2, by simp [Try.f50, t1, t3, hA, hB, ldVar, hd, ht, hr, w5]; rfl, by simp⟩⟩
  subst z5
  exact ⟨_, .inl ⟨⟨rfl, rfl, rfl⟩, by simp [Try.f50, t1, t3, hA, hB, ldVar, hd, ht, hr]; rfl, by simp [t1], by simp [t3]⟩⟩
end Go.Ev

/- Whether a frame is right, in the program: the bounds of a kind. -/
namespace Go.Ev
open Go Go.Proofs
set_option linter.unusedSimpArgs false
set_option linter.unusedVariables false

theorem fi2 {k a b c : Int} {fin : Bool} {d t r : AV} {dl : Nat} {A B : Nat} {H : AH}
    (hA : H.get A = some (.cells 72 false (frC k a b c fin d t r))) (m : Nat) (hd : ∀ h, lenA Try.prog 34 d h = some (.int .i64 dl)) (τ : Tm) (T : FiT τ A B) :
    ∃ τ', ((c = 0 ∨ k = 4) ∧ evAt Try.prog (ev Try.prog m) m 50 31 τ H = evAt Try.prog (ev Try.prog m) m 50 127 τ' H ∧ FiT τ' A B ∧ τ' 5 = .int .i64 dl) ∨
      (¬ (c = 0 ∨ k = 4) ∧ evAt Try.prog (ev Try.prog m) m 50 31 τ H = some (.ret, τ', H) ∧ τ' 2 = .bool false) := by
  obtain ⟨t1, t3⟩ := T
  simp only [frC] at hA
  rw [at_M Try.func50 31 (by decide) 5 (by decide) (by kernel_rfl) [127]]
  by_cases c0 : c = 0
  · subst c0
    exact ⟨_, .inl ⟨.inl rfl, by simp [Try.f50, t1, t3, hA, hd, ldVar]; rfl, ⟨by simp [t1], by simp [t3]⟩, by simp⟩⟩
  · have c0' : (c != 0) = true := by simpa using c0
    by_cases k4 : k = 4
    · subst k4
      exact ⟨_, .inl ⟨.inr rfl, by simp [Try.f50, t1, t3, hA, hd, ldVar, c0']; rfl, ⟨by simp [t1], by simp [t3]⟩, by simp⟩⟩
    · have k4' : (k != 4) = true := by simpa using k4
      exact ⟨_, .inr ⟨fun h => by rcases h with h | h; exact c0 h; exact k4 h, by simp [Try.f50, t1, t3, hA, hd, ldVar, c0', k4']; rfl, by simp⟩⟩
structure FiS (τ : Tm) (A : Nat) (k : Int) (dl : Nat) : Prop where
  t1 : τ 1 = .ptr A 0
  t5 : τ 5 = .int .i64 dl
  tk : τ 109 = .int .i64 k
theorem fiS_1018 {A dl : Nat} (k : Int) (h0 : ¬ (k = 0)) (m : Nat) (τ : Tm) (H : AH) (S : FiS τ A k dl) :
    ∃ τ', evAt Try.prog (ev Try.prog m) m 50 1018 τ H = evAt Try.prog (ev Try.prog m) m 50 4075 τ' H ∧ FiS τ' A k dl := by
  obtain ⟨t1, t5, tk⟩ := S
  rw [at_M Try.func50 1018 (by decide) 10 (by decide) (by kernel_rfl) [4075]]
  exact ⟨_, by simp [Try.f50, tk, beqF, h0]; rfl, by simp [t1], by simp [t5], by simp [tk]⟩
theorem fiS_4075 {A dl : Nat} (k : Int) (h2 : ¬ (k = 2)) (m : Nat) (τ : Tm) (H : AH) (S : FiS τ A k dl) :
    ∃ τ', evAt Try.prog (ev Try.prog m) m 50 4075 τ H = evAt Try.prog (ev Try.prog m) m 50 16303 τ' H ∧ FiS τ' A k dl := by
  obtain ⟨t1, t5, tk⟩ := S
  rw [at_M Try.func50 4075 (by decide) 12 (by decide) (by kernel_rfl) [16303]]
  exact ⟨_, by simp [Try.f50, tk, beqF, h2]; rfl, by simp [t1], by simp [t5], by simp [tk]⟩
theorem fiS_16303 {A dl : Nat} (k : Int) (h6 : ¬ (k = 6)) (m : Nat) (τ : Tm) (H : AH) (S : FiS τ A k dl) :
    ∃ τ', evAt Try.prog (ev Try.prog m) m 50 16303 τ H = evAt Try.prog (ev Try.prog m) m 50 65215 τ' H ∧ FiS τ' A k dl := by
  obtain ⟨t1, t5, tk⟩ := S
  rw [at_M Try.func50 16303 (by decide) 14 (by decide) (by kernel_rfl) [65215]]
  exact ⟨_, by simp [Try.f50, tk, beqF, h6]; rfl, by simp [t1], by simp [t5], by simp [tk]⟩
theorem fiS_65215 {A dl : Nat} (k : Int) (h7 : ¬ (k = 7)) (m : Nat) (τ : Tm) (H : AH) (S : FiS τ A k dl) :
    ∃ τ', evAt Try.prog (ev Try.prog m) m 50 65215 τ H = evAt Try.prog (ev Try.prog m) m 50 260863 τ' H ∧ FiS τ' A k dl := by
  obtain ⟨t1, t5, tk⟩ := S
  rw [at_M Try.func50 65215 (by decide) 16 (by decide) (by kernel_rfl) [260863]]
  exact ⟨_, by simp [Try.f50, tk, beqF, h7]; rfl, by simp [t1], by simp [t5], by simp [tk]⟩
theorem fiS_260863 {A dl : Nat} (k : Int) (h8 : ¬ (k = 8)) (m : Nat) (τ : Tm) (H : AH) (S : FiS τ A k dl) :
    ∃ τ', evAt Try.prog (ev Try.prog m) m 50 260863 τ H = evAt Try.prog (ev Try.prog m) m 50 1043455 τ' H ∧ FiS τ' A k dl := by
  obtain ⟨t1, t5, tk⟩ := S
  rw [at_M Try.func50 260863 (by decide) 18 (by decide) (by kernel_rfl) [1043455]]
  exact ⟨_, by simp [Try.f50, tk, beqF, h8]; rfl, by simp [t1], by simp [t5], by simp [tk]⟩
theorem fiS_1043455 {A dl : Nat} (k : Int) (h18 : ¬ (k = 18)) (h22 : ¬ (k = 22)) (m : Nat) (τ : Tm) (H : AH) (S : FiS τ A k dl) :
    ∃ τ', evAt Try.prog (ev Try.prog m) m 50 1043455 τ H = evAt Try.prog (ev Try.prog m) m 50 4173823 τ' H ∧ FiS τ' A k dl := by
  obtain ⟨t1, t5, tk⟩ := S
  rw [at_M Try.func50 1043455 (by decide) 20 (by decide) (by kernel_rfl) [4173823]]
  exact ⟨_, by simp [Try.f50, tk, beqF, h18, h22]; rfl, by simp [t1], by simp [t5], by simp [tk]⟩
theorem fiS_4173823 {A dl : Nat} (k : Int) (h24 : ¬ (k = 24)) (m : Nat) (τ : Tm) (H : AH) (S : FiS τ A k dl) :
    ∃ τ', evAt Try.prog (ev Try.prog m) m 50 4173823 τ H = evAt Try.prog (ev Try.prog m) m 50 16695295 τ' H ∧ FiS τ' A k dl := by
  obtain ⟨t1, t5, tk⟩ := S
  rw [at_M Try.func50 4173823 (by decide) 22 (by decide) (by kernel_rfl) [16695295]]
  exact ⟨_, by simp [Try.f50, tk, beqF, h24]; rfl, by simp [t1], by simp [t5], by simp [tk]⟩
theorem fiS_16695295 {A dl : Nat} (k : Int) (h26 : ¬ (k = 26)) (h27 : ¬ (k = 27)) (m : Nat) (τ : Tm) (H : AH) (S : FiS τ A k dl) :
    ∃ τ', evAt Try.prog (ev Try.prog m) m 50 16695295 τ H = evAt Try.prog (ev Try.prog m) m 50 66781183 τ' H ∧ FiS τ' A k dl := by
  obtain ⟨t1, t5, tk⟩ := S
  rw [at_M Try.func50 16695295 (by decide) 24 (by decide) (by kernel_rfl) [66781183]]
  exact ⟨_, by simp [Try.f50, tk, beqF, h26, h27]; rfl, by simp [t1], by simp [t5], by simp [tk]⟩
theorem fiS_66781183 {A dl : Nat} (k : Int) (h28 : ¬ (k = 28)) (h29 : ¬ (k = 29)) (m : Nat) (τ : Tm) (H : AH) (S : FiS τ A k dl) :
    ∃ τ', evAt Try.prog (ev Try.prog m) m 50 66781183 τ H = evAt Try.prog (ev Try.prog m) m 50 267124735 τ' H ∧ FiS τ' A k dl := by
  obtain ⟨t1, t5, tk⟩ := S
  rw [at_M Try.func50 66781183 (by decide) 26 (by decide) (by kernel_rfl) [267124735]]
  exact ⟨_, by simp [Try.f50, tk, beqF, h28, h29]; rfl, by simp [t1], by simp [t5], by simp [tk]⟩
theorem fiE {A dl : Nat} (k : Int) (h48 : ¬ (k = 48)) (m : Nat) (τ : Tm) (H : AH) (S : FiS τ A k dl) :
    ∃ τ', evAt Try.prog (ev Try.prog m) m 50 267124735 τ H = some (.normal, τ', H) := by
  obtain ⟨t1, t5, tk⟩ := S
  rw [at_M Try.func50 267124735 (by decide) 28 (by decide) (by kernel_rfl) []]
  exact ⟨_, by simp [Try.f50, tk, beqF, h48]; rfl⟩
theorem fiF_0 {a b c : Int} {fin : Bool} {d t r : AV} {dl : Nat} {A : Nat} {H : AH}
    (hA : H.get A = some (.cells 72 false (frC 0 a b c fin d t r))) (m : Nat) (τ : Tm) (S : FiS τ A 0 dl) (hl : dl ≤ 1048576) :
    ∃ τ', evAt Try.prog (ev Try.prog m) m 50 1018 τ H = some (.ret, τ', H) ∧ τ' 2 = .bool (decide (1 ≤ a ∧ a ≤ 1500)) := by
  obtain ⟨t1, t5, tk⟩ := S
  simp only [frC] at hA
  have w1 : IntKind.i64.wrap (4611686018427387903 - (dl : Int)) = 4611686018427387903 - (dl : Int) := wrap_i64 (n := 4611686018427387903 - (dl : Int)) (by omega) (by omega)
  rw [at_M Try.func50 1018 (by decide) 10 (by decide) (by kernel_rfl) []]
  by_cases q0 : 1 ≤ a
  rotate_left 1
  · have q0' : (1 ≤ a) = False := eq_false q0
    exact ⟨_, by simp [Try.f50, t1, t5, tk, hA, ldVar, w1, q0']; rfl, by simp [q0']⟩
  exact ⟨_, by simp [Try.f50, t1, t5, tk, hA, ldVar, w1, q0]; rfl, by simp [q0]⟩
theorem fiF_6 {a b c : Int} {fin : Bool} {d t r : AV} {dl : Nat} {A : Nat} {H : AH}
    (hA : H.get A = some (.cells 72 false (frC 6 a b c fin d t r))) (m : Nat) (τ : Tm) (S : FiS τ A 6 dl) (hl : dl ≤ 1048576) :
    ∃ τ', evAt Try.prog (ev Try.prog m) m 50 16303 τ H = some (.ret, τ', H) ∧ τ' 2 = .bool (decide ((dl : Int) ≤ 1500 ∧ a ≤ 4611686018427387903 - dl)) := by
  obtain ⟨t1, t5, tk⟩ := S
  simp only [frC] at hA
  have w1 : IntKind.i64.wrap (4611686018427387903 - (dl : Int)) = 4611686018427387903 - (dl : Int) := wrap_i64 (n := 4611686018427387903 - (dl : Int)) (by omega) (by omega)
  rw [at_M Try.func50 16303 (by decide) 14 (by decide) (by kernel_rfl) []]
  by_cases q0 : (dl : Int) ≤ 1500
  rotate_left 1
  · have q0' : ((dl : Int) ≤ 1500) = False := eq_false q0
    exact ⟨_, by simp [Try.f50, t1, t5, tk, hA, ldVar, w1, q0']; rfl, by simp [q0']⟩
  exact ⟨_, by simp [Try.f50, t1, t5, tk, hA, ldVar, w1, q0]; rfl, by simp [q0]⟩
theorem fiF_7 {a b c : Int} {fin : Bool} {d t r : AV} {dl : Nat} {A : Nat} {H : AH}
    (hA : H.get A = some (.cells 72 false (frC 7 a b c fin d t r))) (m : Nat) (τ : Tm) (S : FiS τ A 7 dl) (hl : dl ≤ 1048576) :
    ∃ τ', evAt Try.prog (ev Try.prog m) m 50 65215 τ H = some (.ret, τ', H) ∧ τ' 2 = .bool (decide (1 ≤ (dl : Int) ∧ (dl : Int) ≤ 64)) := by
  obtain ⟨t1, t5, tk⟩ := S
  simp only [frC] at hA
  have w1 : IntKind.i64.wrap (4611686018427387903 - (dl : Int)) = 4611686018427387903 - (dl : Int) := wrap_i64 (n := 4611686018427387903 - (dl : Int)) (by omega) (by omega)
  rw [at_M Try.func50 65215 (by decide) 16 (by decide) (by kernel_rfl) []]
  by_cases q0 : 1 ≤ (dl : Int)
  rotate_left 1
  · have q0' : (1 ≤ (dl : Int)) = False := eq_false q0
    exact ⟨_, by simp [Try.f50, t1, t5, tk, hA, ldVar, w1, q0']; rfl, by simp [q0']⟩
  exact ⟨_, by simp [Try.f50, t1, t5, tk, hA, ldVar, w1, q0]; rfl, by simp [q0]⟩
theorem fiF_8 {a b c : Int} {fin : Bool} {d t r : AV} {dl : Nat} {A : Nat} {H : AH}
    (hA : H.get A = some (.cells 72 false (frC 8 a b c fin d t r))) (m : Nat) (τ : Tm) (S : FiS τ A 8 dl) (hl : dl ≤ 1048576) :
    ∃ τ', evAt Try.prog (ev Try.prog m) m 50 260863 τ H = some (.ret, τ', H) ∧ τ' 2 = .bool (decide ((dl : Int) ≤ 1500 ∧ b ≤ 4611686018427387903 - dl)) := by
  obtain ⟨t1, t5, tk⟩ := S
  simp only [frC] at hA
  have w1 : IntKind.i64.wrap (4611686018427387903 - (dl : Int)) = 4611686018427387903 - (dl : Int) := wrap_i64 (n := 4611686018427387903 - (dl : Int)) (by omega) (by omega)
  rw [at_M Try.func50 260863 (by decide) 18 (by decide) (by kernel_rfl) []]
  by_cases q0 : (dl : Int) ≤ 1500
  rotate_left 1
  · have q0' : ((dl : Int) ≤ 1500) = False := eq_false q0
    exact ⟨_, by simp [Try.f50, t1, t5, tk, hA, ldVar, w1, q0']; rfl, by simp [q0']⟩
  exact ⟨_, by simp [Try.f50, t1, t5, tk, hA, ldVar, w1, q0]; rfl, by simp [q0]⟩
theorem fiF_18 {a b c : Int} {fin : Bool} {d t r : AV} {dl : Nat} {A : Nat} {H : AH}
    (hA : H.get A = some (.cells 72 false (frC 18 a b c fin d t r))) (m : Nat) (τ : Tm) (S : FiS τ A 18 dl) (hl : dl ≤ 1048576) :
    ∃ τ', evAt Try.prog (ev Try.prog m) m 50 1043455 τ H = some (.ret, τ', H) ∧ τ' 2 = .bool (decide (a ≤ 1152921504606846976 ∧ b ≤ 1)) := by
  obtain ⟨t1, t5, tk⟩ := S
  simp only [frC] at hA
  have w1 : IntKind.i64.wrap (4611686018427387903 - (dl : Int)) = 4611686018427387903 - (dl : Int) := wrap_i64 (n := 4611686018427387903 - (dl : Int)) (by omega) (by omega)
  rw [at_M Try.func50 1043455 (by decide) 20 (by decide) (by kernel_rfl) []]
  by_cases q0 : a ≤ 1152921504606846976
  rotate_left 1
  · have q0' : (a ≤ 1152921504606846976) = False := eq_false q0
    exact ⟨_, by simp [Try.f50, t1, t5, tk, hA, ldVar, w1, q0']; rfl, by simp [q0']⟩
  exact ⟨_, by simp [Try.f50, t1, t5, tk, hA, ldVar, w1, q0]; rfl, by simp [q0]⟩
theorem fiF_22 {a b c : Int} {fin : Bool} {d t r : AV} {dl : Nat} {A : Nat} {H : AH}
    (hA : H.get A = some (.cells 72 false (frC 22 a b c fin d t r))) (m : Nat) (τ : Tm) (S : FiS τ A 22 dl) (hl : dl ≤ 1048576) :
    ∃ τ', evAt Try.prog (ev Try.prog m) m 50 1043455 τ H = some (.ret, τ', H) ∧ τ' 2 = .bool (decide (a ≤ 1152921504606846976 ∧ b ≤ 1)) := by
  obtain ⟨t1, t5, tk⟩ := S
  simp only [frC] at hA
  have w1 : IntKind.i64.wrap (4611686018427387903 - (dl : Int)) = 4611686018427387903 - (dl : Int) := wrap_i64 (n := 4611686018427387903 - (dl : Int)) (by omega) (by omega)
  rw [at_M Try.func50 1043455 (by decide) 20 (by decide) (by kernel_rfl) []]
  by_cases q0 : a ≤ 1152921504606846976
  rotate_left 1
  · have q0' : (a ≤ 1152921504606846976) = False := eq_false q0
    exact ⟨_, by simp [Try.f50, t1, t5, tk, hA, ldVar, w1, q0']; rfl, by simp [q0']⟩
  exact ⟨_, by simp [Try.f50, t1, t5, tk, hA, ldVar, w1, q0]; rfl, by simp [q0]⟩
theorem fiF_24 {a b c : Int} {fin : Bool} {d t r : AV} {dl tl : Nat} {A : Nat} {H : AH} (ht : ∀ h, lenA Try.prog 34 t h = some (.int .i64 tl))
    (hA : H.get A = some (.cells 72 false (frC 24 a b c fin d t r))) (m : Nat) (τ : Tm) (S : FiS τ A 24 dl) (hl : dl ≤ 1048576) :
    ∃ τ', evAt Try.prog (ev Try.prog m) m 50 4173823 τ H = some (.ret, τ', H) ∧ τ' 2 = .bool (decide (b ≤ a ∧ 1 ≤ (dl : Int) ∧ (dl : Int) ≤ 8 ∧ (tl : Int) = 8)) := by
  obtain ⟨t1, t5, tk⟩ := S
  simp only [frC] at hA
  have w1 : IntKind.i64.wrap (4611686018427387903 - (dl : Int)) = 4611686018427387903 - (dl : Int) := wrap_i64 (n := 4611686018427387903 - (dl : Int)) (by omega) (by omega)
  rw [at_M Try.func50 4173823 (by decide) 22 (by decide) (by kernel_rfl) []]
  by_cases q0 : b ≤ a
  rotate_left 1
  · have q0' : (b ≤ a) = False := eq_false q0
    exact ⟨_, by simp [Try.f50, t1, t5, tk, hA, ldVar, w1, ht, q0']; rfl, by simp [q0']⟩
  by_cases q1 : 1 ≤ (dl : Int)
  rotate_left 1
  · have q1' : (1 ≤ (dl : Int)) = False := eq_false q1
    exact ⟨_, by simp [Try.f50, t1, t5, tk, hA, ldVar, w1, ht, q0, q1']; rfl, by simp [q1']⟩
  by_cases q2 : (dl : Int) ≤ 8
  rotate_left 1
  · have q2' : ((dl : Int) ≤ 8) = False := eq_false q2
    exact ⟨_, by simp [Try.f50, t1, t5, tk, hA, ldVar, w1, ht, q0, q1, q2']; rfl, by simp [q2']⟩
  by_cases ql : (tl : Int) = 8
  · exact ⟨_, by simp [Try.f50, t1, t5, tk, hA, ldVar, w1, ht, q0, q1, q2, ql]; rfl, by simp [ql, q0, q1, q2]⟩
  · have ql' : ((tl : Int) == 8) = false := by simpa using ql
    exact ⟨_, by simp [Try.f50, t1, t5, tk, hA, ldVar, w1, ht, q0, q1, q2, ql']; rfl, by simp [ql, q0, q1, q2]⟩
theorem fiF_26 {a b c : Int} {fin : Bool} {d t r : AV} {dl : Nat} {A : Nat} {H : AH}
    (hA : H.get A = some (.cells 72 false (frC 26 a b c fin d t r))) (m : Nat) (τ : Tm) (S : FiS τ A 26 dl) (hl : dl ≤ 1048576) :
    ∃ τ', evAt Try.prog (ev Try.prog m) m 50 16695295 τ H = some (.ret, τ', H) ∧ τ' 2 = .bool (decide ((dl : Int) = 8)) := by
  obtain ⟨t1, t5, tk⟩ := S
  simp only [frC] at hA
  have w1 : IntKind.i64.wrap (4611686018427387903 - (dl : Int)) = 4611686018427387903 - (dl : Int) := wrap_i64 (n := 4611686018427387903 - (dl : Int)) (by omega) (by omega)
  rw [at_M Try.func50 16695295 (by decide) 24 (by decide) (by kernel_rfl) []]
  by_cases ql : (dl : Int) = 8
  · exact ⟨_, by simp [Try.f50, t1, t5, tk, hA, ldVar, w1, ql]; rfl, by simp [ql]⟩
  · have ql' : ((dl : Int) == 8) = false := by simpa using ql
    exact ⟨_, by simp [Try.f50, t1, t5, tk, hA, ldVar, w1, ql']; rfl, by simp [ql]⟩
theorem fiF_27 {a b c : Int} {fin : Bool} {d t r : AV} {dl : Nat} {A : Nat} {H : AH}
    (hA : H.get A = some (.cells 72 false (frC 27 a b c fin d t r))) (m : Nat) (τ : Tm) (S : FiS τ A 27 dl) (hl : dl ≤ 1048576) :
    ∃ τ', evAt Try.prog (ev Try.prog m) m 50 16695295 τ H = some (.ret, τ', H) ∧ τ' 2 = .bool (decide ((dl : Int) = 8)) := by
  obtain ⟨t1, t5, tk⟩ := S
  simp only [frC] at hA
  have w1 : IntKind.i64.wrap (4611686018427387903 - (dl : Int)) = 4611686018427387903 - (dl : Int) := wrap_i64 (n := 4611686018427387903 - (dl : Int)) (by omega) (by omega)
  rw [at_M Try.func50 16695295 (by decide) 24 (by decide) (by kernel_rfl) []]
  by_cases ql : (dl : Int) = 8
  · exact ⟨_, by simp [Try.f50, t1, t5, tk, hA, ldVar, w1, ql]; rfl, by simp [ql]⟩
  · have ql' : ((dl : Int) == 8) = false := by simpa using ql
    exact ⟨_, by simp [Try.f50, t1, t5, tk, hA, ldVar, w1, ql']; rfl, by simp [ql]⟩
theorem fiF_28 {a b c : Int} {fin : Bool} {d t r : AV} {dl : Nat} {A : Nat} {H : AH}
    (hA : H.get A = some (.cells 72 false (frC 28 a b c fin d t r))) (m : Nat) (τ : Tm) (S : FiS τ A 28 dl) (hl : dl ≤ 1048576) :
    ∃ τ', evAt Try.prog (ev Try.prog m) m 50 66781183 τ H = some (.ret, τ', H) ∧ τ' 2 = .bool (decide ((dl : Int) ≤ 200)) := by
  obtain ⟨t1, t5, tk⟩ := S
  simp only [frC] at hA
  have w1 : IntKind.i64.wrap (4611686018427387903 - (dl : Int)) = 4611686018427387903 - (dl : Int) := wrap_i64 (n := 4611686018427387903 - (dl : Int)) (by omega) (by omega)
  rw [at_M Try.func50 66781183 (by decide) 26 (by decide) (by kernel_rfl) []]
  exact ⟨_, by simp [Try.f50, t1, t5, tk, hA, ldVar, w1]; rfl, by simp⟩
theorem fiF_29 {a b c : Int} {fin : Bool} {d t r : AV} {dl : Nat} {A : Nat} {H : AH}
    (hA : H.get A = some (.cells 72 false (frC 29 a b c fin d t r))) (m : Nat) (τ : Tm) (S : FiS τ A 29 dl) (hl : dl ≤ 1048576) :
    ∃ τ', evAt Try.prog (ev Try.prog m) m 50 66781183 τ H = some (.ret, τ', H) ∧ τ' 2 = .bool (decide ((dl : Int) ≤ 200)) := by
  obtain ⟨t1, t5, tk⟩ := S
  simp only [frC] at hA
  have w1 : IntKind.i64.wrap (4611686018427387903 - (dl : Int)) = 4611686018427387903 - (dl : Int) := wrap_i64 (n := 4611686018427387903 - (dl : Int)) (by omega) (by omega)
  rw [at_M Try.func50 66781183 (by decide) 26 (by decide) (by kernel_rfl) []]
  exact ⟨_, by simp [Try.f50, t1, t5, tk, hA, ldVar, w1]; rfl, by simp⟩
theorem fiF_48 {a b c : Int} {fin : Bool} {d t r : AV} {dl : Nat} {A : Nat} {H : AH}
    (hA : H.get A = some (.cells 72 false (frC 48 a b c fin d t r))) (m : Nat) (τ : Tm) (S : FiS τ A 48 dl) (hl : dl ≤ 1048576) :
    ∃ τ', evAt Try.prog (ev Try.prog m) m 50 267124735 τ H = some (.ret, τ', H) ∧ τ' 2 = .bool (decide ((dl : Int) ≤ 1500)) := by
  obtain ⟨t1, t5, tk⟩ := S
  simp only [frC] at hA
  have w1 : IntKind.i64.wrap (4611686018427387903 - (dl : Int)) = 4611686018427387903 - (dl : Int) := wrap_i64 (n := 4611686018427387903 - (dl : Int)) (by omega) (by omega)
  rw [at_M Try.func50 267124735 (by decide) 28 (by decide) (by kernel_rfl) []]
  exact ⟨_, by simp [Try.f50, t1, t5, tk, hA, ldVar, w1]; rfl, by simp⟩
end Go.Ev

/- Whether a frame is right, in the program: the whole. -/
namespace Go.Ev
open Go Go.Proofs
set_option linter.unusedSimpArgs false
set_option linter.unusedVariables false

def shP (s : Shp) (a b : Int) (fin : Bool) (dl tl rl : Nat) : Prop :=
  (s.1 = true ∨ a = 0) ∧ (s.2.1 = true ∨ b = 0) ∧ (s.2.2.1 = true ∨ fin = false) ∧ (s.2.2.2.1 = true ∨ dl = 0) ∧ (s.2.2.2.2.1 = true ∨ tl = 0) ∧ (s.2.2.2.2.2 = true ∨ rl = 0)
theorem fi1 {k a b c : Int} {fin : Bool} {d t r : AV} {dl tl rl : Nat} {A B : Nat} {H : AH} (hk : kindIn k)
    (hA : H.get A = some (.cells 72 false (frC k a b c fin d t r))) (hB : H.get B = some (.cells 197 false (shL ((shapeL.lookup k).getD shN)))) (m : Nat)
    (hd : ∀ h, lenA Try.prog 34 d h = some (.int .i64 dl)) (ht : ∀ h, lenA Try.prog 34 t h = some (.int .i64 tl)) (hr : ∀ h, lenA Try.prog 70 r h = some (.int .i64 rl)) (τ : Tm) (T : FiT τ A B) :
    ∃ τ', (shP ((shapeL.lookup k).getD shN) a b fin dl tl rl ∧ evAt Try.prog (ev Try.prog m) m 50 15 τ H = evAt Try.prog (ev Try.prog m) m 50 31 τ' H ∧ FiT τ' A B) ∨
      (¬ shP ((shapeL.lookup k).getD shN) a b fin dl tl rl ∧ evAt Try.prog (ev Try.prog m) m 50 15 τ H = some (.ret, τ', H) ∧ τ' 2 = .bool false) := by
  simp only [kindIn] at hk
  rcases hk with rfl | rfl | rfl | rfl | rfl | rfl | rfl | rfl | rfl | rfl | rfl | rfl | rfl | rfl | rfl | rfl | rfl | rfl | rfl | rfl | rfl | rfl
  · obtain ⟨τ', g⟩ := fi1_0 hA hB m (by decide) hd ht hr τ T
    refine ⟨τ', ?_⟩
    simpa [shP, shapeL, List.lookup_cons] using g
  · obtain ⟨τ', g⟩ := fi1_1 hA hB m (by decide) hd ht hr τ T
    refine ⟨τ', ?_⟩
    simpa [shP, shapeL, List.lookup_cons] using g
  · obtain ⟨τ', g⟩ := fi1_2 hA hB m (by decide) hd ht hr τ T
    refine ⟨τ', ?_⟩
    simpa [shP, shapeL, List.lookup_cons] using g
  · obtain ⟨τ', g⟩ := fi1_3 hA hB m trivial hd ht hr τ T
    refine ⟨τ', ?_⟩
    simpa [shP, shapeL, List.lookup_cons] using g
  · obtain ⟨τ', g⟩ := fi1_3 hA hB m trivial hd ht hr τ T
    refine ⟨τ', ?_⟩
    simpa [shP, shapeL, List.lookup_cons] using g
  · obtain ⟨τ', g⟩ := fi1_4 hA hB m (by decide) hd ht hr τ T
    refine ⟨τ', ?_⟩
    simpa [shP, shapeL, List.lookup_cons] using g
  · obtain ⟨τ', g⟩ := fi1_5 hA hB m (by decide) hd ht hr τ T
    refine ⟨τ', ?_⟩
    simpa [shP, shapeL, List.lookup_cons] using g
  · obtain ⟨τ', g⟩ := fi1_6 hA hB m trivial hd ht hr τ T
    refine ⟨τ', ?_⟩
    simpa [shP, shapeL, List.lookup_cons] using g
  · obtain ⟨τ', g⟩ := fi1_0 hA hB m (by decide) hd ht hr τ T
    refine ⟨τ', ?_⟩
    simpa [shP, shapeL, List.lookup_cons] using g
  · obtain ⟨τ', g⟩ := fi1_3 hA hB m trivial hd ht hr τ T
    refine ⟨τ', ?_⟩
    simpa [shP, shapeL, List.lookup_cons] using g
  · obtain ⟨τ', g⟩ := fi1_3 hA hB m trivial hd ht hr τ T
    refine ⟨τ', ?_⟩
    simpa [shP, shapeL, List.lookup_cons] using g
  · obtain ⟨τ', g⟩ := fi1_0 hA hB m (by decide) hd ht hr τ T
    refine ⟨τ', ?_⟩
    simpa [shP, shapeL, List.lookup_cons] using g
  · obtain ⟨τ', g⟩ := fi1_3 hA hB m trivial hd ht hr τ T
    refine ⟨τ', ?_⟩
    simpa [shP, shapeL, List.lookup_cons] using g
  · obtain ⟨τ', g⟩ := fi1_3 hA hB m trivial hd ht hr τ T
    refine ⟨τ', ?_⟩
    simpa [shP, shapeL, List.lookup_cons] using g
  · obtain ⟨τ', g⟩ := fi1_7 hA hB m trivial hd ht hr τ T
    refine ⟨τ', ?_⟩
    simpa [shP, shapeL, List.lookup_cons] using g
  · obtain ⟨τ', g⟩ := fi1_0 hA hB m (by decide) hd ht hr τ T
    refine ⟨τ', ?_⟩
    simpa [shP, shapeL, List.lookup_cons] using g
  · obtain ⟨τ', g⟩ := fi1_5 hA hB m (by decide) hd ht hr τ T
    refine ⟨τ', ?_⟩
    simpa [shP, shapeL, List.lookup_cons] using g
  · obtain ⟨τ', g⟩ := fi1_5 hA hB m (by decide) hd ht hr τ T
    refine ⟨τ', ?_⟩
    simpa [shP, shapeL, List.lookup_cons] using g
  · obtain ⟨τ', g⟩ := fi1_8 hA hB m trivial hd ht hr τ T
    refine ⟨τ', ?_⟩
    simpa [shP, shapeL, List.lookup_cons] using g
  · obtain ⟨τ', g⟩ := fi1_4 hA hB m (by decide) hd ht hr τ T
    refine ⟨τ', ?_⟩
    simpa [shP, shapeL, List.lookup_cons] using g
  · obtain ⟨τ', g⟩ := fi1_1 hA hB m (by decide) hd ht hr τ T
    refine ⟨τ', ?_⟩
    simpa [shP, shapeL, List.lookup_cons] using g
  · obtain ⟨τ', g⟩ := fi1_5 hA hB m (by decide) hd ht hr τ T
    refine ⟨τ', ?_⟩
    simpa [shP, shapeL, List.lookup_cons] using g
theorem fiF_2 {a b c : Int} {fin : Bool} {d t r : AV} {dl : Nat} {rs : List (Int × Int)} {A : Nat} {H H2 : AH}
    (hA : H.get A = some (.cells 72 false (frC 2 a b c fin d t r))) (m : Nat) (τ : Tm) (S : FiS τ A 2 dl) (hr : ∀ h, lenA Try.prog 70 r h = some (.int .i64 rs.length))
    (c4 : ev Try.prog m 139 [r] H = some (.bool (decide (rgOK rs)), H2)) (hK : Kp H H2) :
    ∃ τ' H', Kp H H' ∧ evAt Try.prog (ev Try.prog m) m 50 4075 τ H = some (.ret, τ', H') ∧ τ' 2 = .bool (decide (0 < rs.length ∧ rgOK rs)) := by
  obtain ⟨t1, t5, tk⟩ := S
  simp only [frC] at hA
  rw [at_M Try.func50 4075 (by decide) 12 (by decide) (by kernel_rfl) [16303]]
  by_cases q0 : 0 < rs.length
  · exact ⟨_, _, hK, by simp [Try.f50, t1, t5, tk, hA, ldVar, hr, q0, c4]; rfl, by simp [q0]⟩
  · have q0' : (0 < rs.length) = False := eq_false q0
    exact ⟨_, _, Kp.refl H, by simp [Try.f50, t1, t5, tk, hA, ldVar, hr, q0']; rfl, by simp [q0']⟩
def frY (k a b : Int) (dl tl : Nat) (rs : List (Int × Int)) : Prop :=
  if k = 0 then 1 ≤ a ∧ a ≤ 1500 else if k = 2 then 0 < rs.length ∧ rgOK rs else if k = 6 then (dl : Int) ≤ 1500 ∧ a ≤ 4611686018427387903 - dl else if k = 7 then 1 ≤ (dl : Int) ∧ (dl : Int) ≤ 64
  else if k = 8 then (dl : Int) ≤ 1500 ∧ b ≤ 4611686018427387903 - dl else if k = 18 ∨ k = 22 then a ≤ 1152921504606846976 ∧ b ≤ 1 else if k = 24 then b ≤ a ∧ 1 ≤ (dl : Int) ∧ (dl : Int) ≤ 8 ∧ (tl : Int) = 8
  else if k = 26 ∨ k = 27 then (dl : Int) = 8 else if k = 28 ∨ k = 29 then (dl : Int) ≤ 200 else if k = 48 then (dl : Int) ≤ 1500 else True
noncomputable instance (k a b : Int) (dl tl : Nat) (rs : List (Int × Int)) : Decidable (frY k a b dl tl rs) := Classical.propDecidable _
theorem fiY {k a b c : Int} {fin : Bool} {d t r : AV} {dl tl : Nat} {rs : List (Int × Int)} {A : Nat} {H H2 : AH} (hk : kindIn k)
    (hA : H.get A = some (.cells 72 false (frC k a b c fin d t r))) (m : Nat) (τ : Tm) (S : FiS τ A k dl) (hl : dl ≤ 1048576) (ht : ∀ h, lenA Try.prog 34 t h = some (.int .i64 tl)) (hr : ∀ h, lenA Try.prog 70 r h = some (.int .i64 rs.length))
    (c4 : ev Try.prog m 139 [r] H = some (.bool (decide (rgOK rs)), H2)) (hK : Kp H H2) :
    ∃ e τ' H', Kp H H' ∧ evAt Try.prog (ev Try.prog m) m 50 1018 τ H = some (e, τ', H') ∧ ((e = .ret ∧ τ' 2 = .bool (decide (frY k a b dl tl rs))) ∨ (e = .normal ∧ frY k a b dl tl rs)) := by
  simp only [kindIn] at hk
  rcases hk with rfl | rfl | rfl | rfl | rfl | rfl | rfl | rfl | rfl | rfl | rfl | rfl | rfl | rfl | rfl | rfl | rfl | rfl | rfl | rfl | rfl | rfl
  · obtain ⟨τ', e, g⟩ := fiF_0 hA m τ S hl
    exact ⟨_, τ', H, Kp.refl H, by rw [e], .inl ⟨rfl, by simpa [frY] using g⟩⟩
  · obtain ⟨τ1, e1, S1⟩ := fiS_1018 1 (by decide) m τ H S
    obtain ⟨τ2, e2, S2⟩ := fiS_4075 1 (by decide) m τ1 H S1
    obtain ⟨τ3, e3, S3⟩ := fiS_16303 1 (by decide) m τ2 H S2
    obtain ⟨τ4, e4, S4⟩ := fiS_65215 1 (by decide) m τ3 H S3
    obtain ⟨τ5, e5, S5⟩ := fiS_260863 1 (by decide) m τ4 H S4
    obtain ⟨τ6, e6, S6⟩ := fiS_1043455 1 (by decide) (by decide) m τ5 H S5
    obtain ⟨τ7, e7, S7⟩ := fiS_4173823 1 (by decide) m τ6 H S6
    obtain ⟨τ8, e8, S8⟩ := fiS_16695295 1 (by decide) (by decide) m τ7 H S7
    obtain ⟨τ9, e9, S9⟩ := fiS_66781183 1 (by decide) (by decide) m τ8 H S8
    obtain ⟨τ', e⟩ := fiE 1 (by decide) m τ9 H S9
    exact ⟨_, τ', H, Kp.refl H, by rw [e1, e2, e3, e4, e5, e6, e7, e8, e9, e], .inr ⟨rfl, by simp [frY]⟩⟩
  · obtain ⟨τ1, e1, S1⟩ := fiS_1018 2 (by decide) m τ H S
    obtain ⟨τ', H', kk, e, g⟩ := fiF_2 hA m τ1 S1 hr c4 hK
    exact ⟨_, τ', H', kk, by rw [e1, e], .inl ⟨rfl, by simpa [frY] using g⟩⟩
  · obtain ⟨τ1, e1, S1⟩ := fiS_1018 4 (by decide) m τ H S
    obtain ⟨τ2, e2, S2⟩ := fiS_4075 4 (by decide) m τ1 H S1
    obtain ⟨τ3, e3, S3⟩ := fiS_16303 4 (by decide) m τ2 H S2
    obtain ⟨τ4, e4, S4⟩ := fiS_65215 4 (by decide) m τ3 H S3
    obtain ⟨τ5, e5, S5⟩ := fiS_260863 4 (by decide) m τ4 H S4
    obtain ⟨τ6, e6, S6⟩ := fiS_1043455 4 (by decide) (by decide) m τ5 H S5
    obtain ⟨τ7, e7, S7⟩ := fiS_4173823 4 (by decide) m τ6 H S6
    obtain ⟨τ8, e8, S8⟩ := fiS_16695295 4 (by decide) (by decide) m τ7 H S7
    obtain ⟨τ9, e9, S9⟩ := fiS_66781183 4 (by decide) (by decide) m τ8 H S8
    obtain ⟨τ', e⟩ := fiE 4 (by decide) m τ9 H S9
    exact ⟨_, τ', H, Kp.refl H, by rw [e1, e2, e3, e4, e5, e6, e7, e8, e9, e], .inr ⟨rfl, by simp [frY]⟩⟩
  · obtain ⟨τ1, e1, S1⟩ := fiS_1018 5 (by decide) m τ H S
    obtain ⟨τ2, e2, S2⟩ := fiS_4075 5 (by decide) m τ1 H S1
    obtain ⟨τ3, e3, S3⟩ := fiS_16303 5 (by decide) m τ2 H S2
    obtain ⟨τ4, e4, S4⟩ := fiS_65215 5 (by decide) m τ3 H S3
    obtain ⟨τ5, e5, S5⟩ := fiS_260863 5 (by decide) m τ4 H S4
    obtain ⟨τ6, e6, S6⟩ := fiS_1043455 5 (by decide) (by decide) m τ5 H S5
    obtain ⟨τ7, e7, S7⟩ := fiS_4173823 5 (by decide) m τ6 H S6
    obtain ⟨τ8, e8, S8⟩ := fiS_16695295 5 (by decide) (by decide) m τ7 H S7
    obtain ⟨τ9, e9, S9⟩ := fiS_66781183 5 (by decide) (by decide) m τ8 H S8
    obtain ⟨τ', e⟩ := fiE 5 (by decide) m τ9 H S9
    exact ⟨_, τ', H, Kp.refl H, by rw [e1, e2, e3, e4, e5, e6, e7, e8, e9, e], .inr ⟨rfl, by simp [frY]⟩⟩
  · obtain ⟨τ1, e1, S1⟩ := fiS_1018 6 (by decide) m τ H S
    obtain ⟨τ2, e2, S2⟩ := fiS_4075 6 (by decide) m τ1 H S1
    obtain ⟨τ', e, g⟩ := fiF_6 hA m τ2 S2 hl
    exact ⟨_, τ', H, Kp.refl H, by rw [e1, e2, e], .inl ⟨rfl, by simpa [frY] using g⟩⟩
  · obtain ⟨τ1, e1, S1⟩ := fiS_1018 7 (by decide) m τ H S
    obtain ⟨τ2, e2, S2⟩ := fiS_4075 7 (by decide) m τ1 H S1
    obtain ⟨τ3, e3, S3⟩ := fiS_16303 7 (by decide) m τ2 H S2
    obtain ⟨τ', e, g⟩ := fiF_7 hA m τ3 S3 hl
    exact ⟨_, τ', H, Kp.refl H, by rw [e1, e2, e3, e], .inl ⟨rfl, by simpa [frY] using g⟩⟩
  · obtain ⟨τ1, e1, S1⟩ := fiS_1018 8 (by decide) m τ H S
    obtain ⟨τ2, e2, S2⟩ := fiS_4075 8 (by decide) m τ1 H S1
    obtain ⟨τ3, e3, S3⟩ := fiS_16303 8 (by decide) m τ2 H S2
    obtain ⟨τ4, e4, S4⟩ := fiS_65215 8 (by decide) m τ3 H S3
    obtain ⟨τ', e, g⟩ := fiF_8 hA m τ4 S4 hl
    exact ⟨_, τ', H, Kp.refl H, by rw [e1, e2, e3, e4, e], .inl ⟨rfl, by simpa [frY] using g⟩⟩
  · obtain ⟨τ1, e1, S1⟩ := fiS_1018 16 (by decide) m τ H S
    obtain ⟨τ2, e2, S2⟩ := fiS_4075 16 (by decide) m τ1 H S1
    obtain ⟨τ3, e3, S3⟩ := fiS_16303 16 (by decide) m τ2 H S2
    obtain ⟨τ4, e4, S4⟩ := fiS_65215 16 (by decide) m τ3 H S3
    obtain ⟨τ5, e5, S5⟩ := fiS_260863 16 (by decide) m τ4 H S4
    obtain ⟨τ6, e6, S6⟩ := fiS_1043455 16 (by decide) (by decide) m τ5 H S5
    obtain ⟨τ7, e7, S7⟩ := fiS_4173823 16 (by decide) m τ6 H S6
    obtain ⟨τ8, e8, S8⟩ := fiS_16695295 16 (by decide) (by decide) m τ7 H S7
    obtain ⟨τ9, e9, S9⟩ := fiS_66781183 16 (by decide) (by decide) m τ8 H S8
    obtain ⟨τ', e⟩ := fiE 16 (by decide) m τ9 H S9
    exact ⟨_, τ', H, Kp.refl H, by rw [e1, e2, e3, e4, e5, e6, e7, e8, e9, e], .inr ⟨rfl, by simp [frY]⟩⟩
  · obtain ⟨τ1, e1, S1⟩ := fiS_1018 17 (by decide) m τ H S
    obtain ⟨τ2, e2, S2⟩ := fiS_4075 17 (by decide) m τ1 H S1
    obtain ⟨τ3, e3, S3⟩ := fiS_16303 17 (by decide) m τ2 H S2
    obtain ⟨τ4, e4, S4⟩ := fiS_65215 17 (by decide) m τ3 H S3
    obtain ⟨τ5, e5, S5⟩ := fiS_260863 17 (by decide) m τ4 H S4
    obtain ⟨τ6, e6, S6⟩ := fiS_1043455 17 (by decide) (by decide) m τ5 H S5
    obtain ⟨τ7, e7, S7⟩ := fiS_4173823 17 (by decide) m τ6 H S6
    obtain ⟨τ8, e8, S8⟩ := fiS_16695295 17 (by decide) (by decide) m τ7 H S7
    obtain ⟨τ9, e9, S9⟩ := fiS_66781183 17 (by decide) (by decide) m τ8 H S8
    obtain ⟨τ', e⟩ := fiE 17 (by decide) m τ9 H S9
    exact ⟨_, τ', H, Kp.refl H, by rw [e1, e2, e3, e4, e5, e6, e7, e8, e9, e], .inr ⟨rfl, by simp [frY]⟩⟩
  · obtain ⟨τ1, e1, S1⟩ := fiS_1018 18 (by decide) m τ H S
    obtain ⟨τ2, e2, S2⟩ := fiS_4075 18 (by decide) m τ1 H S1
    obtain ⟨τ3, e3, S3⟩ := fiS_16303 18 (by decide) m τ2 H S2
    obtain ⟨τ4, e4, S4⟩ := fiS_65215 18 (by decide) m τ3 H S3
    obtain ⟨τ5, e5, S5⟩ := fiS_260863 18 (by decide) m τ4 H S4
    obtain ⟨τ', e, g⟩ := fiF_18 hA m τ5 S5 hl
    exact ⟨_, τ', H, Kp.refl H, by rw [e1, e2, e3, e4, e5, e], .inl ⟨rfl, by simpa [frY] using g⟩⟩
  · obtain ⟨τ1, e1, S1⟩ := fiS_1018 20 (by decide) m τ H S
    obtain ⟨τ2, e2, S2⟩ := fiS_4075 20 (by decide) m τ1 H S1
    obtain ⟨τ3, e3, S3⟩ := fiS_16303 20 (by decide) m τ2 H S2
    obtain ⟨τ4, e4, S4⟩ := fiS_65215 20 (by decide) m τ3 H S3
    obtain ⟨τ5, e5, S5⟩ := fiS_260863 20 (by decide) m τ4 H S4
    obtain ⟨τ6, e6, S6⟩ := fiS_1043455 20 (by decide) (by decide) m τ5 H S5
    obtain ⟨τ7, e7, S7⟩ := fiS_4173823 20 (by decide) m τ6 H S6
    obtain ⟨τ8, e8, S8⟩ := fiS_16695295 20 (by decide) (by decide) m τ7 H S7
    obtain ⟨τ9, e9, S9⟩ := fiS_66781183 20 (by decide) (by decide) m τ8 H S8
    obtain ⟨τ', e⟩ := fiE 20 (by decide) m τ9 H S9
    exact ⟨_, τ', H, Kp.refl H, by rw [e1, e2, e3, e4, e5, e6, e7, e8, e9, e], .inr ⟨rfl, by simp [frY]⟩⟩
  · obtain ⟨τ1, e1, S1⟩ := fiS_1018 21 (by decide) m τ H S
    obtain ⟨τ2, e2, S2⟩ := fiS_4075 21 (by decide) m τ1 H S1
    obtain ⟨τ3, e3, S3⟩ := fiS_16303 21 (by decide) m τ2 H S2
    obtain ⟨τ4, e4, S4⟩ := fiS_65215 21 (by decide) m τ3 H S3
    obtain ⟨τ5, e5, S5⟩ := fiS_260863 21 (by decide) m τ4 H S4
    obtain ⟨τ6, e6, S6⟩ := fiS_1043455 21 (by decide) (by decide) m τ5 H S5
    obtain ⟨τ7, e7, S7⟩ := fiS_4173823 21 (by decide) m τ6 H S6
    obtain ⟨τ8, e8, S8⟩ := fiS_16695295 21 (by decide) (by decide) m τ7 H S7
    obtain ⟨τ9, e9, S9⟩ := fiS_66781183 21 (by decide) (by decide) m τ8 H S8
    obtain ⟨τ', e⟩ := fiE 21 (by decide) m τ9 H S9
    exact ⟨_, τ', H, Kp.refl H, by rw [e1, e2, e3, e4, e5, e6, e7, e8, e9, e], .inr ⟨rfl, by simp [frY]⟩⟩
  · obtain ⟨τ1, e1, S1⟩ := fiS_1018 22 (by decide) m τ H S
    obtain ⟨τ2, e2, S2⟩ := fiS_4075 22 (by decide) m τ1 H S1
    obtain ⟨τ3, e3, S3⟩ := fiS_16303 22 (by decide) m τ2 H S2
    obtain ⟨τ4, e4, S4⟩ := fiS_65215 22 (by decide) m τ3 H S3
    obtain ⟨τ5, e5, S5⟩ := fiS_260863 22 (by decide) m τ4 H S4
    obtain ⟨τ', e, g⟩ := fiF_22 hA m τ5 S5 hl
    exact ⟨_, τ', H, Kp.refl H, by rw [e1, e2, e3, e4, e5, e], .inl ⟨rfl, by simpa [frY] using g⟩⟩
  · obtain ⟨τ1, e1, S1⟩ := fiS_1018 24 (by decide) m τ H S
    obtain ⟨τ2, e2, S2⟩ := fiS_4075 24 (by decide) m τ1 H S1
    obtain ⟨τ3, e3, S3⟩ := fiS_16303 24 (by decide) m τ2 H S2
    obtain ⟨τ4, e4, S4⟩ := fiS_65215 24 (by decide) m τ3 H S3
    obtain ⟨τ5, e5, S5⟩ := fiS_260863 24 (by decide) m τ4 H S4
    obtain ⟨τ6, e6, S6⟩ := fiS_1043455 24 (by decide) (by decide) m τ5 H S5
    obtain ⟨τ', e, g⟩ := fiF_24 ht hA m τ6 S6 hl
    exact ⟨_, τ', H, Kp.refl H, by rw [e1, e2, e3, e4, e5, e6, e], .inl ⟨rfl, by simpa [frY] using g⟩⟩
  · obtain ⟨τ1, e1, S1⟩ := fiS_1018 25 (by decide) m τ H S
    obtain ⟨τ2, e2, S2⟩ := fiS_4075 25 (by decide) m τ1 H S1
    obtain ⟨τ3, e3, S3⟩ := fiS_16303 25 (by decide) m τ2 H S2
    obtain ⟨τ4, e4, S4⟩ := fiS_65215 25 (by decide) m τ3 H S3
    obtain ⟨τ5, e5, S5⟩ := fiS_260863 25 (by decide) m τ4 H S4
    obtain ⟨τ6, e6, S6⟩ := fiS_1043455 25 (by decide) (by decide) m τ5 H S5
    obtain ⟨τ7, e7, S7⟩ := fiS_4173823 25 (by decide) m τ6 H S6
    obtain ⟨τ8, e8, S8⟩ := fiS_16695295 25 (by decide) (by decide) m τ7 H S7
    obtain ⟨τ9, e9, S9⟩ := fiS_66781183 25 (by decide) (by decide) m τ8 H S8
    obtain ⟨τ', e⟩ := fiE 25 (by decide) m τ9 H S9
    exact ⟨_, τ', H, Kp.refl H, by rw [e1, e2, e3, e4, e5, e6, e7, e8, e9, e], .inr ⟨rfl, by simp [frY]⟩⟩
  · obtain ⟨τ1, e1, S1⟩ := fiS_1018 26 (by decide) m τ H S
    obtain ⟨τ2, e2, S2⟩ := fiS_4075 26 (by decide) m τ1 H S1
    obtain ⟨τ3, e3, S3⟩ := fiS_16303 26 (by decide) m τ2 H S2
    obtain ⟨τ4, e4, S4⟩ := fiS_65215 26 (by decide) m τ3 H S3
    obtain ⟨τ5, e5, S5⟩ := fiS_260863 26 (by decide) m τ4 H S4
    obtain ⟨τ6, e6, S6⟩ := fiS_1043455 26 (by decide) (by decide) m τ5 H S5
    obtain ⟨τ7, e7, S7⟩ := fiS_4173823 26 (by decide) m τ6 H S6
    obtain ⟨τ', e, g⟩ := fiF_26 hA m τ7 S7 hl
    exact ⟨_, τ', H, Kp.refl H, by rw [e1, e2, e3, e4, e5, e6, e7, e], .inl ⟨rfl, by simpa [frY] using g⟩⟩
  · obtain ⟨τ1, e1, S1⟩ := fiS_1018 27 (by decide) m τ H S
    obtain ⟨τ2, e2, S2⟩ := fiS_4075 27 (by decide) m τ1 H S1
    obtain ⟨τ3, e3, S3⟩ := fiS_16303 27 (by decide) m τ2 H S2
    obtain ⟨τ4, e4, S4⟩ := fiS_65215 27 (by decide) m τ3 H S3
    obtain ⟨τ5, e5, S5⟩ := fiS_260863 27 (by decide) m τ4 H S4
    obtain ⟨τ6, e6, S6⟩ := fiS_1043455 27 (by decide) (by decide) m τ5 H S5
    obtain ⟨τ7, e7, S7⟩ := fiS_4173823 27 (by decide) m τ6 H S6
    obtain ⟨τ', e, g⟩ := fiF_27 hA m τ7 S7 hl
    exact ⟨_, τ', H, Kp.refl H, by rw [e1, e2, e3, e4, e5, e6, e7, e], .inl ⟨rfl, by simpa [frY] using g⟩⟩
  · obtain ⟨τ1, e1, S1⟩ := fiS_1018 28 (by decide) m τ H S
    obtain ⟨τ2, e2, S2⟩ := fiS_4075 28 (by decide) m τ1 H S1
    obtain ⟨τ3, e3, S3⟩ := fiS_16303 28 (by decide) m τ2 H S2
    obtain ⟨τ4, e4, S4⟩ := fiS_65215 28 (by decide) m τ3 H S3
    obtain ⟨τ5, e5, S5⟩ := fiS_260863 28 (by decide) m τ4 H S4
    obtain ⟨τ6, e6, S6⟩ := fiS_1043455 28 (by decide) (by decide) m τ5 H S5
    obtain ⟨τ7, e7, S7⟩ := fiS_4173823 28 (by decide) m τ6 H S6
    obtain ⟨τ8, e8, S8⟩ := fiS_16695295 28 (by decide) (by decide) m τ7 H S7
    obtain ⟨τ', e, g⟩ := fiF_28 hA m τ8 S8 hl
    exact ⟨_, τ', H, Kp.refl H, by rw [e1, e2, e3, e4, e5, e6, e7, e8, e], .inl ⟨rfl, by simpa [frY] using g⟩⟩
  · obtain ⟨τ1, e1, S1⟩ := fiS_1018 29 (by decide) m τ H S
    obtain ⟨τ2, e2, S2⟩ := fiS_4075 29 (by decide) m τ1 H S1
    obtain ⟨τ3, e3, S3⟩ := fiS_16303 29 (by decide) m τ2 H S2
    obtain ⟨τ4, e4, S4⟩ := fiS_65215 29 (by decide) m τ3 H S3
    obtain ⟨τ5, e5, S5⟩ := fiS_260863 29 (by decide) m τ4 H S4
    obtain ⟨τ6, e6, S6⟩ := fiS_1043455 29 (by decide) (by decide) m τ5 H S5
    obtain ⟨τ7, e7, S7⟩ := fiS_4173823 29 (by decide) m τ6 H S6
    obtain ⟨τ8, e8, S8⟩ := fiS_16695295 29 (by decide) (by decide) m τ7 H S7
    obtain ⟨τ', e, g⟩ := fiF_29 hA m τ8 S8 hl
    exact ⟨_, τ', H, Kp.refl H, by rw [e1, e2, e3, e4, e5, e6, e7, e8, e], .inl ⟨rfl, by simpa [frY] using g⟩⟩
  · obtain ⟨τ1, e1, S1⟩ := fiS_1018 30 (by decide) m τ H S
    obtain ⟨τ2, e2, S2⟩ := fiS_4075 30 (by decide) m τ1 H S1
    obtain ⟨τ3, e3, S3⟩ := fiS_16303 30 (by decide) m τ2 H S2
    obtain ⟨τ4, e4, S4⟩ := fiS_65215 30 (by decide) m τ3 H S3
    obtain ⟨τ5, e5, S5⟩ := fiS_260863 30 (by decide) m τ4 H S4
    obtain ⟨τ6, e6, S6⟩ := fiS_1043455 30 (by decide) (by decide) m τ5 H S5
    obtain ⟨τ7, e7, S7⟩ := fiS_4173823 30 (by decide) m τ6 H S6
    obtain ⟨τ8, e8, S8⟩ := fiS_16695295 30 (by decide) (by decide) m τ7 H S7
    obtain ⟨τ9, e9, S9⟩ := fiS_66781183 30 (by decide) (by decide) m τ8 H S8
    obtain ⟨τ', e⟩ := fiE 30 (by decide) m τ9 H S9
    exact ⟨_, τ', H, Kp.refl H, by rw [e1, e2, e3, e4, e5, e6, e7, e8, e9, e], .inr ⟨rfl, by simp [frY]⟩⟩
  · obtain ⟨τ1, e1, S1⟩ := fiS_1018 48 (by decide) m τ H S
    obtain ⟨τ2, e2, S2⟩ := fiS_4075 48 (by decide) m τ1 H S1
    obtain ⟨τ3, e3, S3⟩ := fiS_16303 48 (by decide) m τ2 H S2
    obtain ⟨τ4, e4, S4⟩ := fiS_65215 48 (by decide) m τ3 H S3
    obtain ⟨τ5, e5, S5⟩ := fiS_260863 48 (by decide) m τ4 H S4
    obtain ⟨τ6, e6, S6⟩ := fiS_1043455 48 (by decide) (by decide) m τ5 H S5
    obtain ⟨τ7, e7, S7⟩ := fiS_4173823 48 (by decide) m τ6 H S6
    obtain ⟨τ8, e8, S8⟩ := fiS_16695295 48 (by decide) (by decide) m τ7 H S7
    obtain ⟨τ9, e9, S9⟩ := fiS_66781183 48 (by decide) (by decide) m τ8 H S8
    obtain ⟨τ', e, g⟩ := fiF_48 hA m τ9 S9 hl
    exact ⟨_, τ', H, Kp.refl H, by rw [e1, e2, e3, e4, e5, e6, e7, e8, e9, e], .inl ⟨rfl, by simpa [frY] using g⟩⟩
theorem rgOK_nil {rs : List (Int × Int)} (h : rs.length = 0) : rgOK rs := by
  have : rs = [] := List.length_eq_zero_iff.1 h
  subst this; exact ⟨by simp, trivial⟩
theorem frI (k a b c : Int) (fin : Bool) (dl tl : Nat) (rs : List (Int × Int)) (hk : kindIn k) :
    frOK k a b c fin dl tl rs ↔ (inV a ∧ inV b ∧ inV c) ∧ shP ((shapeL.lookup k).getD shN) a b fin dl tl rs.length ∧ (c = 0 ∨ k = 4) ∧ frY k a b dl tl rs := by
  have hn := rgOK_nil (rs := rs)
  simp only [kindIn] at hk
  rcases hk with rfl | rfl | rfl | rfl | rfl | rfl | rfl | rfl | rfl | rfl | rfl | rfl | rfl | rfl | rfl | rfl | rfl | rfl | rfl | rfl | rfl | rfl
  all_goals
    have hn2 : rs = [] → rgOK rs := fun h => hn (by simp [h])
    simp [frOK, shP, frY, frX, usesL, shapeL, fldOK, List.lookup_cons]
    grind
theorem FrameOKI_ev {rw : Bool} {Hb H : AH} {k a b c : Int} {fin : Bool} {d t r : AV} {dl tl : Nat} {rs : List (Int × Int)} {bs : List Nat} (hr : (Ty.sl 94 tT94).R rw Hb [r] rs bs) (hK : Kp Hb H)
    (hd : ∀ h, lenA Try.prog 34 d h = some (.int .i64 dl)) (ht : ∀ h, lenA Try.prog 34 t h = some (.int .i64 tl)) (od : d.one = true) (ot : t.one = true) (hdl : dl ≤ 1048576) (hrl : rs.length ≤ 1048576) (m : Nat) (hm : 75 ≤ m) :
    ∃ H', ev Try.prog m 50 [.agg (frC k a b c fin d t r)] H = some (.bool (decide (frOK k a b c fin dl tl rs)), H') ∧ Kp H H' := by
  obtain ⟨m, rfl⟩ : ∃ k, m = k + 1 := ⟨m - 1, by omega⟩
  have hrl' := Ty.R.lenA hr (P := Try.prog) (T := 70) (by simp)
  have or_ : r.one = true := hr.sl_one
  rw [ev_M Try.func50 ok50 [7] m _ H (by simp [Try.f50, frC])]
  have k0 : Kp H (H.push (.cells 72 false (frC k a b c fin d t r))) := (Kp.refl H).push _
  obtain ⟨H1, e1, k1⟩ := shapeOf_ev k (H.push (.cells 72 false (frC k a b c fin d t r))) m (by omega)
  simp only [frC] at e1
  have n1 := k1.next
  simp at n1
  obtain ⟨sok, hsok⟩ : ∃ x, x = (shapeL.lookup k).isSome := ⟨_, rfl⟩
  obtain ⟨sh, hsh⟩ : ∃ x, x = (shapeL.lookup k).getD shN := ⟨_, rfl⟩
  rw [← hsok, ← hsh] at e1
  simp only [shC] at e1
  simp (disch := omega) [Try.f50, tm0, frC, od, ot, or_, e1, fillA, stVar, spl, ldVar]
  generalize hτ : upd _ 4 _ = τ1
  generalize hX : AH.push _ _ = X1
  have T1 : FiT τ1 H.next H1.next := ⟨by rw [← hτ]; simp, by rw [← hτ]; simp⟩
  have t4 : τ1 4 = .bool sok := by rw [← hτ]; simp
  have kX : Kp (H.push (.cells 72 false (frC k a b c fin d t r))) X1 := by rw [← hX]; exact k1.push _
  have hA : X1.get H.next = some (.cells 72 false (frC k a b c fin d t r)) := by rw [kX.get _ (by simp)]; simp
  have hB : X1.get H1.next = some (.cells 197 false (shL sh)) := by rw [← hX]; simp [shL]
  have kH := k0.trans kX
  have nX := kX.next
  simp at nX
  obtain ⟨τ2, g | g⟩ := fi0 hA m (by omega) τ1 T1 t4
  · obtain ⟨⟨p0, p1, p2, p3⟩, e2, T2⟩ := g
    have hk : kindIn k := by
      by_cases hk : kindIn k
      · exact hk
      · rw [shape_not hk] at hsok; rw [hsok] at p0; simp at p0
    rw [hsh] at hB
    have hI := frI k a b c fin dl tl rs hk
    obtain ⟨τ3, g | g⟩ := fi1 hk hA hB m hd ht hrl' τ2 T2
    · obtain ⟨q1, e3, T3⟩ := g
      obtain ⟨τ4, g | g⟩ := fi2 hA m hd τ3 T3
      · obtain ⟨q2, e4, T4, t5⟩ := g
        obtain ⟨H2, e5, k5⟩ := rangesOK_ev (H := X1) hr (hK.trans kH) hrl m (by omega)
        have hY : ∃ τ' H', Kp X1 H' ∧ evAt Try.prog (ev Try.prog m) m 50 127 τ4 X1 = some (.ret, τ', H') ∧ τ' 2 = .bool (decide (frY k a b dl tl rs)) := by
          obtain ⟨s1, s3⟩ := T4
          rw [at_M Try.func50 127 (by decide) 7 (by decide) (by kernel_rfl) [1018]]
          have hA' := hA
          simp only [frC] at hA'
          simp [Try.f50, s1, s3, t5, hA', ldVar]
          obtain ⟨e, τ', H', kk, ee, g⟩ := fiY hk hA m (upd (upd τ4 108 (AV.ptr H.next 0)) 109 (AV.int .i64 k)) ⟨by simp [s1], by simp [t5], by simp⟩ hdl ht hrl' e5 k5
          rcases g with ⟨rfl, g⟩ | ⟨rfl, g⟩
          · exact ⟨τ', H', kk, by simp [ee], g⟩
          · exact ⟨_, H', kk, by simp [ee]; rfl, by simp [g]⟩
        obtain ⟨τ5, H5, k6, e6, t6⟩ := hY
        refine ⟨H5, ?_, kH.trans k6⟩
        rw [e2, e3, e4, e6]
        have : frOK k a b c fin dl tl rs ↔ frY k a b dl tl rs := by rw [hI]; exact ⟨fun h => h.2.2.2, fun h => ⟨⟨p1, p2, p3⟩, q1, q2, h⟩⟩
        simp [t6, this]
      · obtain ⟨q, e4, t⟩ := g
        refine ⟨X1, ?_, kH⟩
        have : ¬ frOK k a b c fin dl tl rs := fun h => q (hI.1 h).2.2.1
        rw [e2, e3, e4]
        simp [t, this]
    · obtain ⟨q, e3, t⟩ := g
      refine ⟨X1, ?_, kH⟩
      have : ¬ frOK k a b c fin dl tl rs := fun h => q (hI.1 h).2.1
      rw [e2, e3]
      simp [t, this]
  · obtain ⟨q, e2, t⟩ := g
    refine ⟨X1, ?_, kH⟩
    have : ¬ frOK k a b c fin dl tl rs := fun h => q ⟨by
      rw [hsok]
      by_cases hk : kindIn k
      · simp only [kindIn] at hk
        rcases hk with rfl | rfl | rfl | rfl | rfl | rfl | rfl | rfl | rfl | rfl | rfl | rfl | rfl | rfl | rfl | rfl | rfl | rfl | rfl | rfl | rfl | rfl <;> decide
      · have := h.1.1; rw [uses_not hk] at this; simp at this, h.1.2.1, h.1.2.2.1, h.1.2.2.2.1⟩
    rw [e2]
    simp [t, this]
end Go.Ev

/- Ranges from a number on; rows of numbers alike; an acknowledgement of ranges, and what it acknowledges. -/
namespace Go.Ev
open Go Go.Proofs
set_option linter.unusedSimpArgs false
set_option linter.unusedVariables false

def frR (N : Int) : List Rg → List Rg
  | [] => []
  | r :: l => (if N ≤ r.2 then [(max r.1 N, r.2)] else []) ++ frR N l
theorem frR_app (N : Int) (l l' : List Rg) : frR N (l ++ l') = frR N l ++ frR N l' := by
  induction l with
  | nil => simp [frR]
  | cons r l ih => simp only [List.cons_append, frR, ih, List.append_assoc]
theorem frR_len (N : Int) : ∀ (l : List Rg), (frR N l).length ≤ l.length
  | [] => by simp [frR]
  | r :: l => by have := frR_len N l; simp only [frR]; split <;> simp <;> omega
structure RfI (L : List Rg) (N : Int) (r : AV) (H1 : AH) (k : Nat) (τ : Tm) (h : AH) (v6 : AV) (b6 : List Nat) : Prop where
  t1 : τ 1 = .int .i64 N
  t6 : τ 6 = v6
  t18 : τ 18 = r
  t19 : τ 19 = .int .i64 L.length
  t20 : τ 20 = .int .i64 k
  R : (Ty.sl 94 tT94).R true h [v6] (frR N (L.take k)) b6
  nd : b6.Nodup
  lo : ∀ b ∈ b6, H1.next ≤ b
  K : Kp H1 h
def RfL (L : List Rg) (N : Int) (r : AV) (H1 : AH) (d : Nat) (τ : Tm) (h : AH) : Prop := ∃ (k : Nat) (v6 : AV) (b6 : List Nat), k + d = L.length ∧ RfI L N r H1 k τ h v6 b6
set_option maxRecDepth 20000 in
theorem RangesFrom_ev {rw : Bool} {Hb H : AH} {r : AV} {L : List Rg} {N : Int} {bs : List Nat} (hr : (Ty.sl 94 tT94).R rw Hb [r] L bs) (hK : Kp Hb H) (hL : rgOK L) (hN : inV N) (m : Nat) (hm : 80 ≤ m) :
    ∃ v' H' b', ev Try.prog m 63 [r, .int .i64 N] H = some (.tuple [v', .int .i64 0], H') ∧ (Ty.sl 94 tT94).R true H' [v'] (frR N L) b' ∧ Kp H H' := by
  obtain ⟨m, rfl⟩ : ∃ k, m = k + 1 := ⟨m - 1, by omega⟩
  have hl := hL.1
  have hi := rgL_in hL.2
  obtain ⟨H1, a1, a2⟩ := rangesOK_ev hr hK (by omega) m (by omega)
  have a3 := inVar_ev N H1 m (by omega)
  have L1 := Ty.R.lenA hr (P := Try.prog) (T := 70) (by simp)
  let A : AH := H1.push (.cells 94 false [])
  have hA : H1.push (.cells 94 false []) = A := rfl
  have KA : Kp H1 A := (Kp.refl H1).push _
  have nA : A.next = H1.next + 1 := by simp [A]
  have eA : (Ty.sl 94 tT94).R true A [.slice H1.next 0 0] [] [H1.next] := empty94 (by omega) (by simp [A])
  clear_value A
  rw [ev_M Try.func63 ok63 [] _ _ H (by simp [Try.f63])]
  simp [Try.f63, tm0, L1, a1, a3, hL, hN, hA, fillA, zerosA]
  generalize hLo : evLoop _ _ _ _ _ _ = R
  obtain ⟨e, τ', H', rfl, rfl, k, v6, b6, hk, X⟩ := loop_at hLo (loop_rule (d := L.length) (RfL L N r H1) (fun e τ h => e = .exit 0 ∧ RfL L N r H1 0 τ h) (by
    rintro d τ h ⟨k, v6, b6, hk, t1, t6, t18, t19, t20, R, nd, hlo, K⟩
    rw [lp_M Try.func63 122 (by decide) 7 (by decide) (by kernel_rfl) []]
    by_cases hd0 : d = 0
    · subst hd0
      have hkl : ¬ ((k : Int) < L.length) := by omega
      simp [Try.f63, t19, t20, hkl]
      exact ⟨k, v6, b6, hk, by simp [t1], by simp [t6], by simp [t18], by simp [t19], by simp [t20], R, nd, hlo, K⟩
    · have hlt : k < L.length := by omega
      have hlt' : (k : Int) < L.length := by omega
      obtain ⟨b, o, ro, xs, u1, u2, u3, u4, u5, u6, u7, i1, i2⟩ := rgAt (hr.kp ((hK.trans a2).trans K)) hlt
      have hx := hi L[k] (List.getElem_mem hlt)
      have htk : frR N (L.take (k + 1)) = frR N (L.take k) ++ (if N ≤ L[k].2 then [(max L[k].1 N, L[k].2)] else []) := by rw [List.take_succ_eq_append_getElem hlt, frR_app]; simp [frR]
      have hol := frR_len N (L.take k)
      have hbl : (L.take k).length ≤ 64 := by simp; omega
      have goal : ∀ (τ' : Tm) (h' : AH) (v5' : AV) (b5' : List Nat), RfI L N r H1 (k + 1) τ' h' v5' b5' → ∃ d', d' < d ∧ RfL L N r H1 d' τ' h' :=
        fun τ' h' v5' b5' a2 => ⟨d - 1, by omega, k + 1, v5', b5', by omega, a2⟩
      generalize L[k] = x at *
      generalize frR N (L.take k) = out at *
      obtain ⟨x1, x2⟩ := x
      simp only at *
      have hne : ¬ (b = h.next) := by omega
      have w1 : IntKind.i64.wrap ((k : Int) + 1) = ((k + 1 : Nat) : Int) := by rw [wrap_i64 (n := (k : Int) + 1) (by omega) (by omega)]; omega
      have P := (Kp.refl h).push (.cells 94 false [.int .i64 x1, .int .i64 x2])
      by_cases c : N ≤ x2
      · have hmx : (if x1 < N then N else x1) = max x1 N := by split <;> omega
        have hm : inV (max x1 N) := ⟨by have := hx.1.1; omega, by have := hx.1.2; have := hN.2; omega⟩
        obtain ⟨v', X', b', q1, q2, q3, q4, q5⟩ := ap94 (R.kp P) nd (i64V hm) i2 (by omega)
        simp only [AH.push_next] at q1
        simp [Try.f63, t1, t6, t18, t19, t20, hlt, hlt', u1, u3, u4, u5, u6, u7, hne, w1, c, hmx, q1, ldVar, stVar, spl, fillA, zerosA]
        refine goal _ _ v' b' ⟨by simp [t1], by simp, by simp [t18], by simp [t19], by simp, by rw [htk, if_pos c]; exact q2, q3, fun z hz => ?_, KoS.kp (K.trans P) q5 hlo⟩
        have := K.next; have := P.next
        rcases q4 z hz with h' | h'; exact hlo z h'; omega
      · have c' := eq_false c
        simp [Try.f63, t1, t6, t18, t19, t20, hlt, hlt', u1, u3, u4, u5, u6, u7, hne, w1, c', ldVar, stVar, spl, fillA, zerosA]
        exact goal _ _ v6 b6 ⟨by simp [t1], by simp [t6], by simp [t18], by simp [t19], by simp, by rw [htk, if_neg c, List.append_nil]; exact R.kp P, nd, hlo, K.trans P⟩) ⟨0, .slice H1.next 0 0, [H1.next], by simp, by simp, by simp, by simp, by simp, by simp, by simpa [frR] using eA, by simp, by simp, KA⟩ (by omega))
  have R3 := X.R
  rw [List.take_of_length_le (by omega)] at R3
  have t6 := X.t6
  exact ⟨v6, H', by simp [Try.f63, t6], ⟨b6, R3⟩, a2.trans X.K⟩
/-! rows of numbers -/
theorem intAt {rw : Bool} {H : AH} {r : AV} {l : List Int} {bs : List Nat} (hr : (Ty.sl 3 (.int .i64)).R rw H [r] l bs) {k : Nat} (hk : k < l.length) :
    ∃ b o ro xs, idxA Try.prog 60 r (.int .i64 k) = some (.ptr b o) ∧ b < H.next ∧ H.get b = some (.cells 3 ro xs) ∧ xs[o]? = some (.int .i64 l[k]) := by
  obtain ⟨b, o, ro, x1, c, x2, bk, u1, u2, u3, u4, u5, u6, u7, u8⟩ := Ty.R.at_ hr (P := Try.prog) (T := 60) (by simp) (by simp [Ty.n]) (k := k) hk
  obtain ⟨rfl, _⟩ := u5
  subst u4
  exact ⟨b, _, ro, _, u1, u2, u3, by simp⟩
def SiI (s1 s2 : AV) (l : List Int) (H : AH) (d : Nat) (τ : Tm) (h : AH) : Prop := h = H ∧ ∃ k : Nat, k + d = l.length ∧ τ 0 = s1 ∧ τ 1 = s2 ∧ τ 5 = .int .i64 k
set_option maxRecDepth 20000 in
theorem sameInts_ev {r1 r2 : Bool} {H : AH} {s1 s2 : AV} {L : List Int} {b1 b2 : List Nat} (h1 : (Ty.sl 3 (.int .i64)).R r1 H [s1] L b1) (h2 : (Ty.sl 3 (.int .i64)).R r2 H [s2] L b2) (hl : L.length ≤ 1000000) (m : Nat) (hm : L.length + 3 ≤ m) :
    ev Try.prog m 64 [s1, s2] H = some (.bool true, H) := by
  obtain ⟨m, rfl⟩ : ∃ k, m = k + 1 := ⟨m - 1, by omega⟩
  have L1 := Ty.R.lenA h1 (P := Try.prog) (T := 60) (by simp)
  have L2 := Ty.R.lenA h2 (P := Try.prog) (T := 60) (by simp)
  rw [ev_M Try.func64 ok64 [] _ _ H (by simp [Try.f64])]
  simp [Try.f64, tm0, L1, L2]
  generalize hLo : evLoop _ _ _ _ _ _ = R
  obtain ⟨e, τ', H', rfl, rfl, rfl⟩ := loop_at hLo (loop_rule (d := L.length) (SiI s1 s2 L H) (fun e τ h => e = .exit 0 ∧ h = H) (by
    rintro d τ h ⟨rfl, k, hk, t0, t1, t5⟩
    rw [lp_M Try.func64 58 (by decide) 6 (by decide) (by kernel_rfl) []]
    by_cases hd0 : d = 0
    · subst hd0
      have hkl : ¬ ((k : Int) < L.length) := by omega
      simp [Try.f64, t0, t5, L1, hkl]
    · have hlt : k < L.length := by omega
      have hlt' : (k : Int) < L.length := by omega
      obtain ⟨b, o, ro, xs, u1, u2, u3, u4⟩ := intAt h1 hlt
      obtain ⟨b', o', ro', xs', v1, v2, v3, v4⟩ := intAt h2 hlt
      have w1 : IntKind.i64.wrap ((k : Int) + 1) = (k : Int) + 1 := wrap_i64 (n := (k : Int) + 1) (by omega) (by omega)
      simp [Try.f64, t0, t1, t5, L1, hlt, hlt', u1, u3, u4, v1, v3, v4, w1, ldVar]
      exact ⟨d - 1, by omega, rfl, k + 1, by omega, by simp [t0], by simp [t1], by simp⟩) ⟨rfl, 0, by simp, by simp, by simp, by simp⟩ (by omega))
  simp [Try.f64]
end Go.Ev
