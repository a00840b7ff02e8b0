/- Lemmas of an evaluator of the given code and of what the functions answer; no condition of its own. -/
import Derived.Test.YtnoacfilglgbgaaEv11
import Derived.Test.YtnoacfilglgbgaaEv10
/- A frame read by the program: kinds of numbers and bytes. -/
namespace Go.Ev
open Go Go.Proofs
set_option linter.unusedSimpArgs false
set_option linter.unusedVariables false
theorem countedI_len (l : List Int) (a : Nat) (c : Int) : (countedI l a c).1.length ≤ 70368744177664 ∨ 70368744177664 < l.length := by
  have := (takeI_len l (numberI l a c).2.1 (numberI l a c).2.2 (numberI l a c).1).2
  unfold countedI; omega

set_option maxRecDepth 20000 in
theorem frK_6 {Hb h : AH} {q p2 p4 a : Nat} {s : AV} {l : List Int} {c : Int} (hs : Bs Hb s l) (hb : By l) (hK : Kp Hb h) (hqb : Hb.next ≤ q) (hq : h.get q = some (scB s a c)) (hqn : q < h.next) (ha : a ≤ l.length) (hl : l.length ≤ 65536)
    (k : Int) (hk : k = 6 ∨ k = 29) (n4 : p4 ≠ q) (l4 : p4 < h.next) (b4 : Hb.next ≤ p4) (g4 : h.get p4 = some (.cells 72 false (frC k 0 0 0 false .nilSlice .nilSlice .nilSlice))) (m : Nat) (hm : 22 ≤ m) (τ : Tm) (S : FrU τ q p2 p4 k) :
    ∃ τ' H' r, evAt Try.prog (ev Try.prog m) m 126 257023 τ h = some (.normal, τ', H') ∧ FrE q p2 p4 s k h H' τ' (frC k ((numberI l a c).1) 0 0 false r .nilSlice .nilSlice) (((countedI l ((numberI l a c).2.1) ((numberI l a c).2.2)).2.1, (countedI l ((numberI l a c).2.1) ((numberI l a c).2.2)).2.2) : Nat × Int) ∧ Ow h.next H'.next H' r (countedI l ((numberI l a c).2.1) ((numberI l a c).2.2)).1 := by
  obtain ⟨⟨t0, t2, t3, t4⟩, tk⟩ := S
  have n4' : ¬ (q = p4) := fun e => n4 e.symm
  obtain ⟨H1, e1, k1, n1, g1, l1⟩ := number_ev (c := c) (a := a) hs hb hK hqb hq ha hl m (by omega)
  have kk1 := k1
  have c4 := (kk1.get p4 l4 n4).trans g4
  let A0 : AH := H1.set p4 (.cells 72 false (frC k ((numberI l a c).1) 0 0 false .nilSlice .nilSlice .nilSlice))
  have KA : Kp Hb A0 := (kk1.kp hK hqb).set b4 _
  have qA : A0.get q = some (scB s ((numberI l a c).2.1) ((numberI l a c).2.2)) := by simp only [A0]; rw [AH.set_getN _ _ (by omega)]; exact g1
  have pA : A0.get p4 = some (.cells 72 false (frC k ((numberI l a c).1) 0 0 false .nilSlice .nilSlice .nilSlice)) := by simp [A0]
  have nA : h.next ≤ A0.next := by simp only [A0, AH.set_next]; omega
  have rA : ∀ b, b < h.next → b ≠ q → b ≠ p4 → A0.get b = h.get b := fun b h0 h1 h2 => by simp only [A0]; rw [AH.set_getN _ _ h2]; exact kk1.get b h0 h1
  obtain ⟨r1, X0, x0, y0, z0, o0, q0, m0⟩ := counted_ev (H := A0) (c := ((numberI l a c).2.2)) (a := ((numberI l a c).2.1)) hs hb KA hqb qA l1 hl m (by omega)
  have hlen0 : (countedI l ((numberI l a c).2.1) ((numberI l a c).2.2)).1.length ≤ 70368744177664 := by have := countedI_len l ((numberI l a c).2.1) ((numberI l a c).2.2); omega
  obtain ⟨r, Z0, f0, j0, d0⟩ := copied_ev o0 (y0.kp KA hqb) hlen0 m (by omega)
  have nz0 := j0.next
  have lp0 : p4 < A0.next := by omega
  have lq0 : q < A0.next := by omega
  have cp0 : Z0.get p4 = some (.cells 72 false (frC k ((numberI l a c).1) 0 0 false .nilSlice .nilSlice .nilSlice)) := (j0.get p4 (by omega)).trans ((y0.get p4 lp0 n4).trans pA)
  have cq0 : Z0.get q = some (scB s ((countedI l ((numberI l a c).2.1) ((numberI l a c).2.2)).2.1) ((countedI l ((numberI l a c).2.1) ((numberI l a c).2.2)).2.2)) := (j0.get q (by omega)).trans q0
  have rZ0 : ∀ b, b < h.next → b ≠ q → b ≠ p4 → Z0.get b = h.get b := fun b h0 h1 h2 => (j0.get b (by omega)).trans ((y0.get b (by omega) h1).trans (rA b h0 h1 h2))
  have or0 := d0.bs.one
  have orc0 := cells_one or0
  have dd0 := d0.kx ((Kx.refl p4 Z0).set (.cells 72 false (frC k ((numberI l a c).1) 0 0 false r .nilSlice .nilSlice))) (.inl (by omega))
  simp only [frC, A0] at c4 x0 cp0 f0 dd0 ⊢
  rw [at_M Try.func126 257023 (by decide) 18 (by decide) (by kernel_rfl) [1028095]]
  rcases hk with rfl | rfl
  all_goals
    refine ⟨_, _, r, by simp [Try.f126, tk, t0, t4, e1, c4, x0, f0, cp0, or0, orc0, stVar, spl]; first | exact ⟨rfl, rfl⟩ | rfl, ⟨⟨by simp [t0], by simp [t2], by simp [t3], by simp [t4]⟩, by simp, by simp [n4', cq0], by simp <;> omega, fun b h0 h1 h2 => ?_⟩, Ow.wide dd0 (by omega) (by simp) (by simp)⟩
    simp [h2]; exact rZ0 b h0 h1 h2

set_option maxRecDepth 20000 in
theorem frK_28 {Hb h : AH} {q p2 p4 a : Nat} {s : AV} {l : List Int} {c : Int} (hs : Bs Hb s l) (hb : By l) (hK : Kp Hb h) (hqb : Hb.next ≤ q) (hq : h.get q = some (scB s a c)) (hqn : q < h.next) (ha : a ≤ l.length) (hl : l.length ≤ 65536)
    (n4 : p4 ≠ q) (l4 : p4 < h.next) (b4 : Hb.next ≤ p4) (g4 : h.get p4 = some (.cells 72 false (frC 28 0 0 0 false .nilSlice .nilSlice .nilSlice))) (m : Nat) (hm : 22 ≤ m) (τ : Tm) (S : FrU τ q p2 p4 28) :
    ∃ τ' H' r, evAt Try.prog (ev Try.prog m) m 126 16844324863 τ h = some (.normal, τ', H') ∧ FrE q p2 p4 s 28 h H' τ' (frC 28 ((numberI l a c).1) ((numberI l ((numberI l a c).2.1) ((numberI l a c).2.2)).1) 0 false r .nilSlice .nilSlice) (((countedI l ((numberI l ((numberI l a c).2.1) ((numberI l a c).2.2)).2.1) ((numberI l ((numberI l a c).2.1) ((numberI l a c).2.2)).2.2)).2.1, (countedI l ((numberI l ((numberI l a c).2.1) ((numberI l a c).2.2)).2.1) ((numberI l ((numberI l a c).2.1) ((numberI l a c).2.2)).2.2)).2.2) : Nat × Int) ∧ Ow h.next H'.next H' r (countedI l ((numberI l ((numberI l a c).2.1) ((numberI l a c).2.2)).2.1) ((numberI l ((numberI l a c).2.1) ((numberI l a c).2.2)).2.2)).1 := by
  obtain ⟨⟨t0, t2, t3, t4⟩, tk⟩ := S
  have n4' : ¬ (q = p4) := fun e => n4 e.symm
  obtain ⟨H1, e1, k1, n1, g1, l1⟩ := number_ev (c := c) (a := a) hs hb hK hqb hq ha hl m (by omega)
  have kk1 := k1
  obtain ⟨H2, e2, k2, n2, g2, l2⟩ := number_ev (c := (numberI l a c).2.2) (a := (numberI l a c).2.1) hs hb (kk1.kp hK hqb) hqb g1 l1 hl m (by omega)
  have kk2 := kk1.trans k2
  have c4 := (kk2.get p4 l4 n4).trans g4
  let A0 : AH := H2.set p4 (.cells 72 false (frC 28 ((numberI l a c).1) ((numberI l ((numberI l a c).2.1) ((numberI l a c).2.2)).1) 0 false .nilSlice .nilSlice .nilSlice))
  have KA : Kp Hb A0 := (kk2.kp hK hqb).set b4 _
  have qA : A0.get q = some (scB s ((numberI l ((numberI l a c).2.1) ((numberI l a c).2.2)).2.1) ((numberI l ((numberI l a c).2.1) ((numberI l a c).2.2)).2.2)) := by simp only [A0]; rw [AH.set_getN _ _ (by omega)]; exact g2
  have pA : A0.get p4 = some (.cells 72 false (frC 28 ((numberI l a c).1) ((numberI l ((numberI l a c).2.1) ((numberI l a c).2.2)).1) 0 false .nilSlice .nilSlice .nilSlice)) := by simp [A0]
  have nA : h.next ≤ A0.next := by simp only [A0, AH.set_next]; omega
  have rA : ∀ b, b < h.next → b ≠ q → b ≠ p4 → A0.get b = h.get b := fun b h0 h1 h2 => by simp only [A0]; rw [AH.set_getN _ _ h2]; exact kk2.get b h0 h1
  obtain ⟨r1, X0, x0, y0, z0, o0, q0, m0⟩ := counted_ev (H := A0) (c := ((numberI l ((numberI l a c).2.1) ((numberI l a c).2.2)).2.2)) (a := ((numberI l ((numberI l a c).2.1) ((numberI l a c).2.2)).2.1)) hs hb KA hqb qA l2 hl m (by omega)
  have hlen0 : (countedI l ((numberI l ((numberI l a c).2.1) ((numberI l a c).2.2)).2.1) ((numberI l ((numberI l a c).2.1) ((numberI l a c).2.2)).2.2)).1.length ≤ 70368744177664 := by have := countedI_len l ((numberI l ((numberI l a c).2.1) ((numberI l a c).2.2)).2.1) ((numberI l ((numberI l a c).2.1) ((numberI l a c).2.2)).2.2); omega
  obtain ⟨r, Z0, f0, j0, d0⟩ := copied_ev o0 (y0.kp KA hqb) hlen0 m (by omega)
  have nz0 := j0.next
  have lp0 : p4 < A0.next := by omega
  have lq0 : q < A0.next := by omega
  have cp0 : Z0.get p4 = some (.cells 72 false (frC 28 ((numberI l a c).1) ((numberI l ((numberI l a c).2.1) ((numberI l a c).2.2)).1) 0 false .nilSlice .nilSlice .nilSlice)) := (j0.get p4 (by omega)).trans ((y0.get p4 lp0 n4).trans pA)
  have cq0 : Z0.get q = some (scB s ((countedI l ((numberI l ((numberI l a c).2.1) ((numberI l a c).2.2)).2.1) ((numberI l ((numberI l a c).2.1) ((numberI l a c).2.2)).2.2)).2.1) ((countedI l ((numberI l ((numberI l a c).2.1) ((numberI l a c).2.2)).2.1) ((numberI l ((numberI l a c).2.1) ((numberI l a c).2.2)).2.2)).2.2)) := (j0.get q (by omega)).trans q0
  have rZ0 : ∀ b, b < h.next → b ≠ q → b ≠ p4 → Z0.get b = h.get b := fun b h0 h1 h2 => (j0.get b (by omega)).trans ((y0.get b (by omega) h1).trans (rA b h0 h1 h2))
  have or0 := d0.bs.one
  have orc0 := cells_one or0
  have dd0 := d0.kx ((Kx.refl p4 Z0).set (.cells 72 false (frC 28 ((numberI l a c).1) ((numberI l ((numberI l a c).2.1) ((numberI l a c).2.2)).1) 0 false r .nilSlice .nilSlice))) (.inl (by omega))
  simp only [frC, A0] at c4 x0 cp0 f0 dd0 ⊢
  rw [at_M Try.func126 16844324863 (by decide) 34 (by decide) (by kernel_rfl) [67377299455]]
  refine ⟨_, _, r, by simp [Try.f126, tk, t0, t4, e1, e2, c4, x0, f0, cp0, or0, orc0, stVar, spl]; first | exact ⟨rfl, rfl⟩ | rfl, ⟨⟨by simp [t0], by simp [t2], by simp [t3], by simp [t4]⟩, by simp, by simp [n4', cq0], by simp <;> omega, fun b h0 h1 h2 => ?_⟩, Ow.wide dd0 (by omega) (by simp) (by simp)⟩
  simp [h2]; exact rZ0 b h0 h1 h2

set_option maxRecDepth 20000 in
theorem frK_26 {Hb h : AH} {q p2 p4 a : Nat} {s : AV} {l : List Int} {c : Int} (hs : Bs Hb s l) (hb : By l) (hK : Kp Hb h) (hqb : Hb.next ≤ q) (hq : h.get q = some (scB s a c)) (hqn : q < h.next) (ha : a ≤ l.length) (hl : l.length ≤ 65536)
    (k : Int) (hk : k = 26 ∨ k = 27) (n4 : p4 ≠ q) (l4 : p4 < h.next) (b4 : Hb.next ≤ p4) (g4 : h.get p4 = some (.cells 72 false (frC k 0 0 0 false .nilSlice .nilSlice .nilSlice))) (m : Nat) (hm : 22 ≤ m) (τ : Tm) (S : FrU τ q p2 p4 k) :
    ∃ τ' H' r, evAt Try.prog (ev Try.prog m) m 126 4211081215 τ h = some (.normal, τ', H') ∧ FrE q p2 p4 s k h H' τ' (frC k 0 0 0 false r .nilSlice .nilSlice) (((takeI l a c 8).2.1, (takeI l a c 8).2.2) : Nat × Int) ∧ Ow h.next H'.next H' r (takeI l a c 8).1 := by
  obtain ⟨⟨t0, t2, t3, t4⟩, tk⟩ := S
  have n4' : ¬ (q = p4) := fun e => n4 e.symm
  have KA := hK
  have qA := hq
  have pA := g4
  have nA : h.next ≤ h.next := Nat.le_refl _
  have rA : ∀ b, b < h.next → b ≠ q → b ≠ p4 → h.get b = h.get b := fun b h0 h1 h2 => rfl
  obtain ⟨r1, X0, x0, y0, z0, o0, q0, m0⟩ := take_ev (H := h) (c := c) (a := a) hs KA hqb qA ha hl 8 (by omega) m (by omega)
  have hlen0 : (takeI l a c 8).1.length ≤ 70368744177664 := by have := (takeI_len l a c 8).2; omega
  obtain ⟨r, Z0, f0, j0, d0⟩ := copied_ev o0 (y0.kp KA hqb) hlen0 m (by omega)
  have nz0 := j0.next
  have lp0 : p4 < h.next := by omega
  have lq0 : q < h.next := by omega
  have cp0 : Z0.get p4 = some (.cells 72 false (frC k 0 0 0 false .nilSlice .nilSlice .nilSlice)) := (j0.get p4 (by omega)).trans ((y0.get p4 lp0 n4).trans pA)
  have cq0 : Z0.get q = some (scB s ((takeI l a c 8).2.1) ((takeI l a c 8).2.2)) := (j0.get q (by omega)).trans q0
  have rZ0 : ∀ b, b < h.next → b ≠ q → b ≠ p4 → Z0.get b = h.get b := fun b h0 h1 h2 => (j0.get b (by omega)).trans ((y0.get b (by omega) h1).trans (rA b h0 h1 h2))
  have or0 := d0.bs.one
  have orc0 := cells_one or0
  have dd0 := d0.kx ((Kx.refl p4 Z0).set (.cells 72 false (frC k 0 0 0 false r .nilSlice .nilSlice))) (.inl (by omega))
  simp only [frC] at g4 x0 cp0 f0 dd0 ⊢
  rw [at_M Try.func126 4211081215 (by decide) 32 (by decide) (by kernel_rfl) [16844324863]]
  rcases hk with rfl | rfl
  all_goals
    refine ⟨_, _, r, by simp [Try.f126, tk, t0, t4, g4, x0, f0, cp0, or0, orc0, stVar, spl]; first | exact ⟨rfl, rfl⟩ | rfl, ⟨⟨by simp [t0], by simp [t2], by simp [t3], by simp [t4]⟩, by simp, by simp [n4', cq0], by simp <;> omega, fun b h0 h1 h2 => ?_⟩, Ow.wide dd0 (by omega) (by simp) (by simp)⟩
    simp [h2]; exact rZ0 b h0 h1 h2

set_option maxRecDepth 20000 in
theorem frK_49 {Hb h : AH} {q p2 p4 a : Nat} {s : AV} {l : List Int} {c : Int} (hs : Bs Hb s l) (hb : By l) (hK : Kp Hb h) (hqb : Hb.next ≤ q) (hq : h.get q = some (scB s a c)) (hqn : q < h.next) (ha : a ≤ l.length) (hl : l.length ≤ 65536)
    (n4 : p4 ≠ q) (l4 : p4 < h.next) (b4 : Hb.next ≤ p4) (g4 : h.get p4 = some (.cells 72 false (frC 49 0 0 0 false .nilSlice .nilSlice .nilSlice))) (m : Nat) (hm : 22 ≤ m) (τ : Tm) (S : FrU τ q p2 p4 49) :
    ∃ τ' H' r, evAt Try.prog (ev Try.prog m) m 126 269509197823 τ h = some (.normal, τ', H') ∧ FrE q p2 p4 s 49 h H' τ' (frC 48 0 0 0 false r .nilSlice .nilSlice) (((countedI l a c).2.1, (countedI l a c).2.2) : Nat × Int) ∧ Ow h.next H'.next H' r (countedI l a c).1 := by
  obtain ⟨⟨t0, t2, t3, t4⟩, tk⟩ := S
  have n4' : ¬ (q = p4) := fun e => n4 e.symm
  let A0 : AH := h.set p4 (.cells 72 false (frC 48 0 0 0 false .nilSlice .nilSlice .nilSlice))
  have KA : Kp Hb A0 := hK.set b4 _
  have qA : A0.get q = some (scB s a c) := by simp only [A0]; rw [AH.set_getN _ _ (by omega)]; exact hq
  have pA : A0.get p4 = some (.cells 72 false (frC 48 0 0 0 false .nilSlice .nilSlice .nilSlice)) := by simp [A0]
  have nA : h.next ≤ A0.next := by simp only [A0, AH.set_next]; omega
  have rA : ∀ b, b < h.next → b ≠ q → b ≠ p4 → A0.get b = h.get b := fun b h0 h1 h2 => by simp only [A0]; rw [AH.set_getN _ _ h2]; skip
  obtain ⟨r1, X0, x0, y0, z0, o0, q0, m0⟩ := counted_ev (H := A0) (c := c) (a := a) hs hb KA hqb qA ha hl m (by omega)
  have hlen0 : (countedI l a c).1.length ≤ 70368744177664 := by have := countedI_len l a c; omega
  obtain ⟨r, Z0, f0, j0, d0⟩ := copied_ev o0 (y0.kp KA hqb) hlen0 m (by omega)
  have nz0 := j0.next
  have lp0 : p4 < A0.next := by omega
  have lq0 : q < A0.next := by omega
  have cp0 : Z0.get p4 = some (.cells 72 false (frC 48 0 0 0 false .nilSlice .nilSlice .nilSlice)) := (j0.get p4 (by omega)).trans ((y0.get p4 lp0 n4).trans pA)
  have cq0 : Z0.get q = some (scB s ((countedI l a c).2.1) ((countedI l a c).2.2)) := (j0.get q (by omega)).trans q0
  have rZ0 : ∀ b, b < h.next → b ≠ q → b ≠ p4 → Z0.get b = h.get b := fun b h0 h1 h2 => (j0.get b (by omega)).trans ((y0.get b (by omega) h1).trans (rA b h0 h1 h2))
  have or0 := d0.bs.one
  have orc0 := cells_one or0
  have dd0 := d0.kx ((Kx.refl p4 Z0).set (.cells 72 false (frC 48 0 0 0 false r .nilSlice .nilSlice))) (.inl (by omega))
  simp only [frC, A0] at g4 x0 cp0 f0 dd0 ⊢
  rw [at_M Try.func126 269509197823 (by decide) 38 (by decide) (by kernel_rfl) []]
  refine ⟨_, _, r, by simp [Try.f126, tk, t0, t4, g4, x0, f0, cp0, or0, orc0, stVar, spl]; first | exact ⟨rfl, rfl⟩ | rfl, ⟨⟨by simp [t0], by simp [t2], by simp [t3], by simp [t4]⟩, by simp, by simp [n4', cq0], by simp <;> omega, fun b h0 h1 h2 => ?_⟩, Ow.wide dd0 (by omega) (by simp) (by simp)⟩
  simp [h2]; exact rZ0 b h0 h1 h2

set_option maxRecDepth 20000 in
theorem frK_24 {Hb h : AH} {q p2 p4 a : Nat} {s : AV} {l : List Int} {c : Int} (hs : Bs Hb s l) (hb : By l) (hK : Kp Hb h) (hqb : Hb.next ≤ q) (hq : h.get q = some (scB s a c)) (hqn : q < h.next) (ha : a ≤ l.length) (hl : l.length ≤ 65536)
    (n4 : p4 ≠ q) (l4 : p4 < h.next) (b4 : Hb.next ≤ p4) (g4 : h.get p4 = some (.cells 72 false (frC 24 0 0 0 false .nilSlice .nilSlice .nilSlice))) (m : Nat) (hm : 22 ≤ m) (τ : Tm) (S : FrU τ q p2 p4 24) :
    ∃ τ' H' r rt, evAt Try.prog (ev Try.prog m) m 126 1052770303 τ h = some (.normal, τ', H') ∧ FrE q p2 p4 s 24 h H' τ' (frC 24 ((numberI l a c).1) ((numberI l ((numberI l a c).2.1) ((numberI l a c).2.2)).1) 0 false r rt .nilSlice) (((takeI l ((takeI l ((octetI l ((numberI l ((numberI l a c).2.1) ((numberI l a c).2.2)).2.1) ((numberI l ((numberI l a c).2.1) ((numberI l a c).2.2)).2.2)).2.1) ((octetI l ((numberI l ((numberI l a c).2.1) ((numberI l a c).2.2)).2.1) ((numberI l ((numberI l a c).2.1) ((numberI l a c).2.2)).2.2)).2.2) (octetI l ((numberI l ((numberI l a c).2.1) ((numberI l a c).2.2)).2.1) ((numberI l ((numberI l a c).2.1) ((numberI l a c).2.2)).2.2)).1).2.1) ((takeI l ((octetI l ((numberI l ((numberI l a c).2.1) ((numberI l a c).2.2)).2.1) ((numberI l ((numberI l a c).2.1) ((numberI l a c).2.2)).2.2)).2.1) ((octetI l ((numberI l ((numberI l a c).2.1) ((numberI l a c).2.2)).2.1) ((numberI l ((numberI l a c).2.1) ((numberI l a c).2.2)).2.2)).2.2) (octetI l ((numberI l ((numberI l a c).2.1) ((numberI l a c).2.2)).2.1) ((numberI l ((numberI l a c).2.1) ((numberI l a c).2.2)).2.2)).1).2.2) 8).2.1, (takeI l ((takeI l ((octetI l ((numberI l ((numberI l a c).2.1) ((numberI l a c).2.2)).2.1) ((numberI l ((numberI l a c).2.1) ((numberI l a c).2.2)).2.2)).2.1) ((octetI l ((numberI l ((numberI l a c).2.1) ((numberI l a c).2.2)).2.1) ((numberI l ((numberI l a c).2.1) ((numberI l a c).2.2)).2.2)).2.2) (octetI l ((numberI l ((numberI l a c).2.1) ((numberI l a c).2.2)).2.1) ((numberI l ((numberI l a c).2.1) ((numberI l a c).2.2)).2.2)).1).2.1) ((takeI l ((octetI l ((numberI l ((numberI l a c).2.1) ((numberI l a c).2.2)).2.1) ((numberI l ((numberI l a c).2.1) ((numberI l a c).2.2)).2.2)).2.1) ((octetI l ((numberI l ((numberI l a c).2.1) ((numberI l a c).2.2)).2.1) ((numberI l ((numberI l a c).2.1) ((numberI l a c).2.2)).2.2)).2.2) (octetI l ((numberI l ((numberI l a c).2.1) ((numberI l a c).2.2)).2.1) ((numberI l ((numberI l a c).2.1) ((numberI l a c).2.2)).2.2)).1).2.2) 8).2.2) : Nat × Int) ∧ ∃ mid, h.next ≤ mid ∧ Ow h.next mid H' r (takeI l ((octetI l ((numberI l ((numberI l a c).2.1) ((numberI l a c).2.2)).2.1) ((numberI l ((numberI l a c).2.1) ((numberI l a c).2.2)).2.2)).2.1) ((octetI l ((numberI l ((numberI l a c).2.1) ((numberI l a c).2.2)).2.1) ((numberI l ((numberI l a c).2.1) ((numberI l a c).2.2)).2.2)).2.2) (octetI l ((numberI l ((numberI l a c).2.1) ((numberI l a c).2.2)).2.1) ((numberI l ((numberI l a c).2.1) ((numberI l a c).2.2)).2.2)).1).1 ∧ Ow mid H'.next H' rt (takeI l ((takeI l ((octetI l ((numberI l ((numberI l a c).2.1) ((numberI l a c).2.2)).2.1) ((numberI l ((numberI l a c).2.1) ((numberI l a c).2.2)).2.2)).2.1) ((octetI l ((numberI l ((numberI l a c).2.1) ((numberI l a c).2.2)).2.1) ((numberI l ((numberI l a c).2.1) ((numberI l a c).2.2)).2.2)).2.2) (octetI l ((numberI l ((numberI l a c).2.1) ((numberI l a c).2.2)).2.1) ((numberI l ((numberI l a c).2.1) ((numberI l a c).2.2)).2.2)).1).2.1) ((takeI l ((octetI l ((numberI l ((numberI l a c).2.1) ((numberI l a c).2.2)).2.1) ((numberI l ((numberI l a c).2.1) ((numberI l a c).2.2)).2.2)).2.1) ((octetI l ((numberI l ((numberI l a c).2.1) ((numberI l a c).2.2)).2.1) ((numberI l ((numberI l a c).2.1) ((numberI l a c).2.2)).2.2)).2.2) (octetI l ((numberI l ((numberI l a c).2.1) ((numberI l a c).2.2)).2.1) ((numberI l ((numberI l a c).2.1) ((numberI l a c).2.2)).2.2)).1).2.2) 8).1 := by
  obtain ⟨⟨t0, t2, t3, t4⟩, tk⟩ := S
  have n4' : ¬ (q = p4) := fun e => n4 e.symm
  obtain ⟨H1, e1, k1, n1, g1, l1⟩ := number_ev (c := c) (a := a) hs hb hK hqb hq ha hl m (by omega)
  have kk1 := k1
  obtain ⟨H2, e2, k2, n2, g2, l2⟩ := number_ev (c := (numberI l a c).2.2) (a := (numberI l a c).2.1) hs hb (kk1.kp hK hqb) hqb g1 l1 hl m (by omega)
  have kk2 := kk1.trans k2
  have c4 := (kk2.get p4 l4 n4).trans g4
  let A0 : AH := H2.set p4 (.cells 72 false (frC 24 ((numberI l a c).1) ((numberI l ((numberI l a c).2.1) ((numberI l a c).2.2)).1) 0 false .nilSlice .nilSlice .nilSlice))
  have KA : Kp Hb A0 := (kk2.kp hK hqb).set b4 _
  have qA : A0.get q = some (scB s ((numberI l ((numberI l a c).2.1) ((numberI l a c).2.2)).2.1) ((numberI l ((numberI l a c).2.1) ((numberI l a c).2.2)).2.2)) := by simp only [A0]; rw [AH.set_getN _ _ (by omega)]; exact g2
  have pA : A0.get p4 = some (.cells 72 false (frC 24 ((numberI l a c).1) ((numberI l ((numberI l a c).2.1) ((numberI l a c).2.2)).1) 0 false .nilSlice .nilSlice .nilSlice)) := by simp [A0]
  have nA : h.next ≤ A0.next := by simp only [A0, AH.set_next]; omega
  have rA : ∀ b, b < h.next → b ≠ q → b ≠ p4 → A0.get b = h.get b := fun b h0 h1 h2 => by simp only [A0]; rw [AH.set_getN _ _ h2]; exact kk2.get b h0 h1
  obtain ⟨Y0, w0, v0, u0, p0, i0⟩ := octet_ev (H := A0) (c := ((numberI l ((numberI l a c).2.1) ((numberI l a c).2.2)).2.2)) (a := ((numberI l ((numberI l a c).2.1) ((numberI l a c).2.2)).2.1)) hs hb KA hqb qA l2 hl m (by omega)
  have hoc : 0 ≤ (octetI l ((numberI l ((numberI l a c).2.1) ((numberI l a c).2.2)).2.1) ((numberI l ((numberI l a c).2.1) ((numberI l a c).2.2)).2.2)).1 := (octV_by (takeI_by hb ((numberI l ((numberI l a c).2.1) ((numberI l a c).2.2)).2.1) ((numberI l ((numberI l a c).2.1) ((numberI l a c).2.2)).2.2) 1)).1
  obtain ⟨r1, X0, x0, y0', z0', o0, q0, m0⟩ := take_ev (H := Y0) (c := ((octetI l ((numberI l ((numberI l a c).2.1) ((numberI l a c).2.2)).2.1) ((numberI l ((numberI l a c).2.1) ((numberI l a c).2.2)).2.2)).2.2)) (a := ((octetI l ((numberI l ((numberI l a c).2.1) ((numberI l a c).2.2)).2.1) ((numberI l ((numberI l a c).2.1) ((numberI l a c).2.2)).2.2)).2.1)) hs (v0.kp KA hqb) hqb p0 i0 hl (octetI l ((numberI l ((numberI l a c).2.1) ((numberI l a c).2.2)).2.1) ((numberI l ((numberI l a c).2.1) ((numberI l a c).2.2)).2.2)).1 (by omega) m (by omega)
  have y0 := v0.trans y0'
  have z0 : X0.next = A0.next := by rw [z0', u0]
  have hlen0 : (takeI l ((octetI l ((numberI l ((numberI l a c).2.1) ((numberI l a c).2.2)).2.1) ((numberI l ((numberI l a c).2.1) ((numberI l a c).2.2)).2.2)).2.1) ((octetI l ((numberI l ((numberI l a c).2.1) ((numberI l a c).2.2)).2.1) ((numberI l ((numberI l a c).2.1) ((numberI l a c).2.2)).2.2)).2.2) (octetI l ((numberI l ((numberI l a c).2.1) ((numberI l a c).2.2)).2.1) ((numberI l ((numberI l a c).2.1) ((numberI l a c).2.2)).2.2)).1).1.length ≤ 70368744177664 := by have := (takeI_len l ((octetI l ((numberI l ((numberI l a c).2.1) ((numberI l a c).2.2)).2.1) ((numberI l ((numberI l a c).2.1) ((numberI l a c).2.2)).2.2)).2.1) ((octetI l ((numberI l ((numberI l a c).2.1) ((numberI l a c).2.2)).2.1) ((numberI l ((numberI l a c).2.1) ((numberI l a c).2.2)).2.2)).2.2) (octetI l ((numberI l ((numberI l a c).2.1) ((numberI l a c).2.2)).2.1) ((numberI l ((numberI l a c).2.1) ((numberI l a c).2.2)).2.2)).1).2; omega
  obtain ⟨r, Z0, f0, j0, d0⟩ := copied_ev o0 (y0.kp KA hqb) hlen0 m (by omega)
  have nz0 := j0.next
  have lp0 : p4 < A0.next := by omega
  have lq0 : q < A0.next := by omega
  have cp0 : Z0.get p4 = some (.cells 72 false (frC 24 ((numberI l a c).1) ((numberI l ((numberI l a c).2.1) ((numberI l a c).2.2)).1) 0 false .nilSlice .nilSlice .nilSlice)) := (j0.get p4 (by omega)).trans ((y0.get p4 lp0 n4).trans pA)
  have cq0 : Z0.get q = some (scB s ((takeI l ((octetI l ((numberI l ((numberI l a c).2.1) ((numberI l a c).2.2)).2.1) ((numberI l ((numberI l a c).2.1) ((numberI l a c).2.2)).2.2)).2.1) ((octetI l ((numberI l ((numberI l a c).2.1) ((numberI l a c).2.2)).2.1) ((numberI l ((numberI l a c).2.1) ((numberI l a c).2.2)).2.2)).2.2) (octetI l ((numberI l ((numberI l a c).2.1) ((numberI l a c).2.2)).2.1) ((numberI l ((numberI l a c).2.1) ((numberI l a c).2.2)).2.2)).1).2.1) ((takeI l ((octetI l ((numberI l ((numberI l a c).2.1) ((numberI l a c).2.2)).2.1) ((numberI l ((numberI l a c).2.1) ((numberI l a c).2.2)).2.2)).2.1) ((octetI l ((numberI l ((numberI l a c).2.1) ((numberI l a c).2.2)).2.1) ((numberI l ((numberI l a c).2.1) ((numberI l a c).2.2)).2.2)).2.2) (octetI l ((numberI l ((numberI l a c).2.1) ((numberI l a c).2.2)).2.1) ((numberI l ((numberI l a c).2.1) ((numberI l a c).2.2)).2.2)).1).2.2)) := (j0.get q (by omega)).trans q0
  have rZ0 : ∀ b, b < h.next → b ≠ q → b ≠ p4 → Z0.get b = h.get b := fun b h0 h1 h2 => (j0.get b (by omega)).trans ((y0.get b (by omega) h1).trans (rA b h0 h1 h2))
  have or0 := d0.bs.one
  have orc0 := cells_one or0
  have dd0 := d0.kx ((Kx.refl p4 Z0).set (.cells 72 false (frC 24 ((numberI l a c).1) ((numberI l ((numberI l a c).2.1) ((numberI l a c).2.2)).1) 0 false r .nilSlice .nilSlice))) (.inl (by omega))
  let B0 : AH := Z0.set p4 (.cells 72 false (frC 24 ((numberI l a c).1) ((numberI l ((numberI l a c).2.1) ((numberI l a c).2.2)).1) 0 false r .nilSlice .nilSlice))
  have nB0 : B0.next = Z0.next := rfl
  have KB0 : Kp Hb B0 := ((y0.kp KA hqb).trans j0).set b4 _
  have qB0 : B0.get q = some (scB s ((takeI l ((octetI l ((numberI l ((numberI l a c).2.1) ((numberI l a c).2.2)).2.1) ((numberI l ((numberI l a c).2.1) ((numberI l a c).2.2)).2.2)).2.1) ((octetI l ((numberI l ((numberI l a c).2.1) ((numberI l a c).2.2)).2.1) ((numberI l ((numberI l a c).2.1) ((numberI l a c).2.2)).2.2)).2.2) (octetI l ((numberI l ((numberI l a c).2.1) ((numberI l a c).2.2)).2.1) ((numberI l ((numberI l a c).2.1) ((numberI l a c).2.2)).2.2)).1).2.1) ((takeI l ((octetI l ((numberI l ((numberI l a c).2.1) ((numberI l a c).2.2)).2.1) ((numberI l ((numberI l a c).2.1) ((numberI l a c).2.2)).2.2)).2.1) ((octetI l ((numberI l ((numberI l a c).2.1) ((numberI l a c).2.2)).2.1) ((numberI l ((numberI l a c).2.1) ((numberI l a c).2.2)).2.2)).2.2) (octetI l ((numberI l ((numberI l a c).2.1) ((numberI l a c).2.2)).2.1) ((numberI l ((numberI l a c).2.1) ((numberI l a c).2.2)).2.2)).1).2.2)) := by simp only [B0]; rw [AH.set_getN _ _ (by omega)]; exact cq0
  have pB0 : B0.get p4 = some (.cells 72 false (frC 24 ((numberI l a c).1) ((numberI l ((numberI l a c).2.1) ((numberI l a c).2.2)).1) 0 false r .nilSlice .nilSlice)) := by simp [B0]
  have rB0 : ∀ b, b < h.next → b ≠ q → b ≠ p4 → B0.get b = h.get b := fun b h0 h1 h2 => by simp only [B0]; rw [AH.set_getN _ _ h2]; exact rZ0 b h0 h1 h2
  obtain ⟨r3, X1, x1, y1, z1, o1, q1, m1⟩ := take_ev (H := B0) (c := ((takeI l ((octetI l ((numberI l ((numberI l a c).2.1) ((numberI l a c).2.2)).2.1) ((numberI l ((numberI l a c).2.1) ((numberI l a c).2.2)).2.2)).2.1) ((octetI l ((numberI l ((numberI l a c).2.1) ((numberI l a c).2.2)).2.1) ((numberI l ((numberI l a c).2.1) ((numberI l a c).2.2)).2.2)).2.2) (octetI l ((numberI l ((numberI l a c).2.1) ((numberI l a c).2.2)).2.1) ((numberI l ((numberI l a c).2.1) ((numberI l a c).2.2)).2.2)).1).2.2)) (a := ((takeI l ((octetI l ((numberI l ((numberI l a c).2.1) ((numberI l a c).2.2)).2.1) ((numberI l ((numberI l a c).2.1) ((numberI l a c).2.2)).2.2)).2.1) ((octetI l ((numberI l ((numberI l a c).2.1) ((numberI l a c).2.2)).2.1) ((numberI l ((numberI l a c).2.1) ((numberI l a c).2.2)).2.2)).2.2) (octetI l ((numberI l ((numberI l a c).2.1) ((numberI l a c).2.2)).2.1) ((numberI l ((numberI l a c).2.1) ((numberI l a c).2.2)).2.2)).1).2.1)) hs KB0 hqb qB0 m0 hl 8 (by omega) m (by omega)
  have hlen1 : (takeI l ((takeI l ((octetI l ((numberI l ((numberI l a c).2.1) ((numberI l a c).2.2)).2.1) ((numberI l ((numberI l a c).2.1) ((numberI l a c).2.2)).2.2)).2.1) ((octetI l ((numberI l ((numberI l a c).2.1) ((numberI l a c).2.2)).2.1) ((numberI l ((numberI l a c).2.1) ((numberI l a c).2.2)).2.2)).2.2) (octetI l ((numberI l ((numberI l a c).2.1) ((numberI l a c).2.2)).2.1) ((numberI l ((numberI l a c).2.1) ((numberI l a c).2.2)).2.2)).1).2.1) ((takeI l ((octetI l ((numberI l ((numberI l a c).2.1) ((numberI l a c).2.2)).2.1) ((numberI l ((numberI l a c).2.1) ((numberI l a c).2.2)).2.2)).2.1) ((octetI l ((numberI l ((numberI l a c).2.1) ((numberI l a c).2.2)).2.1) ((numberI l ((numberI l a c).2.1) ((numberI l a c).2.2)).2.2)).2.2) (octetI l ((numberI l ((numberI l a c).2.1) ((numberI l a c).2.2)).2.1) ((numberI l ((numberI l a c).2.1) ((numberI l a c).2.2)).2.2)).1).2.2) 8).1.length ≤ 70368744177664 := by have := (takeI_len l ((takeI l ((octetI l ((numberI l ((numberI l a c).2.1) ((numberI l a c).2.2)).2.1) ((numberI l ((numberI l a c).2.1) ((numberI l a c).2.2)).2.2)).2.1) ((octetI l ((numberI l ((numberI l a c).2.1) ((numberI l a c).2.2)).2.1) ((numberI l ((numberI l a c).2.1) ((numberI l a c).2.2)).2.2)).2.2) (octetI l ((numberI l ((numberI l a c).2.1) ((numberI l a c).2.2)).2.1) ((numberI l ((numberI l a c).2.1) ((numberI l a c).2.2)).2.2)).1).2.1) ((takeI l ((octetI l ((numberI l ((numberI l a c).2.1) ((numberI l a c).2.2)).2.1) ((numberI l ((numberI l a c).2.1) ((numberI l a c).2.2)).2.2)).2.1) ((octetI l ((numberI l ((numberI l a c).2.1) ((numberI l a c).2.2)).2.1) ((numberI l ((numberI l a c).2.1) ((numberI l a c).2.2)).2.2)).2.2) (octetI l ((numberI l ((numberI l a c).2.1) ((numberI l a c).2.2)).2.1) ((numberI l ((numberI l a c).2.1) ((numberI l a c).2.2)).2.2)).1).2.2) 8).2; omega
  obtain ⟨rt, Z1, f1, j1, d1⟩ := copied_ev o1 (y1.kp KB0 hqb) hlen1 m (by omega)
  have nz1 := j1.next
  have lp1 : p4 < B0.next := by omega
  have lq1 : q < B0.next := by omega
  have cp1 : Z1.get p4 = some (.cells 72 false (frC 24 ((numberI l a c).1) ((numberI l ((numberI l a c).2.1) ((numberI l a c).2.2)).1) 0 false r .nilSlice .nilSlice)) := (j1.get p4 (by omega)).trans ((y1.get p4 lp1 n4).trans pB0)
  have cq1 : Z1.get q = some (scB s ((takeI l ((takeI l ((octetI l ((numberI l ((numberI l a c).2.1) ((numberI l a c).2.2)).2.1) ((numberI l ((numberI l a c).2.1) ((numberI l a c).2.2)).2.2)).2.1) ((octetI l ((numberI l ((numberI l a c).2.1) ((numberI l a c).2.2)).2.1) ((numberI l ((numberI l a c).2.1) ((numberI l a c).2.2)).2.2)).2.2) (octetI l ((numberI l ((numberI l a c).2.1) ((numberI l a c).2.2)).2.1) ((numberI l ((numberI l a c).2.1) ((numberI l a c).2.2)).2.2)).1).2.1) ((takeI l ((octetI l ((numberI l ((numberI l a c).2.1) ((numberI l a c).2.2)).2.1) ((numberI l ((numberI l a c).2.1) ((numberI l a c).2.2)).2.2)).2.1) ((octetI l ((numberI l ((numberI l a c).2.1) ((numberI l a c).2.2)).2.1) ((numberI l ((numberI l a c).2.1) ((numberI l a c).2.2)).2.2)).2.2) (octetI l ((numberI l ((numberI l a c).2.1) ((numberI l a c).2.2)).2.1) ((numberI l ((numberI l a c).2.1) ((numberI l a c).2.2)).2.2)).1).2.2) 8).2.1) ((takeI l ((takeI l ((octetI l ((numberI l ((numberI l a c).2.1) ((numberI l a c).2.2)).2.1) ((numberI l ((numberI l a c).2.1) ((numberI l a c).2.2)).2.2)).2.1) ((octetI l ((numberI l ((numberI l a c).2.1) ((numberI l a c).2.2)).2.1) ((numberI l ((numberI l a c).2.1) ((numberI l a c).2.2)).2.2)).2.2) (octetI l ((numberI l ((numberI l a c).2.1) ((numberI l a c).2.2)).2.1) ((numberI l ((numberI l a c).2.1) ((numberI l a c).2.2)).2.2)).1).2.1) ((takeI l ((octetI l ((numberI l ((numberI l a c).2.1) ((numberI l a c).2.2)).2.1) ((numberI l ((numberI l a c).2.1) ((numberI l a c).2.2)).2.2)).2.1) ((octetI l ((numberI l ((numberI l a c).2.1) ((numberI l a c).2.2)).2.1) ((numberI l ((numberI l a c).2.1) ((numberI l a c).2.2)).2.2)).2.2) (octetI l ((numberI l ((numberI l a c).2.1) ((numberI l a c).2.2)).2.1) ((numberI l ((numberI l a c).2.1) ((numberI l a c).2.2)).2.2)).1).2.2) 8).2.2)) := (j1.get q (by omega)).trans q1
  have rZ1 : ∀ b, b < h.next → b ≠ q → b ≠ p4 → Z1.get b = h.get b := fun b h0 h1 h2 => (j1.get b (by omega)).trans ((y1.get b (by omega) h1).trans (rB0 b h0 h1 h2))
  have or1 := d1.bs.one
  have orc1 := cells_one or1
  have dd1 := d1.kx ((Kx.refl p4 Z1).set (.cells 72 false (frC 24 ((numberI l a c).1) ((numberI l ((numberI l a c).2.1) ((numberI l a c).2.2)).1) 0 false r rt .nilSlice))) (.inl (by omega))
  simp only [frC, A0, B0] at c4 x0 x1 cp0 cp1 f0 f1 dd0 dd1 w0 ⊢
  rw [at_M Try.func126 1052770303 (by decide) 30 (by decide) (by kernel_rfl) [4211081215]]
  refine ⟨_, _, r, rt, by simp [Try.f126, tk, t0, t4, e1, e2, c4, w0, x0, f0, cp0, or0, orc0, x1, f1, cp1, or1, orc1, stVar, spl]; first | exact ⟨rfl, rfl⟩ | rfl, ⟨⟨by simp [t0], by simp [t2], by simp [t3], by simp [t4]⟩, by simp, by simp [n4', cq1], by simp <;> omega, fun b h0 h1 h2 => ?_⟩, Z0.next, by omega, Ow.wide (((dd0.kx y1 (.inl (by omega))).kp j1).kx ((Kx.refl p4 Z1).set _) (.inl (by omega))) (by omega) (by omega) (by simp <;> omega), Ow.wide dd1 (by omega) (by simp) (by simp)⟩
  simp [h2]; exact rZ1 b h0 h1 h2

end Go.Ev

/- A frame read by the program: streams, the kinds without anything, the unknown ones. -/
namespace Go.Ev
open Go Go.Proofs
set_option linter.unusedSimpArgs false
set_option linter.unusedVariables false

def finK (k : Int) : Bool := (k - 8).tmod 2 == 1
def offI (l : List Int) (a : Nat) (c : Int) (x : Int) : Int × Nat × Int := if (x.tdiv 4).tmod 2 = 1 then numberI l a c else (0, a, c)
def dataI (l : List Int) (a : Nat) (c : Int) (x : Int) : List Int × Nat × Int := if (x.tdiv 2).tmod 2 = 1 then countedI l a c else restI l a c
theorem k8 {k : Int} (hk : 8 ≤ k ∧ k ≤ 15) : k = 8 ∨ k = 9 ∨ k = 10 ∨ k = 11 ∨ k = 12 ∨ k = 13 ∨ k = 14 ∨ k = 15 := by omega
theorem bw1 {k : Int} (hk : 8 ≤ k ∧ k ≤ 15) : (bits BinOp.and IntKind.i64 k 1 != 0) = finK k := by
  rcases k8 hk with rfl | rfl | rfl | rfl | rfl | rfl | rfl | rfl <;> decide
theorem bw4 {k : Int} (hk : 8 ≤ k ∧ k ≤ 15) : (bits BinOp.and IntKind.i64 k 4 != 0) = decide (((k - 8).tdiv 4).tmod 2 = 1) := by
  rcases k8 hk with rfl | rfl | rfl | rfl | rfl | rfl | rfl | rfl <;> decide
theorem bw2 {k : Int} (hk : 8 ≤ k ∧ k ≤ 15) : (bits BinOp.and IntKind.i64 k 2 != 0) = decide (((k - 8).tdiv 2).tmod 2 = 1) := by
  rcases k8 hk with rfl | rfl | rfl | rfl | rfl | rfl | rfl | rfl <;> decide
set_option maxRecDepth 20000 in
theorem frT0 {Hb h : AH} {q p2 p4 a : Nat} {s : AV} {l : List Int} {c : Int} (hs : Bs Hb s l) (hb : By l) (hK : Kp Hb h) (hqb : Hb.next ≤ q) (hq : h.get q = some (scB s a c)) (hqn : q < h.next) (ha : a ≤ l.length) (hl : l.length ≤ 65536)
    (k : Int) (hk : 8 ≤ k ∧ k ≤ 15) (n4 : p4 ≠ q) (l4 : p4 < h.next) (b4 : Hb.next ≤ p4) (g4 : h.get p4 = some (.cells 72 false (frC k 0 0 0 false .nilSlice .nilSlice .nilSlice))) (m : Nat) (hm : 22 ≤ m) (τ : Tm) (S : FrU τ q p2 p4 k) :
    ∃ τ' H', evAt Try.prog (ev Try.prog m) m 126 4112383 τ h = evAt Try.prog (ev Try.prog m) m 126 131596279 τ' H' ∧ FrE q p2 p4 s k h H' τ' (frC 8 (numberI l a c).1 0 0 (finK k) .nilSlice .nilSlice .nilSlice) (numberI l a c).2 := by
  obtain ⟨⟨t0, t2, t3, t4⟩, tk⟩ := S
  have n4' : ¬ (q = p4) := fun e => n4 e.symm
  have K1 : Kp Hb (h.set p4 (.cells 72 false (frC 8 0 0 0 (finK k) .nilSlice .nilSlice .nilSlice))) := ⟨hK.next, fun b hb' => by rw [AH.set_getN _ _ (by omega)]; exact hK.get b hb'⟩
  obtain ⟨H1, e1, k1, n1, g1, l1⟩ := number_ev (c := c) (a := a) hs hb K1 hqb (by rw [AH.set_getN _ _ (by omega)]; exact hq) ha hl m (by omega)
  have c4 := k1.get p4 (by simpa using l4) n4
  have B1 := bw1 hk
  generalize finK k = f at *
  simp only [frC] at c4 g4 e1 ⊢
  simp at c4 n1
  rw [at_M Try.func126 4112383 (by decide) 22 (by decide) (by kernel_rfl) [131596279, 16449535]]
  rcases k8 hk with rfl | rfl | rfl | rfl | rfl | rfl | rfl | rfl
  all_goals
    refine ⟨_, _, by simp [Try.f126, tk, t0, t3, t4, e1, c4, g4, B1, stVar, spl]; first | exact ⟨rfl, rfl⟩ | rfl, ⟨by simp [t0], by simp [t2], by simp [t3], by simp [t4]⟩, by simp, by simp [n4', g1], by simp [n1], fun b hb h1 h2 => ?_⟩
    simp [h2]; rw [k1.get b (by simpa using hb) h1, AH.set_getN _ _ h2]
theorem frT1 {Hb h : AH} {q p2 p4 a : Nat} {s : AV} {l : List Int} {c : Int} {A : Int} {f : Bool} (hs : Bs Hb s l) (hb : By l) (hK : Kp Hb h) (hqb : Hb.next ≤ q) (hq : h.get q = some (scB s a c)) (hqn : q < h.next) (ha : a ≤ l.length) (hl : l.length ≤ 65536)
    (k : Int) (hk : 8 ≤ k ∧ k ≤ 15) (n4 : p4 ≠ q) (l4 : p4 < h.next) (g4 : h.get p4 = some (.cells 72 false (frC 8 A 0 0 f .nilSlice .nilSlice .nilSlice))) (m : Nat) (hm : 22 ≤ m) (τ : Tm) (T : FrT τ q p2 p4 k) :
    ∃ τ' H', evAt Try.prog (ev Try.prog m) m 126 131596279 τ h = evAt Try.prog (ev Try.prog m) m 126 263192559 τ' H' ∧ FrE q p2 p4 s k h H' τ' (frC 8 A (offI l a c (k - 8)).1 0 f .nilSlice .nilSlice .nilSlice) (offI l a c (k - 8)).2 := by
  obtain ⟨t0, t2, t3, t4⟩ := T
  have n4' : ¬ (q = p4) := fun e => n4 e.symm
  obtain ⟨H1, e1, k1, n1, g1, l1⟩ := number_ev (c := c) (a := a) hs hb hK hqb hq ha hl m (by omega)
  have c4 := (k1.get p4 l4 n4).trans g4
  have B4 := bw4 hk
  unfold offI
  simp only [frC] at c4 g4 ⊢
  rw [at_M Try.func126 131596279 (by decide) 27 (by decide) (by kernel_rfl) [263192559]]
  by_cases b4 : ((k - 8).tdiv 4).tmod 2 = 1
  · simp only [b4, decide_true] at B4
    rw [if_pos b4]
    refine ⟨_, _, by simp [Try.f126, t0, t3, t4, e1, c4, B4, stVar, spl]; first | exact ⟨rfl, rfl⟩ | rfl, ⟨by simp [t0], by simp [t2], by simp [t3], by simp [t4]⟩, by simp, by simp [n4', g1], by simp [n1], fun b hb h1 h2 => ?_⟩
    simp [h2]; exact k1.get b hb h1
  · simp only [b4, decide_false] at B4
    rw [if_neg b4]
    exact ⟨_, _, by simp [Try.f126, t0, t3, t4, B4, stVar, spl]; first | exact ⟨rfl, rfl⟩ | rfl, ⟨by simp [t0], by simp [t2], by simp [t3], by simp [t4]⟩, g4, hq, Nat.le_refl _, fun b hb h1 h2 => rfl⟩
theorem frT2 {Hb h : AH} {q p2 p4 a : Nat} {s : AV} {l : List Int} {c : Int} {A B : Int} {f : Bool} (hs : Bs Hb s l) (hb : By l) (hK : Kp Hb h) (hqb : Hb.next ≤ q) (hq : h.get q = some (scB s a c)) (hqn : q < h.next) (ha : a ≤ l.length) (hl : l.length ≤ 65536)
    (k : Int) (hk : 8 ≤ k ∧ k ≤ 15) (n4 : p4 ≠ q) (l4 : p4 < h.next) (g4 : h.get p4 = some (.cells 72 false (frC 8 A B 0 f .nilSlice .nilSlice .nilSlice))) (m : Nat) (hm : 22 ≤ m) (τ : Tm) (T : FrT τ q p2 p4 k) :
    ∃ τ' H' r, evAt Try.prog (ev Try.prog m) m 126 263192559 τ h = some (.normal, τ', H') ∧ FrE q p2 p4 s k h H' τ' (frC 8 A B 0 f r .nilSlice .nilSlice) (dataI l a c (k - 8)).2 ∧ Ow h.next H'.next H' r (dataI l a c (k - 8)).1 := by
  obtain ⟨t0, t2, t3, t4⟩ := T
  have n4' : ¬ (q = p4) := fun e => n4 e.symm
  have B2 := bw2 hk
  unfold dataI
  rw [at_M Try.func126 263192559 (by decide) 28 (by decide) (by kernel_rfl) []]
  by_cases b2 : ((k - 8).tdiv 2).tmod 2 = 1
  · simp only [b2, decide_true] at B2
    rw [if_pos b2]
    obtain ⟨r1, H1, e1, k1, n1, o1, g1, l1⟩ := counted_ev (c := c) (a := a) hs hb hK hqb hq ha hl m (by omega)
    have hlen : (countedI l a c).1.length ≤ 70368744177664 := by have := countedI_len l a c; omega
    obtain ⟨r, H2, e2, k2, o2⟩ := copied_ev o1 (k1.kp hK hqb) hlen m (by omega)
    have n2 := k2.next
    have c4 := (k2.get p4 (by omega)).trans ((k1.get p4 l4 n4).trans g4)
    have cq := (k2.get q (by omega)).trans g1
    have or_ := o2.bs.one
    have orc := cells_one or_
    have o3 := o2.kx ((Kx.refl p4 H2).set (.cells 72 false (frC 8 A B 0 f r .nilSlice .nilSlice))) (.inl (by omega))
    simp only [frC] at c4 o3 ⊢
    refine ⟨_, _, r, by simp [Try.f126, t0, t3, t4, B2, e1, e2, c4, stVar, spl, or_, orc]; first | exact ⟨rfl, rfl⟩ | rfl, ⟨⟨by simp [t0], by simp [t2], by simp [t3], by simp [t4]⟩, by simp, by simp [n4', cq], by simp <;> omega, fun b hb h1 h2 => ?_⟩, Ow.wide o3 (by omega) (by simp) (by simp)⟩
    simp [h2]; rw [k2.get b (by omega)]; exact k1.get b hb h1
  · simp only [b2, decide_false] at B2
    rw [if_neg b2]
    obtain ⟨r1, H1, e1, k1, n1, o1, g1, l1⟩ := rest_ev (c := c) (a := a) hs hK hqb hq ha hl m (by omega)
    have hlen : (restI l a c).1.length ≤ 70368744177664 := by
      have := (takeI_len l a c ((l.length : Int) - a)).2
      unfold restI; omega
    obtain ⟨r, H2, e2, k2, o2⟩ := copied_ev o1 (k1.kp hK hqb) hlen m (by omega)
    have n2 := k2.next
    have c4 := (k2.get p4 (by omega)).trans ((k1.get p4 l4 n4).trans g4)
    have cq := (k2.get q (by omega)).trans g1
    have or_ := o2.bs.one
    have orc := cells_one or_
    have o3 := o2.kx ((Kx.refl p4 H2).set (.cells 72 false (frC 8 A B 0 f r .nilSlice .nilSlice))) (.inl (by omega))
    simp only [frC] at c4 o3 ⊢
    refine ⟨_, _, r, by simp [Try.f126, t0, t3, t4, B2, e1, e2, c4, stVar, spl, or_, orc]; first | exact ⟨rfl, rfl⟩ | rfl, ⟨⟨by simp [t0], by simp [t2], by simp [t3], by simp [t4]⟩, by simp, by simp [n4', cq], by simp <;> omega, fun b hb h1 h2 => ?_⟩, Ow.wide o3 (by omega) (by simp) (by simp)⟩
    simp [h2]; rw [k2.get b (by omega)]; exact k1.get b hb h1
theorem numberI_le {l : List Int} {a : Nat} (h : a ≤ l.length) (c : Int) : (numberI l a c).2.1 ≤ l.length := by
  unfold numberI
  split
  · exact h
  · split
    · exact h
    · rename_i h2
      obtain ⟨e, h3, h4, h5⟩ := getVarP_end (l := l) (a := a) (by simpa using h2)
      simp [h3, h5]
theorem offI_le {l : List Int} {a : Nat} (h : a ≤ l.length) (c x : Int) : (offI l a c x).2.1 ≤ l.length := by
  unfold offI
  split
  · exact numberI_le h c
  · exact h
/-- what a kind's place leaves, the end: the frame's bytes are its own -/
structure FrR (q p2 p4 : Nat) (s : AV) (k : Int) (h H' : AH) (τ' : Tm) (K A B C : Int) (f : Bool) (D T : List Int) (st : Nat × Int) : Prop where
  x : ∃ r t, FrE q p2 p4 s k h H' τ' (frC K A B C f r t .nilSlice) st ∧ ∃ mid, h.next ≤ mid ∧ Ow h.next mid H' r D ∧ Ow mid H'.next H' t T
theorem frT {Hb h : AH} {q p2 p4 a : Nat} {s : AV} {l : List Int} {c : Int} (hs : Bs Hb s l) (hb : By l) (hK : Kp Hb h) (hqb : Hb.next ≤ q) (hq : h.get q = some (scB s a c)) (hqn : q < h.next) (ha : a ≤ l.length) (hl : l.length ≤ 65536)
    (k : Int) (hk : 8 ≤ k ∧ k ≤ 15) (n4 : p4 ≠ q) (l4 : p4 < h.next) (b4 : Hb.next ≤ p4) (g4 : h.get p4 = some (.cells 72 false (frC k 0 0 0 false .nilSlice .nilSlice .nilSlice))) (m : Nat) (hm : 22 ≤ m) (τ : Tm) (S : FrU τ q p2 p4 k) :
    ∃ τ' H', evAt Try.prog (ev Try.prog m) m 126 4112383 τ h = some (.normal, τ', H') ∧ FrR q p2 p4 s k h H' τ' 8 (numberI l a c).1 (offI l (numberI l a c).2.1 (numberI l a c).2.2 (k - 8)).1 0 (finK k)
      (dataI l (offI l (numberI l a c).2.1 (numberI l a c).2.2 (k - 8)).2.1 (offI l (numberI l a c).2.1 (numberI l a c).2.2 (k - 8)).2.2 (k - 8)).1 []
      (dataI l (offI l (numberI l a c).2.1 (numberI l a c).2.2 (k - 8)).2.1 (offI l (numberI l a c).2.1 (numberI l a c).2.2 (k - 8)).2.2 (k - 8)).2 := by
  obtain ⟨τ1, H1, e1, E1⟩ := frT0 hs hb hK hqb hq hqn ha hl k hk n4 l4 b4 g4 m hm τ S
  have a1 := numberI_le ha c
  generalize numberI l a c = N at *
  have z1 := E1.next
  have K1 : Kp Hb H1 := ⟨Nat.le_trans hK.next z1, fun b hb => (E1.rest b (by have := hK.next; omega) (by omega) (by omega)).trans (hK.get b hb)⟩
  obtain ⟨τ2, H2, e2, E2⟩ := frT1 hs hb K1 hqb E1.gq (by omega) a1 hl k hk n4 (by omega) E1.g4 m hm τ1 E1.T
  have a2 := offI_le a1 N.2.2 (k - 8)
  generalize offI l N.2.1 N.2.2 (k - 8) = O at *
  have z2 := E2.next
  have K2 : Kp Hb H2 := ⟨Nat.le_trans K1.next z2, fun b hb => (E2.rest b (by have := K1.next; omega) (by omega) (by omega)).trans (K1.get b hb)⟩
  obtain ⟨τ3, H3, r, e3, E3, o3⟩ := frT2 hs hb K2 hqb E2.gq (by omega) a2 hl k hk n4 (by omega) E2.g4 m hm τ2 E2.T
  have z3 := E3.next
  refine ⟨τ3, H3, by rw [e1, e2, e3], ⟨r, .nilSlice, ⟨E3.T, E3.g4, E3.gq, by omega, fun b h0 h1 h2 => ?_⟩, H3.next, by omega, Ow.wide o3 (by omega) (Nat.le_refl _) (Nat.le_refl _), .inl ⟨rfl, rfl⟩⟩⟩
  rw [E3.rest b (by omega) h1 h2, E2.rest b (by omega) h1 h2, E1.rest b h0 h1 h2]

set_option maxRecDepth 20000 in
theorem frK_1 {h : AH} {q p2 p4 a : Nat} {s : AV} {c : Int} (hq : h.get q = some (scB s a c)) (k : Int) (hk : k = 1 ∨ k = 30) (g4 : h.get p4 = some (.cells 72 false (frC k 0 0 0 false .nilSlice .nilSlice .nilSlice))) (m : Nat) (τ : Tm) (S : FrU τ q p2 p4 k) :
    ∃ τ' H', evAt Try.prog (ev Try.prog m) m 126 1003 τ h = some (.normal, τ', H') ∧ FrE q p2 p4 s k h H' τ' (frC k 0 0 0 false .nilSlice .nilSlice .nilSlice) (a, c) := by
  obtain ⟨⟨t0, t2, t3, t4⟩, tk⟩ := S
  rw [at_M Try.func126 1003 (by decide) 10 (by decide) (by kernel_rfl) [4015]]
  rcases hk with rfl | rfl
  all_goals
    exact ⟨_, _, by simp [Try.f126, tk, t0, t3, t4]; first | exact ⟨rfl, rfl⟩ | rfl, ⟨by simp [t0], by simp [t2], by simp [t3], by simp [t4]⟩, g4, hq, Nat.le_refl _, fun b hb h1 h2 => rfl⟩

set_option maxRecDepth 20000 in
theorem frK_no {h : AH} {q p2 p4 a : Nat} {s : AV} (hq : h.get q = some (scB s a 0)) (k : Int) (hk : ¬ (k = 49)) (n4 : p4 ≠ q) (g4 : h.get p4 = some (.cells 72 false (frC k 0 0 0 false .nilSlice .nilSlice .nilSlice))) (m : Nat) (hm : 1 ≤ m) (τ : Tm) (S : FrU τ q p2 p4 k) :
    ∃ τ' H', evAt Try.prog (ev Try.prog m) m 126 269509197823 τ h = some (.normal, τ', H') ∧ FrE q p2 p4 s k h H' τ' (frC k 0 0 0 false .nilSlice .nilSlice .nilSlice) (a, 3) := by
  obtain ⟨⟨t0, t2, t3, t4⟩, tk⟩ := S
  have ef := fail_ev (e := 3) hq m (by omega)
  rw [if_pos rfl] at ef
  rw [at_M Try.func126 269509197823 (by decide) 38 (by decide) (by kernel_rfl) []]
  refine ⟨_, _, by simp [Try.f126, tk, t0, t3, t4, beqF, hk, ef]; first | exact ⟨rfl, rfl⟩ | rfl, ⟨by simp [t0], by simp [t2], by simp [t3], by simp [t4]⟩, ?_, by simp, by simp, fun b hb h1 h2 => ?_⟩
  · rw [AH.set_getN _ _ n4]; exact g4
  · rw [AH.set_getN _ _ h1]
end Go.Ev

/- Both ways of a reader's state: a code, a mark. -/
namespace Go.Ev
open Go Go.Proofs
set_option linter.unusedSimpArgs false
set_option linter.unusedVariables false

def cd (sh : Bool) : Int := if sh then 2 else 0
@[simp] theorem cd_f : cd false = 0 := rfl
@[simp] theorem cd_t : cd true = 2 := rfl
theorem cd0 (sh : Bool) : cd sh = 0 ↔ sh = false := by cases sh <;> simp [cd]
theorem numberI_cd (l : List Int) (a : Nat) (sh : Bool) : numberI l a (cd sh) = ((varS l a sh).1, (varS l a sh).2.1, cd (varS l a sh).2.2) := by
  cases sh with
  | true => simp [numberI, varS]
  | false =>
    rcases getVarP_code l a with h | h <;> simp [numberI, varS, h]
theorem takeI_cd (l : List Int) (a : Nat) (sh : Bool) (n : Int) (hn : 0 ≤ n) : takeI l a (cd sh) n = ((takeS l a sh n).1, (takeS l a sh n).2.1, cd (takeS l a sh n).2.2) := by
  have h0 : ¬ (n < 0) := by omega
  cases sh with
  | true => simp [takeI, takeS]
  | false => by_cases h : (l.length : Int) - a < n <;> simp [takeI, takeS, h0, h]
theorem octetI_cd (l : List Int) (a : Nat) (sh : Bool) : octetI l a (cd sh) = (valP (takeS l a sh 1).1, (takeS l a sh 1).2.1, cd (takeS l a sh 1).2.2) := by
  unfold octetI
  rw [takeI_cd l a sh 1 (by omega)]
  have hl := (takeS_len l a sh 1).1
  generalize takeS l a sh 1 = R at *
  obtain ⟨t, a', s'⟩ := R
  simp only at *
  match t, hl with
  | [], _ => simp [octV, valP]
  | [x], _ => simp [octV, valP]
  | x :: y :: t, h => simp at h
theorem countedI_cd {l : List Int} (hb : By l) (a : Nat) (sh : Bool) : countedI l a (cd sh) = ((countedS l a sh).1, (countedS l a sh).2.1, cd (countedS l a sh).2.2) := by
  unfold countedI countedS
  rw [numberI_cd]
  exact takeI_cd l _ _ _ (varS_rng hb a sh).1
theorem restI_cd {l : List Int} {a : Nat} (ha : a ≤ l.length) (sh : Bool) : restI l a (cd sh) = ((restS l a sh).1, (restS l a sh).2.1, cd (restS l a sh).2.2) := by
  unfold restI restS
  exact takeI_cd l _ _ _ (by omega)
end Go.Ev

/- What stands in a frame's bytes: plain. -/
namespace Go.Ev
open Go Go.Proofs
set_option linter.unusedSimpArgs false
set_option linter.unusedVariables false

/-- the scanner's code of a reader that ran short -/
theorem takeS_le {l : List Int} {a : Nat} (h : a ≤ l.length) (sh : Bool) {n : Int} (hn : 0 ≤ n) : (takeS l a sh n).2.1 ≤ l.length := by
  unfold takeS
  split
  · exact h
  · simp only; omega
theorem countedS_le {l : List Int} (hb : By l) {a : Nat} (h : a ≤ l.length) (sh : Bool) : (countedS l a sh).2.1 ≤ l.length := by
  unfold countedS
  exact takeS_le (varS_le h sh) _ (varS_rng hb a sh).1

/-- how many zeros follow, at most so many -/
def padN (l : List Int) : Nat → Nat → Nat
  | _, 0 => 0
  | a, n + 1 => if l[a]? = some 0 then padN l (a + 1) n + 1 else 0
theorem padN_le (l : List Int) : ∀ (n a : Nat), padN l a n ≤ n
  | 0, a => by simp [padN]
  | n + 1, a => by
    have := padN_le l n (a + 1)
    simp only [padN]; split <;> omega
theorem padN_in (l : List Int) : ∀ (n a : Nat), a ≤ l.length → a + padN l a n ≤ l.length
  | 0, a, h => by simpa [padN] using h
  | n + 1, a, h => by
    simp only [padN]
    split
    · rename_i h1
      have h2 : a < l.length := by
        rw [List.getElem?_eq_some_iff] at h1; exact h1.1
      have := padN_in l n (a + 1) h2
      omega
    · omega

/-! an acknowledgement's ranges -/
/-- the reference: the ranges read so far (falling), the least of the last, whether they can be -/
structure AkS where
  rs : List (Int × Int)
  lo : Int
  good : Bool
  a : Nat
  sh : Bool
/-- one range more: its top is told, its length is read -/
def akOne (l : List Int) (S : AkS) (hi : Int) (a : Nat) (sh : Bool) : AkS :=
  let n := varS l a sh
  let lo := hi - n.1
  if lo < 0 then ⟨S.rs ++ [(0, 0)], 0, false, n.2.1, n.2.2⟩ else ⟨S.rs ++ [(lo, hi)], lo, S.good, n.2.1, n.2.2⟩
def akStep (l : List Int) (S : AkS) : AkS :=
  let g := varS l S.a S.sh
  akOne l S (S.lo - g.1 - 2) g.2.1 g.2.2
/-- so many ranges more, as long as nothing was short -/
def akRun (l : List Int) : Nat → AkS → AkS
  | 0, S => S
  | n + 1, S => if S.sh = true then S else akRun l n (akStep l S)
/-- the acknowledgement's reading: A, the falling ranges, whether they can be, the place, whether it was short -/
def ackS (l : List Int) (a : Nat) : Int × List (Int × Int) × Bool × Nat × Bool :=
  let h := varS l a false
  let d := varS l h.2.1 h.2.2
  let n := varS l d.2.1 d.2.2
  if n.2.2 = true then (d.1, [], true, n.2.1, true)
  else if 63 < n.1 then (d.1, [], false, n.2.1, false)
  else
    let S := akRun l n.1.toNat (akOne l ⟨[], 0, true, n.2.1, false⟩ h.1 n.2.1 false)
    (d.1, S.rs, S.good, S.a, S.sh)
/-- the program's: as long as nothing was wrong the same -/
structure AkI where
  rs : List (Int × Int)
  lo : Int
  wrong : Bool
  a : Nat
  c : Int
def akStepI (l : List Int) (S : AkI) : AkI :=
  let g := numberI l S.a S.c
  let n := numberI l g.2.1 g.2.2
  if S.wrong = true then ⟨S.rs, S.lo, true, n.2.1, n.2.2⟩
  else ⟨S.rs ++ [(S.lo - g.1 - 2 - n.1, S.lo - g.1 - 2)], S.lo - g.1 - 2 - n.1, decide (S.lo - g.1 - 2 < 0 ∨ S.lo - g.1 - 2 - n.1 < 0), n.2.1, n.2.2⟩
def akRunI (l : List Int) : Nat → AkI → AkI
  | 0, S => S
  | n + 1, S => if S.c = 0 then akRunI l n (akStepI l S) else S
structure AkSim (I : AkI) (S : AkS) : Prop where
  wrong : I.wrong = !S.good
  a : I.a = S.a
  c : I.c = cd S.sh
  same : S.good = true → I.rs = S.rs ∧ I.lo = S.lo ∧ 0 ≤ S.lo
theorem akSim_step {l : List Int} (hb : By l) {I : AkI} {S : AkS} (h : AkSim I S) : AkSim (akStepI l I) (akStep l S) := by
  obtain ⟨rsI, loI, w, aI, cI⟩ := I
  obtain ⟨rs, lo, g, a, sh⟩ := S
  obtain ⟨h1, h2, h3, h4⟩ := h
  simp only at h1 h2 h3 h4
  subst h1 h2 h3
  simp only [akStepI, akStep, akOne, numberI_cd]
  have r1 := varS_rng hb aI sh
  have r2 := varS_rng hb (varS l aI sh).2.1 (varS l aI sh).2.2
  generalize varS l aI sh = v at *
  generalize varS l v.2.1 v.2.2 = u at *
  cases g with
  | false =>
    simp only [Bool.not_false, if_true]
    split
    · exact ⟨rfl, rfl, rfl, by simp⟩
    · exact ⟨rfl, rfl, rfl, by simp⟩
  | true =>
    obtain ⟨rfl, rfl, h0⟩ := h4 rfl
    simp only [Bool.not_true, Bool.false_eq_true, if_false]
    by_cases hlo : loI - v.1 - 2 - u.1 < 0
    · rw [if_pos hlo]
      exact ⟨by simp [hlo], rfl, rfl, by simp⟩
    · rw [if_neg hlo]
      refine ⟨?_, rfl, rfl, fun _ => ⟨rfl, rfl, by simp only; omega⟩⟩
      simp only [Bool.not_true, decide_eq_false_iff_not]; omega
theorem akSim_run {l : List Int} (hb : By l) : ∀ (n : Nat) {I : AkI} {S : AkS}, AkSim I S → AkSim (akRunI l n I) (akRun l n S)
  | 0, _, _, h => h
  | n + 1, I, S, h => by
    simp only [akRunI, akRun, h.c]
    by_cases hs : S.sh = true
    · simp [hs, h]
    · have hs' : S.sh = false := by simpa using hs
      simp only [hs', cd_f, if_true, Bool.false_eq_true, if_false]
      exact akSim_run hb n (akSim_step hb h)
end Go.Ev

/- Padding read by the program. -/
namespace Go.Ev
open Go Go.Proofs
set_option linter.unusedSimpArgs false
set_option linter.unusedVariables false

theorem Bs.idx {Hb : AH} {s : AV} {l : List Int} (h : Bs Hb s l) {i : Nat} (hi : i < l.length) : ∃ b o ro xs, idxA Try.prog 34 s (.int .i64 i) = some (.ptr b o) ∧ b < Hb.next ∧ (∀ H, Kp Hb H → H.get b = some (.cells 5 ro xs)) ∧ xs[o]? = some (.int .u8 l[i]) := by
  have hcs : (u8L l).length = l.length := by simp [u8L]
  rcases h.lie with ⟨rfl, h0⟩ | ⟨b, o, ro, xs, rfl, hn, hb, hl, hx⟩
  · rw [h0] at hcs; simp at hcs; omega
  · refine ⟨b, o + i, ro, xs, ?_, hn, fun H hK => (hK.get b hn).trans hb, ?_⟩
    · simp [idxA, h.ty, h.sz, hcs, hi]
    · have h1 : (u8L l)[i]? = some (.int .u8 l[i]) := by simp [u8L, hi]
      rw [← h1, ← hx, List.getElem?_take, if_pos (by omega), List.getElem?_drop]
structure PdT (τ : Tm) (q p2 p4 : Nat) (h : AH) (k : Int) (s : AV) (a j : Nat) : Prop where
  T : FrT τ q p2 p4 k
  gq : h.get q = some (scB s (a + j) 0)
  g4 : h.get p4 = some (.cells 72 false (frC 0 (1 + j : Nat) 0 0 false .nilSlice .nilSlice .nilSlice))
def PdI (q p2 p4 : Nat) (k : Int) (s : AV) (l : List Int) (a : Nat) (H : AH) (d : Nat) (τ : Tm) (h : AH) : Prop :=
  ∃ j, j + d = 1499 ∧ PdT τ q p2 p4 h k s a j ∧ j + padN l (a + j) (1499 - j) = padN l a 1499 ∧ a + j ≤ l.length ∧ H.next ≤ h.next ∧ ∀ b, b < H.next → b ≠ q → b ≠ p4 → h.get b = H.get b
set_option maxRecDepth 20000 in
theorem padLoop {Hb H h0 : AH} {q p2 p4 a : Nat} {s : AV} {l : List Int} (k : Int) (hs : Bs Hb s l) (hK : Kp Hb H) (hqb : Hb.next ≤ q) (b4 : Hb.next ≤ p4) (n4 : p4 ≠ q) (hl : l.length ≤ 65536) (m : Nat) (hm : 1500 ≤ m) (τ : Tm) (hI : PdI q p2 p4 k s l a H 1499 τ h0) :
    ∃ e τ' H', evLoop Try.prog (ev Try.prog m) m (lp Try.prog 126 4010) τ h0 = some (e, τ', H') ∧ e = .exit 1 ∧ PdT τ' q p2 p4 H' k s a (padN l a 1499) ∧ a + padN l a 1499 ≤ l.length ∧ H.next ≤ H'.next ∧ ∀ b, b < H.next → b ≠ q → b ≠ p4 → H'.get b = H.get b := by
  refine loop_rule (d := 1499) (PdI q p2 p4 k s l a H) (fun e τ h => e = .exit 1 ∧ PdT τ q p2 p4 h k s a (padN l a 1499) ∧ a + padN l a 1499 ≤ l.length ∧ H.next ≤ h.next ∧ ∀ b, b < H.next → b ≠ q → b ≠ p4 → h.get b = H.get b) ?_ hI (by omega)
  rintro d τ h ⟨j, hj, ⟨⟨t0, t2, t3, t4⟩, gq, g4⟩, hp, hin, hn, hr⟩
  have hL := hs.len
  have n4' : ¬ (q = p4) := fun e => n4 e.symm
  have gq0 := gq
  have g40 := g4
  simp only [scB, frC] at gq g4
  rw [lp_M Try.func126 4010 (by decide) 12 (by decide) (by kernel_rfl) []]
  by_cases hd : d = 0
  · subst hd
    have hj' : j = 1499 := by omega
    subst hj'
    have : padN l (a + 1499) (1499 - 1499) = 0 := rfl
    rw [this] at hp
    simp (disch := omega) [Try.f126, t0, t4, g4, gq, ldVar, stVar, spl, evHist, ObsOk, ObOk, List.getElem?_cons_zero]
    rw [← hp]
    exact ⟨⟨⟨by simp [t0], by simp [t2], by simp [t3], by simp [t4]⟩, gq0, g40⟩, by omega, hn, hr⟩
  · have c1 : (((1 + j : Nat) : Int) < 1500) = True := eq_true (by omega)
    have ex : 1499 - j = (1499 - (j + 1)) + 1 := by omega
    by_cases hlt : a + j < l.length
    · obtain ⟨b, o, ro, xs, i1, i2, i3, i4⟩ := hs.idx hlt
      have gb := i3 h ⟨by have := hK.next; omega, fun x hx => (hr x (by have := hK.next; omega) (by omega) (by omega)).trans (hK.get x hx)⟩
      have c2 : (((a + j : Nat) : Int) < (l.length : Int)) = True := eq_true (by omega)
      by_cases hz : l[a + j] = 0
      · rw [hz] at i4
        have w1 : IntKind.i64.wrap (((1 + j : Nat) : Int) + 1) = ((1 + (j + 1) : Nat) : Int) := by rw [wrap_i64 (n := ((1 + j : Nat) : Int) + 1) (by omega) (by omega)]; omega
        have w2 : IntKind.i64.wrap (((a + j : Nat) : Int) + 1) = ((a + (j + 1) : Nat) : Int) := by rw [wrap_i64 (n := ((a + j : Nat) : Int) + 1) (by omega) (by omega)]; omega
        generalize hx1 : ((1 + j : Nat) : Int) = x1 at *
        generalize hx2 : ((a + j : Nat) : Int) = x2 at *
        generalize hx3 : ((1 + (j + 1) : Nat) : Int) = x3 at *
        generalize hx4 : ((a + (j + 1) : Nat) : Int) = x4 at *
        simp [Try.f126, t0, t4, g4, gq, hL, c1, c2, i1, gb, i4, w1, w2, ldVar, stVar, spl, n4', evHist, ObsOk, ObOk, List.getElem?_cons_zero]
        refine ⟨d - 1, by omega, j + 1, by omega, ⟨⟨by simp [t0], by simp [t2], by simp [t3], by simp [t4]⟩, by simp [scB, hx4], by simp [n4, frC, hx3]⟩, ?_, by omega, by simpa using hn, fun b hb h1 h2 => ?_⟩
        · rw [← hp, ex, padN, if_pos (by simp [hlt, hz])]
          have : a + (j + 1) = a + j + 1 := by omega
          rw [this]; omega
        · simp [h1, h2]; exact hr b hb h1 h2
      · have hz' : (l[a + j] == 0) = false := by simpa using hz
        have e0 : padN l (a + j) (1499 - j) = 0 := by rw [ex, padN, if_neg (by simp [hlt, hz])]
        rw [e0] at hp
        generalize hx1 : ((1 + j : Nat) : Int) = x1 at *
        generalize hx2 : ((a + j : Nat) : Int) = x2 at *
        simp [Try.f126, t0, t4, g4, gq, hL, c1, c2, i1, gb, i4, hz', ldVar, stVar, spl, n4', evHist, ObsOk, ObOk, List.getElem?_cons_zero]
        rw [← hp]
        exact ⟨⟨⟨by simp [t0], by simp [t2], by simp [t3], by simp [t4]⟩, gq0, by subst hx1; exact g40⟩, by omega, hn, hr⟩
    · have c2 : (((a + j : Nat) : Int) < (l.length : Int)) = False := eq_false (by omega)
      have e0 : padN l (a + j) (1499 - j) = 0 := by rw [ex, padN, if_neg (by simp [hlt])]
      rw [e0] at hp
      generalize hx1 : ((1 + j : Nat) : Int) = x1 at *
      generalize hx2 : ((a + j : Nat) : Int) = x2 at *
      simp [Try.f126, t0, t4, g4, gq, hL, c1, c2, ldVar, stVar, spl, n4', evHist, ObsOk, ObOk, List.getElem?_cons_zero]
      rw [← hp]
      exact ⟨⟨⟨by simp [t0], by simp [t2], by simp [t3], by simp [t4]⟩, gq0, by subst hx1; exact g40⟩, by omega, hn, hr⟩
set_option maxRecDepth 20000 in
theorem frK_0 {Hb h : AH} {q p2 p4 a : Nat} {s : AV} {l : List Int} (hs : Bs Hb s l) (hb : By l) (hK : Kp Hb h) (hqb : Hb.next ≤ q) (hq : h.get q = some (scB s a 0)) (hqn : q < h.next) (ha : a ≤ l.length) (hl : l.length ≤ 65536)
    (n4 : p4 ≠ q) (l4 : p4 < h.next) (b4 : Hb.next ≤ p4) (g4 : h.get p4 = some (.cells 72 false (frC 0 0 0 0 false .nilSlice .nilSlice .nilSlice))) (m : Nat) (hm : 1500 ≤ m) (τ : Tm) (S : FrU τ q p2 p4 0) :
    ∃ τ' H', evAt Try.prog (ev Try.prog m) m 126 250 τ h = some (.normal, τ', H') ∧ FrE q p2 p4 s 0 h H' τ' (frC 0 (1 + padN l a 1499 : Nat) 0 0 false .nilSlice .nilSlice .nilSlice) (a + padN l a 1499, 0) ∧ a + padN l a 1499 ≤ l.length := by
  obtain ⟨⟨t0, t2, t3, t4⟩, tk⟩ := S
  have n4' : ¬ (q = p4) := fun e => n4 e.symm
  have g40 := g4
  simp only [frC] at g4
  rw [at_M Try.func126 250 (by decide) 8 (by decide) (by kernel_rfl) [1003]]
  simp [Try.f126, tk, t0, t3, t4, g4, stVar, spl]
  generalize hLo : evLoop _ _ _ _ _ _ = R
  obtain ⟨e, τ', H', rfl, rfl, ⟨T, gq, gp⟩, hin, hn, hr⟩ := loop_at hLo (padLoop (p2 := p2) 0 hs hK hqb b4 n4 hl m hm _ ⟨0, by omega, ⟨⟨by simp [t0], by simp [t2], by simp [t3], by simp [t4]⟩, by simpa [n4'] using hq, by simp [frC]⟩, by simp, ha, by simp, fun b hb h1 h2 => by simp [h2]⟩)
  refine ⟨τ', H', by simp, ⟨T, gp, gq, hn, hr⟩, hin⟩
end Go.Ev

/- An acknowledgement read by the program. -/
namespace Go.Ev
open Go Go.Proofs
set_option linter.unusedSimpArgs false
set_option linter.unusedVariables false

theorem getVarP_lt3 {l : List Int} (hb : By l) (a : Nat) : (getVarP l a).1 ≤ 4611686018427387903 := by
  simp only [getVarP]
  split
  · simp
  · split
    · simp
    · simp only
      have h1 := gvN_cases hb a
      generalize gvN (l.getD a 0) = g at *
      have hp : (0 : Int) < 2 ^ (8 * g - 2) := Int.pow_pos (by decide)
      have h2 := Int.emod_lt_of_pos (valP ((l.drop a).take g)) hp
      have h3 : 2 ^ (8 * g - 2) ≤ 2 ^ 62 := Nat.pow_le_pow_right (by omega) (by omega)
      have h4 := Int.ofNat_le.mpr h3
      rw [Int.natCast_pow, Int.natCast_pow] at h4
      have h5 : ((2 : Nat) : Int) ^ 62 = 4611686018427387904 := by decide
      have h6 : ((2 : Nat) : Int) = 2 := rfl
      rw [h5, h6] at h4
      omega
theorem numberI_rng {l : List Int} (hb : By l) (a : Nat) (c : Int) : 0 ≤ (numberI l a c).1 ∧ (numberI l a c).1 ≤ 4611686018427387903 := by
  refine ⟨numberI_nn l a c, ?_⟩
  unfold numberI
  split
  · simp
  · split
    · simp
    · exact getVarP_lt3 hb a
theorem varS_rng3 {l : List Int} (hb : By l) (a : Nat) (sh : Bool) : 0 ≤ (varS l a sh).1 ∧ (varS l a sh).1 ≤ 4611686018427387903 := by
  unfold varS
  split
  · simp
  · split
    · simp
    · exact ⟨getVarP_nn a, getVarP_lt3 hb a⟩
/-- a range more -/
theorem app94 {X : AH} {v : AV} {l : List tT94.D} {bs : List Nat} {x y : Int} (h : (Ty.sl 94 tT94).R true X [v] l bs) (hnd : bs.Nodup) (hx : InK .i64 x) (hy : InK .i64 y) (hl : l.length ≤ 1000000) :
    ∃ v' X' bs', appA Try.prog 70 70 v (.slice X.next 0 1) (X.push (.cells 94 false [.int .i64 x, .int .i64 y])) = some (v', X') ∧ (Ty.sl 94 tT94).R true X' [v'] (l ++ [(x, y)]) bs' ∧ bs'.Nodup ∧ (∀ b ∈ bs', b ∈ bs ∨ X.next ≤ b) ∧ KoS bs X X' := by
  obtain ⟨v', X', bs', h1, h2, h3, h4, h5⟩ := Ty.R.app1 (P := Try.prog) (T := 70) h (i94 hx hy) (by simpa using hnd) (by simp) (by simp) (by simp [Ty.n]) (by_ := 16) (by simp) (z := [.int .i64 0, .int .i64 0]) (by simp) (by simp [Ty.n]) (by omega) (by omega)
  exact ⟨v', X', bs', h1, h2, h3, fun b hb => by rcases h4 b hb with h | h | h <;> simp_all, h5⟩

structure AkT (τ : Tm) (q p : Nat) (hi more : Int) : Prop where
  t0 : τ 0 = .ptr q 0
  t1 : τ 1 = .ptr p 0
  t4 : τ 4 = .int .i64 hi
  t5 : τ 5 = .int .i64 more
/-- the first three numbers -/
def ak3 (l : List Int) (a : Nat) : Int × Int × Int × Nat × Int :=
  ((numberI l a 0).1, (numberI l (numberI l a 0).2.1 (numberI l a 0).2.2).1, numberI l (numberI l (numberI l a 0).2.1 (numberI l a 0).2.2).2.1 (numberI l (numberI l a 0).2.1 (numberI l a 0).2.2).2.2)
theorem akA {Hb h : AH} {q p a : Nat} {s : AV} {l : List Int} (hs : Bs Hb s l) (hb : By l) (hK : Kp Hb h) (hqb : Hb.next ≤ q) (hq : h.get q = some (scB s a 0)) (hqn : q < h.next) (ha : a ≤ l.length) (hl : l.length ≤ 65536)
    (n4 : p ≠ q) (l4 : p < h.next) (b4 : Hb.next ≤ p) (g4 : h.get p = some (.cells 72 false (frC 2 0 0 0 false .nilSlice .nilSlice .nilSlice))) (m : Nat) (hm : 21 ≤ m) :
    ∃ τ' H', ev Try.prog (m + 1) 219 [.ptr q 0, .ptr p 0] h = resM Try.prog [] (evAt Try.prog (ev Try.prog m) m 219 15 τ' H') ∧ AkT τ' q p (ak3 l a).1 (ak3 l a).2.2.1 ∧
      H'.get p = some (.cells 72 false (frC 2 (ak3 l a).2.1 0 0 false .nilSlice .nilSlice .nilSlice)) ∧ H'.get q = some (scB s (ak3 l a).2.2.2.1 (ak3 l a).2.2.2.2) ∧ (ak3 l a).2.2.2.1 ≤ l.length ∧ H'.next = h.next ∧ ∀ b, b < h.next → b ≠ q → b ≠ p → H'.get b = h.get b := by
  have n4' : ¬ (q = p) := fun e => n4 e.symm
  obtain ⟨H1, e1, k1, n1, g1, l1⟩ := number_ev (c := 0) (a := a) hs hb hK hqb hq ha hl m (by omega)
  have K1 := k1.kp hK hqb
  obtain ⟨H2, e2, k2, n2, g2, l2⟩ := number_ev hs hb K1 hqb g1 l1 hl m (by omega)
  have k12 := k1.trans k2
  have c4 := (k12.get p l4 n4).trans g4
  let A0 : AH := H2.set p (.cells 72 false (frC 2 (numberI l (numberI l a 0).2.1 (numberI l a 0).2.2).1 0 0 false .nilSlice .nilSlice .nilSlice))
  have KA : Kp Hb A0 := (k12.kp hK hqb).set b4 _
  have qA : A0.get q = _ := (AH.set_getN _ _ n4').trans g2
  obtain ⟨H3, e3, k3, n3, g3, l3⟩ := number_ev hs hb KA hqb qA l2 hl m (by omega)
  have pA : A0.get p = some (.cells 72 false (frC 2 (numberI l (numberI l a 0).2.1 (numberI l a 0).2.2).1 0 0 false .nilSlice .nilSlice .nilSlice)) := by simp [A0]
  have nA : A0.next = h.next := by simp only [A0, AH.set_next]; omega
  have p3 := (k3.get p (by omega) n4).trans pA
  simp only [A0, frC] at e3
  simp only [frC] at c4 p3 ⊢
  rw [ev_M Try.func219 ok219 [15] m _ h (by simp [Try.f219])]
  refine ⟨_, _, by simp [Try.f219, tm0, e1, e2, c4, stVar, spl, e3]; rfl, ⟨by simp [tm0], by simp [tm0], by simp [ak3], by simp [ak3]⟩, p3, g3, l3, by omega, fun b hb h1 h2 => ?_⟩
  rw [k3.get b (by omega) h1]
  simp only [A0]
  rw [AH.set_getN _ _ h2]
  exact k12.get b hb h1
/-- the code behind the count -/
def cap3 (c : Int) (more : Int) : Int := if c = 0 ∧ 63 < more then 3 else c
theorem akB {h : AH} {q p a : Nat} {s : AV} {c hi more : Int} (hq : h.get q = some (scB s a c)) (m : Nat) (hm : 1 ≤ m) (τ : Tm) (S : AkT τ q p hi more) :
    ∃ τ' H', evAt Try.prog (ev Try.prog m) m 219 15 τ h = evAt Try.prog (ev Try.prog m) m 219 31 τ' H' ∧ AkT τ' q p hi more ∧ H'.get q = some (scB s a (cap3 c more)) ∧ Kx q h H' ∧ H'.next = h.next := by
  obtain ⟨t0, t1, t4, t5⟩ := S
  have ef := fail_ev (e := 3) hq m (by omega)
  have hq0 := hq
  unfold scB at hq
  unfold cap3
  rw [at_M Try.func219 15 (by decide) 4 (by decide) (by kernel_rfl) [31]]
  by_cases c0 : c = 0
  · subst c0
    rw [if_pos rfl] at ef
    by_cases h63 : 63 < more
    · exact ⟨_, _, by simp [Try.f219, t0, t5, hq, ldVar, h63, ef]; rfl, ⟨by simp [t0], by simp [t1], by simp [t4], by simp [t5]⟩, by simp [h63], (Kx.refl q h).set _, rfl⟩
    · exact ⟨_, h, by simp [Try.f219, t0, t5, hq, ldVar, h63]; rfl, ⟨by simp [t0], by simp [t1], by simp [t4], by simp [t5]⟩, by simp [h63, hq0], Kx.refl q h, rfl⟩
  · have c0' : (c == 0) = false := by simpa using c0
    exact ⟨_, h, by simp [Try.f219, t0, t5, hq, ldVar, c0']; rfl, ⟨by simp [t0], by simp [t1], by simp [t4], by simp [t5]⟩, by simp [c0, hq0], Kx.refl q h, rfl⟩
structure AkU (τ : Tm) (q p : Nat) (more : Int) (S : AkI) (v : AV) : Prop where
  t0 : τ 0 = .ptr q 0
  t1 : τ 1 = .ptr p 0
  t5 : τ 5 = .int .i64 more
  t6 : τ 6 = .int .i64 S.lo
  t7 : τ 7 = v
  t8 : τ 8 = .bool S.wrong
/-- the first range -/
def akI0 (l : List Int) (hi : Int) (a : Nat) (c : Int) : AkI := ⟨[(hi - (numberI l a c).1, hi)], hi - (numberI l a c).1, decide (hi - (numberI l a c).1 < 0), (numberI l a c).2.1, (numberI l a c).2.2⟩
theorem akC {Hb h : AH} {q p a : Nat} {s : AV} {l : List Int} {c hi more : Int} (hs : Bs Hb s l) (hb : By l) (hK : Kp Hb h) (hqb : Hb.next ≤ q) (hq : h.get q = some (scB s a c)) (hqn : q < h.next) (ha : a ≤ l.length) (hl : l.length ≤ 65536)
    (hhi : 0 ≤ hi ∧ hi ≤ 4611686018427387903) (m : Nat) (hm : 21 ≤ m) (τ : Tm) (S : AkT τ q p hi more) :
    ∃ τ' H' v bs, evAt Try.prog (ev Try.prog m) m 219 31 τ h = evAt Try.prog (ev Try.prog m) m 219 255 τ' H' ∧ AkU τ' q p more (akI0 l hi a c) v ∧ (Ty.sl 94 tT94).R true H' [v] (akI0 l hi a c).rs bs ∧ bs.Nodup ∧ (∀ b ∈ bs, h.next ≤ b) ∧
      H'.get q = some (scB s (akI0 l hi a c).a (akI0 l hi a c).c) ∧ (akI0 l hi a c).a ≤ l.length ∧ Kx q h H' := by
  obtain ⟨t0, t1, t4, t5⟩ := S
  obtain ⟨H1, e1, k1, n1, g1, l1⟩ := number_ev (c := c) (a := a) hs hb hK hqb hq ha hl m (by omega)
  have hr := numberI_rng hb a c
  have w1 : IntKind.i64.wrap (hi - (numberI l a c).1) = hi - (numberI l a c).1 := wrap_i64 (n := hi - (numberI l a c).1) (by omega) (by omega)
  have nq : ¬ (q = H1.next) := by omega
  rw [at_M Try.func219 31 (by decide) 5 (by decide) (by kernel_rfl) [255]]
  unfold akI0
  generalize numberI l a c = N at *
  refine ⟨_, _, .slice H1.next 0 1, [H1.next], by simp [Try.f219, t0, t4, e1, w1, zerosA, spl]; rfl, ⟨by simp [t0], by simp [t1], by simp [t5], by simp, by simp, by simp⟩, ?_, by simp, by simp [n1], by simp [nq, g1], l1, (k1.push _)⟩
  exact .inr ⟨H1.next, 0, false, _, [], rfl, rfl, by simp, by simp; rfl, fun _ => ⟨rfl, rfl, by simp [Ty.n]⟩, by simp [Ty.n], ⟨_, [], [], [], by simp [Ty.n] <;> rfl, by simp [Ty.n], rfl, i94 (InK.i64 (by omega) (by omega)) (InK.i64 (by omega) (by omega)), rfl, rfl⟩⟩
/-- the loop over the further ranges -/
def AkL (q p : Nat) (s : AV) (l : List Int) (more : Int) (F : AkI) (H : AH) (d : Nat) (τ : Tm) (h : AH) : Prop :=
  ∃ (k : Nat) (S : AkI) (v : AV) (bs : List Nat), AkU τ q p more S v ∧ τ 9 = .int .i64 k ∧ (S.c = 0 → (k : Int) + d = more) ∧ (Ty.sl 94 tT94).R true h [v] S.rs bs ∧ bs.Nodup ∧ (∀ b ∈ bs, H.next ≤ b) ∧ h.get q = some (scB s S.a S.c) ∧ S.a ≤ l.length ∧
    KoS [q] H h ∧ akRunI l d S = F ∧ (S.wrong = false → 0 ≤ S.lo ∧ S.lo ≤ 4611686018427387903) ∧ S.rs.length ≤ k + 1 ∧ k + d ≤ 64
structure AkE (q p : Nat) (s : AV) (l : List Int) (more : Int) (F : AkI) (H : AH) (v : AV) (bs : List Nat) (τ : Tm) (h : AH) : Prop where
  U : AkU τ q p more F v
  R : (Ty.sl 94 tT94).R true h [v] F.rs bs
  nd : bs.Nodup
  lo : ∀ b ∈ bs, H.next ≤ b
  gq : h.get q = some (scB s F.a F.c)
  le : F.a ≤ l.length
  ko : KoS [q] H h
  len : F.rs.length ≤ 65
theorem Kx.koS {q : Nat} {A B : AH} (h : Kx q A B) : KoS [q] A B := ⟨h.next, fun b hb hx => h.get b hb (by simpa using hx)⟩
set_option maxRecDepth 20000 in
theorem akLoop {Hb H h0 : AH} {q p : Nat} {s : AV} {l : List Int} {more : Int} {F : AkI} (hs : Bs Hb s l) (hb : By l) (hK : Kp Hb H) (hqb : Hb.next ≤ q) (hqn : q < H.next) (hl : l.length ≤ 65536) {d0 : Nat} (hd0 : d0 ≤ 63) (m : Nat) (hm : 64 ≤ m) (τ : Tm) (hI : AkL q p s l more F H d0 τ h0) :
    ∃ e τ' H', evLoop Try.prog (ev Try.prog m) m (lp Try.prog 219 2042) τ h0 = some (e, τ', H') ∧ e = .exit 0 ∧ ∃ v bs, AkE q p s l more F H v bs τ' H' := by
  refine loop_rule (d := d0) (AkL q p s l more F H) (fun e τ h => e = .exit 0 ∧ ∃ v bs, AkE q p s l more F H v bs τ h) ?_ hI (by omega)
  rintro d τ h ⟨k, S, v, bs, ⟨t0, t1, t5, t6, t7, t8⟩, t9, hk, hR, hnd, hlo, gq, hle, hko, hF, hlr, hlen, hkd⟩
  have gq0 := gq
  simp only [scB] at gq
  have hne := hko.next
  rw [lp_M Try.func219 2042 (by decide) 11 (by decide) (by kernel_rfl) []]
  by_cases c0 : S.c = 0
  · have hkk := hk c0
    have bc0 : (S.c == 0) = true := by simpa using c0
    by_cases hd : d = 0
    · subst hd
      have c1 : ((k : Int) < more) = False := eq_false (by omega)
      simp [Try.f219, t0, t5, t9, gq, c1, ldVar, evHist, ObsOk, ObOk, List.getElem?_cons_zero]
      simp only [akRunI] at hF
      subst hF
      exact ⟨v, bs, ⟨⟨by simp [t0], by simp [t1], by simp [t5], by simp [t6], by simp [t7], by simp [t8]⟩, hR, hnd, hlo, gq0, hle, hko, by omega⟩⟩
    · have c1 : ((k : Int) < more) = True := eq_true (by omega)
      obtain ⟨d, rfl⟩ : ∃ e, d = e + 1 := ⟨d - 1, by omega⟩
      rw [akRunI, if_pos c0] at hF
      have KH : Kp Hb h := hko.kp hK (by simpa using hqb)
      obtain ⟨H1, e1, k1, n1, g1, l1⟩ := number_ev hs hb KH hqb gq0 hle hl m (by omega)
      obtain ⟨H2, e2, k2, n2, g2, l2⟩ := number_ev hs hb (k1.kp KH hqb) hqb g1 l1 hl m (by omega)
      have k12 := k1.trans k2
      have w9 : IntKind.i64.wrap ((k : Int) + 1) = ((k + 1 : Nat) : Int) := by rw [wrap_i64 (n := (k : Int) + 1) (by omega) (by omega)]; omega
      have r1 := numberI_rng hb S.a S.c
      have r2 := numberI_rng hb (numberI l S.a S.c).2.1 (numberI l S.a S.c).2.2
      have hbsq : ∀ b ∈ bs, b ≠ q := fun b hb h => by have := hlo b hb; omega
      have hR2 : (Ty.sl 94 tT94).R true H2 [v] S.rs bs := hR.koS k12.koS (by simpa using hbsq)
      simp only [akStepI] at hF
      generalize numberI l S.a S.c = N at *
      generalize numberI l N.2.1 N.2.2 = M at *
      by_cases hw : S.wrong = true
      · rw [if_pos hw] at hF
        simp only [hw] at t8
        simp [Try.f219, t0, t5, t8, t9, gq, c0, c1, e1, e2, ldVar, evHist, ObsOk, ObOk, List.getElem?_cons_zero, w9]
        exact ⟨d, by omega, k + 1, ⟨S.rs, S.lo, true, M.2.1, M.2.2⟩, v, bs, ⟨by simp [t0], by simp [t1], by simp [t5], by simp [t6], by simp [t7], by simp [t8]⟩, by simp, by simp only; omega, hR2, hnd, hlo, g2, l2, hko.trans k12.koS (by simp), hF, by simp, by simp only; omega, by omega⟩
      · have hw' : S.wrong = false := by simpa using hw
        obtain ⟨q0, q1⟩ := hlr hw'
        rw [if_neg hw] at hF
        simp only [hw'] at t8
        have w1 : IntKind.i64.wrap (S.lo - N.1) = S.lo - N.1 := wrap_i64 (n := S.lo - N.1) (by omega) (by omega)
        have w2 : IntKind.i64.wrap (S.lo - N.1 - 2) = S.lo - N.1 - 2 := wrap_i64 (n := S.lo - N.1 - 2) (by omega) (by omega)
        have w3 : IntKind.i64.wrap (S.lo - N.1 - 2 - M.1) = S.lo - N.1 - 2 - M.1 := wrap_i64 (n := S.lo - N.1 - 2 - M.1) (by omega) (by omega)
        obtain ⟨v', X', bs', b1, b2, b3, b4, b5⟩ := app94 (x := S.lo - N.1 - 2 - M.1) (y := S.lo - N.1 - 2) hR2 hnd (InK.i64 (by omega) (by omega)) (InK.i64 (by omega) (by omega)) (by omega)
        have hw3 : (if S.lo - N.1 - 2 < 0 then true else decide (S.lo - N.1 - 2 - M.1 < 0)) = decide (S.lo - N.1 - 2 < 0 ∨ S.lo - N.1 - 2 - M.1 < 0) := by
          by_cases h : S.lo - N.1 - 2 < 0 <;> simp [h]
        have kX : KoS [q] H X' := (hko.trans k12.koS (by simp)).trans b5 (fun b hb => .inr (hlo b hb))
        have gX : X'.get q = some (scB s M.2.1 M.2.2) := (b5.get q (by omega) (fun h => hbsq q h rfl)).trans g2
        have hlo' : ∀ b ∈ bs', H.next ≤ b := fun b hb => (b4 b hb).elim (hlo b) (fun h => by omega)
        generalize hx1 : S.lo - N.1 - 2 = x1 at *
        generalize hx2 : x1 - M.1 = x2 at *
        by_cases h1 : x1 < 0
        · have h1' : (x1 < 0) = True := eq_true h1
          simp [Try.f219, t0, t5, t6, t7, t8, t9, gq, c0, c1, e1, e2, ldVar, evHist, ObsOk, ObOk, List.getElem?_cons_zero, w1, hx1, w2, hx2, w3, h1', zerosA, spl, b1, w9]
          exact ⟨d, by omega, k + 1, ⟨S.rs ++ [(x2, x1)], x2, decide (x1 < 0 ∨ x2 < 0), M.2.1, M.2.2⟩, v', bs', ⟨by simp [t0], by simp [t1], by simp [t5], by simp, by simp, by simp [h1]⟩, by simp, by simp only; omega, b2, b3, hlo', gX, l2, kX, hF, by simp only [decide_eq_false_iff_not]; omega, by simp only [List.length_append, List.length_singleton]; omega, by omega⟩
        · have h1' : (x1 < 0) = False := eq_false h1
          simp [Try.f219, t0, t5, t6, t7, t8, t9, gq, c0, c1, e1, e2, ldVar, evHist, ObsOk, ObOk, List.getElem?_cons_zero, w1, hx1, w2, hx2, w3, h1', zerosA, spl, b1, w9]
          exact ⟨d, by omega, k + 1, ⟨S.rs ++ [(x2, x1)], x2, decide (x1 < 0 ∨ x2 < 0), M.2.1, M.2.2⟩, v', bs', ⟨by simp [t0], by simp [t1], by simp [t5], by simp, by simp, by simp [h1]⟩, by simp, by simp only; omega, b2, b3, hlo', gX, l2, kX, hF, by simp only [decide_eq_false_iff_not]; omega, by simp only [List.length_append, List.length_singleton]; omega, by omega⟩
  · have bc0 : (S.c == 0) = false := by simpa using c0
    have hF' : F = S := by rw [← hF]; cases d <;> simp [akRunI, c0]
    subst hF'
    by_cases c1 : (k : Int) < more
    · simp [Try.f219, t0, t5, t9, gq, c1, bc0, ldVar, evHist, ObsOk, ObOk, List.getElem?_cons_zero]
      exact ⟨v, bs, ⟨⟨by simp [t0], by simp [t1], by simp [t5], by simp [t6], by simp [t7], by simp [t8]⟩, hR, hnd, hlo, gq0, hle, hko, by omega⟩⟩
    · simp [Try.f219, t0, t5, t9, gq, c1, bc0, ldVar, evHist, ObsOk, ObOk, List.getElem?_cons_zero]
      exact ⟨v, bs, ⟨⟨by simp [t0], by simp [t1], by simp [t5], by simp [t6], by simp [t7], by simp [t8]⟩, hR, hnd, hlo, gq0, hle, hko, by omega⟩⟩
end Go.Ev

/- An acknowledgement read by the program: the ranges turned round. -/
namespace Go.Ev
open Go Go.Proofs
set_option linter.unusedSimpArgs false
set_option linter.unusedVariables false

theorem akD {Hb h : AH} {q p : Nat} {s : AV} {l : List Int} {more : Int} {S : AkI} {v : AV} {bs : List Nat} (hs : Bs Hb s l) (hb : By l) (hK : Kp Hb h) (hqb : Hb.next ≤ q) (hqn : q < h.next) (hl : l.length ≤ 65536)
    (hc : S.c = 0 → 0 ≤ more ∧ more ≤ 63) (hR : (Ty.sl 94 tT94).R true h [v] S.rs bs) (hnd : bs.Nodup) {Hl : AH} (hlo : ∀ b ∈ bs, Hl.next ≤ b) (hkl : KoS [q] Hl h) (hKl : Kp Hb Hl) (hql : q < Hl.next) (gq : h.get q = some (scB s S.a S.c)) (hle : S.a ≤ l.length) (hlr : S.wrong = false → 0 ≤ S.lo ∧ S.lo ≤ 4611686018427387903) (hlen : S.rs.length ≤ 1)
    (m : Nat) (hm : 64 ≤ m) (τ : Tm) (U : AkU τ q p more S v) :
    ∃ τ' H' v' bs', evAt Try.prog (ev Try.prog m) m 219 255 τ h = evAt Try.prog (ev Try.prog m) m 219 511 τ' H' ∧ AkE q p s l more (akRunI l more.toNat S) Hl v' bs' τ' H' := by
  obtain ⟨t0, t1, t5, t6, t7, t8⟩ := U
  have hF : ∃ d0 : Nat, d0 ≤ 63 ∧ (S.c = 0 → (d0 : Int) = more) ∧ akRunI l d0 S = akRunI l more.toNat S := by
    by_cases c0 : S.c = 0
    · obtain ⟨h1, h2⟩ := hc c0
      exact ⟨more.toNat, by omega, fun _ => by omega, rfl⟩
    · refine ⟨0, by omega, fun h => absurd h c0, ?_⟩
      cases more.toNat <;> simp [akRunI, c0]
  obtain ⟨d0, hd, hd2, hF⟩ := hF
  rw [at_M Try.func219 255 (by decide) 8 (by decide) (by kernel_rfl) [511]]
  simp [Try.f219]
  generalize hLo : evLoop _ _ _ _ _ _ = R
  obtain ⟨e, τ', H', rfl, rfl, v', bs', hE⟩ := loop_at hLo (akLoop (p := p) (more := more) (F := akRunI l more.toNat S) hs hb hKl hqb hql hl hd m hm _ ⟨0, S, v, bs, ⟨by simp [t0], by simp [t1], by simp [t5], by simp [t6], by simp [t7], by simp [t8]⟩, by simp, fun c => by have := hd2 c; omega, hR, hnd, hlo, gq, hle, hkl, hF, hlr, by omega, by omega⟩)
  exact ⟨τ', H', by simp, v', bs', hE⟩
theorem akG {q p : Nat} {s : AV} {l : List Int} {more : Int} {F : AkI} {Hl h : AH} {v : AV} {bs : List Nat} (m : Nat) (hm : 1 ≤ m) (τ : Tm) (E : AkE q p s l more F Hl v bs τ h) :
    (F.c = 0 ∧ F.wrong = true → ∃ τ', evAt Try.prog (ev Try.prog m) m 219 511 τ h = some (.ret, τ', h.set q (scB s F.a 3))) ∧
    (¬ (F.c = 0 ∧ F.wrong = true) → ∃ τ', evAt Try.prog (ev Try.prog m) m 219 511 τ h = evAt Try.prog (ev Try.prog m) m 219 1023 τ' h ∧ AkE q p s l more F Hl v bs τ' h) := by
  obtain ⟨⟨t0, t1, t5, t6, t7, t8⟩, hR, hnd, hlo, gq, hle, hko, hlen⟩ := E
  have ef := fail_ev (e := 3) gq m (by omega)
  have gq0 := gq
  unfold scB at gq
  rw [at_M Try.func219 511 (by decide) 9 (by decide) (by kernel_rfl) [1023]]
  refine ⟨fun ⟨c0, w⟩ => ?_, fun hn => ?_⟩
  · rw [if_pos c0] at ef
    rw [w] at t8
    exact ⟨_, by simp [Try.f219, t0, t8, gq, c0, ldVar, ef]; rfl⟩
  · by_cases c0 : F.c = 0
    · have w : F.wrong = false := by
        cases hw : F.wrong with
        | false => rfl
        | true => exact absurd ⟨c0, hw⟩ hn
      have t8' := t8
      rw [w] at t8'
      exact ⟨_, by simp [Try.f219, t0, t8', gq, c0, ldVar]; rfl, ⟨by simp [t0], by simp [t1], by simp [t5], by simp [t6], by simp [t7], by simp [t8]⟩, hR, hnd, hlo, gq0, hle, hko, hlen⟩
    · have c0' : (F.c == 0) = false := by simpa using c0
      exact ⟨_, by simp [Try.f219, t0, t8, gq, c0', ldVar]; rfl, ⟨by simp [t0], by simp [t1], by simp [t5], by simp [t6], by simp [t7], by simp [t8]⟩, hR, hnd, hlo, gq0, hle, hko, hlen⟩
/-- the ranges turned round -/
def AkR (p : Nat) (A : Int) (v : AV) (rs : List (Int × Int)) (bs : List Nat) (H : AH) (d : Nat) (τ : Tm) (h : AH) : Prop :=
  ∃ (rv : AV) (bo : List Nat), τ 1 = .ptr p 0 ∧ τ 7 = v ∧ τ 12 = .int .i64 ((d : Int) - 1) ∧ d ≤ rs.length ∧ h.get p = some (.cells 72 false (frC 2 A 0 0 false .nilSlice .nilSlice rv)) ∧
    (Ty.sl 94 tT94).R true h [rv] ((rs.drop d).reverse) bo ∧ bo.Nodup ∧ (∀ b ∈ bo, H.next ≤ b) ∧ KoS [p] H h
set_option maxRecDepth 20000 in
theorem akLoop2 {H h0 : AH} {p : Nat} {A : Int} {v : AV} {rs : List (Int × Int)} {bs : List Nat} (hR : (Ty.sl 94 tT94).R true H [v] rs bs) (hpb : ∀ b ∈ bs, b ≠ p) (hpn : p < H.next) (hl : rs.length ≤ 65) (m : Nat) (hm : 66 ≤ m) (τ : Tm) (hI : AkR p A v rs bs H rs.length τ h0) :
    ∃ e τ' H', evLoop Try.prog (ev Try.prog m) m (lp Try.prog 219 4094) τ h0 = some (e, τ', H') ∧ e = .exit 2 ∧ AkR p A v rs bs H 0 τ' H' := by
  refine loop_rule (d := rs.length) (AkR p A v rs bs H) (fun e τ h => e = .exit 2 ∧ AkR p A v rs bs H 0 τ h) ?_ hI (by omega)
  rintro d τ h ⟨rv, bo, t1, t7, t12, hdl, g4, hQ, hnd, hlo, hko⟩
  have g40 := g4
  simp only [frC] at g4
  rw [lp_M Try.func219 4094 (by decide) 12 (by decide) (by kernel_rfl) []]
  by_cases hd : d = 0
  · subst hd
    simp at t12
    simp [Try.f219, t12]
    exact ⟨rv, bo, by simp [t1], by simp [t7], by simp [t12], hdl, g40, hQ, hnd, hlo, hko⟩
  · obtain ⟨d, rfl⟩ : ∃ e, d = e + 1 := ⟨d - 1, by omega⟩
    have hRh : (Ty.sl 94 tT94).R true h [v] rs bs := hR.koS hko (by simpa using hpb)
    obtain ⟨b, o, ro, L, u1, u2, u3, L1, L2, L3, L4, i1, i2⟩ := rgAt hRh (k := d) (by omega)
    rcases hx : rs[d] with ⟨X, Y⟩
    rw [hx] at L2 L3 L4 i1 i2
    simp only at L2 L3 L4 i1 i2
    have hne := hko.next
    obtain ⟨v', X', bs', b1, b2, b3, b4, b5⟩ := app94 hQ hnd i1 i2 (by simp; omega)
    have e1 : (rs.drop (d + 1)).reverse ++ [(X, Y)] = (rs.drop d).reverse := by
      rw [List.drop_eq_getElem_cons (show d < rs.length by omega), hx, List.reverse_cons]
    rw [e1] at b2
    have t12' : τ 12 = .int .i64 (d : Int) := by rw [t12]; simp
    have w1 : IntKind.i64.wrap ((d : Int) - 1) = (d : Int) - 1 := wrap_i64 (n := (d : Int) - 1) (by omega) (by omega)
    have np : ¬ (p = h.next) := by omega
    have bp : p ∉ bo := fun h => by have := hlo p h; omega
    have g4' := (b5.get p (by omega) bp).trans g4
    have pnb : ∀ b ∈ bs', b ≠ p := fun b hb e => by
      subst e
      rcases b4 _ hb with h | h
      · exact bp h
      · omega
    have kX : KoS [p] H X' := hko.trans b5 (fun b hb => .inr (hlo b hb))
    have hv1 := b2.sl_one
    have hvc := cells_one hv1
    simp (disch := omega) [Try.f219, t1, t7, t12', g4, hv1, hvc, u1, u3, L1, L2, ldVar, stVar, spl, zerosA, b1, np, g4', w1, evHist, ObsOk, ObOk, List.getElem?_cons_zero]
    exact ⟨d, by omega, v', bs', by simp [t1], by simp [t7], by simp [w1], by omega, by simp [frC], b2.stay (by simp) (fun b hb => AH.set_getN _ _ (pnb b hb)), b3, fun b hb => (b4 b hb).elim (hlo b) (fun h => by omega), kX.trans (bs' := [p]) ⟨by simp, fun b hb hx => AH.set_getN _ _ (by simpa using hx)⟩ (by simp)⟩
end Go.Ev

/- An acknowledgement read by the program. -/
namespace Go.Ev
open Go Go.Proofs
set_option linter.unusedSimpArgs false
set_option linter.unusedVariables false

/-- all of the acknowledgement's loop -/
def akFin (l : List Int) (a : Nat) : AkI :=
  akRunI l (ak3 l a).2.2.1.toNat (akI0 l (ak3 l a).1 (ak3 l a).2.2.2.1 (cap3 (ak3 l a).2.2.2.2 (ak3 l a).2.2.1))
def akCode (F : AkI) : Int := if F.c = 0 ∧ F.wrong = true then 3 else F.c
theorem numberI_c0 {l : List Int} {a : Nat} {c : Int} (h : (numberI l a c).2.2 = 0) : c = 0 := by
  by_cases c0 : c = 0
  · exact c0
  · simp [numberI, c0] at h
theorem ak_ev {Hb h : AH} {q p a : Nat} {s : AV} {l : List Int} (hs : Bs Hb s l) (hb : By l) (hK : Kp Hb h) (hqb : Hb.next ≤ q) (hq : h.get q = some (scB s a 0)) (hqn : q < h.next) (ha : a ≤ l.length) (hl : l.length ≤ 65536)
    (n4 : p ≠ q) (l4 : p < h.next) (b4 : Hb.next ≤ p) (g4 : h.get p = some (.cells 72 false (frC 2 0 0 0 false .nilSlice .nilSlice .nilSlice))) (m : Nat) (hm : 67 ≤ m) :
    ∃ H' rv rs bo, ev Try.prog m 219 [.ptr q 0, .ptr p 0] h = some (U, H') ∧ H'.get p = some (.cells 72 false (frC 2 (ak3 l a).2.1 0 0 false .nilSlice .nilSlice rv)) ∧ H'.get q = some (scB s (akFin l a).a (akCode (akFin l a))) ∧
      (Ty.sl 94 tT94).R true H' [rv] rs bo ∧ bo.Nodup ∧ (∀ b ∈ bo, h.next ≤ b) ∧ rs.length ≤ 65 ∧ (¬ ((akFin l a).c = 0 ∧ (akFin l a).wrong = true) → rs = (akFin l a).rs.reverse) ∧ (akFin l a).a ≤ l.length ∧ h.next ≤ H'.next ∧ ∀ b, b < h.next → b ≠ q → b ≠ p → H'.get b = h.get b := by
  obtain ⟨m, rfl⟩ : ∃ k, m = k + 1 := ⟨m - 1, by omega⟩
  have n4' : ¬ (q = p) := fun e => n4 e.symm
  obtain ⟨τ1, H1, e1, T1, p1, q1, l1, x1, r1⟩ := akA hs hb hK hqb hq hqn ha hl n4 l4 b4 g4 m (by omega)
  have hhi : 0 ≤ (ak3 l a).1 ∧ (ak3 l a).1 ≤ 4611686018427387903 := numberI_rng hb a 0
  have hmo : 0 ≤ (ak3 l a).2.2.1 ∧ (ak3 l a).2.2.1 ≤ 4611686018427387903 := numberI_rng hb _ _
  unfold akFin
  generalize ak3 l a = N at *
  obtain ⟨hi, A, more, a3, c3⟩ := N
  simp only at *
  have K1 : Kp Hb H1 := ⟨by have := hK.next; omega, fun b hb => (r1 b (by have := hK.next; omega) (by omega) (by omega)).trans (hK.get b hb)⟩
  obtain ⟨τ2, H2, e2, T2, q2, k2, x2⟩ := akB q1 m (by omega) τ1 T1
  have K2 := k2.kp K1 hqb
  obtain ⟨τ3, H3, v, bs, e3, U3, R3, nd3, lo3, q3, l3, k3⟩ := akC hs hb K2 hqb q2 (by omega) l1 hl hhi m (by omega) τ2 T2
  have K3 := k3.kp K2 hqb
  have n3 := k3.next
  have hc : (akI0 l hi a3 (cap3 c3 more)).c = 0 → 0 ≤ more ∧ more ≤ 63 := by
    intro h
    have h1 : cap3 c3 more = 0 := numberI_c0 h
    unfold cap3 at h1
    by_cases hx : c3 = 0 ∧ 63 < more
    · rw [if_pos hx] at h1; omega
    · rw [if_neg hx] at h1; omega
  have hw : (akI0 l hi a3 (cap3 c3 more)).wrong = false → 0 ≤ (akI0 l hi a3 (cap3 c3 more)).lo ∧ (akI0 l hi a3 (cap3 c3 more)).lo ≤ 4611686018427387903 := by
    have := numberI_rng hb a3 (cap3 c3 more)
    simp only [akI0, decide_eq_false_iff_not]
    omega
  obtain ⟨τ4, H4, v4, bs4, e4, E4⟩ := akD hs hb K3 hqb (by omega) hl hc R3 nd3 lo3 k3.koS K2 (by omega) q3 l3 hw (by simp [akI0]) m (by omega) τ3 U3
  generalize akRunI l more.toNat (akI0 l hi a3 (cap3 c3 more)) = F at *
  have x4 := E4.ko.next
  have r4 : ∀ b, b < h.next → b ≠ q → b ≠ p → H4.get b = h.get b := fun b h0 h1 h2 => by
    rw [E4.ko.get b (by omega) (by simpa using h1), k2.get b (by omega) h1, r1 b h0 h1 h2]
  have p4 : H4.get p = some (.cells 72 false (frC 2 A 0 0 false .nilSlice .nilSlice .nilSlice)) := by
    rw [E4.ko.get p (by omega) (by simpa using n4), k2.get p (by omega) n4, p1]
  obtain ⟨g1, g2⟩ := akG m (by omega) τ4 E4
  by_cases hx : F.c = 0 ∧ F.wrong = true
  · obtain ⟨τ5, e5⟩ := g1 hx
    refine ⟨_, .nilSlice, [], [], by rw [e1, e2, e3, e4, e5]; rfl, by rw [AH.set_getN _ _ n4, p4], by simp [akCode, hx], .inl ⟨rfl, rfl, rfl⟩, by simp, by simp, by simp, fun h => absurd hx h, E4.le, by simp; omega, fun b h0 h1 h2 => ?_⟩
    rw [AH.set_getN _ _ h1]; exact r4 b h0 h1 h2
  · obtain ⟨τ5, e5, E5⟩ := g2 hx
    obtain ⟨⟨t0, t1, t5, t6, t7, t8⟩, R5, nd5, lo5, q5, l5, k5, len5⟩ := E5
    have hL := Ty.R.lenA R5 (P := Try.prog) (T := 70) (by simp)
    have w1 : IntKind.i64.wrap ((F.rs.length : Int) - 1) = (F.rs.length : Int) - 1 := wrap_i64 (n := (F.rs.length : Int) - 1) (by omega) (by omega)
    have e6 : ∃ τ' H', evAt Try.prog (ev Try.prog m) m 219 1023 τ5 H4 = some (.normal, τ', H') ∧ AkR p A v4 F.rs bs4 H4 0 τ' H' := by
      rw [at_M Try.func219 1023 (by decide) 10 (by decide) (by kernel_rfl) []]
      simp [Try.f219, t7, hL, w1]
      generalize hLo : evLoop _ _ _ _ _ _ = R
      obtain ⟨e, τ', H', rfl, rfl, g⟩ := loop_at hLo (akLoop2 (p := p) (A := A) R5 (fun b hb e => by have := lo5 b hb; omega) (by omega) len5 m (by omega) _ ⟨.nilSlice, [], by simp [t1], by simp [t7], by simp, Nat.le_refl _, p4, by simp; exact .inl ⟨rfl, rfl, rfl⟩, by simp, by simp, KoS.refl _ _⟩)
      exact ⟨τ', H', by simp, g⟩
    obtain ⟨τ6, H6, e6, rv, bo, u1, u7, u12, ul, up, uR, und, ulo, uk⟩ := e6
    have x6 := uk.next
    refine ⟨H6, rv, F.rs.reverse, bo, by rw [e1, e2, e3, e4, e5, e6]; rfl, up, ?_, by simpa using uR, und, fun b hb => by have := ulo b hb; omega, by simpa using len5, fun _ => rfl, l5, by omega, fun b h0 h1 h2 => ?_⟩
    · rw [uk.get q (by omega) (by simpa using n4'), q5, akCode, if_neg hx]
    · rw [uk.get b (by omega) (by simpa using h2)]; exact r4 b h0 h1 h2
set_option maxRecDepth 20000 in
theorem frK_2 {Hb h : AH} {q p2 p4 a : Nat} {s : AV} {l : List Int} (hs : Bs Hb s l) (hb : By l) (hK : Kp Hb h) (hqb : Hb.next ≤ q) (hq : h.get q = some (scB s a 0)) (hqn : q < h.next) (ha : a ≤ l.length) (hl : l.length ≤ 65536)
    (n4 : p4 ≠ q) (l4 : p4 < h.next) (b4 : Hb.next ≤ p4) (g4 : h.get p4 = some (.cells 72 false (frC 2 0 0 0 false .nilSlice .nilSlice .nilSlice))) (m : Nat) (hm : 67 ≤ m) (τ : Tm) (S : FrU τ q p2 p4 2) :
    ∃ τ' H' rv rs bo, evAt Try.prog (ev Try.prog m) m 126 4015 τ h = some (.normal, τ', H') ∧ FrE q p2 p4 s 2 h H' τ' (frC 2 (ak3 l a).2.1 0 0 false .nilSlice .nilSlice rv) ((akFin l a).a, akCode (akFin l a)) ∧
      (Ty.sl 94 tT94).R true H' [rv] rs bo ∧ bo.Nodup ∧ (∀ b ∈ bo, h.next ≤ b) ∧ rs.length ≤ 65 ∧ (¬ ((akFin l a).c = 0 ∧ (akFin l a).wrong = true) → rs = (akFin l a).rs.reverse) ∧ (akFin l a).a ≤ l.length := by
  obtain ⟨⟨t0, t2, t3, t4⟩, tk⟩ := S
  obtain ⟨H', rv, rs, bo, e1, e2, e3, e4, e5, e6, e7, e8, e9, e10, e11⟩ := ak_ev hs hb hK hqb hq hqn ha hl n4 l4 b4 g4 m hm
  rw [at_M Try.func126 4015 (by decide) 12 (by decide) (by kernel_rfl) [16063]]
  exact ⟨_, H', rv, rs, bo, by simp [Try.f126, tk, t0, t4, e1]; rfl, ⟨⟨by simp [t0], by simp [t2], by simp [t3], by simp [t4]⟩, e2, e3, e10, e11⟩, e4, e5, e6, e7, e8, e9⟩
end Go.Ev

/- What a frame's bytes tell: plain; the program's kinds told by it. -/
namespace Go.Ev
open Go Go.Proofs
set_option linter.unusedSimpArgs false
set_option linter.unusedVariables false

structure FP where
  K : Int
  A : Int
  B : Int
  C : Int
  f : Bool
  D : List Int
  T : List Int
  rs : List (Int × Int)
  good : Bool
  a : Nat
  sh : Bool
/-- a frame's fields behind its first byte k -/
def fldP (l : List Int) (a : Nat) (k : Int) : FP :=
  let u := varS l a false
  let v := varS l u.2.1 u.2.2
  let w := varS l v.2.1 v.2.2
  let s := streamS l a false (k - 8)
  let c0 := countedS l a false
  let c1 := countedS l u.2.1 u.2.2
  let c2 := countedS l v.2.1 v.2.2
  let o := takeS l v.2.1 v.2.2 1
  let p := takeS l o.2.1 o.2.2 (valP o.1)
  let r := takeS l p.2.1 p.2.2 8
  let e := takeS l a false 8
  let g := restS l a false
  let k2 := ackS l a
  if k = 0 then ⟨0, (1 + padN l a 1499 : Nat), 0, 0, false, [], [], [], true, a + padN l a 1499, false⟩
  else if k = 1 ∨ k = 30 then ⟨k, 0, 0, 0, false, [], [], [], true, a, false⟩
  else if k = 2 then ⟨2, k2.1, 0, 0, false, [], [], k2.2.1.reverse, k2.2.2.1, k2.2.2.2.1, k2.2.2.2.2⟩
  else if k = 4 then ⟨4, u.1, v.1, w.1, false, [], [], [], true, w.2.1, w.2.2⟩
  else if k = 5 ∨ k = 17 ∨ k = 21 then ⟨k, u.1, v.1, 0, false, [], [], [], true, v.2.1, v.2.2⟩
  else if k = 6 ∨ k = 29 then ⟨k, u.1, 0, 0, false, c1.1, [], [], true, c1.2.1, c1.2.2⟩
  else if k = 7 then ⟨7, 0, 0, 0, false, c0.1, [], [], true, c0.2.1, c0.2.2⟩
  else if 8 ≤ k ∧ k ≤ 15 then ⟨8, s.1, s.2.1, 0, (k - 8).tmod 2 == 1, s.2.2.1, [], [], true, s.2.2.2.1, s.2.2.2.2⟩
  else if k = 18 ∨ k = 19 then ⟨18, u.1, k - 18, 0, false, [], [], [], true, u.2.1, u.2.2⟩
  else if k = 22 ∨ k = 23 then ⟨22, u.1, k - 22, 0, false, [], [], [], true, u.2.1, u.2.2⟩
  else if k = 16 ∨ k = 20 ∨ k = 25 then ⟨k, u.1, 0, 0, false, [], [], [], true, u.2.1, u.2.2⟩
  else if k = 24 then ⟨24, u.1, v.1, 0, false, p.1, r.1, [], true, r.2.1, r.2.2⟩
  else if k = 26 ∨ k = 27 then ⟨k, 0, 0, 0, false, e.1, [], [], true, e.2.1, e.2.2⟩
  else if k = 28 then ⟨28, u.1, v.1, 0, false, c2.1, [], [], true, c2.2.1, c2.2.2⟩
  else if k = 48 then ⟨48, 0, 0, 0, false, g.1, [], [], true, g.2.1, g.2.2⟩
  else if k = 49 then ⟨48, 0, 0, 0, false, c0.1, [], [], true, c0.2.1, c0.2.2⟩
  else ⟨k, 0, 0, 0, false, [], [], [], false, a, false⟩
def fpC (p : FP) : Int := if p.sh = true then 2 else if p.good = true then 0 else 3
theorem numberI_cd0 (l : List Int) (a : Nat) : numberI l a 0 = ((varS l a false).1, (varS l a false).2.1, cd (varS l a false).2.2) := numberI_cd l a false
theorem offI_cd (l : List Int) (a : Nat) (sh : Bool) (x : Int) : offI l a (cd sh) x = ((offS l a sh x).1, (offS l a sh x).2.1, cd (offS l a sh x).2.2) := by
  unfold offI offS
  split
  · exact numberI_cd l a sh
  · rfl
theorem dataI_cd {l : List Int} (hb : By l) {a : Nat} (ha : a ≤ l.length) (sh : Bool) (x : Int) : dataI l a (cd sh) x = ((dataS l a sh x).1, (dataS l a sh x).2.1, cd (dataS l a sh x).2.2) := by
  unfold dataI dataS
  split
  · exact countedI_cd hb a sh
  · exact restI_cd ha sh
theorem ackS_sim {l : List Int} (hb : By l) (a : Nat) : akCode (akFin l a) = (if (ackS l a).2.2.2.2 = true then 2 else if (ackS l a).2.2.1 = true then 0 else 3) ∧ (ak3 l a).2.1 = (ackS l a).1 ∧
    (akCode (akFin l a) = 0 → ¬ ((akFin l a).c = 0 ∧ (akFin l a).wrong = true) ∧ (akFin l a).rs = (ackS l a).2.1 ∧ (akFin l a).a = (ackS l a).2.2.2.1) := by
  have e3 : ak3 l a = ((varS l a false).1, (varS l (varS l a false).2.1 (varS l a false).2.2).1, (varS l (varS l (varS l a false).2.1 (varS l a false).2.2).2.1 (varS l (varS l a false).2.1 (varS l a false).2.2).2.2).1,
      (varS l (varS l (varS l a false).2.1 (varS l a false).2.2).2.1 (varS l (varS l a false).2.1 (varS l a false).2.2).2.2).2.1, cd (varS l (varS l (varS l a false).2.1 (varS l a false).2.2).2.1 (varS l (varS l a false).2.1 (varS l a false).2.2).2.2).2.2) := by
    simp only [ak3, numberI_cd0, numberI_cd]
  unfold akFin ackS
  rw [e3]
  simp only
  generalize varS l a false = h
  generalize varS l h.2.1 h.2.2 = d
  generalize varS l d.2.1 d.2.2 = n
  obtain ⟨more, a3, sh⟩ := n
  simp only
  cases sh with
  | true =>
    have e1 : akRunI l more.toNat (akI0 l h.1 a3 (cap3 (cd true) more)) = akI0 l h.1 a3 2 := by
      have : cap3 (cd true) more = 2 := by simp [cap3]
      rw [this]
      have hc : (akI0 l h.1 a3 2).c = 2 := by simp [akI0, numberI]
      cases more.toNat with
      | zero => rfl
      | succ k => simp [akRunI, hc]
    rw [e1]
    have hc : (akI0 l h.1 a3 2).c = 2 := by simp [akI0, numberI]
    refine ⟨by simp [akCode, hc], by simp, fun h => ?_⟩
    simp [akCode, hc] at h
  | false =>
    by_cases h63 : 63 < more
    · have e1 : akRunI l more.toNat (akI0 l h.1 a3 (cap3 (cd false) more)) = akI0 l h.1 a3 3 := by
        have : cap3 (cd false) more = 3 := by simp [cap3, h63]
        rw [this]
        have hc : (akI0 l h.1 a3 3).c = 3 := by simp [akI0, numberI]
        cases more.toNat with
        | zero => rfl
        | succ k => simp [akRunI, hc]
      rw [e1]
      have hc : (akI0 l h.1 a3 3).c = 3 := by simp [akI0, numberI]
      refine ⟨by simp [akCode, hc, h63], by simp [h63], fun h => ?_⟩
      simp [akCode, hc] at h
    · have e1 : cap3 (cd false) more = cd false := by simp [cap3, h63]
      rw [e1]
      have S0 : AkSim (akI0 l h.1 a3 (cd false)) (akOne l ⟨[], 0, true, a3, false⟩ h.1 a3 false) := by
        simp only [akI0, akOne, numberI_cd]
        generalize varS l a3 false = u
        by_cases hlo : h.1 - u.1 < 0
        · rw [if_pos hlo]
          exact ⟨by simp [hlo], rfl, rfl, by simp⟩
        · rw [if_neg hlo]
          exact ⟨by simp [hlo], rfl, rfl, fun _ => ⟨rfl, rfl, by simp only; omega⟩⟩
      have S1 := akSim_run hb more.toNat S0
      generalize akRunI l more.toNat (akI0 l h.1 a3 (cd false)) = I at *
      generalize akRun l more.toNat (akOne l ⟨[], 0, true, a3, false⟩ h.1 a3 false) = S at *
      obtain ⟨s1, s2, s3, s4⟩ := S1
      simp only [h63, if_false, Bool.false_eq_true]
      unfold akCode
      rw [s1, s3]
      cases hsh : S.sh <;> cases hg : S.good <;> simp
      exact ⟨(s4 hg).1, s2⟩
theorem takeS_in (l : List Int) (a : Nat) (sh : Bool) (n : Int) : (takeS l a sh n).1.length ≤ l.length := (takeS_len l a sh n).2
end Go.Ev

/- A frame's fields read by the program, told by the plain reading. -/
namespace Go.Ev
open Go Go.Proofs
set_option linter.unusedSimpArgs false
set_option linter.unusedVariables false

def FrO (l : List Int) (a : Nat) (k : Int) (q p2 p4 : Nat) (s : AV) (h H' : AH) (τ' : Tm) : Prop :=
  ∃ (K A B C : Int) (f : Bool) (r t rv : AV) (D T : List Int) (rs : List (Int × Int)) (bs : List Nat) (a' : Nat) (c' : Int), FrE q p2 p4 s k h H' τ' (frC K A B C f r t rv) (a', c') ∧
    tT72.R true H' (frC K A B C f r t rv) (K, A, B, C, f, D, T, rs) bs ∧ bs.Nodup ∧ (∀ b ∈ bs, h.next ≤ b) ∧ c' = fpC (fldP l a k) ∧ (c' = 0 → fldP l a k = ⟨K, A, B, C, f, D, T, rs, true, a', false⟩) ∧ D.length ≤ 65536 ∧ T.length ≤ 65536 ∧ rs.length ≤ 65 ∧ a' ≤ l.length
theorem nil94 {rw : Bool} {H : AH} : (Ty.sl 94 tT94).R rw H [.nilSlice] [] [] := .inl ⟨rfl, rfl, rfl⟩
theorem mkO {l : List Int} {a : Nat} {k : Int} {q p2 p4 : Nat} {s : AV} {h H' : AH} {τ' : Tm} {K A B C : Int} {f : Bool} {r t : AV} {D T : List Int} {a' : Nat} {sh' : Bool} {mid : Nat} (E : FrE q p2 p4 s k h H' τ' (frC K A B C f r t .nilSlice) (a', cd sh'))
    (o1 : Ow h.next mid H' r D) (o2 : Ow mid H'.next H' t T) (bD : By D) (bT : By T) (hf : fldP l a k = ⟨K, A, B, C, f, D, T, [], true, a', sh'⟩) (lD : D.length ≤ 65536) (lT : T.length ≤ 65536) (la : a' ≤ l.length)
    (iK : InK .i64 K) (iA : InK .i64 A) (iB : InK .i64 B) (iC : InK .i64 C) (hm : h.next ≤ mid) : FrO l a k q p2 p4 s h H' τ' := by
  obtain ⟨b1, r1, d1, x1⟩ := ow_tB o1 bD
  obtain ⟨b2, r2, d2, x2⟩ := ow_tB o2 bT
  refine ⟨K, A, B, C, f, r, t, .nilSlice, D, T, [], _, a', cd sh', E, i72 r1 r2 nil94 iK iA iB iC, ?_, ?_, ?_, fun h => ?_, lD, lT, by simp, la⟩
  · simp only [List.append_nil]
    rw [List.nodup_append]
    exact ⟨d1, d2, fun x hx y hy e => by have := x1 x hx; have := x2 y hy; omega⟩
  · intro b hb
    simp only [List.append_nil, List.mem_append] at hb
    rcases hb with hb | hb
    · exact (x1 b hb).1
    · exact Nat.le_trans hm (x2 b hb).1
  · rw [hf]; cases sh' <;> rfl
  · rw [hf, (cd0 sh').1 h]
theorem By.nil : By [] := fun x hx => by simp at hx
theorem Ow.nil (lo hi : Nat) (H : AH) : Ow lo hi H .nilSlice [] := .inl ⟨rfl, rfl⟩
theorem i64v {l : List Int} (hb : By l) (a : Nat) (sh : Bool) : InK .i64 (varS l a sh).1 := by
  have := varS_rng hb a sh
  exact InK.i64 (by omega) (by omega)
theorem i64n (n : Int) (h1 : -1000 ≤ n) (h2 : n ≤ 1000) : InK .i64 n := InK.i64 (by omega) (by omega)
theorem dataS_by {l : List Int} (hb : By l) (a : Nat) (sh : Bool) (x : Int) : By (dataS l a sh x).1 := by
  unfold dataS; split
  · exact takeS_by hb _ _ _
  · exact takeS_by hb _ _ _
theorem dataS_len (l : List Int) (a : Nat) (sh : Bool) (x : Int) : (dataS l a sh x).1.length ≤ l.length := by
  unfold dataS; split
  · exact takeS_in l _ _ _
  · exact takeS_in l _ _ _
theorem dataS_le {l : List Int} (hb : By l) {a : Nat} (ha : a ≤ l.length) (sh : Bool) (x : Int) : (dataS l a sh x).2.1 ≤ l.length := by
  unfold dataS; split
  · exact countedS_le hb ha sh
  · exact takeS_le ha sh (by omega)
theorem offS_le {l : List Int} {a : Nat} (ha : a ≤ l.length) (sh : Bool) (x : Int) : (offS l a sh x).2.1 ≤ l.length := by
  unfold offS; split
  · exact varS_le ha sh
  · exact ha
theorem offS_i64 {l : List Int} (hb : By l) (a : Nat) (sh : Bool) (x : Int) : InK .i64 (offS l a sh x).1 := by
  unfold offS; split
  · exact i64v hb a sh
  · exact i64n 0 (by omega) (by omega)
theorem valP_nn {l : List Int} (hb : By l) : 0 ≤ valP l := (valP_lt l hb).1
/-- what is told of the frame, the scanner and the bytes ahead of a kind's place -/
structure FrH (Hb h : AH) (q p2 p4 a : Nat) (s : AV) (l : List Int) (k : Int) : Prop where
  hs : Bs Hb s l
  hb : By l
  hK : Kp Hb h
  hqb : Hb.next ≤ q
  hq : h.get q = some (scB s a 0)
  hqn : q < h.next
  ha : a ≤ l.length
  hl : l.length ≤ 65536
  n4 : p4 ≠ q
  l4 : p4 < h.next
  b4 : Hb.next ≤ p4
  g4 : h.get p4 = some (.cells 72 false (frC k 0 0 0 false .nilSlice .nilSlice .nilSlice))

theorem frO_A {Hb h : AH} {q p2 p4 a : Nat} {s : AV} {l : List Int} (k : Int) (hk : k = 16 ∨ k = 20 ∨ k = 25) (F : FrH Hb h q p2 p4 a s l k) (m : Nat) (hm : 1500 ≤ m) (τ : Tm) (S : FrU τ q p2 p4 k) :
    ∃ τ' H', evAt Try.prog (ev Try.prog m) m 126 263192575 τ h = some (.normal, τ', H') ∧ FrO l a k q p2 p4 s h H' τ' := by
  obtain ⟨hs, hb, hK, hqb, hq, hqn, ha, hl, n4, l4, b4, g4⟩ := F
  rcases hk with rfl | rfl | rfl
  all_goals
    obtain ⟨τ', H', e, E⟩ := frK_A hs hb hK hqb hq hqn ha hl _ (by omega) n4 l4 g4 m (by omega) τ S
    simp only [numberI_cd0, numberI_cd] at E
    exact ⟨τ', H', e, mkO E (Ow.nil _ H'.next _) (Ow.nil _ _ _) By.nil By.nil (by simp [fldP]) (by simp) (by simp) (varS_le ha _) (i64n _ (by omega) (by omega)) (i64v hb _ _) (i64n 0 (by omega) (by omega)) (i64n 0 (by omega) (by omega)) E.next⟩

theorem frO_AB {Hb h : AH} {q p2 p4 a : Nat} {s : AV} {l : List Int} (k : Int) (hk : k = 5 ∨ k = 17 ∨ k = 21) (F : FrH Hb h q p2 p4 a s l k) (m : Nat) (hm : 1500 ≤ m) (τ : Tm) (S : FrU τ q p2 p4 k) :
    ∃ τ' H', evAt Try.prog (ev Try.prog m) m 126 64255 τ h = some (.normal, τ', H') ∧ FrO l a k q p2 p4 s h H' τ' := by
  obtain ⟨hs, hb, hK, hqb, hq, hqn, ha, hl, n4, l4, b4, g4⟩ := F
  rcases hk with rfl | rfl | rfl
  all_goals
    obtain ⟨τ', H', e, E⟩ := frK_AB hs hb hK hqb hq hqn ha hl _ (by omega) n4 l4 g4 m (by omega) τ S
    simp only [numberI_cd0, numberI_cd] at E
    exact ⟨τ', H', e, mkO E (Ow.nil _ H'.next _) (Ow.nil _ _ _) By.nil By.nil (by simp [fldP]) (by simp) (by simp) (varS_le (varS_le ha _) _) (i64n _ (by omega) (by omega)) (i64v hb _ _) (i64v hb _ _) (i64n 0 (by omega) (by omega)) E.next⟩

theorem frO_ABC {Hb h : AH} {q p2 p4 a : Nat} {s : AV} {l : List Int} (k : Int) (hk : k = 4) (F : FrH Hb h q p2 p4 a s l k) (m : Nat) (hm : 1500 ≤ m) (τ : Tm) (S : FrU τ q p2 p4 k) :
    ∃ τ' H', evAt Try.prog (ev Try.prog m) m 126 16063 τ h = some (.normal, τ', H') ∧ FrO l a k q p2 p4 s h H' τ' := by
  obtain ⟨hs, hb, hK, hqb, hq, hqn, ha, hl, n4, l4, b4, g4⟩ := F
  subst hk
  all_goals
    obtain ⟨τ', H', e, E⟩ := frK_ABC hs hb hK hqb hq hqn ha hl n4 l4 g4 m (by omega) τ S
    simp only [numberI_cd0, numberI_cd] at E
    exact ⟨τ', H', e, mkO E (Ow.nil _ H'.next _) (Ow.nil _ _ _) By.nil By.nil (by simp [fldP]) (by simp) (by simp) (varS_le (varS_le (varS_le ha _) _) _) (i64n _ (by omega) (by omega)) (i64v hb _ _) (i64v hb _ _) (i64v hb _ _) E.next⟩

theorem frO_18 {Hb h : AH} {q p2 p4 a : Nat} {s : AV} {l : List Int} (k : Int) (hk : k = 18 ∨ k = 19) (F : FrH Hb h q p2 p4 a s l k) (m : Nat) (hm : 1500 ≤ m) (τ : Tm) (S : FrU τ q p2 p4 k) :
    ∃ τ' H', evAt Try.prog (ev Try.prog m) m 126 16449535 τ h = some (.normal, τ', H') ∧ FrO l a k q p2 p4 s h H' τ' := by
  obtain ⟨hs, hb, hK, hqb, hq, hqn, ha, hl, n4, l4, b4, g4⟩ := F
  rcases hk with rfl | rfl
  all_goals
    obtain ⟨τ', H', e, E⟩ := frK_18 hs hb hK hqb hq hqn ha hl _ (by omega) n4 l4 b4 g4 m (by omega) τ S
    simp only [numberI_cd0, numberI_cd] at E
    exact ⟨τ', H', e, mkO E (Ow.nil _ H'.next _) (Ow.nil _ _ _) By.nil By.nil (by simp [fldP]) (by simp) (by simp) (varS_le ha _) (i64n _ (by omega) (by omega)) (i64v hb _ _) (i64n _ (by omega) (by omega)) (i64n 0 (by omega) (by omega)) E.next⟩

theorem frO_22 {Hb h : AH} {q p2 p4 a : Nat} {s : AV} {l : List Int} (k : Int) (hk : k = 22 ∨ k = 23) (F : FrH Hb h q p2 p4 a s l k) (m : Nat) (hm : 1500 ≤ m) (τ : Tm) (S : FrU τ q p2 p4 k) :
    ∃ τ' H', evAt Try.prog (ev Try.prog m) m 126 65798143 τ h = some (.normal, τ', H') ∧ FrO l a k q p2 p4 s h H' τ' := by
  obtain ⟨hs, hb, hK, hqb, hq, hqn, ha, hl, n4, l4, b4, g4⟩ := F
  rcases hk with rfl | rfl
  all_goals
    obtain ⟨τ', H', e, E⟩ := frK_22 hs hb hK hqb hq hqn ha hl _ (by omega) n4 l4 b4 g4 m (by omega) τ S
    simp only [numberI_cd0, numberI_cd] at E
    exact ⟨τ', H', e, mkO E (Ow.nil _ H'.next _) (Ow.nil _ _ _) By.nil By.nil (by simp [fldP]) (by simp) (by simp) (varS_le ha _) (i64n _ (by omega) (by omega)) (i64v hb _ _) (i64n _ (by omega) (by omega)) (i64n 0 (by omega) (by omega)) E.next⟩

theorem frO_7 {Hb h : AH} {q p2 p4 a : Nat} {s : AV} {l : List Int} (k : Int) (hk : k = 7) (F : FrH Hb h q p2 p4 a s l k) (m : Nat) (hm : 1500 ≤ m) (τ : Tm) (S : FrU τ q p2 p4 k) :
    ∃ τ' H', evAt Try.prog (ev Try.prog m) m 126 1028095 τ h = some (.normal, τ', H') ∧ FrO l a k q p2 p4 s h H' τ' := by
  obtain ⟨hs, hb, hK, hqb, hq, hqn, ha, hl, n4, l4, b4, g4⟩ := F
  subst hk
  all_goals
    obtain ⟨τ', H', r, e, E, o⟩ := frK_7 hs hb hK hqb hq hqn ha hl n4 l4 b4 g4 m (by omega) τ S
    have c0 := countedI_cd hb a false; have r0 := restI_cd ha false; have t0 := takeI_cd l a false 8 (by omega); simp only [cd_f] at c0 r0 t0; simp only [c0, r0, t0] at E o
    exact ⟨τ', H', e, mkO E o (Ow.nil _ _ _) (takeS_by hb _ _ _) By.nil (by simp [fldP]) (Nat.le_trans (takeS_in l _ _ _) hl) (by simp) (countedS_le hb ha _) (i64n _ (by omega) (by omega)) (i64n 0 (by omega) (by omega)) (i64n 0 (by omega) (by omega)) (i64n 0 (by omega) (by omega)) E.next⟩

theorem frO_48 {Hb h : AH} {q p2 p4 a : Nat} {s : AV} {l : List Int} (k : Int) (hk : k = 48) (F : FrH Hb h q p2 p4 a s l k) (m : Nat) (hm : 1500 ≤ m) (τ : Tm) (S : FrU τ q p2 p4 k) :
    ∃ τ' H', evAt Try.prog (ev Try.prog m) m 126 67377299455 τ h = some (.normal, τ', H') ∧ FrO l a k q p2 p4 s h H' τ' := by
  obtain ⟨hs, hb, hK, hqb, hq, hqn, ha, hl, n4, l4, b4, g4⟩ := F
  subst hk
  all_goals
    obtain ⟨τ', H', r, e, E, o⟩ := frK_48 hs hb hK hqb hq hqn ha hl n4 l4 b4 g4 m (by omega) τ S
    have c0 := countedI_cd hb a false; have r0 := restI_cd ha false; have t0 := takeI_cd l a false 8 (by omega); simp only [cd_f] at c0 r0 t0; simp only [c0, r0, t0] at E o
    exact ⟨τ', H', e, mkO E o (Ow.nil _ _ _) (takeS_by hb _ _ _) By.nil (by simp [fldP]) (Nat.le_trans (takeS_in l _ _ _) hl) (by simp) (takeS_le ha _ (by omega)) (i64n _ (by omega) (by omega)) (i64n 0 (by omega) (by omega)) (i64n 0 (by omega) (by omega)) (i64n 0 (by omega) (by omega)) E.next⟩

theorem frO_49 {Hb h : AH} {q p2 p4 a : Nat} {s : AV} {l : List Int} (k : Int) (hk : k = 49) (F : FrH Hb h q p2 p4 a s l k) (m : Nat) (hm : 1500 ≤ m) (τ : Tm) (S : FrU τ q p2 p4 k) :
    ∃ τ' H', evAt Try.prog (ev Try.prog m) m 126 269509197823 τ h = some (.normal, τ', H') ∧ FrO l a k q p2 p4 s h H' τ' := by
  obtain ⟨hs, hb, hK, hqb, hq, hqn, ha, hl, n4, l4, b4, g4⟩ := F
  subst hk
  all_goals
    obtain ⟨τ', H', r, e, E, o⟩ := frK_49 hs hb hK hqb hq hqn ha hl n4 l4 b4 g4 m (by omega) τ S
    have c0 := countedI_cd hb a false; have r0 := restI_cd ha false; have t0 := takeI_cd l a false 8 (by omega); simp only [cd_f] at c0 r0 t0; simp only [c0, r0, t0] at E o
    exact ⟨τ', H', e, mkO E o (Ow.nil _ _ _) (takeS_by hb _ _ _) By.nil (by simp [fldP]) (Nat.le_trans (takeS_in l _ _ _) hl) (by simp) (countedS_le hb ha _) (i64n _ (by omega) (by omega)) (i64n 0 (by omega) (by omega)) (i64n 0 (by omega) (by omega)) (i64n 0 (by omega) (by omega)) E.next⟩

theorem frO_6 {Hb h : AH} {q p2 p4 a : Nat} {s : AV} {l : List Int} (k : Int) (hk : k = 6 ∨ k = 29) (F : FrH Hb h q p2 p4 a s l k) (m : Nat) (hm : 1500 ≤ m) (τ : Tm) (S : FrU τ q p2 p4 k) :
    ∃ τ' H', evAt Try.prog (ev Try.prog m) m 126 257023 τ h = some (.normal, τ', H') ∧ FrO l a k q p2 p4 s h H' τ' := by
  obtain ⟨hs, hb, hK, hqb, hq, hqn, ha, hl, n4, l4, b4, g4⟩ := F
  rcases hk with rfl | rfl
  all_goals
    obtain ⟨τ', H', r, e, E, o⟩ := frK_6 hs hb hK hqb hq hqn ha hl _ (by omega) n4 l4 b4 g4 m (by omega) τ S
    simp only [numberI_cd0, numberI_cd, countedI_cd hb] at E o
    exact ⟨τ', H', e, mkO E o (Ow.nil _ _ _) (takeS_by hb _ _ _) By.nil (by simp [fldP]) (Nat.le_trans (takeS_in l _ _ _) hl) (by simp) (countedS_le hb (varS_le ha _) _) (i64n _ (by omega) (by omega)) (i64v hb _ _) (i64n 0 (by omega) (by omega)) (i64n 0 (by omega) (by omega)) E.next⟩

theorem frO_26 {Hb h : AH} {q p2 p4 a : Nat} {s : AV} {l : List Int} (k : Int) (hk : k = 26 ∨ k = 27) (F : FrH Hb h q p2 p4 a s l k) (m : Nat) (hm : 1500 ≤ m) (τ : Tm) (S : FrU τ q p2 p4 k) :
    ∃ τ' H', evAt Try.prog (ev Try.prog m) m 126 4211081215 τ h = some (.normal, τ', H') ∧ FrO l a k q p2 p4 s h H' τ' := by
  obtain ⟨hs, hb, hK, hqb, hq, hqn, ha, hl, n4, l4, b4, g4⟩ := F
  rcases hk with rfl | rfl
  all_goals
    obtain ⟨τ', H', r, e, E, o⟩ := frK_26 hs hb hK hqb hq hqn ha hl _ (by omega) n4 l4 b4 g4 m (by omega) τ S
    have c0 := countedI_cd hb a false; have r0 := restI_cd ha false; have t0 := takeI_cd l a false 8 (by omega); simp only [cd_f] at c0 r0 t0; simp only [c0, r0, t0] at E o
    exact ⟨τ', H', e, mkO E o (Ow.nil _ _ _) (takeS_by hb _ _ _) By.nil (by simp [fldP]) (Nat.le_trans (takeS_in l _ _ _) hl) (by simp) (takeS_le ha _ (by omega)) (i64n _ (by omega) (by omega)) (i64n 0 (by omega) (by omega)) (i64n 0 (by omega) (by omega)) (i64n 0 (by omega) (by omega)) E.next⟩

theorem frO_28 {Hb h : AH} {q p2 p4 a : Nat} {s : AV} {l : List Int} (k : Int) (hk : k = 28) (F : FrH Hb h q p2 p4 a s l k) (m : Nat) (hm : 1500 ≤ m) (τ : Tm) (S : FrU τ q p2 p4 k) :
    ∃ τ' H', evAt Try.prog (ev Try.prog m) m 126 16844324863 τ h = some (.normal, τ', H') ∧ FrO l a k q p2 p4 s h H' τ' := by
  obtain ⟨hs, hb, hK, hqb, hq, hqn, ha, hl, n4, l4, b4, g4⟩ := F
  subst hk
  all_goals
    obtain ⟨τ', H', r, e, E, o⟩ := frK_28 hs hb hK hqb hq hqn ha hl n4 l4 b4 g4 m (by omega) τ S
    simp only [numberI_cd0, numberI_cd, countedI_cd hb] at E o
    exact ⟨τ', H', e, mkO E o (Ow.nil _ _ _) (takeS_by hb _ _ _) By.nil (by simp [fldP]) (Nat.le_trans (takeS_in l _ _ _) hl) (by simp) (countedS_le hb (varS_le (varS_le ha _) _) _) (i64n _ (by omega) (by omega)) (i64v hb _ _) (i64v hb _ _) (i64n 0 (by omega) (by omega)) E.next⟩

theorem frO_24 {Hb h : AH} {q p2 p4 a : Nat} {s : AV} {l : List Int} (k : Int) (hk : k = 24) (F : FrH Hb h q p2 p4 a s l k) (m : Nat) (hm : 1500 ≤ m) (τ : Tm) (S : FrU τ q p2 p4 k) :
    ∃ τ' H', evAt Try.prog (ev Try.prog m) m 126 1052770303 τ h = some (.normal, τ', H') ∧ FrO l a k q p2 p4 s h H' τ' := by
  obtain ⟨hs, hb, hK, hqb, hq, hqn, ha, hl, n4, l4, b4, g4⟩ := F
  subst hk
  obtain ⟨τ', H', r, rt, e, E, mid, hmid, o1, o2⟩ := frK_24 hs hb hK hqb hq hqn ha hl n4 l4 b4 g4 m (by omega) τ S
  simp only [numberI_cd0, numberI_cd, octetI_cd] at E o1 o2
  have hv : 0 ≤ valP (takeS l (varS l (varS l a false).2.1 (varS l a false).2.2).2.1 (varS l (varS l a false).2.1 (varS l a false).2.2).2.2 1).1 := valP_nn (takeS_by hb _ _ _)
  simp only [takeI_cd l _ _ _ hv, takeI_cd l _ _ 8 (by omega)] at E o1 o2
  exact ⟨τ', H', e, mkO E o1 o2 (takeS_by hb _ _ _) (takeS_by hb _ _ _) (by simp [fldP]) (Nat.le_trans (takeS_in l _ _ _) hl) (Nat.le_trans (takeS_in l _ _ _) hl) (takeS_le (takeS_le (takeS_le (varS_le (varS_le ha _) _) _ (by omega)) _ hv) _ (by omega)) (i64n _ (by omega) (by omega)) (i64v hb _ _) (i64v hb _ _) (i64n _ (by omega) (by omega)) hmid⟩

theorem frO_8 {Hb h : AH} {q p2 p4 a : Nat} {s : AV} {l : List Int} (k : Int) (hk : 8 ≤ k ∧ k ≤ 15) (F : FrH Hb h q p2 p4 a s l k) (m : Nat) (hm : 1500 ≤ m) (τ : Tm) (S : FrU τ q p2 p4 k) :
    ∃ τ' H', evAt Try.prog (ev Try.prog m) m 126 4112383 τ h = some (.normal, τ', H') ∧ FrO l a k q p2 p4 s h H' τ' := by
  obtain ⟨hs, hb, hK, hqb, hq, hqn, ha, hl, n4, l4, b4, g4⟩ := F
  obtain ⟨τ', H', e, r, t, E, mid, hmid, o1, o2⟩ := frT hs hb hK hqb hq hqn ha hl k hk n4 l4 b4 g4 m (by omega) τ S
  simp only [numberI_cd0, offI_cd] at E o1
  have lo := offS_le (varS_le ha false) (varS l a false).2.2 (k - 8)
  simp only [dataI_cd hb lo] at E o1
  refine ⟨τ', H', e, mkO E o1 o2 (dataS_by hb _ _ _) By.nil ?_ (Nat.le_trans (dataS_len l _ _ _) hl) (by simp) (dataS_le hb lo _ _) (i64n _ (by omega) (by omega)) (i64v hb _ _) (offS_i64 hb _ _ _) (i64n _ (by omega) (by omega)) hmid⟩
  rcases k8 hk with rfl | rfl | rfl | rfl | rfl | rfl | rfl | rfl <;> simp [fldP, streamS, finK]

theorem frO_1 {Hb h : AH} {q p2 p4 a : Nat} {s : AV} {l : List Int} (k : Int) (hk : k = 1 ∨ k = 30) (F : FrH Hb h q p2 p4 a s l k) (m : Nat) (hm : 1500 ≤ m) (τ : Tm) (S : FrU τ q p2 p4 k) :
    ∃ τ' H', evAt Try.prog (ev Try.prog m) m 126 1003 τ h = some (.normal, τ', H') ∧ FrO l a k q p2 p4 s h H' τ' := by
  obtain ⟨hs, hb, hK, hqb, hq, hqn, ha, hl, n4, l4, b4, g4⟩ := F
  obtain ⟨τ', H', e, E⟩ := frK_1 hq k hk g4 m τ S
  refine ⟨τ', H', e, mkO (sh' := false) E (Ow.nil _ H'.next _) (Ow.nil _ _ _) By.nil By.nil ?_ (by simp) (by simp) ha (i64n _ (by omega) (by omega)) (i64n _ (by omega) (by omega)) (i64n _ (by omega) (by omega)) (i64n _ (by omega) (by omega)) E.next⟩
  rcases hk with rfl | rfl <;> simp [fldP]

theorem frO_0 {Hb h : AH} {q p2 p4 a : Nat} {s : AV} {l : List Int} (k : Int) (hk : k = 0) (F : FrH Hb h q p2 p4 a s l k) (m : Nat) (hm : 1500 ≤ m) (τ : Tm) (S : FrU τ q p2 p4 k) :
    ∃ τ' H', evAt Try.prog (ev Try.prog m) m 126 250 τ h = some (.normal, τ', H') ∧ FrO l a k q p2 p4 s h H' τ' := by
  obtain ⟨hs, hb, hK, hqb, hq, hqn, ha, hl, n4, l4, b4, g4⟩ := F
  subst hk
  obtain ⟨τ', H', e, E, hin⟩ := frK_0 hs hb hK hqb hq hqn ha hl n4 l4 b4 g4 m (by omega) τ S
  have hp := padN_le l 1499 a
  exact ⟨τ', H', e, mkO (sh' := false) E (Ow.nil _ H'.next _) (Ow.nil _ _ _) By.nil By.nil (by simp [fldP]) (by simp) (by simp) hin (i64n _ (by omega) (by omega)) (InK.i64 (by omega) (by omega)) (i64n _ (by omega) (by omega)) (i64n _ (by omega) (by omega)) E.next⟩

theorem frO_2 {Hb h : AH} {q p2 p4 a : Nat} {s : AV} {l : List Int} (k : Int) (hk : k = 2) (F : FrH Hb h q p2 p4 a s l k) (m : Nat) (hm : 1500 ≤ m) (τ : Tm) (S : FrU τ q p2 p4 k) :
    ∃ τ' H', evAt Try.prog (ev Try.prog m) m 126 4015 τ h = some (.normal, τ', H') ∧ FrO l a k q p2 p4 s h H' τ' := by
  obtain ⟨hs, hb, hK, hqb, hq, hqn, ha, hl, n4, l4, b4, g4⟩ := F
  subst hk
  obtain ⟨τ', H', rv, rs, bo, e, E, hR, hnd, hlo, hlen, hrs, hin⟩ := frK_2 hs hb hK hqb hq hqn ha hl n4 l4 b4 g4 m (by omega) τ S
  obtain ⟨s1, s2, s3⟩ := ackS_sim hb a
  rw [s2] at E
  have iA : InK .i64 (ackS l a).1 := by
    simp only [ackS]
    split
    · exact i64v hb _ _
    · split <;> exact i64v hb _ _
  refine ⟨τ', H', e, _, _, _, _, _, _, _, _, [], [], rs, bo, _, _, E, i72 (bx_5 := []) (bx_6 := []) (.inl ⟨rfl, rfl, rfl⟩) (.inl ⟨rfl, rfl, rfl⟩) hR (i64n _ (by omega) (by omega)) iA (i64n _ (by omega) (by omega)) (i64n _ (by omega) (by omega)), by simpa using hnd, by simpa using hlo, ?_, fun h => ?_, by simp, by simp, hlen, hin⟩
  · rw [s1]; simp [fldP, fpC]
  · obtain ⟨h1, h2, h3⟩ := s3 h
    rw [hrs h1, h2, h3]
    have h4 := h
    rw [s1] at h4
    cases hsh : (ackS l a).2.2.2.2 <;> cases hg : (ackS l a).2.2.1 <;> rw [hsh, hg] at h4 <;> simp at h4
    simp [fldP, hsh, hg]

theorem frO_no {Hb h : AH} {q p2 p4 a : Nat} {s : AV} {l : List Int} (k : Int) (hk : ¬ (k = 0) ∧ ¬ (k = 1) ∧ ¬ (k = 30) ∧ ¬ (k = 2) ∧ ¬ (k = 4) ∧ ¬ (k = 5) ∧ ¬ (k = 17) ∧ ¬ (k = 21) ∧ ¬ (k = 6) ∧ ¬ (k = 29) ∧ ¬ (k = 7) ∧ ¬ (8 ≤ k ∧ k ≤ 15) ∧ ¬ (k = 18) ∧ ¬ (k = 19) ∧ ¬ (k = 22) ∧ ¬ (k = 23) ∧ ¬ (k = 16) ∧ ¬ (k = 20) ∧ ¬ (k = 25) ∧ ¬ (k = 24) ∧ ¬ (k = 26) ∧ ¬ (k = 27) ∧ ¬ (k = 28) ∧ ¬ (k = 48) ∧ ¬ (k = 49)) (hi : InK .i64 k) (F : FrH Hb h q p2 p4 a s l k) (m : Nat) (hm : 1500 ≤ m) (τ : Tm) (S : FrU τ q p2 p4 k) :
    ∃ τ' H', evAt Try.prog (ev Try.prog m) m 126 269509197823 τ h = some (.normal, τ', H') ∧ FrO l a k q p2 p4 s h H' τ' := by
  obtain ⟨hs, hb, hK, hqb, hq, hqn, ha, hl, n4, l4, b4, g4⟩ := F
  obtain ⟨τ', H', e, E⟩ := frK_no hq k (by omega) n4 g4 m (by omega) τ S
  obtain ⟨h0, h1, h30, h2, h4, h5, h17, h21, h6, h29, h7, h8, h18, h19, h22, h23, h16, h20, h25, h24, h26, h27, h28, h48, h49⟩ := hk
  refine ⟨τ', H', e, _, _, _, _, _, _, _, _, [], [], [], _, _, _, E, i72 (bx_5 := []) (bx_6 := []) (.inl ⟨rfl, rfl, rfl⟩) (.inl ⟨rfl, rfl, rfl⟩) nil94 hi (i64n _ (by omega) (by omega)) (i64n _ (by omega) (by omega)) (i64n _ (by omega) (by omega)), by simp, by simp, ?_, fun h => by omega, by simp, by simp, by simp, ha⟩
  simp [fldP, fpC, h0, h1, h30, h2, h4, h5, h17, h21, h6, h29, h7, h8, h18, h19, h22, h23, h16, h20, h25, h24, h26, h27, h28, h48, h49]

theorem frAll {Hb h : AH} {q p2 p4 a : Nat} {s : AV} {l : List Int} (k : Int) (hi : InK .i64 k) (F : FrH Hb h q p2 p4 a s l k) (m : Nat) (hm : 1500 ≤ m) (τ : Tm) (S : FrU τ q p2 p4 k) :
    ∃ τ' H', evAt Try.prog (ev Try.prog m) m 126 250 τ h = some (.normal, τ', H') ∧ FrO l a k q p2 p4 s h H' τ' := by
  by_cases c0 : k = 0
  ·  exact frO_0 k c0 F m hm τ S
  obtain ⟨τ0, e0, S0⟩ := frS_250 k (by omega) m τ h S
  by_cases c1 : k = 1 ∨ k = 30
  · rw [e0]; exact frO_1 k c1 F m hm τ0 S0
  obtain ⟨τ1, e1, S1⟩ := frS_1003 k (by omega) (by omega) m τ0 h S0
  by_cases c2 : k = 2
  · rw [e0]; rw [e1]; exact frO_2 k c2 F m hm τ1 S1
  obtain ⟨τ2, e2, S2⟩ := frS_4015 k (by omega) m τ1 h S1
  by_cases c3 : k = 4
  · rw [e0]; rw [e1]; rw [e2]; exact frO_ABC k c3 F m hm τ2 S2
  obtain ⟨τ3, e3, S3⟩ := frS_16063 k (by omega) m τ2 h S2
  by_cases c4 : k = 5 ∨ k = 17 ∨ k = 21
  · rw [e0]; rw [e1]; rw [e2]; rw [e3]; exact frO_AB k c4 F m hm τ3 S3
  obtain ⟨τ4, e4, S4⟩ := frS_64255 k (by omega) (by omega) (by omega) m τ3 h S3
  by_cases c5 : k = 6 ∨ k = 29
  · rw [e0]; rw [e1]; rw [e2]; rw [e3]; rw [e4]; exact frO_6 k c5 F m hm τ4 S4
  obtain ⟨τ5, e5, S5⟩ := frS_257023 k (by omega) (by omega) m τ4 h S4
  by_cases c6 : k = 7
  · rw [e0]; rw [e1]; rw [e2]; rw [e3]; rw [e4]; rw [e5]; exact frO_7 k c6 F m hm τ5 S5
  obtain ⟨τ6, e6, S6⟩ := frS_1028095 k (by omega) m τ5 h S5
  by_cases c7 : 8 ≤ k ∧ k ≤ 15
  · rw [e0]; rw [e1]; rw [e2]; rw [e3]; rw [e4]; rw [e5]; rw [e6]; exact frO_8 k c7 F m hm τ6 S6
  obtain ⟨τ7, e7, S7⟩ := frS_4112383 k (by omega) (by omega) (by omega) (by omega) (by omega) (by omega) (by omega) (by omega) m τ6 h S6
  by_cases c8 : k = 18 ∨ k = 19
  · rw [e0]; rw [e1]; rw [e2]; rw [e3]; rw [e4]; rw [e5]; rw [e6]; rw [e7]; exact frO_18 k c8 F m hm τ7 S7
  obtain ⟨τ8, e8, S8⟩ := frS_16449535 k (by omega) (by omega) m τ7 h S7
  by_cases c9 : k = 22 ∨ k = 23
  · rw [e0]; rw [e1]; rw [e2]; rw [e3]; rw [e4]; rw [e5]; rw [e6]; rw [e7]; rw [e8]; exact frO_22 k c9 F m hm τ8 S8
  obtain ⟨τ9, e9, S9⟩ := frS_65798143 k (by omega) (by omega) m τ8 h S8
  by_cases c10 : k = 16 ∨ k = 20 ∨ k = 25
  · rw [e0]; rw [e1]; rw [e2]; rw [e3]; rw [e4]; rw [e5]; rw [e6]; rw [e7]; rw [e8]; rw [e9]; exact frO_A k c10 F m hm τ9 S9
  obtain ⟨τ10, e10, S10⟩ := frS_263192575 k (by omega) (by omega) (by omega) m τ9 h S9
  by_cases c11 : k = 24
  · rw [e0]; rw [e1]; rw [e2]; rw [e3]; rw [e4]; rw [e5]; rw [e6]; rw [e7]; rw [e8]; rw [e9]; rw [e10]; exact frO_24 k c11 F m hm τ10 S10
  obtain ⟨τ11, e11, S11⟩ := frS_1052770303 k (by omega) m τ10 h S10
  by_cases c12 : k = 26 ∨ k = 27
  · rw [e0]; rw [e1]; rw [e2]; rw [e3]; rw [e4]; rw [e5]; rw [e6]; rw [e7]; rw [e8]; rw [e9]; rw [e10]; rw [e11]; exact frO_26 k c12 F m hm τ11 S11
  obtain ⟨τ12, e12, S12⟩ := frS_4211081215 k (by omega) (by omega) m τ11 h S11
  by_cases c13 : k = 28
  · rw [e0]; rw [e1]; rw [e2]; rw [e3]; rw [e4]; rw [e5]; rw [e6]; rw [e7]; rw [e8]; rw [e9]; rw [e10]; rw [e11]; rw [e12]; exact frO_28 k c13 F m hm τ12 S12
  obtain ⟨τ13, e13, S13⟩ := frS_16844324863 k (by omega) m τ12 h S12
  by_cases c14 : k = 48
  · rw [e0]; rw [e1]; rw [e2]; rw [e3]; rw [e4]; rw [e5]; rw [e6]; rw [e7]; rw [e8]; rw [e9]; rw [e10]; rw [e11]; rw [e12]; rw [e13]; exact frO_48 k c14 F m hm τ13 S13
  obtain ⟨τ14, e14, S14⟩ := frS_67377299455 k (by omega) m τ13 h S13
  by_cases c15 : k = 49
  · rw [e0]; rw [e1]; rw [e2]; rw [e3]; rw [e4]; rw [e5]; rw [e6]; rw [e7]; rw [e8]; rw [e9]; rw [e10]; rw [e11]; rw [e12]; rw [e13]; rw [e14]; exact frO_49 k c15 F m hm τ14 S14
  rw [e0]; rw [e1]; rw [e2]; rw [e3]; rw [e4]; rw [e5]; rw [e6]; rw [e7]; rw [e8]; rw [e9]; rw [e10]; rw [e11]; rw [e12]; rw [e13]; rw [e14]; exact frO_no k (by omega) hi F m hm τ14 S14

end Go.Ev

/- A frame read by the program. -/
namespace Go.Ev
open Go Go.Proofs
set_option linter.unusedSimpArgs false
set_option linter.unusedVariables false

set_option maxRecDepth 20000 in
theorem frB {Hb h : AH} {q p2 p4 a : Nat} {s : AV} {l : List Int} (k : Int) (hi : InK .i64 k) (F : FrH Hb h q p2 p4 a s l k) (m : Nat) (hm : 1500 ≤ m) (τ : Tm) (T : FrT τ q p2 p4 k) :
    ∃ τ' H', evAt Try.prog (ev Try.prog m) m 126 31 τ h = evAt Try.prog (ev Try.prog m) m 126 63 τ' H' ∧ FrO l a k q p2 p4 s h H' τ' := by
  obtain ⟨t0, t2, t3, t4⟩ := T
  obtain ⟨τ', H', e, O⟩ := frAll k hi F m hm (upd τ 15 (.int .i64 k)) ⟨⟨by simp [t0], by simp [t2], by simp [t3], by simp [t4]⟩, by simp⟩
  rw [at_M Try.func126 31 (by decide) 5 (by decide) (by kernel_rfl) [63, 250]]
  exact ⟨τ', H', by simp [Try.f126, t3, e], O⟩
/-- a frame: its fields, the code, the place -/
noncomputable def frP (l : List Int) (a : Nat) : FP × Int :=
  let o := takeS l a false 1
  let p := fldP l o.2.1 (valP o.1)
  if o.2.2 = true then (⟨0, 0, 0, 0, false, [], [], [], true, a, true⟩, 2) else (p, if fpC p = 0 ∧ ¬ frOK p.K p.A p.B p.C p.f p.D.length p.T.length p.rs then 3 else fpC p)
theorem tB_lenA {rw : Bool} {H : AH} {s : AV} {l : List Int} {bs : List Nat} (h : (Ty.sl 5 (Ty.int .u8)).R rw H [s] l bs) (h' : AH) : lenA Try.prog 34 s h' = some (.int .i64 l.length) := Ty.R.lenA h (P := Try.prog) (T := 34) (by simp) h'
theorem frame_ev {Hb H : AH} {q a : Nat} {s : AV} {l : List Int} (hs : Bs Hb s l) (hb : By l) (hK : Kp Hb H) (hqb : Hb.next ≤ q) (hqn : q < H.next) (hq : H.get q = some (scB s a 0)) (ha : a ≤ l.length) (hl : l.length ≤ 65536) (m : Nat) (hm : 1501 ≤ m) :
    ∃ (fr : List AV) (H' : AH) (K A B C : Int) (f : Bool) (D T : List Int) (rs : List (Int × Int)) (bs : List Nat) (a' : Nat), ev Try.prog m 126 [.ptr q 0] H = some (.agg fr, H') ∧ Kx q H H' ∧ tT72.R true H' fr (K, A, B, C, f, D, T, rs) bs ∧ bs.Nodup ∧ (∀ b ∈ bs, H.next ≤ b) ∧
      H'.get q = some (scB s a' (frP l a).2) ∧ ((frP l a).2 = 0 → (frP l a).1 = ⟨K, A, B, C, f, D, T, rs, true, a', false⟩) := by
  obtain ⟨m, rfl⟩ : ∃ k, m = k + 1 := ⟨m - 1, by omega⟩
  obtain ⟨τ0, H0, e0, T0, g2, g4, gq, k0, n0, l0⟩ := fr0 (c := 0) hs hb hK hqb hqn hq ha hl m (by omega)
  obtain ⟨f1, f2⟩ := fr1 gq (by omega) g2 g4 m τ0 T0
  have ho := octetI_cd l a false
  simp only [cd_f] at ho
  rw [ho] at T0 g4 gq l0 f1 f2
  simp only at T0 g4 gq l0 f1 f2
  have hv : 0 ≤ valP (takeS l a false 1).1 := valP_nn (takeS_by hb _ _ _)
  have hv2 : InK .i64 (valP (takeS l a false 1).1) := by
    have h1 := valP_lt _ (takeS_by hb a false 1)
    have h2 := (takeS_len l a false 1).1
    have h3 : valP (takeS l a false 1).1 < 256 := by
      have : (takeS l a false 1).1.length = 0 ∨ (takeS l a false 1).1.length = 1 := by omega
      rcases this with h | h <;> rw [h] at h1 <;> simp at h1 <;> omega
    exact InK.i64 (by omega) (by omega)
  unfold frP
  generalize takeS l a false 1 = o at *
  obtain ⟨o1, a1, sh⟩ := o
  simp only at *
  cases sh with
  | true =>
    have e1 := f1 (by simp)
    refine ⟨frC (valP o1) 0 0 0 false .nilSlice .nilSlice .nilSlice, _, valP o1, 0, 0, 0, false, [], [], [], [], a1, by rw [e0, e1], ⟨?_, fun b hb hbq => ?_⟩, i72 (bx_5 := []) (bx_6 := []) (.inl ⟨rfl, rfl, rfl⟩) (.inl ⟨rfl, rfl, rfl⟩) nil94 hv2 (i64n _ (by omega) (by omega)) (i64n _ (by omega) (by omega)) (i64n _ (by omega) (by omega)), by simp, by simp, ?_, fun h => ?_⟩
    · simp; omega
    · rw [AH.set_getN _ _ (by omega)]; exact k0.get b hb hbq
    · rw [AH.set_getN _ _ (by omega)]; exact gq
    · simp at h
  | false =>
    obtain ⟨τ1, e1, T1⟩ := f2 (by simp)
    have K0 := k0.kp hK hqb
    have hKn := hK.next
    obtain ⟨τ2, H2, e2, K, A, B, C, f, r, t, rv, D, T, rs, bs, a', c', E, hR, hnd, hlo, hc, hc0, lD, lT, lr, la⟩ := frB (valP o1) hv2 ⟨hs, hb, K0, hqb, gq, by omega, l0, hl, by omega, by omega, by omega, g4⟩ m (by omega) τ1 T1
    obtain ⟨vx5, vx6, vx7, bx5, bx6, bx7, hcs, hbs, r5, r6, r7, iK, iA, iB, iC⟩ := o72 hR
    obtain ⟨rfl, rfl, rfl⟩ : r = vx5 ∧ t = vx6 ∧ rv = vx7 := by simpa [frC] using hcs
    have x2 := E.next
    have K2 : Kp Hb H2 := ⟨by omega, fun b hb => (E.rest b (by omega) (by omega) (by omega)).trans (K0.get b hb)⟩
    obtain ⟨τ3, H3, e3, T3, q3, k3⟩ := fr8 (k := K) (A := A) (B := B) (C := C) (f := f) r7 (Kp.refl H2) (tB_lenA r5) (tB_lenA r6) r5.sl_one r6.sl_one (by omega) (by omega) E.gq (by omega) (by omega) (by omega) E.g4 m (by omega) τ2 E.T
    have x3 := k3.next
    have g3 : H3.get (H.next + 1) = _ := (k3.get (H.next + 1) (by omega) (by omega)).trans E.g4
    have g32 : H3.get H.next = some (.cells 72 false (frC 0 0 0 0 false .nilSlice .nilSlice .nilSlice)) := by rw [k3.get _ (by omega) (by omega), E.rest _ (by omega) (by omega) (by omega), g2]
    have e4 := fr9 r5.sl_one r6.sl_one r7.sl_one g32 g3 m τ3 T3
    have hbn : ∀ b ∈ bs, H0.next ≤ b := hlo
    have hR3 : tT72.R true (H3.set H.next (.cells 72 false (frC K A B C f r t rv))) (frC K A B C f r t rv) (K, A, B, C, f, D, T, rs) bs := hR.stay (by simp; omega) fun b hb => by
      have h1 := hbn b hb
      have h2 := hR.mem b hb
      rw [AH.set_getN _ _ (by omega), k3.get b (by omega) (by omega)]
    have hfin : (if fpC (fldP l a1 (valP o1)) = 0 ∧ ¬ frOK (fldP l a1 (valP o1)).K (fldP l a1 (valP o1)).A (fldP l a1 (valP o1)).B (fldP l a1 (valP o1)).C (fldP l a1 (valP o1)).f (fldP l a1 (valP o1)).D.length (fldP l a1 (valP o1)).T.length (fldP l a1 (valP o1)).rs then 3 else fpC (fldP l a1 (valP o1))) = (if c' = 0 ∧ ¬ frOK K A B C f D.length T.length rs then 3 else c') := by
      rw [← hc]
      by_cases h0 : c' = 0
      · rw [hc0 h0]
      · rw [if_neg (by simp [h0]), if_neg (by simp [h0])]
    refine ⟨_, _, K, A, B, C, f, D, T, rs, bs, a', by rw [e0, e1, e2, e3, e4], ⟨?_, fun b hb hbq => ?_⟩, hR3, hnd, fun b hb => by have := hbn b hb; omega, ?_, fun h => ?_⟩
    · simp; omega
    · rw [AH.set_getN _ _ (by omega), k3.get b (by omega) hbq, E.rest b (by omega) hbq (by omega)]; exact k0.get b hb hbq
    · rw [AH.set_getN _ _ (by omega), q3]
      simp only [Bool.false_eq_true, if_false]
      rw [hfin]
    · simp only [Bool.false_eq_true, if_false] at h ⊢
      rw [hfin] at h
      by_cases h0 : c' = 0
      · exact hc0 h0
      · rw [if_neg (by simp [h0])] at h; exact absurd h h0
end Go.Ev

/- ReadFrame of the program. -/
namespace Go.Ev
open Go Go.Proofs
set_option linter.unusedSimpArgs false
set_option linter.unusedVariables false

def fpZ : FP := ⟨0, 0, 0, 0, false, [], [], [], true, 0, false⟩
def fpD (p : FP) : tT72.D := (p.K, p.A, p.B, p.C, p.f, p.D, p.T, p.rs)
noncomputable def rfP (l : List Int) (x : Int) : FP × Int × Int :=
  if 65536 < l.length then (fpZ, 0, 4) else if x < 0 ∨ (l.length : Int) < x then (fpZ, 0, 1) else
  if (frP l x.toNat).2 = 0 then ((frP l x.toNat).1, (frP l x.toNat).1.a, 0) else (fpZ, 0, (frP l x.toNat).2)
theorem zero72 {H : AH} : tT72.R true H (frC 0 0 0 0 false .nilSlice .nilSlice .nilSlice) (fpD fpZ) [] :=
  i72 (bx_5 := []) (bx_6 := []) (.inl ⟨rfl, rfl, rfl⟩) (.inl ⟨rfl, rfl, rfl⟩) nil94 (i64n _ (by omega) (by omega)) (i64n _ (by omega) (by omega)) (i64n _ (by omega) (by omega)) (i64n _ (by omega) (by omega))
theorem readI_ev {Hb H : AH} {s : AV} {l : List Int} {x : Int} (hs : Bs Hb s l) (hb : By l) (hK : Kp Hb H) (m : Nat) (hm : 1503 ≤ m) :
    ∃ (fr : List AV) (H' : AH) (bs : List Nat), ev Try.prog m 41 [s, .int .i64 x] H = some (.tuple [.agg fr, .int .i64 (rfP l x).2.1, .int .i64 (rfP l x).2.2], H') ∧ Kp H H' ∧ tT72.R true H' fr (fpD (rfP l x).1) bs ∧ bs.Nodup ∧ ∀ b ∈ bs, H.next ≤ b := by
  obtain ⟨m, rfl⟩ : ∃ k, m = k + 1 := ⟨m - 1, by omega⟩
  have hL := hs.len
  have hT := fun h => tooLong_ev hs h m (by omega)
  have hz : ∀ h : AH, tT72.R true h (frC 0 0 0 0 false .nilSlice .nilSlice .nilSlice) (fpD fpZ) [] := fun h => zero72
  by_cases c1 : 65536 < l.length
  · have c1' : 65536 < (l.length : Int) := by omega
    refine ⟨frC 0 0 0 0 false .nilSlice .nilSlice .nilSlice, (H.push (.cells 72 false (frC 0 0 0 0 false .nilSlice .nilSlice .nilSlice))), [], ?_, (Kp.refl H).push _, by rw [rfP, if_pos c1]; exact hz _, by simp, by simp⟩
    rw [rfP, if_pos c1]
    rw [ev_M Try.func41 ok41 [] m _ H (by simp [Try.f41])]
    simp [Try.f41, tm0, hT, c1', ldVar, stVar, spl, frC]
  · have c1' : (65536 < (l.length : Int)) = False := eq_false (by omega)
    by_cases c2 : x < 0 ∨ (l.length : Int) < x
    · refine ⟨frC 0 0 0 0 false .nilSlice .nilSlice .nilSlice, (H.push (.cells 72 false (frC 0 0 0 0 false .nilSlice .nilSlice .nilSlice))), [], ?_, (Kp.refl H).push _, by rw [rfP, if_neg c1, if_pos c2]; exact hz _, by simp, by simp⟩
      rw [rfP, if_neg c1, if_pos c2]
      rw [ev_M Try.func41 ok41 [] m _ H (by simp [Try.f41])]
      by_cases c3 : x < 0
      · simp [Try.f41, tm0, hT, c1', c3, hL, ldVar, stVar, spl, frC]
      · have c4 : (l.length : Int) < x := by omega
        simp [Try.f41, tm0, hT, c1', c3, c4, hL, ldVar, stVar, spl, frC]
    · have c3 : (x < 0) = False := eq_false (by omega)
      have c4 : ((l.length : Int) < x) = False := eq_false (by omega)
      obtain ⟨a, rfl⟩ := Int.eq_ofNat_of_zero_le (by omega : 0 ≤ x)
      have hKn := hK.next
      let H2 : AH := (H.push (.cells 72 false (frC 0 0 0 0 false .nilSlice .nilSlice .nilSlice))).push (scB s a 0)
      have K2 : Kp H H2 := ((Kp.refl H).push _).push _
      obtain ⟨fr, H3, K, A, B, C, f, D, T, rs, bs, a', e1, k1, hR, hnd, hlo, gq, hc⟩ := frame_ev (q := H.next + 1) (a := a) hs hb (hK.trans K2) (by omega) (by simp [H2]) (by simp [H2]) (by omega) (by omega) m (by omega)
      have n1 := k1.next
      simp [H2] at n1
      have g0 : H3.get H.next = some (.cells 72 false (frC 0 0 0 0 false .nilSlice .nilSlice .nilSlice)) := by rw [k1.get _ (by simp [H2]; omega) (by omega)]; simp [H2]
      have K3 : Kp H H3 := ⟨by omega, fun b hb => by rw [k1.get b (by simp [H2]; omega) (by omega)]; exact K2.get b hb⟩
      have nx1 : ¬ (H.next = H3.next) := by omega
      have nx2 : ¬ (H.next + 1 = H3.next) := by omega
      have nx3 : ¬ (H3.next = H.next) := by omega
      have hfl := hR.len
      have os := hs.one
      have osc := cells_one os
      obtain ⟨vx5, vx6, vx7, bx5, bx6, bx7, hcs, hbs, r5, r6, r7, iK, iA, iB, iC⟩ := o72 hR
      subst hcs
      have o5 := r5.sl_one; have o6 := r6.sl_one; have o7 := r7.sl_one
      have lo2 : ∀ b ∈ bs, H.next ≤ b ∧ b ≠ H.next := fun b hb => by have := hlo b hb; simp [H2] at this; omega
      simp only [H2, frC, scB] at e1 g0 gq
      rw [rfP, if_neg c1, if_neg c2]
      simp only [Int.toNat_natCast]
      generalize frP l a = P at *
      obtain ⟨p, c⟩ := P
      simp only at *
      by_cases c0 : c = 0
      · subst c0
        rw [if_pos rfl]
        have hp := hc rfl
        subst hp
        refine ⟨[.int .i64 K, .int .i64 A, .int .i64 B, .int .i64 C, .bool f, vx5, vx6, vx7], (H3.push (.cells 72 false [.int .i64 K, .int .i64 A, .int .i64 B, .int .i64 C, .bool f, vx5, vx6, vx7])).set H.next (.cells 72 false [.int .i64 K, .int .i64 A, .int .i64 B, .int .i64 C, .bool f, vx5, vx6, vx7]), bs, ?_, (K3.push _).set (Nat.le_refl _) _, ?_, hnd, fun b hb => (lo2 b hb).1⟩
        · rw [ev_M Try.func41 ok41 [] m _ H (by simp [Try.f41])]
          simp [Try.f41, tm0, hT, c1', c3, c4, hL, ldVar, stVar, spl, os, osc, e1, g0, gq, nx1, nx2, nx3, o5, o6, o7, evHist, ObsOk, ObOk, List.getElem?_cons_zero]
        · exact hR.stay (by simp) fun b hb => by
            have := hR.mem b hb
            rw [AH.set_getN _ _ (lo2 b hb).2, AH.push_get, if_neg (by omega)]
      · rw [if_neg c0]
        have c0' : (c != 0) = true := by simpa using c0
        refine ⟨frC 0 0 0 0 false .nilSlice .nilSlice .nilSlice, (H3.push (.cells 72 false [.int .i64 K, .int .i64 A, .int .i64 B, .int .i64 C, .bool f, vx5, vx6, vx7])).set H.next (.cells 72 false (frC 0 0 0 0 false .nilSlice .nilSlice .nilSlice)), [], ?_, (K3.push _).set (Nat.le_refl _) _, hz _, by simp, by simp⟩
        rw [ev_M Try.func41 ok41 [] m _ H (by simp [Try.f41])]
        simp [Try.f41, tm0, hT, c1', c3, c4, c0, c0', hL, ldVar, stVar, spl, os, osc, e1, g0, gq, nx1, nx2, nx3, o5, o6, o7, frC, evHist, ObsOk, ObOk, List.getElem?_cons_zero]
end Go.Ev

/- An acknowledgement's bytes read again, plain. -/
namespace Go.Ev
open Go Go.Proofs
set_option linter.unusedSimpArgs false
set_option linter.unusedVariables false

theorem varS_at {l pre post : List Int} {v : Int} {a : Nat} (h : l = pre ++ (encV v ++ post)) (ha : a = pre.length) (hv : inN v) : varS l a false = (v, a + vL v, false) := by
  subst h; subst ha
  have := getVar_enc (pre := pre) (post := post) hv.1 hv.2
  unfold varS
  rw [this]
  simp
  omega
theorem enc_next {l pre post : List Int} {v : Int} {a : Nat} (h : l = pre ++ (encV v ++ post)) (ha : a = pre.length) : l = (pre ++ encV v) ++ post ∧ a + vL v = (pre ++ encV v).length := by
  subst h; subst ha; simp [encV_len]
def fallOK : Rg → List Rg → Prop
  | _, [] => True
  | p, r :: l => (r.2 + 1 < p.1 ∧ r.1 ≤ r.2 ∧ inV r.1 ∧ inV r.2 ∧ inV p.1) ∧ fallOK r l
theorem fall_of {L : List Rg} (h : rgL none L) : ∀ j (hj : j < L.length), fallOK L[j] (L.take j).reverse
  | 0, hj => by simp [fallOK]
  | j + 1, hj => by
    rw [List.take_succ_eq_append_getElem (by omega), List.reverse_append]
    have i1 := rgL_in h L[j] (List.getElem_mem (by omega))
    have i2 := rgL_in h L[j + 1] (List.getElem_mem hj)
    exact ⟨⟨rgL_get h j hj, rgL_le h L[j] (List.getElem_mem (by omega)), i1.1, i1.2, i2.1⟩, fall_of h j (by omega)⟩
theorem akRun_at {l : List Int} : ∀ (rest : List Rg) (p : Rg) (rs : List Rg) (pre : List Int) (a : Nat), l = pre ++ tailB p rest → a = pre.length → fallOK p rest →
    ∃ lo', akRun l rest.length ⟨rs, p.1, true, a, false⟩ = ⟨rs ++ rest, lo', true, a + (tailB p rest).length, false⟩
  | [], p, rs, pre, a, h, ha, hf => ⟨p.1, by simp [akRun, tailB]⟩
  | r :: rest, p, rs, pre, a, h, ha, hf => by
    obtain ⟨⟨f1, f2, f3, f4, f5⟩, f6⟩ := hf
    simp only [inV] at f3 f4 f5
    simp only [tailB, encs, List.flatMap_cons, List.flatMap_nil, List.append_nil, List.append_assoc] at h
    have v1 := varS_at h ha ⟨by omega, by omega⟩
    obtain ⟨h2, ha2⟩ := enc_next h ha
    have v2 := varS_at h2 ha2 ⟨by omega, by omega⟩
    obtain ⟨h3, ha3⟩ := enc_next h2 ha2
    obtain ⟨lo', ih⟩ := akRun_at rest r (rs ++ [(r.1, r.2)]) _ _ h3 ha3 f6
    refine ⟨lo', ?_⟩
    simp only [List.length_cons, akRun]
    rw [if_neg (by simp)]
    have hs : akStep l ⟨rs, p.1, true, a, false⟩ = ⟨rs ++ [(r.1, r.2)], r.1, true, a + vL (p.1 - r.2 - 2) + vL (r.2 - r.1), false⟩ := by
      unfold akStep akOne
      simp only [v1, v2]
      rw [show p.1 - (p.1 - r.2 - 2) - 2 = r.2 by omega, show r.2 - (r.2 - r.1) = r.1 by omega, if_neg (by omega)]
    rw [hs, ih]
    simp [tailB, encs, encV_len]
    omega
theorem rf_ack {L : List Rg} (h : rgOK L) (j : Nat) (hj : L.length = j + 1) {N : Int} (hN : inV N) :
    rfP (ackB (L[j]'(by omega)) N (L.take j).reverse) 0 = (⟨2, N, 0, 0, false, [], [], L, true, (ackB (L[j]'(by omega)) N (L.take j).reverse).length, false⟩, ((ackB (L[j]'(by omega)) N (L.take j).reverse).length : Int), 0) := by
  have hl := h.1
  have it := rgL_in h.2 (L[j]'(by omega)) (List.getElem_mem (by omega))
  have hle := rgL_le h.2 (L[j]'(by omega)) (List.getElem_mem (by omega))
  have hf := fall_of h.2 j (by omega)
  have hLe : L.take j ++ [L[j]'(by omega)] = L := by rw [← List.take_succ_eq_append_getElem (by omega), List.take_of_length_le (by omega)]
  have hrl : (L.take j).reverse.length = j := by simp; omega
  have hfr : frOK 2 N 0 0 false 0 0 L := by
    have z0 : inV 0 := ⟨by omega, by omega⟩
    have hlp : 0 < L.length := by omega
    exact ⟨⟨by decide, hN, z0, z0, by simp [usesL, fldOK], by simp [usesL, fldOK], by simp [usesL, fldOK], by simp [usesL, fldOK]⟩, ⟨by simp [usesL], by simp [usesL], by simp [usesL], by simp [usesL, hlp], h⟩, by simp [frX]⟩
  have hrev : (L.take j).reverse.reverse ++ [L[j]'(by omega)] = L := by rw [List.reverse_reverse]; exact hLe
  generalize (L[j]'(by omega)) = top at *
  generalize hrest : (L.take j).reverse = rest at *
  simp only [inV] at it hN
  have tl : (tailB top rest).length ≤ 16 * rest.length := by
    have : ∀ (rest : List Rg) (p : Rg), (tailB p rest).length ≤ 16 * rest.length := by
      intro rest
      induction rest with
      | nil => intro p; simp [tailB]
      | cons r l ih => intro p; have h1 := ih r; have h2 := encs_len [p.1 - r.2 - 2, r.2 - r.1]; simp [tailB] at h2 ⊢; omega
    exact this rest top
  have e4 := encs_len [top.2, N, (rest.length : Int), top.2 - top.1]
  have hbig : (ackB top N rest).length ≤ 65536 := by unfold ackB; simp at e4 ⊢; omega
  have hl0 : ackB top N rest = [2] ++ (encV top.2 ++ (encV N ++ (encV (rest.length : Int) ++ (encV (top.2 - top.1) ++ tailB top rest)))) := by simp [ackB, encs]
  generalize hB : ackB top N rest = l at *
  have ht : takeS l 0 false 1 = ([2], 1, false) := by rw [hl0]; simp [takeS]; omega
  have v1 := varS_at (a := 1) hl0 rfl ⟨by omega, by omega⟩
  obtain ⟨h2, a2⟩ := enc_next (a := 1) hl0 rfl
  have v2 := varS_at h2 a2 ⟨by omega, by omega⟩
  obtain ⟨h3, a3⟩ := enc_next h2 a2
  have v3 := varS_at h3 a3 ⟨by omega, by omega⟩
  obtain ⟨h4, a4⟩ := enc_next h3 a3
  have v4 := varS_at h4 a4 ⟨by omega, by omega⟩
  obtain ⟨h5, a5⟩ := enc_next h4 a4
  obtain ⟨lo', hr⟩ := akRun_at rest top [(top.1, top.2)] _ _ h5 a5 hf
  have hlen : l.length = 1 + vL top.2 + vL N + vL (rest.length : Int) + vL (top.2 - top.1) + (tailB top rest).length := by
    rw [hl0]; simp [encV_len]; omega
  have hak : ackS l 1 = (N, top :: rest, true, l.length, false) := by
    unfold ackS
    simp only [v1, v2, v3]
    rw [if_neg (by simp), if_neg (by omega)]
    have ho : akOne l ⟨[], 0, true, 1 + vL top.2 + vL N + vL (rest.length : Int), false⟩ top.2 (1 + vL top.2 + vL N + vL (rest.length : Int)) false = ⟨[(top.1, top.2)], top.1, true, 1 + vL top.2 + vL N + vL (rest.length : Int) + vL (top.2 - top.1), false⟩ := by
      unfold akOne
      simp only [v4]
      rw [show top.2 - (top.2 - top.1) = top.1 by omega, if_neg (by omega)]
      simp
    rw [ho, show ((rest.length : Int)).toNat = rest.length by omega, hr]
    simp [hlen]
  have hfp : frP l 0 = (⟨2, N, 0, 0, false, [], [], L, true, l.length, false⟩, 0) := by
    unfold frP
    simp only [ht]
    rw [if_neg (by simp)]
    have hv2 : valP [2] = 2 := by decide
    have hfld : fldP l 1 2 = ⟨2, N, 0, 0, false, [], [], L, true, l.length, false⟩ := by
      unfold fldP
      simp only [hak]
      simp
      exact hrev
    rw [hv2, hfld]
    simp [fpC, hfr]
  unfold rfP
  rw [if_neg (by omega), if_neg (by omega), show (0 : Int).toNat = 0 by rfl, hfp]
  simp
end Go.Ev

/- A frame's bytes read again, plain. -/
namespace Go.Ev
open Go Go.Proofs
set_option linter.unusedSimpArgs false
set_option linter.unusedVariables false

theorem counted_at {l pre post D : List Int} {a : Nat} (h : l = pre ++ (encV (D.length : Int) ++ (D ++ post))) (ha : a = pre.length) (hD : D.length ≤ 1000000) : countedS l a false = (D, a + (vL (D.length : Int) + D.length), false) := by
  have v := varS_at h ha (v := (D.length : Int)) ⟨by omega, by omega⟩
  obtain ⟨h2, a2⟩ := enc_next h ha
  unfold countedS
  rw [v]
  simp only
  unfold takeS
  have hl : l.length = pre.length + vL (D.length : Int) + D.length + post.length := by rw [h]; simp [encV_len]; omega
  rw [if_neg (by simp; omega)]
  have hd : l.drop (a + vL (D.length : Int)) = D ++ post := by rw [a2, h2, List.drop_left]
  rw [hd]
  simp; omega
theorem take_at {l pre post D : List Int} {a : Nat} (h : l = pre ++ (D ++ post)) (ha : a = pre.length) {n : Int} (hn : n = D.length) : takeS l a false n = (D, a + D.length, false) := by
  unfold takeS
  have hl : l.length = pre.length + D.length + post.length := by rw [h]; simp; omega
  rw [if_neg (by simp; omega)]
  have hd : l.drop a = D ++ post := by rw [ha, h, List.drop_left]
  rw [hd, hn]; simp
theorem padN_at : ∀ (n N : Nat) {l pre post : List Int} {a : Nat}, l = pre ++ (List.replicate n 0 ++ post) → a = pre.length → n ≤ N → (post.head? ≠ some 0 ∨ n = N) → padN l a N = n
  | 0, 0, l, pre, post, a, h, ha, hn, hp => rfl
  | 0, N + 1, l, pre, post, a, h, ha, hn, hp => by
    have hp : post.head? ≠ some 0 := by rcases hp with h | h; exact h; omega
    have e : l[a]? = post.head? := by rw [h, ha]; simp [List.getElem?_append_right, List.head?_eq_getElem?]
    unfold padN
    rw [e, if_neg hp]
  | n + 1, N + 1, l, pre, post, a, h, ha, hn, hp => by
    have e : l[a]? = some 0 := by rw [h, ha]; simp [List.getElem?_append_right, List.replicate_succ]
    have ih := padN_at n N (l := l) (pre := pre ++ [0]) (post := post) (a := a + 1) (by rw [h]; simp [List.replicate_succ]) (by simp [ha]) (by omega) (by rcases hp with h | h; exact .inl h; exact .inr (by omega))
    unfold padN
    rw [if_pos e, ih]
theorem akRun_at2 {l post : List Int} : ∀ (rest : List Rg) (p : Rg) (rs : List Rg) (pre : List Int) (a : Nat), l = pre ++ (tailB p rest ++ post) → a = pre.length → fallOK p rest →
    ∃ lo', akRun l rest.length ⟨rs, p.1, true, a, false⟩ = ⟨rs ++ rest, lo', true, a + (tailB p rest).length, false⟩
  | [], p, rs, pre, a, h, ha, hf => ⟨p.1, by simp [akRun, tailB]⟩
  | r :: rest, p, rs, pre, a, h, ha, hf => by
    obtain ⟨⟨f1, f2, f3, f4, f5⟩, f6⟩ := hf
    simp only [inV] at f3 f4 f5
    simp only [tailB, encs, List.flatMap_cons, List.flatMap_nil, List.append_nil, List.append_assoc] at h
    have v1 := varS_at h ha ⟨by omega, by omega⟩
    obtain ⟨h2, ha2⟩ := enc_next h ha
    have v2 := varS_at h2 ha2 ⟨by omega, by omega⟩
    obtain ⟨h3, ha3⟩ := enc_next h2 ha2
    obtain ⟨lo', ih⟩ := akRun_at2 rest r (rs ++ [(r.1, r.2)]) _ _ h3 ha3 f6
    refine ⟨lo', ?_⟩
    simp only [List.length_cons, akRun]
    rw [if_neg (by simp)]
    have hs : akStep l ⟨rs, p.1, true, a, false⟩ = ⟨rs ++ [(r.1, r.2)], r.1, true, a + vL (p.1 - r.2 - 2) + vL (r.2 - r.1), false⟩ := by
      unfold akStep akOne
      simp only [v1, v2]
      rw [show p.1 - (p.1 - r.2 - 2) - 2 = r.2 by omega, show r.2 - (r.2 - r.1) = r.1 by omega, if_neg (by omega)]
    rw [hs, ih]
    simp [tailB, encs, encV_len]
    omega
theorem ack_at {L : List Rg} (h : rgOK L) (j : Nat) (hj : L.length = j + 1) {N : Int} (hN : inV N) {l pre post : List Int} {a : Nat} (hl0 : l = pre ++ (ackB (L[j]'(by omega)) N (L.take j).reverse ++ post)) (ha : a = pre.length) :
    ackS l (a + 1) = (N, L.reverse, true, a + (ackB (L[j]'(by omega)) N (L.take j).reverse).length, false) := by
  have hl := h.1
  have it := rgL_in h.2 (L[j]'(by omega)) (List.getElem_mem (by omega))
  have hle := rgL_le h.2 (L[j]'(by omega)) (List.getElem_mem (by omega))
  have hf := fall_of h.2 j (by omega)
  have hLe : L.take j ++ [L[j]'(by omega)] = L := by rw [← List.take_succ_eq_append_getElem (by omega), List.take_of_length_le (by omega)]
  have hrl : (L.take j).reverse.length = j := by simp; omega
  have hrev : (L[j]'(by omega)) :: (L.take j).reverse = L.reverse := by
    have e := congrArg List.reverse hLe
    rw [List.reverse_append] at e
    exact e
  generalize (L[j]'(by omega)) = top at *
  generalize hrest : (L.take j).reverse = rest at *
  simp only [inV] at it hN
  have hl1 : l = (pre ++ [2]) ++ (encV top.2 ++ (encV N ++ (encV (rest.length : Int) ++ (encV (top.2 - top.1) ++ (tailB top rest ++ post))))) := by rw [hl0]; simp [ackB, encs]
  have a1 : a + 1 = (pre ++ [2]).length := by simp [ha]
  have v1 := varS_at hl1 a1 ⟨by omega, by omega⟩
  obtain ⟨h2, a2⟩ := enc_next hl1 a1
  have v2 := varS_at h2 a2 ⟨by omega, by omega⟩
  obtain ⟨h3, a3⟩ := enc_next h2 a2
  have v3 := varS_at h3 a3 ⟨by omega, by omega⟩
  obtain ⟨h4, a4⟩ := enc_next h3 a3
  have v4 := varS_at h4 a4 ⟨by omega, by omega⟩
  obtain ⟨h5, a5⟩ := enc_next h4 a4
  obtain ⟨lo', hr⟩ := akRun_at2 rest top [(top.1, top.2)] _ _ h5 a5 hf
  have hlen : (ackB top N rest).length = 1 + vL top.2 + vL N + vL (rest.length : Int) + vL (top.2 - top.1) + (tailB top rest).length := by
    unfold ackB encs; simp [encV_len]; omega
  unfold ackS
  simp only [v1, v2, v3]
  rw [if_neg (by simp), if_neg (by omega)]
  have ho : akOne l ⟨[], 0, true, a + 1 + vL top.2 + vL N + vL (rest.length : Int), false⟩ top.2 (a + 1 + vL top.2 + vL N + vL (rest.length : Int)) false = ⟨[(top.1, top.2)], top.1, true, a + 1 + vL top.2 + vL N + vL (rest.length : Int) + vL (top.2 - top.1), false⟩ := by
    unfold akOne
    simp only [v4]
    rw [show top.2 - (top.2 - top.1) = top.1 by omega, if_neg (by omega)]
    simp
  rw [ho, show ((rest.length : Int)).toNat = rest.length by omega, hr, hlen, ← hrev]
  simp only [Prod.mk.injEq, true_and, and_true]
  exact ⟨rfl, by omega⟩
theorem frP_of {l pre rest D T : List Int} {b0 k a b c : Int} {fin : Bool} {rs : List Rg} {A a' : Nat} (hl : l = pre ++ (b0 :: rest)) (hA : A = pre.length) (hf : fldP l (A + 1) b0 = ⟨k, a, b, c, fin, D, T, rs, true, a', false⟩) (ok : frOK k a b c fin D.length T.length rs) :
    frP l A = (⟨k, a, b, c, fin, D, T, rs, true, a', false⟩, 0) := by
  have ht : takeS l A false 1 = ([b0], A + 1, false) := take_at (pre := pre) (D := [b0]) (post := rest) (by rw [hl]; simp) hA (by simp)
  have hv : valP [b0] = b0 := by simp [valP]
  unfold frP
  simp only [ht, hv, hf]
  rw [if_neg (by simp)]
  simp [fpC, ok]
end Go.Ev

/- A frame's bytes read again, plain, a theorem a kind: printed by a program of this session (gen_zw.py). -/
namespace Go.Ev
open Go Go.Proofs
set_option linter.unusedSimpArgs false
set_option linter.unusedVariables false

theorem fyK_1 {a b c : Int} {fin : Bool} {D T : List Int} {rs : List Rg} {l pre post : List Int} {A : Nat} (ok : frOK 1 a b c fin D.length T.length rs) (hl : l = pre ++ (fyB4 1 a b c fin D T rs ++ post)) (hA : A = pre.length) :
    frP l A = (⟨1, a, b, c, fin, D, T, rs, true, A + (fyB4 1 a b c fin D T rs).length, false⟩, 0) := by
  have ok0 := ok
  obtain ⟨⟨_, ia, ib, ic, pa, pb, pc, pf⟩, ⟨q1, q2, q3, q4, q5⟩, q6⟩ := ok
  simp [usesL, fldOK] at pa pb pc pf q1 q2 q3 q4
  subst pa pb pc pf q2 q3 q4
  have hl1 : l = (pre ++ [1]) ++ (post) := by rw [hl]; simp [fyB4, fyB, encs]
  have a1 : A + 1 = (pre ++ [1]).length := by simp [hA]
  refine frP_of (b0 := 1) (rest := post) (by rw [hl1]; simp) hA ?_ ok0
  unfold fldP
  simp [fyB4, fyB, encs, encV_len, valP]
  try omega
theorem fyK_30 {a b c : Int} {fin : Bool} {D T : List Int} {rs : List Rg} {l pre post : List Int} {A : Nat} (ok : frOK 30 a b c fin D.length T.length rs) (hl : l = pre ++ (fyB4 30 a b c fin D T rs ++ post)) (hA : A = pre.length) :
    frP l A = (⟨30, a, b, c, fin, D, T, rs, true, A + (fyB4 30 a b c fin D T rs).length, false⟩, 0) := by
  have ok0 := ok
  obtain ⟨⟨_, ia, ib, ic, pa, pb, pc, pf⟩, ⟨q1, q2, q3, q4, q5⟩, q6⟩ := ok
  simp [usesL, fldOK] at pa pb pc pf q1 q2 q3 q4
  subst pa pb pc pf q2 q3 q4
  have hl1 : l = (pre ++ [30]) ++ (post) := by rw [hl]; simp [fyB4, fyB, encs]
  have a1 : A + 1 = (pre ++ [30]).length := by simp [hA]
  refine frP_of (b0 := 30) (rest := post) (by rw [hl1]; simp) hA ?_ ok0
  unfold fldP
  simp [fyB4, fyB, encs, encV_len, valP]
  try omega
theorem fyK_16 {a b c : Int} {fin : Bool} {D T : List Int} {rs : List Rg} {l pre post : List Int} {A : Nat} (ok : frOK 16 a b c fin D.length T.length rs) (hl : l = pre ++ (fyB4 16 a b c fin D T rs ++ post)) (hA : A = pre.length) :
    frP l A = (⟨16, a, b, c, fin, D, T, rs, true, A + (fyB4 16 a b c fin D T rs).length, false⟩, 0) := by
  have ok0 := ok
  obtain ⟨⟨_, ia, ib, ic, pa, pb, pc, pf⟩, ⟨q1, q2, q3, q4, q5⟩, q6⟩ := ok
  simp [usesL, fldOK] at pa pb pc pf q1 q2 q3 q4
  subst pb pc pf q2 q3 q4
  have hl1 : l = (pre ++ [16]) ++ (encV a ++ post) := by rw [hl]; simp [fyB4, fyB, encs]
  have a1 : A + 1 = (pre ++ [16]).length := by simp [hA]
  have v1 := varS_at hl1 a1 ⟨ia.1, ia.2⟩
  obtain ⟨hl2, a2⟩ := enc_next hl1 a1
  refine frP_of (b0 := 16) (rest := encV a ++ post) (by rw [hl1]; simp) hA ?_ ok0
  unfold fldP
  simp [v1, fyB4, fyB, encs, encV_len, valP]
  try omega
theorem fyK_20 {a b c : Int} {fin : Bool} {D T : List Int} {rs : List Rg} {l pre post : List Int} {A : Nat} (ok : frOK 20 a b c fin D.length T.length rs) (hl : l = pre ++ (fyB4 20 a b c fin D T rs ++ post)) (hA : A = pre.length) :
    frP l A = (⟨20, a, b, c, fin, D, T, rs, true, A + (fyB4 20 a b c fin D T rs).length, false⟩, 0) := by
  have ok0 := ok
  obtain ⟨⟨_, ia, ib, ic, pa, pb, pc, pf⟩, ⟨q1, q2, q3, q4, q5⟩, q6⟩ := ok
  simp [usesL, fldOK] at pa pb pc pf q1 q2 q3 q4
  subst pb pc pf q2 q3 q4
  have hl1 : l = (pre ++ [20]) ++ (encV a ++ post) := by rw [hl]; simp [fyB4, fyB, encs]
  have a1 : A + 1 = (pre ++ [20]).length := by simp [hA]
  have v1 := varS_at hl1 a1 ⟨ia.1, ia.2⟩
  obtain ⟨hl2, a2⟩ := enc_next hl1 a1
  refine frP_of (b0 := 20) (rest := encV a ++ post) (by rw [hl1]; simp) hA ?_ ok0
  unfold fldP
  simp [v1, fyB4, fyB, encs, encV_len, valP]
  try omega
theorem fyK_25 {a b c : Int} {fin : Bool} {D T : List Int} {rs : List Rg} {l pre post : List Int} {A : Nat} (ok : frOK 25 a b c fin D.length T.length rs) (hl : l = pre ++ (fyB4 25 a b c fin D T rs ++ post)) (hA : A = pre.length) :
    frP l A = (⟨25, a, b, c, fin, D, T, rs, true, A + (fyB4 25 a b c fin D T rs).length, false⟩, 0) := by
  have ok0 := ok
  obtain ⟨⟨_, ia, ib, ic, pa, pb, pc, pf⟩, ⟨q1, q2, q3, q4, q5⟩, q6⟩ := ok
  simp [usesL, fldOK] at pa pb pc pf q1 q2 q3 q4
  subst pb pc pf q2 q3 q4
  have hl1 : l = (pre ++ [25]) ++ (encV a ++ post) := by rw [hl]; simp [fyB4, fyB, encs]
  have a1 : A + 1 = (pre ++ [25]).length := by simp [hA]
  have v1 := varS_at hl1 a1 ⟨ia.1, ia.2⟩
  obtain ⟨hl2, a2⟩ := enc_next hl1 a1
  refine frP_of (b0 := 25) (rest := encV a ++ post) (by rw [hl1]; simp) hA ?_ ok0
  unfold fldP
  simp [v1, fyB4, fyB, encs, encV_len, valP]
  try omega
theorem fyK_5 {a b c : Int} {fin : Bool} {D T : List Int} {rs : List Rg} {l pre post : List Int} {A : Nat} (ok : frOK 5 a b c fin D.length T.length rs) (hl : l = pre ++ (fyB4 5 a b c fin D T rs ++ post)) (hA : A = pre.length) :
    frP l A = (⟨5, a, b, c, fin, D, T, rs, true, A + (fyB4 5 a b c fin D T rs).length, false⟩, 0) := by
  have ok0 := ok
  obtain ⟨⟨_, ia, ib, ic, pa, pb, pc, pf⟩, ⟨q1, q2, q3, q4, q5⟩, q6⟩ := ok
  simp [usesL, fldOK] at pa pb pc pf q1 q2 q3 q4
  subst pc pf q2 q3 q4
  have hl1 : l = (pre ++ [5]) ++ (encV a ++ (encV b ++ post)) := by rw [hl]; simp [fyB4, fyB, encs]
  have a1 : A + 1 = (pre ++ [5]).length := by simp [hA]
  have v1 := varS_at hl1 a1 ⟨ia.1, ia.2⟩
  obtain ⟨hl2, a2⟩ := enc_next hl1 a1
  have v2 := varS_at hl2 a2 ⟨ib.1, ib.2⟩
  obtain ⟨hl3, a3⟩ := enc_next hl2 a2
  refine frP_of (b0 := 5) (rest := encV a ++ (encV b ++ post)) (by rw [hl1]; simp) hA ?_ ok0
  unfold fldP
  simp [v1, v2, fyB4, fyB, encs, encV_len, valP]
  try omega
theorem fyK_17 {a b c : Int} {fin : Bool} {D T : List Int} {rs : List Rg} {l pre post : List Int} {A : Nat} (ok : frOK 17 a b c fin D.length T.length rs) (hl : l = pre ++ (fyB4 17 a b c fin D T rs ++ post)) (hA : A = pre.length) :
    frP l A = (⟨17, a, b, c, fin, D, T, rs, true, A + (fyB4 17 a b c fin D T rs).length, false⟩, 0) := by
  have ok0 := ok
  obtain ⟨⟨_, ia, ib, ic, pa, pb, pc, pf⟩, ⟨q1, q2, q3, q4, q5⟩, q6⟩ := ok
  simp [usesL, fldOK] at pa pb pc pf q1 q2 q3 q4
  subst pc pf q2 q3 q4
  have hl1 : l = (pre ++ [17]) ++ (encV a ++ (encV b ++ post)) := by rw [hl]; simp [fyB4, fyB, encs]
  have a1 : A + 1 = (pre ++ [17]).length := by simp [hA]
  have v1 := varS_at hl1 a1 ⟨ia.1, ia.2⟩
  obtain ⟨hl2, a2⟩ := enc_next hl1 a1
  have v2 := varS_at hl2 a2 ⟨ib.1, ib.2⟩
  obtain ⟨hl3, a3⟩ := enc_next hl2 a2
  refine frP_of (b0 := 17) (rest := encV a ++ (encV b ++ post)) (by rw [hl1]; simp) hA ?_ ok0
  unfold fldP
  simp [v1, v2, fyB4, fyB, encs, encV_len, valP]
  try omega
theorem fyK_21 {a b c : Int} {fin : Bool} {D T : List Int} {rs : List Rg} {l pre post : List Int} {A : Nat} (ok : frOK 21 a b c fin D.length T.length rs) (hl : l = pre ++ (fyB4 21 a b c fin D T rs ++ post)) (hA : A = pre.length) :
    frP l A = (⟨21, a, b, c, fin, D, T, rs, true, A + (fyB4 21 a b c fin D T rs).length, false⟩, 0) := by
  have ok0 := ok
  obtain ⟨⟨_, ia, ib, ic, pa, pb, pc, pf⟩, ⟨q1, q2, q3, q4, q5⟩, q6⟩ := ok
  simp [usesL, fldOK] at pa pb pc pf q1 q2 q3 q4
  subst pc pf q2 q3 q4
  have hl1 : l = (pre ++ [21]) ++ (encV a ++ (encV b ++ post)) := by rw [hl]; simp [fyB4, fyB, encs]
  have a1 : A + 1 = (pre ++ [21]).length := by simp [hA]
  have v1 := varS_at hl1 a1 ⟨ia.1, ia.2⟩
  obtain ⟨hl2, a2⟩ := enc_next hl1 a1
  have v2 := varS_at hl2 a2 ⟨ib.1, ib.2⟩
  obtain ⟨hl3, a3⟩ := enc_next hl2 a2
  refine frP_of (b0 := 21) (rest := encV a ++ (encV b ++ post)) (by rw [hl1]; simp) hA ?_ ok0
  unfold fldP
  simp [v1, v2, fyB4, fyB, encs, encV_len, valP]
  try omega
theorem fyK_4 {a b c : Int} {fin : Bool} {D T : List Int} {rs : List Rg} {l pre post : List Int} {A : Nat} (ok : frOK 4 a b c fin D.length T.length rs) (hl : l = pre ++ (fyB4 4 a b c fin D T rs ++ post)) (hA : A = pre.length) :
    frP l A = (⟨4, a, b, c, fin, D, T, rs, true, A + (fyB4 4 a b c fin D T rs).length, false⟩, 0) := by
  have ok0 := ok
  obtain ⟨⟨_, ia, ib, ic, pa, pb, pc, pf⟩, ⟨q1, q2, q3, q4, q5⟩, q6⟩ := ok
  simp [usesL, fldOK] at pa pb pc pf q1 q2 q3 q4
  subst pf q2 q3 q4
  have hl1 : l = (pre ++ [4]) ++ (encV a ++ (encV b ++ (encV c ++ post))) := by rw [hl]; simp [fyB4, fyB, encs]
  have a1 : A + 1 = (pre ++ [4]).length := by simp [hA]
  have v1 := varS_at hl1 a1 ⟨ia.1, ia.2⟩
  obtain ⟨hl2, a2⟩ := enc_next hl1 a1
  have v2 := varS_at hl2 a2 ⟨ib.1, ib.2⟩
  obtain ⟨hl3, a3⟩ := enc_next hl2 a2
  have v3 := varS_at hl3 a3 ⟨ic.1, ic.2⟩
  obtain ⟨hl4, a4⟩ := enc_next hl3 a3
  refine frP_of (b0 := 4) (rest := encV a ++ (encV b ++ (encV c ++ post))) (by rw [hl1]; simp) hA ?_ ok0
  unfold fldP
  simp [v1, v2, v3, fyB4, fyB, encs, encV_len, valP]
  try omega
theorem fyK_6 {a b c : Int} {fin : Bool} {D T : List Int} {rs : List Rg} {l pre post : List Int} {A : Nat} (ok : frOK 6 a b c fin D.length T.length rs) (hl : l = pre ++ (fyB4 6 a b c fin D T rs ++ post)) (hA : A = pre.length) :
    frP l A = (⟨6, a, b, c, fin, D, T, rs, true, A + (fyB4 6 a b c fin D T rs).length, false⟩, 0) := by
  have ok0 := ok
  obtain ⟨⟨_, ia, ib, ic, pa, pb, pc, pf⟩, ⟨q1, q2, q3, q4, q5⟩, q6⟩ := ok
  simp [usesL, fldOK] at pa pb pc pf q1 q2 q3 q4
  subst pb pc pf q3 q4
  have hl1 : l = (pre ++ [6]) ++ (encV a ++ (encV (D.length : Int) ++ (D ++ post))) := by rw [hl]; simp [fyB4, fyB, encs]
  have a1 : A + 1 = (pre ++ [6]).length := by simp [hA]
  have v1 := varS_at hl1 a1 ⟨ia.1, ia.2⟩
  obtain ⟨hl2, a2⟩ := enc_next hl1 a1
  have v2 := counted_at hl2 a2 (by omega)
  refine frP_of (b0 := 6) (rest := encV a ++ (encV (D.length : Int) ++ (D ++ post))) (by rw [hl1]; simp) hA ?_ ok0
  unfold fldP
  simp [v1, v2, fyB4, fyB, encs, encV_len, valP]
  try omega
theorem fyK_29 {a b c : Int} {fin : Bool} {D T : List Int} {rs : List Rg} {l pre post : List Int} {A : Nat} (ok : frOK 29 a b c fin D.length T.length rs) (hl : l = pre ++ (fyB4 29 a b c fin D T rs ++ post)) (hA : A = pre.length) :
    frP l A = (⟨29, a, b, c, fin, D, T, rs, true, A + (fyB4 29 a b c fin D T rs).length, false⟩, 0) := by
  have ok0 := ok
  obtain ⟨⟨_, ia, ib, ic, pa, pb, pc, pf⟩, ⟨q1, q2, q3, q4, q5⟩, q6⟩ := ok
  simp [usesL, fldOK] at pa pb pc pf q1 q2 q3 q4
  subst pb pc pf q3 q4
  have hl1 : l = (pre ++ [29]) ++ (encV a ++ (encV (D.length : Int) ++ (D ++ post))) := by rw [hl]; simp [fyB4, fyB, encs]
  have a1 : A + 1 = (pre ++ [29]).length := by simp [hA]
  have v1 := varS_at hl1 a1 ⟨ia.1, ia.2⟩
  obtain ⟨hl2, a2⟩ := enc_next hl1 a1
  have v2 := counted_at hl2 a2 (by omega)
  refine frP_of (b0 := 29) (rest := encV a ++ (encV (D.length : Int) ++ (D ++ post))) (by rw [hl1]; simp) hA ?_ ok0
  unfold fldP
  simp [v1, v2, fyB4, fyB, encs, encV_len, valP]
  try omega
theorem fyK_7 {a b c : Int} {fin : Bool} {D T : List Int} {rs : List Rg} {l pre post : List Int} {A : Nat} (ok : frOK 7 a b c fin D.length T.length rs) (hl : l = pre ++ (fyB4 7 a b c fin D T rs ++ post)) (hA : A = pre.length) :
    frP l A = (⟨7, a, b, c, fin, D, T, rs, true, A + (fyB4 7 a b c fin D T rs).length, false⟩, 0) := by
  have ok0 := ok
  obtain ⟨⟨_, ia, ib, ic, pa, pb, pc, pf⟩, ⟨q1, q2, q3, q4, q5⟩, q6⟩ := ok
  simp [usesL, fldOK] at pa pb pc pf q1 q2 q3 q4
  subst pa pb pc pf q3 q4
  have hl1 : l = (pre ++ [7]) ++ (encV (D.length : Int) ++ (D ++ post)) := by rw [hl]; simp [fyB4, fyB, encs]
  have a1 : A + 1 = (pre ++ [7]).length := by simp [hA]
  have v1 := counted_at hl1 a1 (by omega)
  refine frP_of (b0 := 7) (rest := encV (D.length : Int) ++ (D ++ post)) (by rw [hl1]; simp) hA ?_ ok0
  unfold fldP
  simp [v1, fyB4, fyB, encs, encV_len, valP]
  try omega
theorem fyK_48 {a b c : Int} {fin : Bool} {D T : List Int} {rs : List Rg} {l pre post : List Int} {A : Nat} (ok : frOK 48 a b c fin D.length T.length rs) (hl : l = pre ++ (fyB4 48 a b c fin D T rs ++ post)) (hA : A = pre.length) :
    frP l A = (⟨48, a, b, c, fin, D, T, rs, true, A + (fyB4 48 a b c fin D T rs).length, false⟩, 0) := by
  have ok0 := ok
  obtain ⟨⟨_, ia, ib, ic, pa, pb, pc, pf⟩, ⟨q1, q2, q3, q4, q5⟩, q6⟩ := ok
  simp [usesL, fldOK] at pa pb pc pf q1 q2 q3 q4
  subst pa pb pc pf q3 q4
  have hl1 : l = (pre ++ [49]) ++ (encV (D.length : Int) ++ (D ++ post)) := by rw [hl]; simp [fyB4, fyB, encs]
  have a1 : A + 1 = (pre ++ [49]).length := by simp [hA]
  have v1 := counted_at hl1 a1 (by omega)
  refine frP_of (b0 := 49) (rest := encV (D.length : Int) ++ (D ++ post)) (by rw [hl1]; simp) hA ?_ ok0
  unfold fldP
  simp [v1, fyB4, fyB, encs, encV_len, valP]
  try omega
theorem fyK_28 {a b c : Int} {fin : Bool} {D T : List Int} {rs : List Rg} {l pre post : List Int} {A : Nat} (ok : frOK 28 a b c fin D.length T.length rs) (hl : l = pre ++ (fyB4 28 a b c fin D T rs ++ post)) (hA : A = pre.length) :
    frP l A = (⟨28, a, b, c, fin, D, T, rs, true, A + (fyB4 28 a b c fin D T rs).length, false⟩, 0) := by
  have ok0 := ok
  obtain ⟨⟨_, ia, ib, ic, pa, pb, pc, pf⟩, ⟨q1, q2, q3, q4, q5⟩, q6⟩ := ok
  simp [usesL, fldOK] at pa pb pc pf q1 q2 q3 q4
  subst pc pf q3 q4
  have hl1 : l = (pre ++ [28]) ++ (encV a ++ (encV b ++ (encV (D.length : Int) ++ (D ++ post)))) := by rw [hl]; simp [fyB4, fyB, encs]
  have a1 : A + 1 = (pre ++ [28]).length := by simp [hA]
  have v1 := varS_at hl1 a1 ⟨ia.1, ia.2⟩
  obtain ⟨hl2, a2⟩ := enc_next hl1 a1
  have v2 := varS_at hl2 a2 ⟨ib.1, ib.2⟩
  obtain ⟨hl3, a3⟩ := enc_next hl2 a2
  have v3 := counted_at hl3 a3 (by omega)
  refine frP_of (b0 := 28) (rest := encV a ++ (encV b ++ (encV (D.length : Int) ++ (D ++ post)))) (by rw [hl1]; simp) hA ?_ ok0
  unfold fldP
  simp [v1, v2, v3, fyB4, fyB, encs, encV_len, valP]
  try omega
theorem fyK_26 {a b c : Int} {fin : Bool} {D T : List Int} {rs : List Rg} {l pre post : List Int} {A : Nat} (ok : frOK 26 a b c fin D.length T.length rs) (hl : l = pre ++ (fyB4 26 a b c fin D T rs ++ post)) (hA : A = pre.length) :
    frP l A = (⟨26, a, b, c, fin, D, T, rs, true, A + (fyB4 26 a b c fin D T rs).length, false⟩, 0) := by
  have ok0 := ok
  obtain ⟨⟨_, ia, ib, ic, pa, pb, pc, pf⟩, ⟨q1, q2, q3, q4, q5⟩, q6⟩ := ok
  simp [usesL, fldOK] at pa pb pc pf q1 q2 q3 q4
  subst pa pb pc pf q3 q4
  have hl1 : l = (pre ++ [26]) ++ (D ++ post) := by rw [hl]; simp [fyB4, fyB, encs]
  have a1 : A + 1 = (pre ++ [26]).length := by simp [hA]
  have v1 := take_at hl1 a1 (D := D) (n := 8) (by omega)
  refine frP_of (b0 := 26) (rest := D ++ post) (by rw [hl1]; simp) hA ?_ ok0
  unfold fldP
  simp [v1, fyB4, fyB, encs, encV_len, valP]
  try omega
theorem fyK_27 {a b c : Int} {fin : Bool} {D T : List Int} {rs : List Rg} {l pre post : List Int} {A : Nat} (ok : frOK 27 a b c fin D.length T.length rs) (hl : l = pre ++ (fyB4 27 a b c fin D T rs ++ post)) (hA : A = pre.length) :
    frP l A = (⟨27, a, b, c, fin, D, T, rs, true, A + (fyB4 27 a b c fin D T rs).length, false⟩, 0) := by
  have ok0 := ok
  obtain ⟨⟨_, ia, ib, ic, pa, pb, pc, pf⟩, ⟨q1, q2, q3, q4, q5⟩, q6⟩ := ok
  simp [usesL, fldOK] at pa pb pc pf q1 q2 q3 q4
  subst pa pb pc pf q3 q4
  have hl1 : l = (pre ++ [27]) ++ (D ++ post) := by rw [hl]; simp [fyB4, fyB, encs]
  have a1 : A + 1 = (pre ++ [27]).length := by simp [hA]
  have v1 := take_at hl1 a1 (D := D) (n := 8) (by omega)
  refine frP_of (b0 := 27) (rest := D ++ post) (by rw [hl1]; simp) hA ?_ ok0
  unfold fldP
  simp [v1, fyB4, fyB, encs, encV_len, valP]
  try omega
end Go.Ev

/- A frame's bytes read again, plain: the other kinds, whole. -/
namespace Go.Ev
open Go Go.Proofs
set_option linter.unusedSimpArgs false
set_option linter.unusedVariables false

theorem fyK_18 {k a b c : Int} (hk : k = 18 ∨ k = 22) {fin : Bool} {D T : List Int} {rs : List Rg} {l pre post : List Int} {A : Nat} (ok : frOK k a b c fin D.length T.length rs) (hl : l = pre ++ (fyB4 k a b c fin D T rs ++ post)) (hA : A = pre.length) :
    frP l A = (⟨k, a, b, c, fin, D, T, rs, true, A + (fyB4 k a b c fin D T rs).length, false⟩, 0) := by
  have ok0 := ok
  obtain ⟨⟨_, ia, ib, ic, pa, pb, pc, pf⟩, ⟨q1, q2, q3, q4, q5⟩, q6⟩ := ok
  have hb : b = 0 ∨ b = 1 := by
    have : b ≤ 1 := by rcases hk with rfl | rfl <;> simp [frX] at q6 <;> exact q6.2
    have := ib.1
    omega
  have fin_ : ∀ (b0 : Int), b0 = k + b → c = 0 → fin = false → D = [] → T = [] → rs = [] → fldP l (A + 1) b0 = ⟨k, a, b, c, fin, D, T, rs, true, A + (fyB4 k a b c fin D T rs).length, false⟩ := by
    rintro b0 rfl rfl rfl rfl rfl rfl
    have hl1 : l = (pre ++ [k + b]) ++ (encV a ++ post) := by rw [hl]; rcases hk with rfl | rfl <;> simp [fyB4, fyB]
    have a1 : A + 1 = (pre ++ [k + b]).length := by simp [hA]
    have v1 := varS_at hl1 a1 ⟨ia.1, ia.2⟩
    unfold fldP
    rcases hk with rfl | rfl <;> rcases hb with rfl | rfl <;> simp [v1, fyB4, fyB, encV_len, valP] <;> omega
  have hu : c = 0 ∧ fin = false ∧ D = [] ∧ T = [] ∧ rs = [] := by
    rcases hk with rfl | rfl <;> simp [usesL, fldOK] at pa pb pc pf q1 q2 q3 q4 <;> exact ⟨pc, pf, q2, q3, q4⟩
  refine frP_of (b0 := k + b) (rest := encV a ++ post) (by rw [hl]; rcases hk with rfl | rfl <;> simp [fyB4, fyB]) hA (fin_ _ rfl hu.1 hu.2.1 hu.2.2.1 hu.2.2.2.1 hu.2.2.2.2) ok0
theorem fyK_0 {a b c : Int} {fin : Bool} {D T : List Int} {rs : List Rg} {l pre post : List Int} {A : Nat} (ok : frOK 0 a b c fin D.length T.length rs) (hl : l = pre ++ (fyB4 0 a b c fin D T rs ++ post)) (hA : A = pre.length) (hp : post.head? ≠ some 0) :
    frP l A = (⟨0, a, b, c, fin, D, T, rs, true, A + (fyB4 0 a b c fin D T rs).length, false⟩, 0) := by
  have ok0 := ok
  obtain ⟨⟨_, ia, ib, ic, pa, pb, pc, pf⟩, ⟨q1, q2, q3, q4, q5⟩, q6⟩ := ok
  simp [usesL, fldOK] at pa pb pc pf q1 q2 q3 q4
  simp [frX] at q6
  subst pb pc pf q2 q3 q4
  obtain ⟨n, rfl⟩ : ∃ n : Nat, a = (n + 1 : Nat) := ⟨a.toNat - 1, by omega⟩
  have e : fyB4 0 ((n + 1 : Nat) : Int) 0 0 false [] [] [] = 0 :: List.replicate n 0 := by simp only [fyB4, fyB]; simp [List.replicate_succ]
  rw [e] at hl ⊢
  have hl1 : l = (pre ++ [0]) ++ (List.replicate n 0 ++ post) := by rw [hl]; simp
  have v1 := padN_at n 1499 hl1 (a := A + 1) (by simp [hA]) (by omega) (.inl hp)
  refine frP_of (b0 := 0) (rest := List.replicate n 0 ++ post) (by rw [hl]; simp) hA ?_ ok0
  unfold fldP
  simp [v1]
  omega
theorem fyK_2 {a b c : Int} {fin : Bool} {D T : List Int} {rs : List Rg} {l pre post : List Int} {A : Nat} (ok : frOK 2 a b c fin D.length T.length rs) (hl : l = pre ++ (fyB4 2 a b c fin D T rs ++ post)) (hA : A = pre.length) :
    frP l A = (⟨2, a, b, c, fin, D, T, rs, true, A + (fyB4 2 a b c fin D T rs).length, false⟩, 0) := by
  have ok0 := ok
  obtain ⟨⟨_, ia, ib, ic, pa, pb, pc, pf⟩, ⟨q1, q2, q3, q4, q5⟩, q6⟩ := ok
  simp [usesL, fldOK] at pa pb pc pf q1 q2 q3 q4
  subst pb pc pf q2 q3
  have e : fyB4 2 a 0 0 false [] [] rs = ackB (rs[rs.length - 1]'(by omega)) a (rs.take (rs.length - 1)).reverse := by
    simp only [fyB4, fyB]
    rw [if_neg (by decide), if_neg (by decide), if_pos trivial]
    congr 1
    simp [List.getD_eq_getElem?_getD, show rs.length - 1 < rs.length by omega]
  rw [e] at hl ⊢
  have v1 := ack_at q5 (rs.length - 1) (by omega) ia hl hA
  refine frP_of (b0 := 2) (rest := (ackB (rs[rs.length - 1]'(by omega)) a (rs.take (rs.length - 1)).reverse).tail ++ post) (by rw [hl]; simp [ackB]) hA ?_ ok0
  unfold fldP
  simp [v1]
theorem fyK_8 {a b c : Int} {fin : Bool} {D T : List Int} {rs : List Rg} {l pre post : List Int} {A : Nat} (ok : frOK 8 a b c fin D.length T.length rs) (hl : l = pre ++ (fyB4 8 a b c fin D T rs ++ post)) (hA : A = pre.length) :
    frP l A = (⟨8, a, b, c, fin, D, T, rs, true, A + (fyB4 8 a b c fin D T rs).length, false⟩, 0) := by
  have ok0 := ok
  obtain ⟨⟨_, ia, ib, ic, pa, pb, pc, pf⟩, ⟨q1, q2, q3, q4, q5⟩, q6⟩ := ok
  simp [usesL, fldOK] at pa pb pc pf q1 q2 q3 q4
  subst pc q3 q4
  by_cases c0 : b = 0
  · subst c0
    have hl1 : l = (pre ++ [stB 0 fin]) ++ (encV a ++ (encV (D.length : Int) ++ (D ++ post))) := by rw [hl]; simp [fyB4, fyB]
    have a1 : A + 1 = (pre ++ [stB 0 fin]).length := by simp [hA]
    have v1 := varS_at hl1 a1 ⟨ia.1, ia.2⟩
    obtain ⟨hl2, a2⟩ := enc_next hl1 a1
    have v2 := counted_at hl2 a2 (by omega)
    refine frP_of (b0 := stB 0 fin) (rest := encV a ++ (encV (D.length : Int) ++ (D ++ post))) (by rw [hl1]; simp) hA ?_ ok0
    unfold fldP
    cases fin <;> simp [stB, streamS, offS, dataS, v1, v2, fyB4, fyB, encV_len, valP] <;> omega
  · have hl1 : l = (pre ++ [stB b fin]) ++ (encV a ++ (encV b ++ (encV (D.length : Int) ++ (D ++ post)))) := by rw [hl]; simp [fyB4, fyB, c0]
    have a1 : A + 1 = (pre ++ [stB b fin]).length := by simp [hA]
    have v1 := varS_at hl1 a1 ⟨ia.1, ia.2⟩
    obtain ⟨hl2, a2⟩ := enc_next hl1 a1
    have v2 := varS_at hl2 a2 ⟨ib.1, ib.2⟩
    obtain ⟨hl3, a3⟩ := enc_next hl2 a2
    have v3 := counted_at hl3 a3 (by omega)
    refine frP_of (b0 := stB b fin) (rest := encV a ++ (encV b ++ (encV (D.length : Int) ++ (D ++ post)))) (by rw [hl1]; simp) hA ?_ ok0
    unfold fldP
    cases fin <;> simp [stB, c0, streamS, offS, dataS, v1, v2, v3, fyB4, fyB, encV_len, valP] <;> omega
theorem fyK_24 {a b c : Int} {fin : Bool} {D T : List Int} {rs : List Rg} {l pre post : List Int} {A : Nat} (ok : frOK 24 a b c fin D.length T.length rs) (hl : l = pre ++ (fyB4 24 a b c fin D T rs ++ post)) (hA : A = pre.length) :
    frP l A = (⟨24, a, b, c, fin, D, T, rs, true, A + (fyB4 24 a b c fin D T rs).length, false⟩, 0) := by
  have ok0 := ok
  obtain ⟨⟨_, ia, ib, ic, pa, pb, pc, pf⟩, ⟨q1, q2, q3, q4, q5⟩, q6⟩ := ok
  simp [usesL, fldOK] at pa pb pc pf q1 q2 q3 q4
  subst pc pf q4
  have hl1 : l = (pre ++ [24]) ++ (encV a ++ (encV b ++ ([(D.length : Int)] ++ (D ++ (T ++ post))))) := by rw [hl]; simp [fyB4, fyB, encs]
  have a1 : A + 1 = (pre ++ [24]).length := by simp [hA]
  have v1 := varS_at hl1 a1 ⟨ia.1, ia.2⟩
  obtain ⟨hl2, a2⟩ := enc_next hl1 a1
  have v2 := varS_at hl2 a2 ⟨ib.1, ib.2⟩
  obtain ⟨hl3, a3⟩ := enc_next hl2 a2
  have v3 := take_at hl3 a3 (n := 1) (by simp)
  have hl4 : l = (((pre ++ [24]) ++ encV a) ++ encV b ++ [(D.length : Int)]) ++ (D ++ (T ++ post)) := by rw [hl3]; simp
  have a4 : A + 1 + vL a + vL b + [(D.length : Int)].length = (((pre ++ [24]) ++ encV a) ++ encV b ++ [(D.length : Int)]).length := by simp at a3 ⊢; omega
  have v4 := take_at hl4 a4 (n := (D.length : Int)) rfl
  have hl5 : l = ((((pre ++ [24]) ++ encV a) ++ encV b ++ [(D.length : Int)]) ++ D) ++ (T ++ post) := by rw [hl4]; simp
  have a5 : A + 1 + vL a + vL b + [(D.length : Int)].length + D.length = ((((pre ++ [24]) ++ encV a) ++ encV b ++ [(D.length : Int)]) ++ D).length := by simp at a4 ⊢; omega
  have v5 := take_at hl5 a5 (n := 8) (by omega)
  have hv : valP [(D.length : Int)] = D.length := by simp [valP]
  refine frP_of (b0 := 24) (rest := encV a ++ (encV b ++ ([(D.length : Int)] ++ (D ++ (T ++ post))))) (by rw [hl1]; simp) hA ?_ ok0
  unfold fldP
  simp only [v1, v2, v3, hv, v4, v5]
  simp [fyB4, fyB, encs, encV_len]
  omega
/-- a frame's bytes are read back -/
theorem fy_read {k a b c : Int} {fin : Bool} {D T : List Int} {rs : List Rg} {l pre post : List Int} {A : Nat} (ok : frOK k a b c fin D.length T.length rs) (hl : l = pre ++ (fyB4 k a b c fin D T rs ++ post)) (hA : A = pre.length) (hp : k = 0 → post.head? ≠ some 0) :
    frP l A = (⟨k, a, b, c, fin, D, T, rs, true, A + (fyB4 k a b c fin D T rs).length, false⟩, 0) := by
  have hk : kindIn k := by
    apply Classical.byContradiction
    intro hk
    have := ok.1.1
    rw [uses_not hk] at this
    simp at this
  rcases hk with rfl | rfl | rfl | rfl | rfl | rfl | rfl | rfl | rfl | rfl | rfl | rfl | rfl | rfl | rfl | rfl | rfl | rfl | rfl | rfl | rfl | rfl
  · exact fyK_0 ok hl hA (hp rfl)
  · exact fyK_1 ok hl hA
  · exact fyK_2 ok hl hA
  · exact fyK_4 ok hl hA
  · exact fyK_5 ok hl hA
  · exact fyK_6 ok hl hA
  · exact fyK_7 ok hl hA
  · exact fyK_8 ok hl hA
  · exact fyK_16 ok hl hA
  · exact fyK_17 ok hl hA
  · exact fyK_18 (.inl rfl) ok hl hA
  · exact fyK_20 ok hl hA
  · exact fyK_21 ok hl hA
  · exact fyK_18 (.inr rfl) ok hl hA
  · exact fyK_24 ok hl hA
  · exact fyK_25 ok hl hA
  · exact fyK_26 ok hl hA
  · exact fyK_27 ok hl hA
  · exact fyK_28 ok hl hA
  · exact fyK_29 ok hl hA
  · exact fyK_30 ok hl hA
  · exact fyK_48 ok hl hA
end Go.Ev

/- A frame's bytes by the program, whole. -/
namespace Go.Ev
open Go Go.Proofs
set_option linter.unusedSimpArgs false
set_option linter.unusedVariables false

theorem frOK_kindI {k a b c : Int} {fin : Bool} {dl tl : Nat} {rs : List (Int × Int)} (h : frOK k a b c fin dl tl rs) : kindIn k := by
  apply Classical.byContradiction
  intro hk
  have := h.1.1
  rw [uses_not hk] at this
  simp at this
set_option maxRecDepth 20000 in
theorem zr_all {Z C0 : AH} {p : Nat} {k a b c : Int} {fin : Bool} {d t r v0 : AV} {D T : List Int} {rs : List Rg} {bR : List Nat} (B : ZrB Z C0 p k a b c fin d t r v0 D T rs bR) (ok : frOK k a b c fin D.length T.length rs) (m : Nat) (hm : 320 ≤ m) (τ : Tm) (S : ZrT τ p v0 k) :
    ∃ e τ' H' v, evAt Try.prog (ev Try.prog m) m 133 58 τ C0 = some (e, τ', H') ∧ (e = .normal ∧ τ' 3 = v ∨ e = .ret ∧ τ' 2 = v) ∧ BE Z H' v (fyB4 k a b c fin D T rs) := by
  have hk := frOK_kindI ok
  have hX := ok.2.2
  have fin_ : ∀ {pl : Nat} {τ1 : Tm} {l : List Int}, evAt Try.prog (ev Try.prog m) m 133 58 τ C0 = evAt Try.prog (ev Try.prog m) m 133 pl τ1 C0 → ZrR Z m pl τ1 C0 l → l = fyB4 k a b c fin D T rs → ∃ e τ' H' v, evAt Try.prog (ev Try.prog m) m 133 58 τ C0 = some (e, τ', H') ∧ (e = .normal ∧ τ' 3 = v ∨ e = .ret ∧ τ' 2 = v) ∧ BE Z H' v (fyB4 k a b c fin D T rs) := by
    rintro pl τ1 l e ⟨τ', H', e', B'⟩ hl
    rw [hl] at B'
    exact ⟨.normal, τ', H', _, e.trans e', .inl ⟨rfl, rfl⟩, B'⟩
  by_cases k0 : k = 0
  · subst k0
    obtain ⟨τ', H', e, B'⟩ := zrK_0 B (by simpa [frX] using hX) m hm τ S
    exact ⟨.ret, τ', H', _, e, .inr ⟨rfl, rfl⟩, by simpa [fyB4, fyB] using B'⟩
  obtain ⟨s1, q1, S⟩ := zrS_58 k k0 m τ C0 S
  by_cases k2 : k = 2
  · subst k2
    have hr := ok.2.1.2.2.2.1
    have hp : 0 < rs.length := by simpa [usesL] using hr
    have hb0 : b = 0 := by have := ok.1.2.2.2.2.2.1; simpa [usesL, fldOK] using this
    have hc0 : c = 0 := by have := ok.1.2.2.2.2.2.2.1; simpa [usesL, fldOK] using this
    have hf0 : fin = false := by have := ok.1.2.2.2.2.2.2.2; simpa [usesL, fldOK] using this
    subst hb0 hc0 hf0
    refine fin_ q1 (zrK_2 B ok.2.1.2.2.2.2 (rs.length - 1) (by omega) m hm s1 S) ?_
    simp only [fyB4, fyB]
    rw [if_neg (by decide), if_neg (by decide), if_pos trivial]
    congr 1
    simp [List.getD_eq_getElem?_getD, show rs.length - 1 < rs.length by omega]
  obtain ⟨s2, q2, S⟩ := zrS_235 k k2 m s1 C0 S
  replace q2 := q1.trans q2
  by_cases k4 : k = 4
  · subst k4; exact fin_ q2 (zrK_4 B m hm _ S) (by simp [fyB4])
  obtain ⟨s3, q3, S⟩ := zrS_943 k k4 m _ C0 S
  replace q3 := q2.trans q3
  by_cases k5 : k = 5
  · subst k5; exact fin_ q3 (zrK_5 B m hm _ S) (by simp [fyB4, fyB])
  by_cases k17 : k = 17
  · subst k17; exact fin_ q3 (zrK_17 B m hm _ S) (by simp [fyB4, fyB])
  by_cases k21 : k = 21
  · subst k21; exact fin_ q3 (zrK_21 B m hm _ S) (by simp [fyB4, fyB])
  obtain ⟨s4, q4, S⟩ := zrS_3775 k k5 k17 k21 m _ C0 S
  replace q4 := q3.trans q4
  by_cases k6 : k = 6
  · subst k6; exact fin_ q4 (zrK_6 B m hm _ S) (by simp [fyB4, fyB])
  obtain ⟨s5, q5, S⟩ := zrS_15103 k k6 m _ C0 S
  replace q5 := q4.trans q5
  by_cases k7 : k = 7
  · subst k7; exact fin_ q5 (zrK_7 B m hm _ S) (by simp [fyB4, fyB])
  obtain ⟨s6, q6, S⟩ := zrS_60415 k k7 m _ C0 S
  replace q6 := q5.trans q6
  by_cases k8 : k = 8
  · subst k8; exact fin_ q6 (zrK_8 B m hm _ S) (by simp [fyB4, fyB])
  obtain ⟨s7, q7, S⟩ := zrS_241663 k k8 m _ C0 S
  replace q7 := q6.trans q7
  by_cases k18 : k = 18
  · subst k18; exact fin_ q7 (zrK_18 18 (.inl rfl) B (by simpa [frX] using hX) m hm _ S) (by simp [fyB4, fyB])
  by_cases k22 : k = 22
  · subst k22; exact fin_ q7 (zrK_18 22 (.inr rfl) B (by simpa [frX] using hX) m hm _ S) (by simp [fyB4, fyB])
  obtain ⟨s8, q8, S⟩ := zrS_966655 k k18 k22 m _ C0 S
  replace q8 := q7.trans q8
  by_cases k16 : k = 16
  · subst k16; exact fin_ q8 (zrK_16 B m hm _ S) (by simp [fyB4, fyB])
  by_cases k20 : k = 20
  · subst k20; exact fin_ q8 (zrK_20 B m hm _ S) (by simp [fyB4, fyB])
  by_cases k25 : k = 25
  · subst k25; exact fin_ q8 (zrK_25 B m hm _ S) (by simp [fyB4, fyB])
  obtain ⟨s9, q9, S⟩ := zrS_3866623 k k16 k20 k25 m _ C0 S
  replace q9 := q8.trans q9
  by_cases k24 : k = 24
  · subst k24
    have hD8 : D.length ≤ 8 := by have := ok.2.1.2.1; simp [usesL] at this; omega
    exact fin_ q9 (zrK_24 B hD8 m hm _ S) (by simp [fyB4, fyB])
  obtain ⟨sa, qa, S⟩ := zrS_15466495 k k24 m _ C0 S
  replace qa := q9.trans qa
  by_cases k26 : k = 26
  · subst k26; exact fin_ qa (zrK_26 B m hm _ S) (by simp [fyB4, fyB])
  by_cases k27 : k = 27
  · subst k27; exact fin_ qa (zrK_27 B m hm _ S) (by simp [fyB4, fyB])
  obtain ⟨sb, qb, S⟩ := zrS_61865983 k k26 k27 m _ C0 S
  replace qb := qa.trans qb
  by_cases k28 : k = 28
  · subst k28; exact fin_ qb (zrK_28 B m hm _ S) (by simp [fyB4, fyB])
  obtain ⟨sc, qc, S⟩ := zrS_247463935 k k28 m _ C0 S
  replace qc := qb.trans qc
  by_cases k29 : k = 29
  · subst k29; exact fin_ qc (zrK_29 B m hm _ S) (by simp [fyB4, fyB])
  obtain ⟨sd, qd, S⟩ := zrS_989855743 k k29 m _ C0 S
  replace qd := qc.trans qd
  have : k = 1 ∨ k = 30 ∨ k = 48 := by unfold kindIn at hk; omega
  rcases this with rfl | rfl | rfl
  · exact fin_ qd (zrK_1 B m hm _ S) (by simp [fyB4, fyB])
  · exact fin_ qd (zrK_30 B m hm _ S) (by simp [fyB4, fyB])
  · exact fin_ qd (zrK_48 B m hm _ S) (by simp [fyB4, fyB])
set_option maxRecDepth 20000 in
theorem frameBytes_ev {Hb H : AH} {k a b c : Int} {fin : Bool} {d t r : AV} {D T : List Int} {rs : List Rg} {bR : List Nat} (hd : Bs Hb d D) (ht : Bs Hb t T) (hr : (Ty.sl 94 tT94).R true Hb [r] rs bR) (hK : Kp Hb H) (lD : D.length ≤ 1600) (lT : T.length ≤ 20) (ok : frOK k a b c fin D.length T.length rs) (m : Nat) (hm : 330 ≤ m) :
    ∃ v' H', ev Try.prog m 133 [.agg (frC k a b c fin d t r)] H = some (v', H') ∧ BE H H' v' (fyB4 k a b c fin D T rs) := by
  obtain ⟨m, rfl⟩ : ∃ k, m = k + 1 := ⟨m - 1, by omega⟩
  obtain ⟨Z, hZ⟩ : ∃ Z : AH, Z = H.push (.cells 72 false (frC k a b c fin d t r)) := ⟨_, rfl⟩
  have kZ : Kp H Z := by rw [hZ]; exact (Kp.refl H).push _
  have nZ : Z.next = H.next + 1 := by rw [hZ]; simp
  have gZ : Z.get H.next = some (.cells 72 false (frC k a b c fin d t r)) := by rw [hZ]; simp
  obtain ⟨f0, _, _, _, _, _, _, _, f8⟩ := ld72 gZ
  have hZ' := hZ.symm
  have od := hd.one; have ot := ht.one; have or_ := hr.sl_one
  have hk := frOK_kindI ok
  have hkb : 0 ≤ k ∧ k ≤ 48 := by unfold kindIn at hk; omega
  have w2 : IntKind.u8.wrap k = k := by rw [IntKind.wrap_u8]; omega
  have cx : ∀ h', convA Try.prog 3 5 (.int .i64 k) h' = some (.int .u8 k, h') := fun h' => (conv_int (ds := .int .i64) (k := .u8) (by simp) (by simp)).trans (by rw [w2])
  obtain ⟨C0, hC⟩ : ∃ C : AH, C = Z.push (.cells 5 false [.int .u8 k]) := ⟨_, rfl⟩
  have B0 : BE Z C0 (.slice Z.next 0 1) [k] := by rw [hC]; exact BE.new (Kp.refl Z) k
  have hC' := hC.symm
  obtain ⟨r0, _⟩ := ld72 ((B0.kp.get H.next (by omega)).trans gZ)
  have KH1 := hK.trans kZ
  have key : ∀ τ : Tm, ZrT τ H.next (.slice Z.next 0 1) k → _ := fun τ S => zr_all (Z := Z) (C0 := C0) ⟨gZ, by omega, hd.kp KH1, ht.kp KH1, hr.kp KH1, lD, lT, ok.1.2.1, ok.1.2.2.1, ok.1.2.2.2.1, B0⟩ ok m (by omega) τ S
  simp only [frC] at hZ' ⊢
  rw [ev_M Try.func133 ok133 [58] m _ H (by simp [Try.f133])]
  simp [Try.f133, U, tm0, hZ', od, ot, or_, f0, cx, hC', r0, zerosA, fillA, spl]
  generalize hτ : upd _ 13 _ = τ1
  obtain ⟨e, τ', H', v, q, hq, b, BO', hb', K'⟩ := key τ1 ⟨by rw [← hτ]; simp, by rw [← hτ]; simp, by rw [← hτ]; simp⟩
  rw [q]
  rcases hq with ⟨rfl, h3⟩ | ⟨rfl, h2⟩
  · exact ⟨v, H', by simp [Try.f133, U, h3], b, BO', by omega, kZ.trans K'⟩
  · exact ⟨v, H', by simp [Try.f133, U, h2], b, BO', by omega, kZ.trans K'⟩
set_option maxRecDepth 20000 in
theorem FrameBytesI_ev {Hb H : AH} {k a b c : Int} {fin : Bool} {d t r : AV} {D T : List Int} {rs : List Rg} {bR : List Nat} (hd : Bs Hb d D) (ht : Bs Hb t T) (hr : (Ty.sl 94 tT94).R true Hb [r] rs bR) (hK : Kp Hb H) (lD : D.length ≤ 1600) (lT : T.length ≤ 20) (lR : rs.length ≤ 66) (m : Nat) (hm : 340 ≤ m) :
    ∃ v' H', ev Try.prog m 48 [.agg (frC k a b c fin d t r)] H = some (.tuple [v', .int .i64 (if frOK k a b c fin D.length T.length rs then 0 else 1)], H') ∧ Kp H H' ∧ (frOK k a b c fin D.length T.length rs → BE H H' v' (fyB4 k a b c fin D T rs)) := by
  obtain ⟨m, rfl⟩ : ∃ k, m = k + 1 := ⟨m - 1, by omega⟩
  obtain ⟨Z, hZ⟩ : ∃ Z : AH, Z = H.push (.cells 72 false (frC k a b c fin d t r)) := ⟨_, rfl⟩
  have kZ : Kp H Z := by rw [hZ]; exact (Kp.refl H).push _
  have nZ : Z.next = H.next + 1 := by rw [hZ]; simp
  have gZ : Z.get H.next = some (.cells 72 false (frC k a b c fin d t r)) := by rw [hZ]; simp
  obtain ⟨H1, e1, K1⟩ := FrameOKI_ev (k := k) (a := a) (b := b) (c := c) (fin := fin) hr (hK.trans kZ) hd.len ht.len hd.one ht.one (by omega) (by omega) m (by omega)
  have K1n := K1.next
  obtain ⟨_, _, _, _, _, _, _, _, f8⟩ := ld72 gZ
  obtain ⟨_, _, _, _, _, _, _, _, g8⟩ := ld72 ((K1.get H.next (by omega)).trans gZ)
  have hZ' := hZ.symm
  have od := hd.one; have ot := ht.one; have or_ := hr.sl_one
  by_cases ok : frOK k a b c fin D.length T.length rs
  · rw [decide_eq_true ok] at e1
    rw [if_pos ok]
    have KH1 := (hK.trans kZ).trans K1
    obtain ⟨v', H', e2, b', BO', hb', K'⟩ := frameBytes_ev hd ht hr KH1 lD lT ok m (by omega)
    simp only [frC] at hZ' f8 g8 e1 e2 ⊢
    refine ⟨v', H', ?_, (kZ.trans K1).trans K', fun _ => ⟨b', BO', by omega, (kZ.trans K1).trans K'⟩⟩
    rw [ev_M Try.func48 ok48 [] m _ H (by simp [Try.f48])]
    simp [Try.f48, U, tm0, hZ', od, ot, or_, f8, e1, g8, e2]
  · rw [decide_eq_false ok] at e1
    rw [if_neg ok]
    simp only [frC] at hZ' f8 e1 ⊢
    refine ⟨.nilSlice, H1, ?_, kZ.trans K1, fun h => absurd h ok⟩
    rw [ev_M Try.func48 ok48 [] m _ H (by simp [Try.f48])]
    simp [Try.f48, U, tm0, hZ', od, ot, or_, f8, e1]
end Go.Ev

/- Frames one behind the other, plain. -/
namespace Go.Ev
open Go Go.Proofs
set_option linter.unusedSimpArgs false
set_option linter.unusedVariables false

def fyL (d : tT72.D) : List Int := fyB4 d.1 d.2.1 d.2.2.1 d.2.2.2.1 d.2.2.2.2.1 d.2.2.2.2.2.1 d.2.2.2.2.2.2.1 d.2.2.2.2.2.2.2
structure okD (d : tT72.D) : Prop where
  ok : frOK d.1 d.2.1 d.2.2.1 d.2.2.2.1 d.2.2.2.2.1 d.2.2.2.2.2.1.length d.2.2.2.2.2.2.1.length d.2.2.2.2.2.2.2
  bD : By d.2.2.2.2.2.1
  bT : By d.2.2.2.2.2.2.1
theorem By.app {l m : List Int} (h : By l) (k : By m) : By (l ++ m) := fun x hx => by
  rcases List.mem_append.1 hx with hx | hx
  · exact h x hx
  · exact k x hx
theorem By.one {x : Int} (h : 0 ≤ x ∧ x < 256) : By [x] := fun y hy => by simp at hy; subst hy; exact h
theorem encs_by' : ∀ {xs : List Int}, (∀ x ∈ xs, inN x) → By (encs xs)
  | [], _ => fun x hx => by simp [encs] at hx
  | x :: xs, h => by
    have h1 := h x (by simp)
    have h2 := encs_by' (xs := xs) fun y hy => h y (by simp [hy])
    simp only [encs, List.flatMap_cons] at h2 ⊢
    exact (encV_by h1.1 h1.2).app h2
theorem tailB_by' : ∀ (rest : List Rg) (p : Rg), fallOK p rest → By (tailB p rest)
  | [], p, _ => fun x hx => by simp [tailB] at hx
  | r :: l, p, ⟨⟨f1, f2, f3, f4, f5⟩, f6⟩ => by
    simp only [inV] at f3 f4 f5
    simp only [tailB]
    exact (encs_by' fun x hx => by simp at hx; rcases hx with rfl | rfl <;> exact ⟨by omega, by omega⟩).app (tailB_by' l r f6)
theorem tailB_len : ∀ (rest : List Rg) (p : Rg), (tailB p rest).length ≤ 16 * rest.length
  | [], p => by simp [tailB]
  | r :: l, p => by have h1 := tailB_len l r; have h2 := encs_len [p.1 - r.2 - 2, r.2 - r.1]; simp [tailB] at h2 ⊢; omega
theorem ackB_by' {L : List Rg} (h : rgOK L) (j : Nat) (hj : L.length = j + 1) {N : Int} (hN : inV N) : By (ackB (L[j]'(by omega)) N (L.take j).reverse) ∧ (ackB (L[j]'(by omega)) N (L.take j).reverse).length ≤ 2000 := by
  have hl := h.1
  have it := rgL_in h.2 (L[j]'(by omega)) (List.getElem_mem (by omega))
  have hle := rgL_le h.2 (L[j]'(by omega)) (List.getElem_mem (by omega))
  have hf := fall_of h.2 j (by omega)
  have hrl : (L.take j).reverse.length = j := by simp; omega
  generalize (L[j]'(by omega)) = top at *
  generalize hrest : (L.take j).reverse = rest at *
  simp only [inV] at it hN
  unfold ackB
  constructor
  · exact ((By.one (by omega)).app (encs_by' fun x hx => by simp at hx; rcases hx with rfl | rfl | rfl | rfl <;> exact ⟨by omega, by omega⟩)).app (tailB_by' _ _ hf)
  · have := tailB_len rest top
    have := encs_len [top.2, N, (rest.length : Int), top.2 - top.1]
    simp at this ⊢; omega
theorem fy_facts {d : tT72.D} (h : okD d) (hD : d.2.2.2.2.2.1.length ≤ 1600) (hT : d.2.2.2.2.2.2.1.length ≤ 20) : By (fyL d) ∧ (fyL d).length ≤ 4000 ∧ 1 ≤ (fyL d).length ∧ (d.1 ≠ 0 → (fyL d).head? ≠ some 0) := by
  obtain ⟨ok, bD, bT⟩ := h
  obtain ⟨k, a, b, c, fin, D, T, rs⟩ := d
  unfold fyL
  simp only at *
  have hk : kindIn k := by
    apply Classical.byContradiction
    intro hk
    have := ok.1.1
    rw [uses_not hk] at this
    simp at this
  obtain ⟨⟨_, ia, ib, ic, pa, pb, pc, pf⟩, ⟨q1, q2, q3, q4, q5⟩, q6⟩ := ok
  have ea := encV_by ia.1 ia.2
  have eb := encV_by ib.1 ib.2
  have ec := encV_by ic.1 ic.2
  have eD := encV_by (v := (D.length : Int)) (by omega) (by omega)
  have va := vL_le a; have vb := vL_le b; have vc := vL_le c; have vD := vL_le (D.length : Int)
  have bs : ∀ x ∈ [a, b], inN x := fun x hx => by simp at hx; rcases hx with rfl | rfl; exact ⟨ia.1, ia.2⟩; exact ⟨ib.1, ib.2⟩
  have e2 := encs_by' bs
  have e3 := encs_by' (xs := [a, b, c]) fun x hx => by simp at hx; rcases hx with rfl | rfl | rfl; exact ⟨ia.1, ia.2⟩; exact ⟨ib.1, ib.2⟩; exact ⟨ic.1, ic.2⟩
  have l2 := encs_len [a, b]
  have l3 := encs_len [a, b, c]
  simp at l2 l3
  have one : ∀ {x : Int} {l : List Int}, 0 ≤ x → x < 256 → By l → By (x :: l) := fun {x l} h0 h1 h => (By.one ⟨h0, h1⟩).app h
  rcases hk with rfl | rfl | rfl | rfl | rfl | rfl | rfl | rfl | rfl | rfl | rfl | rfl | rfl | rfl | rfl | rfl | rfl | rfl | rfl | rfl | rfl | rfl
  · simp [frX] at q6
    simp only [fyB4, fyB]
    refine ⟨fun x hx => by simp at hx; omega, by simp; omega, by simp; omega, by simp⟩
  · exact ⟨by simp [fyB4, fyB]; exact By.one (by omega), by simp [fyB4, fyB], by simp [fyB4, fyB], by simp [fyB4, fyB]⟩
  · have hp : 0 < rs.length := by simpa [usesL] using q4
    have e : fyB4 2 a b c fin D T rs = ackB (rs[rs.length - 1]'(by omega)) a (rs.take (rs.length - 1)).reverse := by
      simp only [fyB4, fyB]
      rw [if_neg (by decide), if_neg (by decide), if_pos trivial]
      congr 1
      simp [List.getD_eq_getElem?_getD, show rs.length - 1 < rs.length by omega]
    obtain ⟨h1, h2⟩ := ackB_by' q5 (rs.length - 1) (by omega) ia
    rw [e]
    exact ⟨h1, by omega, by simp [ackB], by simp [ackB]⟩
  · exact ⟨by simp [fyB4, fyB]; exact one (by omega) (by omega) e3, by simp [fyB4, fyB]; omega, by simp [fyB4, fyB], by simp [fyB4, fyB]⟩
  · exact ⟨by simp [fyB4, fyB]; exact one (by omega) (by omega) e2, by simp [fyB4, fyB]; omega, by simp [fyB4, fyB], by simp [fyB4, fyB]⟩
  · exact ⟨by simp [fyB4, fyB]; exact one (by omega) (by omega) (ea.app (eD.app bD)), by simp [fyB4, fyB, encV_len]; omega, by simp [fyB4, fyB], by simp [fyB4, fyB]⟩
  · exact ⟨by simp [fyB4, fyB]; exact one (by omega) (by omega) (eD.app bD), by simp [fyB4, fyB, encV_len]; omega, by simp [fyB4, fyB], by simp [fyB4, fyB]⟩
  · have hs : 10 ≤ stB b fin ∧ stB b fin ≤ 15 := by unfold stB; split <;> split <;> omega
    refine ⟨?_, ?_, by simp [fyB4, fyB], by simp [fyB4, fyB]; omega⟩
    · by_cases c0 : b = 0
      · simp [fyB4, fyB, c0]; subst c0; exact one (by omega) (by omega) (ea.app (eD.app bD))
      · simp [fyB4, fyB, c0]; exact one (by omega) (by omega) (ea.app (eb.app (eD.app bD)))
    · by_cases c0 : b = 0
      · simp [fyB4, fyB, c0, encV_len]; omega
      · simp [fyB4, fyB, c0, encV_len]; omega
  · exact ⟨by simp [fyB4, fyB]; exact one (by omega) (by omega) ea, by simp [fyB4, fyB, encV_len]; omega, by simp [fyB4, fyB], by simp [fyB4, fyB]⟩
  · exact ⟨by simp [fyB4, fyB]; exact one (by omega) (by omega) e2, by simp [fyB4, fyB]; omega, by simp [fyB4, fyB], by simp [fyB4, fyB]⟩
  · simp [frX] at q6
    have := ib.1
    exact ⟨by simp [fyB4, fyB]; exact one (by omega) (by omega) ea, by simp [fyB4, fyB, encV_len]; omega, by simp [fyB4, fyB], by simp [fyB4, fyB]; omega⟩
  · exact ⟨by simp [fyB4, fyB]; exact one (by omega) (by omega) ea, by simp [fyB4, fyB, encV_len]; omega, by simp [fyB4, fyB], by simp [fyB4, fyB]⟩
  · exact ⟨by simp [fyB4, fyB]; exact one (by omega) (by omega) e2, by simp [fyB4, fyB]; omega, by simp [fyB4, fyB], by simp [fyB4, fyB]⟩
  · simp [frX] at q6
    have := ib.1
    exact ⟨by simp [fyB4, fyB]; exact one (by omega) (by omega) ea, by simp [fyB4, fyB, encV_len]; omega, by simp [fyB4, fyB], by simp [fyB4, fyB]; omega⟩
  · simp [usesL] at q2
    exact ⟨by simp [fyB4, fyB]; exact one (by omega) (by omega) (e2.app (one (by omega) (by omega) (bD.app bT))), by simp [fyB4, fyB]; omega, by simp [fyB4, fyB], by simp [fyB4, fyB]⟩
  · exact ⟨by simp [fyB4, fyB]; exact one (by omega) (by omega) ea, by simp [fyB4, fyB, encV_len]; omega, by simp [fyB4, fyB], by simp [fyB4, fyB]⟩
  · exact ⟨by simp [fyB4, fyB]; exact one (by omega) (by omega) bD, by simp [fyB4, fyB]; omega, by simp [fyB4, fyB], by simp [fyB4, fyB]⟩
  · exact ⟨by simp [fyB4, fyB]; exact one (by omega) (by omega) bD, by simp [fyB4, fyB]; omega, by simp [fyB4, fyB], by simp [fyB4, fyB]⟩
  · exact ⟨by simp [fyB4, fyB]; exact one (by omega) (by omega) (e2.app (eD.app bD)), by simp [fyB4, fyB, encV_len]; omega, by simp [fyB4, fyB], by simp [fyB4, fyB]⟩
  · exact ⟨by simp [fyB4, fyB]; exact one (by omega) (by omega) (ea.app (eD.app bD)), by simp [fyB4, fyB, encV_len]; omega, by simp [fyB4, fyB], by simp [fyB4, fyB]⟩
  · exact ⟨by simp [fyB4, fyB]; exact By.one (by omega), by simp [fyB4, fyB], by simp [fyB4, fyB], by simp [fyB4, fyB]⟩
  · exact ⟨by simp [fyB4, fyB]; exact one (by omega) (by omega) (eD.app bD), by simp [fyB4, fyB, encV_len]; omega, by simp [fyB4, fyB], by simp [fyB4, fyB]⟩
/-! several -/
def flatL (L : List tT72.D) : List Int := L.flatMap fyL
structure okE (d : tT72.D) : Prop extends okD d where
  hD : d.2.2.2.2.2.1.length ≤ 1600
  hT : d.2.2.2.2.2.2.1.length ≤ 20
def gdL : List tT72.D → Prop
  | [] => True
  | d :: l => okE d ∧ (d.1 = 0 → ∀ x, l.head? = some x → x.1 ≠ 0) ∧ gdL l
theorem flat_head {l : List tT72.D} (h : gdL l) (hx : ∀ x, l.head? = some x → x.1 ≠ 0) : (flatL l).head? ≠ some 0 := by
  cases l with
  | nil => simp [flatL]
  | cons d l =>
    obtain ⟨f1, f2, f3, f4⟩ := fy_facts h.1.tookD h.1.hD h.1.hT
    have hh := f4 (hx d rfl)
    cases hf : fyL d with
    | nil => rw [hf] at f3; simp at f3
    | cons y ys => rw [hf] at hh; simpa [flatL, hf] using hh
theorem gd_mid : ∀ {L1 : List tT72.D} {d : tT72.D} {L2 : List tT72.D}, gdL (L1 ++ d :: L2) → okE d ∧ (d.1 = 0 → (flatL L2).head? ≠ some 0) ∧ gdL L2
  | [], d, L2, h => ⟨h.1, fun h0 => flat_head h.2.2 (h.2.1 h0), h.2.2⟩
  | x :: L1, d, L2, h => gd_mid h.2.2
theorem gd_app : ∀ {L : List tT72.D} {d : tT72.D}, gdL L → okE d → (d.1 = 0 → ∀ x, L.getLast? = some x → x.1 ≠ 0) → gdL (L ++ [d])
  | [], d, h, hd, hl => ⟨hd, by simp, trivial⟩
  | [x], d, h, hd, hl => ⟨h.1, fun h0 y hy => by simp at hy; subst hy; exact fun e => hl e x (by simp) h0, hd, by simp, trivial⟩
  | x :: y :: L, d, h, hd, hl => ⟨h.1, by simpa using h.2.1, gd_app (L := y :: L) h.2.2 hd (by simpa [List.getLast?_cons_cons] using hl)⟩
/-- the next frame -/
theorem fl_read {L1 L2 : List tT72.D} {d : tT72.D} (h : gdL (L1 ++ d :: L2)) : frP (flatL (L1 ++ d :: L2)) (flatL L1).length = (⟨d.1, d.2.1, d.2.2.1, d.2.2.2.1, d.2.2.2.2.1, d.2.2.2.2.2.1, d.2.2.2.2.2.2.1, d.2.2.2.2.2.2.2, true, (flatL L1).length + (fyL d).length, false⟩, 0) := by
  obtain ⟨h1, h2, h3⟩ := gd_mid h
  exact fy_read h1.ok (pre := flatL L1) (post := flatL L2) (by simp [flatL, fyL]) rfl h2
end Go.Ev

/- What a frame fits, what asks, two frames alike, a copy. -/
namespace Go.Ev
open Go Go.Proofs
set_option linter.unusedSimpArgs false
set_option linter.unusedVariables false

theorem shape_in {k : Int} (h : kindIn k) : (shapeL.lookup k).isSome = true := by
  rcases h with rfl | rfl | rfl | rfl | rfl | rfl | rfl | rfl | rfl | rfl | rfl | rfl | rfl | rfl | rfl | rfl | rfl | rfl | rfl | rfl | rfl | rfl <;> rfl
def askB (k : Int) : Bool := decide (k ≠ 0 ∧ k ≠ 2 ∧ k ≠ 28 ∧ k ≠ 29)
set_option maxRecDepth 20000 in
theorem Fits_ev {k : Int} (hk : kindIn k) (H : AH) (m : Nat) (hm : 3 ≤ m) : ∃ H', ev Try.prog m 51 [.int .i64 k, .int .i64 4] H = some (.bool true, H') ∧ Kp H H' := by
  obtain ⟨m, rfl⟩ : ∃ k, m = k + 1 := ⟨m - 1, by omega⟩
  obtain ⟨H1, e1, K1⟩ := shapeOf_ev k H m (by omega)
  rw [shape_in hk] at e1
  generalize (shapeL.lookup k).getD shN = sh at *
  obtain ⟨a, b, c, d, e, f⟩ := sh
  simp only [shC] at e1
  rw [ev_M Try.func51 ok51 [] m _ H (by simp [Try.f51])]
  exact ⟨_, by simp [Try.f51, U, tm0, e1, stVar, spl]; rfl, ⟨by have := K1.next; simp; omega, fun x hx => by have := K1.next; simp; rw [if_neg (by omega)]; (try rw [if_neg (by omega)]); exact K1.get x hx⟩⟩
set_option maxRecDepth 20000 in
theorem Asks_ev {k : Int} (hk : kindIn k) (H : AH) (m : Nat) (hm : 3 ≤ m) : ∃ H', ev Try.prog m 52 [.int .i64 k] H = some (.bool (askB k), H') ∧ Kp H H' := by
  obtain ⟨m, rfl⟩ : ∃ k, m = k + 1 := ⟨m - 1, by omega⟩
  obtain ⟨H1, e1, K1⟩ := shapeOf_ev k H m (by omega)
  rw [shape_in hk] at e1
  generalize (shapeL.lookup k).getD shN = sh at *
  obtain ⟨a, b, c, d, e, f⟩ := sh
  simp only [shC] at e1
  have n1 := K1.next
  have key : ∃ H', ev Try.prog (m + 1) 52 [.int .i64 k] H = some (.bool (askB k), H') ∧ (H' = (H1.push (.cells 197 false [.bool a, .bool b, .bool c, .bool d, .bool e, .bool f]))) := by
    rw [ev_M Try.func52 ok52 [] m _ H (by simp [Try.f52])]
    by_cases k0 : k = 0
    · subst k0; exact ⟨_, by simp [Try.f52, U, tm0, e1, stVar, spl, askB]; rfl, by simp [push_set]⟩
    · have d0 : (k != 0) = true := by simpa using k0
      by_cases k2 : k = 2
      · subst k2; exact ⟨_, by simp [Try.f52, U, tm0, e1, stVar, spl, askB]; rfl, by simp [push_set]⟩
      · have d2 : (k != 2) = true := by simpa using k2
        by_cases k28 : k = 28
        · subst k28; exact ⟨_, by simp [Try.f52, U, tm0, e1, stVar, spl, askB]; rfl, by simp [push_set]⟩
        · have d28 : (k != 28) = true := by simpa using k28
          by_cases k29 : k = 29
          · subst k29; exact ⟨_, by simp [Try.f52, U, tm0, e1, stVar, spl, askB]; rfl, by simp [push_set]⟩
          · have d29 : (k != 29) = true := by simpa using k29
            exact ⟨_, by simp [Try.f52, U, tm0, e1, stVar, spl, askB, d0, d2, d28, d29, k0, k2, k28, k29]; rfl, by simp [push_set]⟩
  obtain ⟨H', e', rfl⟩ := key
  exact ⟨_, e', K1.push _⟩
theorem sameB_ev {r1 r2 : Bool} {H : AH} {s1 s2 : AV} {l : List Int} {b1 b2 : List Nat} (h1 : (Ty.sl 5 (.int .u8)).R r1 H [s1] l b1) (h2 : (Ty.sl 5 (.int .u8)).R r2 H [s2] l b2) (m : Nat) (hm : 1 ≤ m) :
    ev Try.prog m 91 [s1, s2] H = some (.bool true, H) := by
  obtain ⟨m, rfl⟩ : ∃ k, m = k + 1 := ⟨m - 1, by omega⟩
  have c1 := conv_str (P := Try.prog) (s := 34) (d := 9) (by simp) (by simp) (by simp) h1
  have c2 := conv_str (P := Try.prog) (s := 34) (d := 9) (by simp) (by simp) (by simp) h2
  rw [ev_eq Try.func91 ok91 m _ H (by simp [Try.f91])]
  simp [Try.f91, c1, c2]
theorem sameFr_ev {r1 r2 : Bool} {H : AH} {c1 c2 : List AV} {d : tT72.D} {b1 b2 : List Nat} (h1 : tT72.R r1 H c1 d b1) (h2 : tT72.R r2 H c2 d b2) (hl : d.2.2.2.2.2.2.2.length ≤ 1000) (m : Nat) (hm : 1010 ≤ m) :
    ∃ H', ev Try.prog m 38 [.agg c1, .agg c2] H = some (.bool true, H') ∧ Kp H H' := by
  obtain ⟨m, rfl⟩ : ∃ k, m = k + 1 := ⟨m - 1, by omega⟩
  obtain ⟨k, a, b, c, fin, D, T, rs⟩ := d
  simp only at hl
  obtain ⟨u5, u6, u7, bu5, bu6, bu7, rfl, _, R5, R6, R7, ix⟩ := o72 h1
  obtain ⟨v5, v6, v7, bv5, bv6, bv7, rfl, _, Q5, Q6, Q7, iy⟩ := o72 h2
  have kX : ∀ x y, Kp H ((H.push x).push y) := fun x y => ((Kp.refl H).push _).push _
  have s5 := fun x y => sameB_ev (R5.kp (kX x y)) (Q5.kp (kX x y)) m (by omega)
  have s6 := fun x y => sameB_ev (R6.kp (kX x y)) (Q6.kp (kX x y)) m (by omega)
  have s7 := fun x y => sameRanges_ev (R7.kp (kX x y)) (Q7.kp (kX x y)) (by omega) m (by omega)
  have key : ∃ x y, ev Try.prog (m + 1) 38 [.agg [.int .i64 k, .int .i64 a, .int .i64 b, .int .i64 c, .bool fin, u5, u6, u7], .agg [.int .i64 k, .int .i64 a, .int .i64 b, .int .i64 c, .bool fin, v5, v6, v7]] H = some (.bool true, (H.push x).push y) := by
    refine ⟨.cells 72 false [.int .i64 k, .int .i64 a, .int .i64 b, .int .i64 c, .bool fin, u5, u6, u7], .cells 72 false [.int .i64 k, .int .i64 a, .int .i64 b, .int .i64 c, .bool fin, v5, v6, v7], ?_⟩
    rw [ev_M Try.func38 ok38 [] _ _ H (by simp [Try.f38])]
    simp [Try.f38, tm0, ldVar, s5, s6, s7, R5.sl_one, R6.sl_one, R7.sl_one, Q5.sl_one, Q6.sl_one, Q7.sl_one, evHist, ObsOk, ObOk]
  obtain ⟨x, y, e⟩ := key
  exact ⟨_, e, kX _ _⟩
theorem copiedL_ev {H : AH} {v : AV} {l : List Int} {b : Nat} (h : BO H v l b) (hl : l.length ≤ 100000) (m : Nat) (hm : 1 ≤ m) :
    ∃ v' H' b', ev Try.prog m 54 [v] H = some (v', H') ∧ BO H' v' l b' ∧ H.next ≤ b' ∧ Kp H H' := by
  obtain ⟨m, rfl⟩ : ∃ k, m = k + 1 := ⟨m - 1, by omega⟩
  obtain ⟨A, hA⟩ : ∃ A : AH, A = H.push (.cells 5 false []) := ⟨_, rfl⟩
  have kA : Kp H A := by rw [hA]; exact (Kp.refl H).push _
  have BA : BO A (.slice H.next 0 0) [] H.next := ⟨rfl, by rw [hA]; simp, by rw [hA]; simp [u8L]⟩
  obtain ⟨v', X', b', e, B', k', c'⟩ := BA.appB (h.bs.kp kA) (by simp; omega)
  have hA' := hA.symm
  have := kA.next
  refine ⟨v', X', b', ?_, by simpa using B', by rcases c' with h | h <;> omega, KoS.kp kA k' (by simp)⟩
  rw [ev_M Try.func54 ok54 [] m _ H (by simp [Try.f54])]
  simp [Try.f54, U, tm0, hA', e, zerosA, fillA]
end Go.Ev
