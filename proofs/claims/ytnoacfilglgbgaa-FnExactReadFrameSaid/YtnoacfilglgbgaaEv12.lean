/- Lemmas of an evaluator of the given code and of what the functions answer; no condition of its own. -/
import Derived.Test.YtnoacfilglgbgaaEv11
/- A stream frame read by the reference. -/
namespace Go.Ev
open Go Go.Proofs
set_option linter.unusedSimpArgs false
set_option linter.unusedVariables false

theorem Kx.push {q : Nat} {A B : AH} (h : Kx q A B) (x : Blk) : Kx q A (B.push x) := h.trans (Kx.of ((Kp.refl B).push x))
theorem Kx.set2 {A B : AH} {q p : Nat} (h : Kx q A B) (x : Blk) (hp : A.next ≤ p) : Kx q A (B.set p x) := ⟨h.next, fun c hc hq => by
  rw [AH.set_getN _ _ (by omega)]; exact h.get c hc hq⟩
/-- the first number and the head of a stream frame -/
theorem rs0 {Hb H : AH} {q a : Nat} {s : AV} {l : List Int} {sh : Bool} (hs : Bs Hb s l) (hb : By l) (hK : Kp Hb H) (hqb : Hb.next ≤ q) (hqn : q < H.next) (hq : H.get q = some (rdB s a sh)) (ha : a ≤ l.length) (hl : l.length ≤ 65536) (x : Int) (hx : 0 ≤ x ∧ x ≤ 7) (m : Nat) (hm : 21 ≤ m) :
    ∃ τ' H', ev Try.prog (m + 1) 217 [.ptr q 0, .int .i64 x] H = resM Try.prog [.cell 4 72] (evAt Try.prog (ev Try.prog m) m 217 7 τ' H') ∧ τ' 0 = .ptr q 0 ∧ τ' 1 = .int .i64 x ∧ τ' 4 = .ptr H.next 0 ∧ τ' 5 = .ptr (H.next + 1) 0 ∧
      H'.get H.next = some (.cells 72 false (frC 0 0 0 0 false .nilSlice .nilSlice .nilSlice)) ∧ H'.get (H.next + 1) = some (.cells 72 false (frC 8 (varS l a sh).1 0 0 (x.tmod 2 == 1) .nilSlice .nilSlice .nilSlice)) ∧
      H'.get q = some (rdB s (varS l a sh).2.1 (varS l a sh).2.2) ∧ Kx q H H' ∧ H'.next = H.next + 2 := by
  let A0 : AH := H.push (.cells 72 false (frC 0 0 0 0 false .nilSlice .nilSlice .nilSlice))
  have nq : ¬ (q = H.next) := by omega
  have kA : Kp H A0 := (Kp.refl H).push _
  obtain ⟨H1, e1, k1, n1, g1, l1⟩ := var_ev (H := A0) (sh := sh) (a := a) hs hb (hK.trans kA) hqb (by simp [A0]; omega) (by simp [A0, nq, hq]) ha hl m (by omega)
  have b1 := k1.get H.next (by simp [A0]) (by omega)
  simp [A0] at b1 n1
  simp only [A0, frC] at e1
  have nq1 : ¬ (q = H1.next) := by omega
  have nb1 : ¬ (H.next = H1.next) := by omega
  have w1 : IntKind.i64.wrap (x.tmod 2) = x.tmod 2 := by
    have : x = 0 ∨ x = 1 ∨ x = 2 ∨ x = 3 ∨ x = 4 ∨ x = 5 ∨ x = 6 ∨ x = 7 := by omega
    rcases this with rfl | rfl | rfl | rfl | rfl | rfl | rfl | rfl <;> decide
  rw [ev_M Try.func217 ok217 [7] m _ H (by simp [Try.f217])]
  refine ⟨_, _, by simp [Try.f217, tm0, fillA, stVar, spl, e1, tmodI, w1]; rfl, ?_⟩
  simp [n1, nq, nq1, nb1, b1, g1, frC, tm0]
  exact ⟨fun e => absurd e (by omega), ((Kx.of kA).trans k1).push _⟩
structure RsT (τ : Tm) (q p4 p5 : Nat) (x : Int) : Prop where
  t0 : τ 0 = .ptr q 0
  t1 : τ 1 = .int .i64 x
  t4 : τ 4 = .ptr p4 0
  t5 : τ 5 = .ptr p5 0
theorem x8 {x : Int} (hx : 0 ≤ x ∧ x ≤ 7) : x = 0 ∨ x = 1 ∨ x = 2 ∨ x = 3 ∨ x = 4 ∨ x = 5 ∨ x = 6 ∨ x = 7 := by omega
theorem rs1 {Hb h : AH} {q a p4 p5 : Nat} {s : AV} {l : List Int} {sh : Bool} {A : Int} {f : Bool} (hs : Bs Hb s l) (hb : By l) (hK : Kp Hb h) (hqb : Hb.next ≤ q) (hqn : q < h.next) (hq : h.get q = some (rdB s a sh)) (ha : a ≤ l.length) (hl : l.length ≤ 65536)
    (x : Int) (hx : 0 ≤ x ∧ x ≤ 7) (n5 : p5 ≠ q) (l5 : p5 < h.next) (g5 : h.get p5 = some (.cells 72 false (frC 8 A 0 0 f .nilSlice .nilSlice .nilSlice))) (m : Nat) (hm : 21 ≤ m) (τ : Tm) (T : RsT τ q p4 p5 x) :
    ∃ τ' H', evAt Try.prog (ev Try.prog m) m 217 7 τ h = evAt Try.prog (ev Try.prog m) m 217 15 τ' H' ∧ RsT τ' q p4 p5 x ∧
      H'.get p5 = some (.cells 72 false (frC 8 A (if (x.tdiv 4).tmod 2 = 1 then (varS l a sh).1 else 0) 0 f .nilSlice .nilSlice .nilSlice)) ∧
      H'.get q = some (if (x.tdiv 4).tmod 2 = 1 then rdB s (varS l a sh).2.1 (varS l a sh).2.2 else rdB s a sh) ∧ H'.next = h.next ∧ ∀ b, b < h.next → b ≠ q → b ≠ p5 → H'.get b = h.get b := by
  obtain ⟨t0, t1, t4, t5⟩ := T
  obtain ⟨H1, e1, k1, n1, g1, l1⟩ := var_ev (sh := sh) (a := a) hs hb hK hqb hqn hq ha hl m (by omega)
  have c5 := (k1.get p5 l5 n5).trans g5
  simp only [frC] at c5 g5
  have w1 : IntKind.i64.wrap (x.tdiv 4) = x.tdiv 4 := by rcases x8 hx with rfl | rfl | rfl | rfl | rfl | rfl | rfl | rfl <;> decide
  have w2 : IntKind.i64.wrap ((x.tdiv 4).tmod 2) = (x.tdiv 4).tmod 2 := by rcases x8 hx with rfl | rfl | rfl | rfl | rfl | rfl | rfl | rfl <;> decide
  rw [at_M Try.func217 7 (by decide) 3 (by decide) (by kernel_rfl) [15]]
  by_cases b4 : (x.tdiv 4).tmod 2 = 1
  · have n5' : ¬ (q = p5) := fun e => n5 e.symm
    refine ⟨_, _, by simp [Try.f217, t0, t1, t5, e1, tmodI, tdivI, w1, w2, b4, c5, stVar, spl]; rfl, ⟨by simp [t0], by simp [t1], by simp [t4], by simp [t5]⟩, by simp [b4, frC], by simp [b4, n5', g1], by simp [n1], fun b hb h1 h2 => ?_⟩
    simp [h2]; exact k1.get b hb h1
  · have b4' : ((x.tdiv 4).tmod 2 == 1) = false := by simpa using b4
    exact ⟨_, h, by simp [Try.f217, t0, t1, t5, tmodI, tdivI, w1, w2, b4']; rfl, ⟨by simp [t0], by simp [t1], by simp [t4], by simp [t5]⟩, by simp [b4, frC, g5], by simp [b4, hq], rfl, fun b hb _ _ => rfl⟩
def dataS (l : List Int) (a : Nat) (sh : Bool) (x : Int) : List Int × Nat × Bool := if (x.tdiv 2).tmod 2 = 1 then countedS l a sh else restS l a sh
theorem rs2 {Hb h : AH} {q a p4 p5 : Nat} {s : AV} {l : List Int} {sh : Bool} {A B : Int} {f : Bool} (hs : Bs Hb s l) (hb : By l) (hK : Kp Hb h) (hqb : Hb.next ≤ q) (hqn : q < h.next) (hq : h.get q = some (rdB s a sh)) (ha : a ≤ l.length) (hl : l.length ≤ 65536)
    (x : Int) (hx : 0 ≤ x ∧ x ≤ 7) (n5 : p5 ≠ q) (l5 : p5 < h.next) (g5 : h.get p5 = some (.cells 72 false (frC 8 A B 0 f .nilSlice .nilSlice .nilSlice))) (m : Nat) (hm : 22 ≤ m) (τ : Tm) (T : RsT τ q p4 p5 x) :
    ∃ τ' H' r, evAt Try.prog (ev Try.prog m) m 217 15 τ h = evAt Try.prog (ev Try.prog m) m 217 31 τ' H' ∧ RsT τ' q p4 p5 x ∧
      H'.get p5 = some (.cells 72 false (frC 8 A B 0 f r .nilSlice .nilSlice)) ∧ Ow h.next H'.next H' r (dataS l a sh x).1 ∧
      H'.get q = some (rdB s (dataS l a sh x).2.1 (dataS l a sh x).2.2) ∧ (dataS l a sh x).2.1 ≤ l.length ∧ h.next ≤ H'.next ∧ ∀ b, b < h.next → b ≠ q → b ≠ p5 → H'.get b = h.get b := by
  obtain ⟨t0, t1, t4, t5⟩ := T
  have w1 : IntKind.i64.wrap (x.tdiv 2) = x.tdiv 2 := by rcases x8 hx with rfl | rfl | rfl | rfl | rfl | rfl | rfl | rfl <;> decide
  have w2 : IntKind.i64.wrap ((x.tdiv 2).tmod 2) = (x.tdiv 2).tmod 2 := by rcases x8 hx with rfl | rfl | rfl | rfl | rfl | rfl | rfl | rfl <;> decide
  have n5' : ¬ (q = p5) := fun e => n5 e.symm
  rw [at_M Try.func217 15 (by decide) 4 (by decide) (by kernel_rfl) [31]]
  unfold dataS
  by_cases b2 : (x.tdiv 2).tmod 2 = 1
  · obtain ⟨r, H1, e1, k1, o1, g1, l1⟩ := countedS_ev (sh := sh) (a := a) hs hb hK hqb hqn hq ha hl m (by omega)
    have c5 := (k1.get p5 l5 n5).trans g5
    simp only [frC] at c5
    have or_ := o1.bs.one
    have orc := cells_one or_
    have o2 := o1.kx ((Kx.refl p5 H1).set (.cells 72 false (frC 8 A B 0 f r .nilSlice .nilSlice))) (.inl l5)
    simp only [frC] at o2
    rw [if_pos b2]
    refine ⟨_, _, r, by simp [Try.f217, t0, t1, t5, e1, tmodI, tdivI, w1, w2, b2, c5, stVar, spl, or_, orc]; rfl, ⟨by simp [t0], by simp [t1], by simp [t4], by simp [t5]⟩, by simp [frC], by simpa using o2, by simp [n5', g1], l1, by simpa using k1.next, fun b hb h1 h2 => ?_⟩
    simp [h2]; exact k1.get b hb h1
  · have b2' : ((x.tdiv 2).tmod 2 == 1) = false := by simpa using b2
    obtain ⟨r, H1, e1, k1, o1, g1, l1⟩ := restS_ev (sh := sh) (a := a) hs hK hqb hqn hq ha hl m (by omega)
    have c5 := (k1.get p5 l5 n5).trans g5
    simp only [frC] at c5
    have or_ := o1.bs.one
    have orc := cells_one or_
    have o2 := o1.kx ((Kx.refl p5 H1).set (.cells 72 false (frC 8 A B 0 f r .nilSlice .nilSlice))) (.inl l5)
    simp only [frC] at o2
    rw [if_neg b2]
    refine ⟨_, _, r, by simp [Try.f217, t0, t1, t5, e1, tmodI, tdivI, w1, w2, b2', c5, stVar, spl, or_, orc]; rfl, ⟨by simp [t0], by simp [t1], by simp [t4], by simp [t5]⟩, by simp [frC], by simpa using o2, by simp [n5', g1], l1, by simpa using k1.next, fun b hb h1 h2 => ?_⟩
    simp [h2]; exact k1.get b hb h1
theorem rs3 {h : AH} {q p4 p5 : Nat} {x : Int} {A B : Int} {f : Bool} {r : AV} (or_ : r.one = true) (n4 : p4 ≠ p5) (g4 : h.get p4 = some (.cells 72 false (frC 0 0 0 0 false .nilSlice .nilSlice .nilSlice))) (g5 : h.get p5 = some (.cells 72 false (frC 8 A B 0 f r .nilSlice .nilSlice)))
    (m : Nat) (τ : Tm) (T : RsT τ q p4 p5 x) : resM Try.prog [.cell 4 72] (evAt Try.prog (ev Try.prog m) m 217 31 τ h) = some (.agg (frC 8 A B 0 f r .nilSlice .nilSlice), h.set p4 (.cells 72 false (frC 8 A B 0 f r .nilSlice .nilSlice))) := by
  obtain ⟨t0, t1, t4, t5⟩ := T
  simp only [frC] at g4 g5 ⊢
  rw [at_M Try.func217 31 (by decide) 5 (by decide) (by kernel_rfl) []]
  simp [Try.f217, t4, t5, g4, g5, ldVar, stVar, spl, or_]
theorem varS_le {l : List Int} {a : Nat} (h : a ≤ l.length) (sh : Bool) : (varS l a sh).2.1 ≤ l.length := by
  unfold varS
  split
  · exact h
  · split
    · exact h
    · rename_i h2
      obtain ⟨e, h3, h4, h5⟩ := getVarP_end (l := l) (a := a) (by simpa using h2)
      simp [h3, h5]
def offS (l : List Int) (a : Nat) (sh : Bool) (x : Int) : Int × Nat × Bool := if (x.tdiv 4).tmod 2 = 1 then varS l a sh else (0, a, sh)
/-- a stream frame: the stream, the offset, the data -/
def streamS (l : List Int) (a : Nat) (sh : Bool) (x : Int) : Int × Int × (List Int × Nat × Bool) :=
  ((varS l a sh).1, (offS l (varS l a sh).2.1 (varS l a sh).2.2 x).1, dataS l (offS l (varS l a sh).2.1 (varS l a sh).2.2 x).2.1 (offS l (varS l a sh).2.1 (varS l a sh).2.2 x).2.2 x)
theorem readStreamS_ev {Hb H : AH} {q a : Nat} {s : AV} {l : List Int} {sh : Bool} (hs : Bs Hb s l) (hb : By l) (hK : Kp Hb H) (hqb : Hb.next ≤ q) (hqn : q < H.next) (hq : H.get q = some (rdB s a sh)) (ha : a ≤ l.length) (hl : l.length ≤ 65536) (x : Int) (hx : 0 ≤ x ∧ x ≤ 7) (m : Nat) (hm : 23 ≤ m) :
    ∃ r H', ev Try.prog m 217 [.ptr q 0, .int .i64 x] H = some (.agg (frC 8 (streamS l a sh x).1 (streamS l a sh x).2.1 0 (x.tmod 2 == 1) r .nilSlice .nilSlice), H') ∧ Kx q H H' ∧ Ow H.next H'.next H' r (streamS l a sh x).2.2.1 ∧
      H'.get q = some (rdB s (streamS l a sh x).2.2.2.1 (streamS l a sh x).2.2.2.2) ∧ (streamS l a sh x).2.2.2.1 ≤ l.length := by
  obtain ⟨m, rfl⟩ : ∃ k, m = k + 1 := ⟨m - 1, by omega⟩
  obtain ⟨τ0, H0, e0, t0, t1, t4, t5, g4, g5, gq, k0, n0⟩ := rs0 hs hb hK hqb hqn hq ha hl x hx m (by omega)
  have l0 := varS_le ha sh
  have K0 := k0.kp hK hqb
  obtain ⟨τ1, H1, e1, T1, c5, cq, n1, r1⟩ := rs1 hs hb K0 hqb (by omega) gq l0 hl x hx (p4 := H.next) (p5 := H.next + 1) (by omega) (by omega) g5 m (by omega) τ0 ⟨t0, t1, t4, t5⟩
  have hoff : (if (x.tdiv 4).tmod 2 = 1 then rdB s (varS l (varS l a sh).2.1 (varS l a sh).2.2).2.1 (varS l (varS l a sh).2.1 (varS l a sh).2.2).2.2 else rdB s (varS l a sh).2.1 (varS l a sh).2.2) = rdB s (offS l (varS l a sh).2.1 (varS l a sh).2.2 x).2.1 (offS l (varS l a sh).2.1 (varS l a sh).2.2 x).2.2 := by
    unfold offS; split <;> rfl
  have hoff1 : (if (x.tdiv 4).tmod 2 = 1 then (varS l (varS l a sh).2.1 (varS l a sh).2.2).1 else 0) = (offS l (varS l a sh).2.1 (varS l a sh).2.2 x).1 := by
    unfold offS; split <;> rfl
  have l1 : (offS l (varS l a sh).2.1 (varS l a sh).2.2 x).2.1 ≤ l.length := by
    unfold offS; split
    · exact varS_le l0 _
    · exact l0
  rw [hoff] at cq
  rw [hoff1] at c5
  have k1 : Kx q H H1 := ⟨by omega, fun b hb h => by rw [r1 b (by omega) h (by omega)]; exact k0.get b hb h⟩
  have K1 := k1.kp hK hqb
  obtain ⟨τ2, H2, r, e2, T2, d5, o2, dq, l2, n2, r2⟩ := rs2 hs hb K1 hqb (by omega) cq l1 hl x hx (p4 := H.next) (p5 := H.next + 1) (by omega) (by omega) c5 m (by omega) τ1 T1
  have d4 : H2.get H.next = some (.cells 72 false (frC 0 0 0 0 false .nilSlice .nilSlice .nilSlice)) := by rw [r2 _ (by omega) (by omega) (by omega), r1 _ (by omega) (by omega) (by omega), g4]
  have e3 := rs3 o2.bs.one (by omega) d4 d5 m τ2 T2
  have o3 := o2.kx ((Kx.refl H.next H2).set (.cells 72 false (frC 8 (varS l a sh).1 (offS l (varS l a sh).2.1 (varS l a sh).2.2 x).1 0 (x.tmod 2 == 1) r .nilSlice .nilSlice))) (.inl (by omega))
  refine ⟨r, _, by rw [e0, e1, e2, e3]; rfl, ?_, Ow.wide o3 (by omega) (by simp) (by simp), ?_, l2⟩
  · refine ⟨by simp; omega, fun b hb h => ?_⟩
    rw [AH.set_getN _ _ (by omega), r2 b (by omega) h (by omega)]
    exact k1.get b hb h
  · rw [AH.set_getN _ _ (by omega)]; exact dq
end Go.Ev

/- Whether a frame is right, in the program. -/
namespace Go.Ev
open Go Go.Proofs
set_option linter.unusedSimpArgs false
set_option linter.unusedVariables false

structure FiT (τ : Tm) (A B : Nat) : Prop where
  t1 : τ 1 = .ptr A 0
  t3 : τ 3 = .ptr B 0
abbrev Shp := Bool × Bool × Bool × Bool × Bool × Bool
def shL (s : Shp) : List AV := [.bool s.1, .bool s.2.1, .bool s.2.2.1, .bool s.2.2.2.1, .bool s.2.2.2.2.1, .bool s.2.2.2.2.2]
theorem fi0 {k a b c : Int} {fin : Bool} {d t r : AV} {ok : Bool} {A B : Nat} {H : AH}
    (hA : H.get A = some (.cells 72 false (frC k a b c fin d t r))) (m : Nat) (hm : 1 ≤ m) (τ : Tm) (T : FiT τ A B) (t4 : τ 4 = .bool ok) :
    ∃ τ', ((ok = true ∧ inV a ∧ inV b ∧ inV c) ∧ evAt Try.prog (ev Try.prog m) m 50 7 τ H = evAt Try.prog (ev Try.prog m) m 50 15 τ' H ∧ FiT τ' A B) ∨
      (¬ (ok = true ∧ inV a ∧ inV b ∧ inV c) ∧ evAt Try.prog (ev Try.prog m) m 50 7 τ H = some (.ret, τ', H) ∧ τ' 2 = .bool false) := by
  obtain ⟨t1, t3⟩ := T
  have c1 := fun H => inVar_ev a H m hm
  have c2 := fun H => inVar_ev b H m hm
  have c3 := fun H => inVar_ev c H m hm
  simp only [frC] at hA
  rw [at_M Try.func50 7 (by decide) 3 (by decide) (by kernel_rfl) [15]]
  cases ok
  · exact ⟨_, .inr ⟨by simp, by simp [Try.f50, t1, t3, t4, hA, ldVar]; rfl, by simp⟩⟩
  · by_cases ia : inV a
    · by_cases ib : inV b
      · by_cases ic : inV c
        · exact ⟨_, .inl ⟨⟨rfl, ia, ib, ic⟩, by simp [Try.f50, t1, t3, t4, hA, ldVar, c1, c2, c3, ia, ib, ic]; rfl, by simp [t1], by simp [t3]⟩⟩
        · exact ⟨_, .inr ⟨by simp [ic], by simp [Try.f50, t1, t3, t4, hA, ldVar, c1, c2, c3, ia, ib, ic]; rfl, by simp⟩⟩
      · exact ⟨_, .inr ⟨by simp [ib], by simp [Try.f50, t1, t3, t4, hA, ldVar, c1, c2, c3, ia, ib]; rfl, by simp⟩⟩
    · exact ⟨_, .inr ⟨by simp [ia], by simp [Try.f50, t1, t3, t4, hA, ldVar, c1, c2, c3, ia]; rfl, by simp⟩⟩
theorem fi1_0 {k a b c : Int} {fin : Bool} {d t r : AV} {dl tl rl : Nat} {A B : Nat} {H : AH}
    (hA : H.get A = some (.cells 72 false (frC k a b c fin d t r))) (hB : H.get B = some (.cells 197 false (shL (true, false, false, false, false, false)))) (m : Nat) (hk4 : k ≠ 4)
    (hd : ∀ h, lenA Try.prog 34 d h = some (.int .i64 dl)) (ht : ∀ h, lenA Try.prog 34 t h = some (.int .i64 tl)) (hr : ∀ h, lenA Try.prog 70 r h = some (.int .i64 rl)) (τ : Tm) (T : FiT τ A B) :
    ∃ τ', ((b = 0 ∧ fin = false ∧ dl = 0 ∧ tl = 0 ∧ rl = 0) ∧ evAt Try.prog (ev Try.prog m) m 50 15 τ H = evAt Try.prog (ev Try.prog m) m 50 31 τ' H ∧ FiT τ' A B) ∨
      (¬ (b = 0 ∧ fin = false ∧ dl = 0 ∧ tl = 0 ∧ rl = 0) ∧ evAt Try.prog (ev Try.prog m) m 50 15 τ H = some (.ret, τ', H) ∧ τ' 2 = .bool false) := by
  obtain ⟨t1, t3⟩ := T
  simp only [frC, shL] at hA hB
  rw [at_M Try.func50 15 (by decide) 4 (by decide) (by kernel_rfl) [31]]
  have k4 : (k != 4) = true := by simpa using hk4
  by_cases z1 : b = 0
  rotate_left 1
  · have w1 : (b != 0) = true := by simpa using z1
    exact ⟨_, .inr ⟨fun h => z1 h.1, by simp [Try.f50, t1, t3, hA, hB, ldVar, hd, ht, hr, k4, w1]; rfl, by simp⟩⟩
  subst z1
  by_cases z2 : fin = false
  rotate_left 1
  · have w2 : fin = true := by simpa using z2
    exact ⟨_, .inr ⟨fun h => z2 h.2.1, by simp [Try.f50, t1, t3, hA, hB, ldVar, hd, ht, hr, k4, w2]; rfl, by simp⟩⟩
  subst z2
  by_cases z3 : dl = 0
  rotate_left 1
  · have w3 : 0 < dl := by omega
    exact ⟨_, .inr ⟨fun h => z3 h.2.2.1, by simp [Try.f50, t1, t3, hA, hB, ldVar, hd, ht, hr, k4, w3]; rfl, by simp⟩⟩
  subst z3
  by_cases z4 : tl = 0
  rotate_left 1
  · have w4 : 0 < tl := by omega
    exact ⟨_, .inr ⟨fun h => z4 h.2.2.2.1, by simp [Try.f50, t1, t3, hA, hB, ldVar, hd, ht, hr, k4, w4]; rfl, by simp⟩⟩
  subst z4
  by_cases z5 : rl = 0
  rotate_left 1
  · have w5 : 0 < rl := by omega
    exact ⟨_, .inr ⟨fun h => z5 h.2.2.2.2, by simp [Try.f50, t1, t3, hA, hB, ldVar, hd, ht, hr, k4, w5]; rfl, by simp⟩⟩
  subst z5
  exact ⟨_, .inl ⟨⟨rfl, rfl, rfl, rfl, rfl⟩, by simp [Try.f50, t1, t3, hA, hB, ldVar, hd, ht, hr, k4]; rfl, by simp [t1], by simp [t3]⟩⟩
theorem fi1_1 {k a b c : Int} {fin : Bool} {d t r : AV} {dl tl rl : Nat} {A B : Nat} {H : AH}
    (hA : H.get A = some (.cells 72 false (frC k a b c fin d t r))) (hB : H.get B = some (.cells 197 false (shL (false, false, false, false, false, false)))) (m : Nat) (hk4 : k ≠ 4)
    (hd : ∀ h, lenA Try.prog 34 d h = some (.int .i64 dl)) (ht : ∀ h, lenA Try.prog 34 t h = some (.int .i64 tl)) (hr : ∀ h, lenA Try.prog 70 r h = some (.int .i64 rl)) (τ : Tm) (T : FiT τ A B) :
    ∃ τ', ((a = 0 ∧ b = 0 ∧ fin = false ∧ dl = 0 ∧ tl = 0 ∧ rl = 0) ∧ evAt Try.prog (ev Try.prog m) m 50 15 τ H = evAt Try.prog (ev Try.prog m) m 50 31 τ' H ∧ FiT τ' A B) ∨
      (¬ (a = 0 ∧ b = 0 ∧ fin = false ∧ dl = 0 ∧ tl = 0 ∧ rl = 0) ∧ evAt Try.prog (ev Try.prog m) m 50 15 τ H = some (.ret, τ', H) ∧ τ' 2 = .bool false) := by
  obtain ⟨t1, t3⟩ := T
  simp only [frC, shL] at hA hB
  rw [at_M Try.func50 15 (by decide) 4 (by decide) (by kernel_rfl) [31]]
  have k4 : (k != 4) = true := by simpa using hk4
  by_cases z0 : a = 0
  rotate_left 1
  · have w0 : (a != 0) = true := by simpa using z0
    exact ⟨_, .inr ⟨fun h => z0 h.1, by simp [Try.f50, t1, t3, hA, hB, ldVar, hd, ht, hr, k4, w0]; rfl, by simp⟩⟩
  subst z0
  by_cases z1 : b = 0
  rotate_left 1
  · have w1 : (b != 0) = true := by simpa using z1
    exact ⟨_, .inr ⟨fun h => z1 h.2.1, by simp [Try.f50, t1, t3, hA, hB, ldVar, hd, ht, hr, k4, w1]; rfl, by simp⟩⟩
  subst z1
  by_cases z2 : fin = false
  rotate_left 1
  · have w2 : fin = true := by simpa using z2
    exact ⟨_, .inr ⟨fun h => z2 h.2.2.1, by simp [Try.f50, t1, t3, hA, hB, ldVar, hd, ht, hr, k4, w2]; rfl, by simp⟩⟩
  subst z2
  by_cases z3 : dl = 0
  rotate_left 1
  · have w3 : 0 < dl := by omega
    exact ⟨_, .inr ⟨fun h => z3 h.2.2.2.1, by simp [Try.f50, t1, t3, hA, hB, ldVar, hd, ht, hr, k4, w3]; rfl, by simp⟩⟩
  subst z3
  by_cases z4 : tl = 0
  rotate_left 1
  · have w4 : 0 < tl := by omega
    exact ⟨_, .inr ⟨fun h => z4 h.2.2.2.2.1, by simp [Try.f50, t1, t3, hA, hB, ldVar, hd, ht, hr, k4, w4]; rfl, by simp⟩⟩
  subst z4
  by_cases z5 : rl = 0
  rotate_left 1
  · have w5 : 0 < rl := by omega
    exact ⟨_, .inr ⟨fun h => z5 h.2.2.2.2.2, by simp [Try.f50, t1, t3, hA, hB, ldVar, hd, ht, hr, k4, w5]; rfl, by simp⟩⟩
  subst z5
  exact ⟨_, .inl ⟨⟨rfl, rfl, rfl, rfl, rfl, rfl⟩, by simp [Try.f50, t1, t3, hA, hB, ldVar, hd, ht, hr, k4]; rfl, by simp [t1], by simp [t3]⟩⟩
theorem fi1_2 {k a b c : Int} {fin : Bool} {d t r : AV} {dl tl rl : Nat} {A B : Nat} {H : AH}
    (hA : H.get A = some (.cells 72 false (frC k a b c fin d t r))) (hB : H.get B = some (.cells 197 false (shL (true, false, false, false, false, true)))) (m : Nat) (hk4 : k ≠ 4)
    (hd : ∀ h, lenA Try.prog 34 d h = some (.int .i64 dl)) (ht : ∀ h, lenA Try.prog 34 t h = some (.int .i64 tl)) (hr : ∀ h, lenA Try.prog 70 r h = some (.int .i64 rl)) (τ : Tm) (T : FiT τ A B) :
    ∃ τ', ((b = 0 ∧ fin = false ∧ dl = 0 ∧ tl = 0) ∧ evAt Try.prog (ev Try.prog m) m 50 15 τ H = evAt Try.prog (ev Try.prog m) m 50 31 τ' H ∧ FiT τ' A B) ∨
      (¬ (b = 0 ∧ fin = false ∧ dl = 0 ∧ tl = 0) ∧ evAt Try.prog (ev Try.prog m) m 50 15 τ H = some (.ret, τ', H) ∧ τ' 2 = .bool false) := by
  obtain ⟨t1, t3⟩ := T
  simp only [frC, shL] at hA hB
  rw [at_M Try.func50 15 (by decide) 4 (by decide) (by kernel_rfl) [31]]
  have k4 : (k != 4) = true := by simpa using hk4
  by_cases z1 : b = 0
  rotate_left 1
  · have w1 : (b != 0) = true := by simpa using z1
    exact ⟨_, .inr ⟨fun h => z1 h.1, by simp [Try.f50, t1, t3, hA, hB, ldVar, hd, ht, hr, k4, w1]; rfl, by simp⟩⟩
  subst z1
  by_cases z2 : fin = false
  rotate_left 1
  · have w2 : fin = true := by simpa using z2
    exact ⟨_, .inr ⟨fun h => z2 h.2.1, by simp [Try.f50, t1, t3, hA, hB, ldVar, hd, ht, hr, k4, w2]; rfl, by simp⟩⟩
  subst z2
  by_cases z3 : dl = 0
  rotate_left 1
  · have w3 : 0 < dl := by omega
    exact ⟨_, .inr ⟨fun h => z3 h.2.2.1, by simp [Try.f50, t1, t3, hA, hB, ldVar, hd, ht, hr, k4, w3]; rfl, by simp⟩⟩
  subst z3
  by_cases z4 : tl = 0
  rotate_left 1
  · have w4 : 0 < tl := by omega
    exact ⟨_, .inr ⟨fun h => z4 h.2.2.2, by simp [Try.f50, t1, t3, hA, hB, ldVar, hd, ht, hr, k4, w4]; rfl, by simp⟩⟩
  subst z4
  exact ⟨_, .inl ⟨⟨rfl, rfl, rfl, rfl⟩, by simp [Try.f50, t1, t3, hA, hB, ldVar, hd, ht, hr, k4]; rfl, by simp [t1], by simp [t3]⟩⟩
theorem fi1_3 {k a b c : Int} {fin : Bool} {d t r : AV} {dl tl rl : Nat} {A B : Nat} {H : AH}
    (hA : H.get A = some (.cells 72 false (frC k a b c fin d t r))) (hB : H.get B = some (.cells 197 false (shL (true, true, false, false, false, false)))) (m : Nat) (hk4 : True)
    (hd : ∀ h, lenA Try.prog 34 d h = some (.int .i64 dl)) (ht : ∀ h, lenA Try.prog 34 t h = some (.int .i64 tl)) (hr : ∀ h, lenA Try.prog 70 r h = some (.int .i64 rl)) (τ : Tm) (T : FiT τ A B) :
    ∃ τ', ((fin = false ∧ dl = 0 ∧ tl = 0 ∧ rl = 0) ∧ evAt Try.prog (ev Try.prog m) m 50 15 τ H = evAt Try.prog (ev Try.prog m) m 50 31 τ' H ∧ FiT τ' A B) ∨
      (¬ (fin = false ∧ dl = 0 ∧ tl = 0 ∧ rl = 0) ∧ evAt Try.prog (ev Try.prog m) m 50 15 τ H = some (.ret, τ', H) ∧ τ' 2 = .bool false) := by
  obtain ⟨t1, t3⟩ := T
  simp only [frC, shL] at hA hB
  rw [at_M Try.func50 15 (by decide) 4 (by decide) (by kernel_rfl) [31]]
  by_cases z2 : fin = false
  rotate_left 1
  · have w2 : fin = true := by simpa using z2
    exact ⟨_, .inr ⟨fun h => z2 h.1, by simp [Try.f50, t1, t3, hA, hB, ldVar, hd, ht, hr, w2]; rfl, by simp⟩⟩
  subst z2
  by_cases z3 : dl = 0
  rotate_left 1
  · have w3 : 0 < dl := by omega
    exact ⟨_, .inr ⟨fun h => z3 h.2.1, by simp [Try.f50, t1, t3, hA, hB, ldVar, hd, ht, hr, w3]; rfl, by simp⟩⟩
  subst z3
  by_cases z4 : tl = 0
  rotate_left 1
  · have w4 : 0 < tl := by omega
    exact ⟨_, .inr ⟨fun h => z4 h.2.2.1, by simp [Try.f50, t1, t3, hA, hB, ldVar, hd, ht, hr, w4]; rfl, by simp⟩⟩
  subst z4
  by_cases z5 : rl = 0
  rotate_left 1
  · have w5 : 0 < rl := by omega
    exact ⟨_, .inr ⟨fun h => z5 h.2.2.2, by simp [Try.f50, t1, t3, hA, hB, ldVar, hd, ht, hr, w5]; rfl, by simp⟩⟩
  subst z5
  exact ⟨_, .inl ⟨⟨rfl, rfl, rfl, rfl⟩, by simp [Try.f50, t1, t3, hA, hB, ldVar, hd, ht, hr]; rfl, by simp [t1], by simp [t3]⟩⟩
theorem fi1_4 {k a b c : Int} {fin : Bool} {d t r : AV} {dl tl rl : Nat} {A B : Nat} {H : AH}
    (hA : H.get A = some (.cells 72 false (frC k a b c fin d t r))) (hB : H.get B = some (.cells 197 false (shL (true, false, false, true, false, false)))) (m : Nat) (hk4 : k ≠ 4)
    (hd : ∀ h, lenA Try.prog 34 d h = some (.int .i64 dl)) (ht : ∀ h, lenA Try.prog 34 t h = some (.int .i64 tl)) (hr : ∀ h, lenA Try.prog 70 r h = some (.int .i64 rl)) (τ : Tm) (T : FiT τ A B) :
    ∃ τ', ((b = 0 ∧ fin = false ∧ tl = 0 ∧ rl = 0) ∧ evAt Try.prog (ev Try.prog m) m 50 15 τ H = evAt Try.prog (ev Try.prog m) m 50 31 τ' H ∧ FiT τ' A B) ∨
      (¬ (b = 0 ∧ fin = false ∧ tl = 0 ∧ rl = 0) ∧ evAt Try.prog (ev Try.prog m) m 50 15 τ H = some (.ret, τ', H) ∧ τ' 2 = .bool false) := by
  obtain ⟨t1, t3⟩ := T
  simp only [frC, shL] at hA hB
  rw [at_M Try.func50 15 (by decide) 4 (by decide) (by kernel_rfl) [31]]
  have k4 : (k != 4) = true := by simpa using hk4
  by_cases z1 : b = 0
  rotate_left 1
  · have w1 : (b != 0) = true := by simpa using z1
    exact ⟨_, .inr ⟨fun h => z1 h.1, by simp [Try.f50, t1, t3, hA, hB, ldVar, hd, ht, hr, k4, w1]; rfl, by simp⟩⟩
  subst z1
  by_cases z2 : fin = false
  rotate_left 1
  · have w2 : fin = true := by simpa using z2
    exact ⟨_, .inr ⟨fun h => z2 h.2.1, by simp [Try.f50, t1, t3, hA, hB, ldVar, hd, ht, hr, k4, w2]; rfl, by simp⟩⟩
  subst z2
  by_cases z4 : tl = 0
  rotate_left 1
  · have w4 : 0 < tl := by omega
    exact ⟨_, .inr ⟨fun h => z4 h.2.2.1, by simp [Try.f50, t1, t3, hA, hB, ldVar, hd, ht, hr, k4, w4]; rfl, by simp⟩⟩
  subst z4
  by_cases z5 : rl = 0
  rotate_left 1
  · have w5 : 0 < rl := by omega
    exact ⟨_, .inr ⟨fun h => z5 h.2.2.2, by simp [Try.f50, t1, t3, hA, hB, ldVar, hd, ht, hr, k4, w5]; rfl, by simp⟩⟩
  subst z5
  exact ⟨_, .inl ⟨⟨rfl, rfl, rfl, rfl⟩, by simp [Try.f50, t1, t3, hA, hB, ldVar, hd, ht, hr, k4]; rfl, by simp [t1], by simp [t3]⟩⟩
theorem fi1_5 {k a b c : Int} {fin : Bool} {d t r : AV} {dl tl rl : Nat} {A B : Nat} {H : AH}
    (hA : H.get A = some (.cells 72 false (frC k a b c fin d t r))) (hB : H.get B = some (.cells 197 false (shL (false, false, false, true, false, false)))) (m : Nat) (hk4 : k ≠ 4)
    (hd : ∀ h, lenA Try.prog 34 d h = some (.int .i64 dl)) (ht : ∀ h, lenA Try.prog 34 t h = some (.int .i64 tl)) (hr : ∀ h, lenA Try.prog 70 r h = some (.int .i64 rl)) (τ : Tm) (T : FiT τ A B) :
    ∃ τ', ((a = 0 ∧ b = 0 ∧ fin = false ∧ tl = 0 ∧ rl = 0) ∧ evAt Try.prog (ev Try.prog m) m 50 15 τ H = evAt Try.prog (ev Try.prog m) m 50 31 τ' H ∧ FiT τ' A B) ∨
      (¬ (a = 0 ∧ b = 0 ∧ fin = false ∧ tl = 0 ∧ rl = 0) ∧ evAt Try.prog (ev Try.prog m) m 50 15 τ H = some (.ret, τ', H) ∧ τ' 2 = .bool false) := by
  obtain ⟨t1, t3⟩ := T
  simp only [frC, shL] at hA hB
  rw [at_M Try.func50 15 (by decide) 4 (by decide) (by kernel_rfl) [31]]
  have k4 : (k != 4) = true := by simpa using hk4
  by_cases z0 : a = 0
  rotate_left 1
  · have w0 : (a != 0) = true := by simpa using z0
    exact ⟨_, .inr ⟨fun h => z0 h.1, by simp [Try.f50, t1, t3, hA, hB, ldVar, hd, ht, hr, k4, w0]; rfl, by simp⟩⟩
  subst z0
  by_cases z1 : b = 0
  rotate_left 1
  · have w1 : (b != 0) = true := by simpa using z1
    exact ⟨_, .inr ⟨fun h => z1 h.2.1, by simp [Try.f50, t1, t3, hA, hB, ldVar, hd, ht, hr, k4, w1]; rfl, by simp⟩⟩
  subst z1
  by_cases z2 : fin = false
  rotate_left 1
  · have w2 : fin = true := by simpa using z2
    exact ⟨_, .inr ⟨fun h => z2 h.2.2.1, by simp [Try.f50, t1, t3, hA, hB, ldVar, hd, ht, hr, k4, w2]; rfl, by simp⟩⟩
  subst z2
  by_cases z4 : tl = 0
  rotate_left 1
  · have w4 : 0 < tl := by omega
    exact ⟨_, .inr ⟨fun h => z4 h.2.2.2.1, by simp [Try.f50, t1, t3, hA, hB, ldVar, hd, ht, hr, k4, w4]; rfl, by simp⟩⟩
  subst z4
  by_cases z5 : rl = 0
  rotate_left 1
  · have w5 : 0 < rl := by omega
    exact ⟨_, .inr ⟨fun h => z5 h.2.2.2.2, by simp [Try.f50, t1, t3, hA, hB, ldVar, hd, ht, hr, k4, w5]; rfl, by simp⟩⟩
  subst z5
  exact ⟨_, .inl ⟨⟨rfl, rfl, rfl, rfl, rfl⟩, by simp [Try.f50, t1, t3, hA, hB, ldVar, hd, ht, hr, k4]; rfl, by simp [t1], by simp [t3]⟩⟩
theorem fi1_6 {k a b c : Int} {fin : Bool} {d t r : AV} {dl tl rl : Nat} {A B : Nat} {H : AH}
    (hA : H.get A = some (.cells 72 false (frC k a b c fin d t r))) (hB : H.get B = some (.cells 197 false (shL (true, true, true, true, false, false)))) (m : Nat) (hk4 : True)
    (hd : ∀ h, lenA Try.prog 34 d h = some (.int .i64 dl)) (ht : ∀ h, lenA Try.prog 34 t h = some (.int .i64 tl)) (hr : ∀ h, lenA Try.prog 70 r h = some (.int .i64 rl)) (τ : Tm) (T : FiT τ A B) :
    ∃ τ', ((tl = 0 ∧ rl = 0) ∧ evAt Try.prog (ev Try.prog m) m 50 15 τ H = evAt Try.prog (ev Try.prog m) m 50 31 τ' H ∧ FiT τ' A B) ∨
      (¬ (tl = 0 ∧ rl = 0) ∧ evAt Try.prog (ev Try.prog m) m 50 15 τ H = some (.ret, τ', H) ∧ τ' 2 = .bool false) := by
  obtain ⟨t1, t3⟩ := T
  simp only [frC, shL] at hA hB
  rw [at_M Try.func50 15 (by decide) 4 (by decide) (by kernel_rfl) [31]]
  by_cases z4 : tl = 0
  rotate_left 1
  · have w4 : 0 < tl := by omega
    exact ⟨_, .inr ⟨fun h => z4 h.1, by simp [Try.f50, t1, t3, hA, hB, ldVar, hd, ht, hr, w4]; rfl, by simp⟩⟩
  subst z4
  by_cases z5 : rl = 0
  rotate_left 1
  · have w5 : 0 < rl := by omega
    exact ⟨_, .inr ⟨fun h => z5 h.2, by simp [Try.f50, t1, t3, hA, hB, ldVar, hd, ht, hr, w5]; rfl, by simp⟩⟩
  subst z5
  exact ⟨_, .inl ⟨⟨rfl, rfl⟩, by simp [Try.f50, t1, t3, hA, hB, ldVar, hd, ht, hr]; rfl, by simp [t1], by simp [t3]⟩⟩
theorem fi1_7 {k a b c : Int} {fin : Bool} {d t r : AV} {dl tl rl : Nat} {A B : Nat} {H : AH}
    (hA : H.get A = some (.cells 72 false (frC k a b c fin d t r))) (hB : H.get B = some (.cells 197 false (shL (true, true, false, true, true, false)))) (m : Nat) (hk4 : True)
    (hd : ∀ h, lenA Try.prog 34 d h = some (.int .i64 dl)) (ht : ∀ h, lenA Try.prog 34 t h = some (.int .i64 tl)) (hr : ∀ h, lenA Try.prog 70 r h = some (.int .i64 rl)) (τ : Tm) (T : FiT τ A B) :
    ∃ τ', ((fin = false ∧ rl = 0) ∧ evAt Try.prog (ev Try.prog m) m 50 15 τ H = evAt Try.prog (ev Try.prog m) m 50 31 τ' H ∧ FiT τ' A B) ∨
      (¬ (fin = false ∧ rl = 0) ∧ evAt Try.prog (ev Try.prog m) m 50 15 τ H = some (.ret, τ', H) ∧ τ' 2 = .bool false) := by
  obtain ⟨t1, t3⟩ := T
  simp only [frC, shL] at hA hB
  rw [at_M Try.func50 15 (by decide) 4 (by decide) (by kernel_rfl) [31]]
  by_cases z2 : fin = false
  rotate_left 1
  · have w2 : fin = true := by simpa using z2
    exact ⟨_, .inr ⟨fun h => z2 h.1, by simp [Try.f50, t1, t3, hA, hB, ldVar, hd, ht, hr, w2]; rfl, by simp⟩⟩
  subst z2
  by_cases z5 : rl = 0
  rotate_left 1
  · have w5 : 0 < rl := by omega
    exact ⟨_, .inr ⟨fun h => z5 h.2, by simp [Try.f50, t1, t3, hA, hB, ldVar, hd, ht, hr, w5]; rfl, by simp⟩⟩
  subst z5
  exact ⟨_, .inl ⟨⟨rfl, rfl⟩, by simp [Try.f50, t1, t3, hA, hB, ldVar, hd, ht, hr]; rfl, by simp [t1], by simp [t3]⟩⟩
theorem fi1_8 {k a b c : Int} {fin : Bool} {d t r : AV} {dl tl rl : Nat} {A B : Nat} {H : AH}
    (hA : H.get A = some (.cells 72 false (frC k a b c fin d t r))) (hB : H.get B = some (.cells 197 false (shL (true, true, false, true, false, false)))) (m : Nat) (hk4 : True)
    (hd : ∀ h, lenA Try.prog 34 d h = some (.int .i64 dl)) (ht : ∀ h, lenA Try.prog 34 t h = some (.int .i64 tl)) (hr : ∀ h, lenA Try.prog 70 r h = some (.int .i64 rl)) (τ : Tm) (T : FiT τ A B) :
    ∃ τ', ((fin = false ∧ tl = 0 ∧ rl = 0) ∧ evAt Try.prog (ev Try.prog m) m 50 15 τ H = evAt Try.prog (ev Try.prog m) m 50 31 τ' H ∧ FiT τ' A B) ∨
      (¬ (fin = false ∧ tl = 0 ∧ rl = 0) ∧ evAt Try.prog (ev Try.prog m) m 50 15 τ H = some (.ret, τ', H) ∧ τ' 2 = .bool false) := by
  obtain ⟨t1, t3⟩ := T
  simp only [frC, shL] at hA hB
  rw [at_M Try.func50 15 (by decide) 4 (by decide) (by kernel_rfl) [31]]
  by_cases z2 : fin = false
  rotate_left 1
  · have w2 : fin = true := by simpa using z2
    exact ⟨_, .inr ⟨fun h => z2 h.1, by simp [Try.f50, t1, t3, hA, hB, ldVar, hd, ht, hr, w2]; rfl, by simp⟩⟩
  subst z2
  by_cases z4 : tl = 0
  rotate_left 1
  · have w4 : 0 < tl := by omega
    exact ⟨_, .inr ⟨fun h => z4 h.2.1, by simp [Try.f50, t1, t3, hA, hB, ldVar, hd, ht, hr, w4]; rfl, by simp⟩⟩
  subst z4
  by_cases z5 : rl = 0
  rotate_left 1
  · have w5 : 0 < rl := by omega
    exact ⟨_, .inr ⟨fun h => z5 h.2.2, by simp [Try.f50, t1, t3, hA, hB, ldVar, hd, ht, hr, w5]; rfl, by simp⟩⟩
  subst z5
  exact ⟨_, .inl ⟨⟨rfl, rfl, rfl⟩, by simp [Try.f50, t1, t3, hA, hB, ldVar, hd, ht, hr]; rfl, by simp [t1], by simp [t3]⟩⟩
end Go.Ev

/- Whether a frame is right, in the program: the bounds of a kind. -/
namespace Go.Ev
open Go Go.Proofs
set_option linter.unusedSimpArgs false
set_option linter.unusedVariables false

theorem fi2 {k a b c : Int} {fin : Bool} {d t r : AV} {dl : Nat} {A B : Nat} {H : AH}
    (hA : H.get A = some (.cells 72 false (frC k a b c fin d t r))) (m : Nat) (hd : ∀ h, lenA Try.prog 34 d h = some (.int .i64 dl)) (τ : Tm) (T : FiT τ A B) :
    ∃ τ', ((c = 0 ∨ k = 4) ∧ evAt Try.prog (ev Try.prog m) m 50 31 τ H = evAt Try.prog (ev Try.prog m) m 50 127 τ' H ∧ FiT τ' A B ∧ τ' 5 = .int .i64 dl) ∨
      (¬ (c = 0 ∨ k = 4) ∧ evAt Try.prog (ev Try.prog m) m 50 31 τ H = some (.ret, τ', H) ∧ τ' 2 = .bool false) := by
  obtain ⟨t1, t3⟩ := T
  simp only [frC] at hA
  rw [at_M Try.func50 31 (by decide) 5 (by decide) (by kernel_rfl) [127]]
  by_cases c0 : c = 0
  · subst c0
    exact ⟨_, .inl ⟨.inl rfl, by simp [Try.f50, t1, t3, hA, hd, ldVar]; rfl, ⟨by simp [t1], by simp [t3]⟩, by simp⟩⟩
  · have c0' : (c != 0) = true := by simpa using c0
    by_cases k4 : k = 4
    · subst k4
      exact ⟨_, .inl ⟨.inr rfl, by simp [Try.f50, t1, t3, hA, hd, ldVar, c0']; rfl, ⟨by simp [t1], by simp [t3]⟩, by simp⟩⟩
    · have k4' : (k != 4) = true := by simpa using k4
      exact ⟨_, .inr ⟨fun h => by rcases h with h | h; exact c0 h; exact k4 h, by simp [Try.f50, t1, t3, hA, hd, ldVar, c0', k4']; rfl, by simp⟩⟩
structure FiS (τ : Tm) (A : Nat) (k : Int) (dl : Nat) : Prop where
  t1 : τ 1 = .ptr A 0
  t5 : τ 5 = .int .i64 dl
  tk : τ 109 = .int .i64 k
theorem fiS_1018 {A dl : Nat} (k : Int) (h0 : ¬ (k = 0)) (m : Nat) (τ : Tm) (H : AH) (S : FiS τ A k dl) :
    ∃ τ', evAt Try.prog (ev Try.prog m) m 50 1018 τ H = evAt Try.prog (ev Try.prog m) m 50 4075 τ' H ∧ FiS τ' A k dl := by
  obtain ⟨t1, t5, tk⟩ := S
  rw [at_M Try.func50 1018 (by decide) 10 (by decide) (by kernel_rfl) [4075]]
  exact ⟨_, by simp [Try.f50, tk, beqF, h0]; rfl, by simp [t1], by simp [t5], by simp [tk]⟩
theorem fiS_4075 {A dl : Nat} (k : Int) (h2 : ¬ (k = 2)) (m : Nat) (τ : Tm) (H : AH) (S : FiS τ A k dl) :
    ∃ τ', evAt Try.prog (ev Try.prog m) m 50 4075 τ H = evAt Try.prog (ev Try.prog m) m 50 16303 τ' H ∧ FiS τ' A k dl := by
  obtain ⟨t1, t5, tk⟩ := S
  rw [at_M Try.func50 4075 (by decide) 12 (by decide) (by kernel_rfl) [16303]]
  exact ⟨_, by simp [Try.f50, tk, beqF, h2]; rfl, by simp [t1], by simp [t5], by simp [tk]⟩
theorem fiS_16303 {A dl : Nat} (k : Int) (h6 : ¬ (k = 6)) (m : Nat) (τ : Tm) (H : AH) (S : FiS τ A k dl) :
    ∃ τ', evAt Try.prog (ev Try.prog m) m 50 16303 τ H = evAt Try.prog (ev Try.prog m) m 50 65215 τ' H ∧ FiS τ' A k dl := by
  obtain ⟨t1, t5, tk⟩ := S
  rw [at_M Try.func50 16303 (by decide) 14 (by decide) (by kernel_rfl) [65215]]
  exact ⟨_, by simp [Try.f50, tk, beqF, h6]; rfl, by simp [t1], by simp [t5], by simp [tk]⟩
theorem fiS_65215 {A dl : Nat} (k : Int) (h7 : ¬ (k = 7)) (m : Nat) (τ : Tm) (H : AH) (S : FiS τ A k dl) :
    ∃ τ', evAt Try.prog (ev Try.prog m) m 50 65215 τ H = evAt Try.prog (ev Try.prog m) m 50 260863 τ' H ∧ FiS τ' A k dl := by
  obtain ⟨t1, t5, tk⟩ := S
  rw [at_M Try.func50 65215 (by decide) 16 (by decide) (by kernel_rfl) [260863]]
  exact ⟨_, by simp [Try.f50, tk, beqF, h7]; rfl, by simp [t1], by simp [t5], by simp [tk]⟩
theorem fiS_260863 {A dl : Nat} (k : Int) (h8 : ¬ (k = 8)) (m : Nat) (τ : Tm) (H : AH) (S : FiS τ A k dl) :
    ∃ τ', evAt Try.prog (ev Try.prog m) m 50 260863 τ H = evAt Try.prog (ev Try.prog m) m 50 1043455 τ' H ∧ FiS τ' A k dl := by
  obtain ⟨t1, t5, tk⟩ := S
  rw [at_M Try.func50 260863 (by decide) 18 (by decide) (by kernel_rfl) [1043455]]
  exact ⟨_, by simp [Try.f50, tk, beqF, h8]; rfl, by simp [t1], by simp [t5], by simp [tk]⟩
theorem fiS_1043455 {A dl : Nat} (k : Int) (h18 : ¬ (k = 18)) (h22 : ¬ (k = 22)) (m : Nat) (τ : Tm) (H : AH) (S : FiS τ A k dl) :
    ∃ τ', evAt Try.prog (ev Try.prog m) m 50 1043455 τ H = evAt Try.prog (ev Try.prog m) m 50 4173823 τ' H ∧ FiS τ' A k dl := by
  obtain ⟨t1, t5, tk⟩ := S
  rw [at_M Try.func50 1043455 (by decide) 20 (by decide) (by kernel_rfl) [4173823]]
  exact ⟨_, by simp [Try.f50, tk, beqF, h18, h22]; rfl, by simp [t1], by simp [t5], by simp [tk]⟩
theorem fiS_4173823 {A dl : Nat} (k : Int) (h24 : ¬ (k = 24)) (m : Nat) (τ : Tm) (H : AH) (S : FiS τ A k dl) :
    ∃ τ', evAt Try.prog (ev Try.prog m) m 50 4173823 τ H = evAt Try.prog (ev Try.prog m) m 50 16695295 τ' H ∧ FiS τ' A k dl := by
  obtain ⟨t1, t5, tk⟩ := S
  rw [at_M Try.func50 4173823 (by decide) 22 (by decide) (by kernel_rfl) [16695295]]
  exact ⟨_, by simp [Try.f50, tk, beqF, h24]; rfl, by simp [t1], by simp [t5], by simp [tk]⟩
theorem fiS_16695295 {A dl : Nat} (k : Int) (h26 : ¬ (k = 26)) (h27 : ¬ (k = 27)) (m : Nat) (τ : Tm) (H : AH) (S : FiS τ A k dl) :
    ∃ τ', evAt Try.prog (ev Try.prog m) m 50 16695295 τ H = evAt Try.prog (ev Try.prog m) m 50 66781183 τ' H ∧ FiS τ' A k dl := by
  obtain ⟨t1, t5, tk⟩ := S
  rw [at_M Try.func50 16695295 (by decide) 24 (by decide) (by kernel_rfl) [66781183]]
  exact ⟨_, by simp [Try.f50, tk, beqF, h26, h27]; rfl, by simp [t1], by simp [t5], by simp [tk]⟩
theorem fiS_66781183 {A dl : Nat} (k : Int) (h28 : ¬ (k = 28)) (h29 : ¬ (k = 29)) (m : Nat) (τ : Tm) (H : AH) (S : FiS τ A k dl) :
    ∃ τ', evAt Try.prog (ev Try.prog m) m 50 66781183 τ H = evAt Try.prog (ev Try.prog m) m 50 267124735 τ' H ∧ FiS τ' A k dl := by
  obtain ⟨t1, t5, tk⟩ := S
  rw [at_M Try.func50 66781183 (by decide) 26 (by decide) (by kernel_rfl) [267124735]]
  exact ⟨_, by simp [Try.f50, tk, beqF, h28, h29]; rfl, by simp [t1], by simp [t5], by simp [tk]⟩
theorem fiE {A dl : Nat} (k : Int) (h48 : ¬ (k = 48)) (m : Nat) (τ : Tm) (H : AH) (S : FiS τ A k dl) :
    ∃ τ', evAt Try.prog (ev Try.prog m) m 50 267124735 τ H = some (.normal, τ', H) := by
  obtain ⟨t1, t5, tk⟩ := S
  rw [at_M Try.func50 267124735 (by decide) 28 (by decide) (by kernel_rfl) []]
  exact ⟨_, by simp [Try.f50, tk, beqF, h48]; rfl⟩
theorem fiF_0 {a b c : Int} {fin : Bool} {d t r : AV} {dl : Nat} {A : Nat} {H : AH}
    (hA : H.get A = some (.cells 72 false (frC 0 a b c fin d t r))) (m : Nat) (τ : Tm) (S : FiS τ A 0 dl) (hl : dl ≤ 1048576) :
    ∃ τ', evAt Try.prog (ev Try.prog m) m 50 1018 τ H = some (.ret, τ', H) ∧ τ' 2 = .bool (decide (1 ≤ a ∧ a ≤ 1500)) := by
  obtain ⟨t1, t5, tk⟩ := S
  simp only [frC] at hA
  have w1 : IntKind.i64.wrap (4611686018427387903 - (dl : Int)) = 4611686018427387903 - (dl : Int) := wrap_i64 (n := 4611686018427387903 - (dl : Int)) (by omega) (by omega)
  rw [at_M Try.func50 1018 (by decide) 10 (by decide) (by kernel_rfl) []]
  by_cases q0 : 1 ≤ a
  rotate_left 1
  · have q0' : (1 ≤ a) = False := eq_false q0
    exact ⟨_, by simp [Try.f50, t1, t5, tk, hA, ldVar, w1, q0']; rfl, by simp [q0']⟩
  exact ⟨_, by simp [Try.f50, t1, t5, tk, hA, ldVar, w1, q0]; rfl, by simp [q0]⟩
theorem fiF_6 {a b c : Int} {fin : Bool} {d t r : AV} {dl : Nat} {A : Nat} {H : AH}
    (hA : H.get A = some (.cells 72 false (frC 6 a b c fin d t r))) (m : Nat) (τ : Tm) (S : FiS τ A 6 dl) (hl : dl ≤ 1048576) :
    ∃ τ', evAt Try.prog (ev Try.prog m) m 50 16303 τ H = some (.ret, τ', H) ∧ τ' 2 = .bool (decide ((dl : Int) ≤ 1500 ∧ a ≤ 4611686018427387903 - dl)) := by
  obtain ⟨t1, t5, tk⟩ := S
  simp only [frC] at hA
  have w1 : IntKind.i64.wrap (4611686018427387903 - (dl : Int)) = 4611686018427387903 - (dl : Int) := wrap_i64 (n := 4611686018427387903 - (dl : Int)) (by omega) (by omega)
  rw [at_M Try.func50 16303 (by decide) 14 (by decide) (by kernel_rfl) []]
  by_cases q0 : (dl : Int) ≤ 1500
  rotate_left 1
  · have q0' : ((dl : Int) ≤ 1500) = False := eq_false q0
    exact ⟨_, by simp [Try.f50, t1, t5, tk, hA, ldVar, w1, q0']; rfl, by simp [q0']⟩
  exact ⟨_, by simp [Try.f50, t1, t5, tk, hA, ldVar, w1, q0]; rfl, by simp [q0]⟩
theorem fiF_7 {a b c : Int} {fin : Bool} {d t r : AV} {dl : Nat} {A : Nat} {H : AH}
    (hA : H.get A = some (.cells 72 false (frC 7 a b c fin d t r))) (m : Nat) (τ : Tm) (S : FiS τ A 7 dl) (hl : dl ≤ 1048576) :
    ∃ τ', evAt Try.prog (ev Try.prog m) m 50 65215 τ H = some (.ret, τ', H) ∧ τ' 2 = .bool (decide (1 ≤ (dl : Int) ∧ (dl : Int) ≤ 64)) := by
  obtain ⟨t1, t5, tk⟩ := S
  simp only [frC] at hA
  have w1 : IntKind.i64.wrap (4611686018427387903 - (dl : Int)) = 4611686018427387903 - (dl : Int) := wrap_i64 (n := 4611686018427387903 - (dl : Int)) (by omega) (by omega)
  rw [at_M Try.func50 65215 (by decide) 16 (by decide) (by kernel_rfl) []]
  by_cases q0 : 1 ≤ (dl : Int)
  rotate_left 1
  · have q0' : (1 ≤ (dl : Int)) = False := eq_false q0
    exact ⟨_, by simp [Try.f50, t1, t5, tk, hA, ldVar, w1, q0']; rfl, by simp [q0']⟩
  exact ⟨_, by simp [Try.f50, t1, t5, tk, hA, ldVar, w1, q0]; rfl, by simp [q0]⟩
theorem fiF_8 {a b c : Int} {fin : Bool} {d t r : AV} {dl : Nat} {A : Nat} {H : AH}
    (hA : H.get A = some (.cells 72 false (frC 8 a b c fin d t r))) (m : Nat) (τ : Tm) (S : FiS τ A 8 dl) (hl : dl ≤ 1048576) :
    ∃ τ', evAt Try.prog (ev Try.prog m) m 50 260863 τ H = some (.ret, τ', H) ∧ τ' 2 = .bool (decide ((dl : Int) ≤ 1500 ∧ b ≤ 4611686018427387903 - dl)) := by
  obtain ⟨t1, t5, tk⟩ := S
  simp only [frC] at hA
  have w1 : IntKind.i64.wrap (4611686018427387903 - (dl : Int)) = 4611686018427387903 - (dl : Int) := wrap_i64 (n := 4611686018427387903 - (dl : Int)) (by omega) (by omega)
  rw [at_M Try.func50 260863 (by decide) 18 (by decide) (by kernel_rfl) []]
  by_cases q0 : (dl : Int) ≤ 1500
  rotate_left 1
  · have q0' : ((dl : Int) ≤ 1500) = False := eq_false q0
    exact ⟨_, by simp [Try.f50, t1, t5, tk, hA, ldVar, w1, q0']; rfl, by simp [q0']⟩
  exact ⟨_, by simp [Try.f50, t1, t5, tk, hA, ldVar, w1, q0]; rfl, by simp [q0]⟩
theorem fiF_18 {a b c : Int} {fin : Bool} {d t r : AV} {dl : Nat} {A : Nat} {H : AH}
    (hA : H.get A = some (.cells 72 false (frC 18 a b c fin d t r))) (m : Nat) (τ : Tm) (S : FiS τ A 18 dl) (hl : dl ≤ 1048576) :
    ∃ τ', evAt Try.prog (ev Try.prog m) m 50 1043455 τ H = some (.ret, τ', H) ∧ τ' 2 = .bool (decide (a ≤ 1152921504606846976 ∧ b ≤ 1)) := by
  obtain ⟨t1, t5, tk⟩ := S
  simp only [frC] at hA
  have w1 : IntKind.i64.wrap (4611686018427387903 - (dl : Int)) = 4611686018427387903 - (dl : Int) := wrap_i64 (n := 4611686018427387903 - (dl : Int)) (by omega) (by omega)
  rw [at_M Try.func50 1043455 (by decide) 20 (by decide) (by kernel_rfl) []]
  by_cases q0 : a ≤ 1152921504606846976
  rotate_left 1
  · have q0' : (a ≤ 1152921504606846976) = False := eq_false q0
    exact ⟨_, by simp [Try.f50, t1, t5, tk, hA, ldVar, w1, q0']; rfl, by simp [q0']⟩
  exact ⟨_, by simp [Try.f50, t1, t5, tk, hA, ldVar, w1, q0]; rfl, by simp [q0]⟩
theorem fiF_22 {a b c : Int} {fin : Bool} {d t r : AV} {dl : Nat} {A : Nat} {H : AH}
    (hA : H.get A = some (.cells 72 false (frC 22 a b c fin d t r))) (m : Nat) (τ : Tm) (S : FiS τ A 22 dl) (hl : dl ≤ 1048576) :
    ∃ τ', evAt Try.prog (ev Try.prog m) m 50 1043455 τ H = some (.ret, τ', H) ∧ τ' 2 = .bool (decide (a ≤ 1152921504606846976 ∧ b ≤ 1)) := by
  obtain ⟨t1, t5, tk⟩ := S
  simp only [frC] at hA
  have w1 : IntKind.i64.wrap (4611686018427387903 - (dl : Int)) = 4611686018427387903 - (dl : Int) := wrap_i64 (n := 4611686018427387903 - (dl : Int)) (by omega) (by omega)
  rw [at_M Try.func50 1043455 (by decide) 20 (by decide) (by kernel_rfl) []]
  by_cases q0 : a ≤ 1152921504606846976
  rotate_left 1
  · have q0' : (a ≤ 1152921504606846976) = False := eq_false q0
    exact ⟨_, by simp [Try.f50, t1, t5, tk, hA, ldVar, w1, q0']; rfl, by simp [q0']⟩
  exact ⟨_, by simp [Try.f50, t1, t5, tk, hA, ldVar, w1, q0]; rfl, by simp [q0]⟩
theorem fiF_24 {a b c : Int} {fin : Bool} {d t r : AV} {dl tl : Nat} {A : Nat} {H : AH} (ht : ∀ h, lenA Try.prog 34 t h = some (.int .i64 tl))
    (hA : H.get A = some (.cells 72 false (frC 24 a b c fin d t r))) (m : Nat) (τ : Tm) (S : FiS τ A 24 dl) (hl : dl ≤ 1048576) :
    ∃ τ', evAt Try.prog (ev Try.prog m) m 50 4173823 τ H = some (.ret, τ', H) ∧ τ' 2 = .bool (decide (b ≤ a ∧ 1 ≤ (dl : Int) ∧ (dl : Int) ≤ 8 ∧ (tl : Int) = 8)) := by
  obtain ⟨t1, t5, tk⟩ := S
  simp only [frC] at hA
  have w1 : IntKind.i64.wrap (4611686018427387903 - (dl : Int)) = 4611686018427387903 - (dl : Int) := wrap_i64 (n := 4611686018427387903 - (dl : Int)) (by omega) (by omega)
  rw [at_M Try.func50 4173823 (by decide) 22 (by decide) (by kernel_rfl) []]
  by_cases q0 : b ≤ a
  rotate_left 1
  · have q0' : (b ≤ a) = False := eq_false q0
    exact ⟨_, by simp [Try.f50, t1, t5, tk, hA, ldVar, w1, ht, q0']; rfl, by simp [q0']⟩
  by_cases q1 : 1 ≤ (dl : Int)
  rotate_left 1
  · have q1' : (1 ≤ (dl : Int)) = False := eq_false q1
    exact ⟨_, by simp [Try.f50, t1, t5, tk, hA, ldVar, w1, ht, q0, q1']; rfl, by simp [q1']⟩
  by_cases q2 : (dl : Int) ≤ 8
  rotate_left 1
  · have q2' : ((dl : Int) ≤ 8) = False := eq_false q2
    exact ⟨_, by simp [Try.f50, t1, t5, tk, hA, ldVar, w1, ht, q0, q1, q2']; rfl, by simp [q2']⟩
  by_cases ql : (tl : Int) = 8
  · exact ⟨_, by simp [Try.f50, t1, t5, tk, hA, ldVar, w1, ht, q0, q1, q2, ql]; rfl, by simp [ql, q0, q1, q2]⟩
  · have ql' : ((tl : Int) == 8) = false := by simpa using ql
    exact ⟨_, by simp [Try.f50, t1, t5, tk, hA, ldVar, w1, ht, q0, q1, q2, ql']; rfl, by simp [ql, q0, q1, q2]⟩
theorem fiF_26 {a b c : Int} {fin : Bool} {d t r : AV} {dl : Nat} {A : Nat} {H : AH}
    (hA : H.get A = some (.cells 72 false (frC 26 a b c fin d t r))) (m : Nat) (τ : Tm) (S : FiS τ A 26 dl) (hl : dl ≤ 1048576) :
    ∃ τ', evAt Try.prog (ev Try.prog m) m 50 16695295 τ H = some (.ret, τ', H) ∧ τ' 2 = .bool (decide ((dl : Int) = 8)) := by
  obtain ⟨t1, t5, tk⟩ := S
  simp only [frC] at hA
  have w1 : IntKind.i64.wrap (4611686018427387903 - (dl : Int)) = 4611686018427387903 - (dl : Int) := wrap_i64 (n := 4611686018427387903 - (dl : Int)) (by omega) (by omega)
  rw [at_M Try.func50 16695295 (by decide) 24 (by decide) (by kernel_rfl) []]
  by_cases ql : (dl : Int) = 8
  · exact ⟨_, by simp [Try.f50, t1, t5, tk, hA, ldVar, w1, ql]; rfl, by simp [ql]⟩
  · have ql' : ((dl : Int) == 8) = false := by simpa using ql
    exact ⟨_, by simp [Try.f50, t1, t5, tk, hA, ldVar, w1, ql']; rfl, by simp [ql]⟩
theorem fiF_27 {a b c : Int} {fin : Bool} {d t r : AV} {dl : Nat} {A : Nat} {H : AH}
    (hA : H.get A = some (.cells 72 false (frC 27 a b c fin d t r))) (m : Nat) (τ : Tm) (S : FiS τ A 27 dl) (hl : dl ≤ 1048576) :
    ∃ τ', evAt Try.prog (ev Try.prog m) m 50 16695295 τ H = some (.ret, τ', H) ∧ τ' 2 = .bool (decide ((dl : Int) = 8)) := by
  obtain ⟨t1, t5, tk⟩ := S
  simp only [frC] at hA
  have w1 : IntKind.i64.wrap (4611686018427387903 - (dl : Int)) = 4611686018427387903 - (dl : Int) := wrap_i64 (n := 4611686018427387903 - (dl : Int)) (by omega) (by omega)
  rw [at_M Try.func50 16695295 (by decide) 24 (by decide) (by kernel_rfl) []]
  by_cases ql : (dl : Int) = 8
  · exact ⟨_, by simp [Try.f50, t1, t5, tk, hA, ldVar, w1, ql]; rfl, by simp [ql]⟩
  · have ql' : ((dl : Int) == 8) = false := by simpa using ql
    exact ⟨_, by simp [Try.f50, t1, t5, tk, hA, ldVar, w1, ql']; rfl, by simp [ql]⟩
theorem fiF_28 {a b c : Int} {fin : Bool} {d t r : AV} {dl : Nat} {A : Nat} {H : AH}
    (hA : H.get A = some (.cells 72 false (frC 28 a b c fin d t r))) (m : Nat) (τ : Tm) (S : FiS τ A 28 dl) (hl : dl ≤ 1048576) :
    ∃ τ', evAt Try.prog (ev Try.prog m) m 50 66781183 τ H = some (.ret, τ', H) ∧ τ' 2 = .bool (decide ((dl : Int) ≤ 200)) := by
  obtain ⟨t1, t5, tk⟩ := S
  simp only [frC] at hA
  have w1 : IntKind.i64.wrap (4611686018427387903 - (dl : Int)) = 4611686018427387903 - (dl : Int) := wrap_i64 (n := 4611686018427387903 - (dl : Int)) (by omega) (by omega)
  rw [at_M Try.func50 66781183 (by decide) 26 (by decide) (by kernel_rfl) []]
  exact ⟨_, by simp [Try.f50, t1, t5, tk, hA, ldVar, w1]; rfl, by simp⟩
theorem fiF_29 {a b c : Int} {fin : Bool} {d t r : AV} {dl : Nat} {A : Nat} {H : AH}
    (hA : H.get A = some (.cells 72 false (frC 29 a b c fin d t r))) (m : Nat) (τ : Tm) (S : FiS τ A 29 dl) (hl : dl ≤ 1048576) :
    ∃ τ', evAt Try.prog (ev Try.prog m) m 50 66781183 τ H = some (.ret, τ', H) ∧ τ' 2 = .bool (decide ((dl : Int) ≤ 200)) := by
  obtain ⟨t1, t5, tk⟩ := S
  simp only [frC] at hA
  have w1 : IntKind.i64.wrap (4611686018427387903 - (dl : Int)) = 4611686018427387903 - (dl : Int) := wrap_i64 (n := 4611686018427387903 - (dl : Int)) (by omega) (by omega)
  rw [at_M Try.func50 66781183 (by decide) 26 (by decide) (by kernel_rfl) []]
  exact ⟨_, by simp [Try.f50, t1, t5, tk, hA, ldVar, w1]; rfl, by simp⟩
theorem fiF_48 {a b c : Int} {fin : Bool} {d t r : AV} {dl : Nat} {A : Nat} {H : AH}
    (hA : H.get A = some (.cells 72 false (frC 48 a b c fin d t r))) (m : Nat) (τ : Tm) (S : FiS τ A 48 dl) (hl : dl ≤ 1048576) :
    ∃ τ', evAt Try.prog (ev Try.prog m) m 50 267124735 τ H = some (.ret, τ', H) ∧ τ' 2 = .bool (decide ((dl : Int) ≤ 1500)) := by
  obtain ⟨t1, t5, tk⟩ := S
  simp only [frC] at hA
  have w1 : IntKind.i64.wrap (4611686018427387903 - (dl : Int)) = 4611686018427387903 - (dl : Int) := wrap_i64 (n := 4611686018427387903 - (dl : Int)) (by omega) (by omega)
  rw [at_M Try.func50 267124735 (by decide) 28 (by decide) (by kernel_rfl) []]
  exact ⟨_, by simp [Try.f50, t1, t5, tk, hA, ldVar, w1]; rfl, by simp⟩
end Go.Ev

/- Whether a frame is right, in the program: the whole. -/
namespace Go.Ev
open Go Go.Proofs
set_option linter.unusedSimpArgs false
set_option linter.unusedVariables false

def shP (s : Shp) (a b : Int) (fin : Bool) (dl tl rl : Nat) : Prop :=
  (s.1 = true ∨ a = 0) ∧ (s.2.1 = true ∨ b = 0) ∧ (s.2.2.1 = true ∨ fin = false) ∧ (s.2.2.2.1 = true ∨ dl = 0) ∧ (s.2.2.2.2.1 = true ∨ tl = 0) ∧ (s.2.2.2.2.2 = true ∨ rl = 0)
theorem fi1 {k a b c : Int} {fin : Bool} {d t r : AV} {dl tl rl : Nat} {A B : Nat} {H : AH} (hk : kindIn k)
    (hA : H.get A = some (.cells 72 false (frC k a b c fin d t r))) (hB : H.get B = some (.cells 197 false (shL ((shapeL.lookup k).getD shN)))) (m : Nat)
    (hd : ∀ h, lenA Try.prog 34 d h = some (.int .i64 dl)) (ht : ∀ h, lenA Try.prog 34 t h = some (.int .i64 tl)) (hr : ∀ h, lenA Try.prog 70 r h = some (.int .i64 rl)) (τ : Tm) (T : FiT τ A B) :
    ∃ τ', (shP ((shapeL.lookup k).getD shN) a b fin dl tl rl ∧ evAt Try.prog (ev Try.prog m) m 50 15 τ H = evAt Try.prog (ev Try.prog m) m 50 31 τ' H ∧ FiT τ' A B) ∨
      (¬ shP ((shapeL.lookup k).getD shN) a b fin dl tl rl ∧ evAt Try.prog (ev Try.prog m) m 50 15 τ H = some (.ret, τ', H) ∧ τ' 2 = .bool false) := by
  simp only [kindIn] at hk
  rcases hk with rfl | rfl | rfl | rfl | rfl | rfl | rfl | rfl | rfl | rfl | rfl | rfl | rfl | rfl | rfl | rfl | rfl | rfl | rfl | rfl | rfl | rfl
  · obtain ⟨τ', g⟩ := fi1_0 hA hB m (by decide) hd ht hr τ T
    refine ⟨τ', ?_⟩
    simpa [shP, shapeL, List.lookup_cons] using g
  · obtain ⟨τ', g⟩ := fi1_1 hA hB m (by decide) hd ht hr τ T
    refine ⟨τ', ?_⟩
    simpa [shP, shapeL, List.lookup_cons] using g
  · obtain ⟨τ', g⟩ := fi1_2 hA hB m (by decide) hd ht hr τ T
    refine ⟨τ', ?_⟩
    simpa [shP, shapeL, List.lookup_cons] using g
  · obtain ⟨τ', g⟩ := fi1_3 hA hB m trivial hd ht hr τ T
    refine ⟨τ', ?_⟩
    simpa [shP, shapeL, List.lookup_cons] using g
  · obtain ⟨τ', g⟩ := fi1_3 hA hB m trivial hd ht hr τ T
    refine ⟨τ', ?_⟩
    simpa [shP, shapeL, List.lookup_cons] using g
  · obtain ⟨τ', g⟩ := fi1_4 hA hB m (by decide) hd ht hr τ T
    refine ⟨τ', ?_⟩
    simpa [shP, shapeL, List.lookup_cons] using g
  · obtain ⟨τ', g⟩ := fi1_5 hA hB m (by decide) hd ht hr τ T
    refine ⟨τ', ?_⟩
    simpa [shP, shapeL, List.lookup_cons] using g
  · obtain ⟨τ', g⟩ := fi1_6 hA hB m trivial hd ht hr τ T
    refine ⟨τ', ?_⟩
    simpa [shP, shapeL, List.lookup_cons] using g
  · obtain ⟨τ', g⟩ := fi1_0 hA hB m (by decide) hd ht hr τ T
    refine ⟨τ', ?_⟩
    simpa [shP, shapeL, List.lookup_cons] using g
  · obtain ⟨τ', g⟩ := fi1_3 hA hB m trivial hd ht hr τ T
    refine ⟨τ', ?_⟩
    simpa [shP, shapeL, List.lookup_cons] using g
  · obtain ⟨τ', g⟩ := fi1_3 hA hB m trivial hd ht hr τ T
    refine ⟨τ', ?_⟩
    simpa [shP, shapeL, List.lookup_cons] using g
  · obtain ⟨τ', g⟩ := fi1_0 hA hB m (by decide) hd ht hr τ T
    refine ⟨τ', ?_⟩
    simpa [shP, shapeL, List.lookup_cons] using g
  · obtain ⟨τ', g⟩ := fi1_3 hA hB m trivial hd ht hr τ T
    refine ⟨τ', ?_⟩
    simpa [shP, shapeL, List.lookup_cons] using g
  · obtain ⟨τ', g⟩ := fi1_3 hA hB m trivial hd ht hr τ T
    refine ⟨τ', ?_⟩
    simpa [shP, shapeL, List.lookup_cons] using g
  · obtain ⟨τ', g⟩ := fi1_7 hA hB m trivial hd ht hr τ T
    refine ⟨τ', ?_⟩
    simpa [shP, shapeL, List.lookup_cons] using g
  · obtain ⟨τ', g⟩ := fi1_0 hA hB m (by decide) hd ht hr τ T
    refine ⟨τ', ?_⟩
    simpa [shP, shapeL, List.lookup_cons] using g
  · obtain ⟨τ', g⟩ := fi1_5 hA hB m (by decide) hd ht hr τ T
    refine ⟨τ', ?_⟩
    simpa [shP, shapeL, List.lookup_cons] using g
  · obtain ⟨τ', g⟩ := fi1_5 hA hB m (by decide) hd ht hr τ T
    refine ⟨τ', ?_⟩
    simpa [shP, shapeL, List.lookup_cons] using g
  · obtain ⟨τ', g⟩ := fi1_8 hA hB m trivial hd ht hr τ T
    refine ⟨τ', ?_⟩
    simpa [shP, shapeL, List.lookup_cons] using g
  · obtain ⟨τ', g⟩ := fi1_4 hA hB m (by decide) hd ht hr τ T
    refine ⟨τ', ?_⟩
    simpa [shP, shapeL, List.lookup_cons] using g
  · obtain ⟨τ', g⟩ := fi1_1 hA hB m (by decide) hd ht hr τ T
    refine ⟨τ', ?_⟩
    simpa [shP, shapeL, List.lookup_cons] using g
  · obtain ⟨τ', g⟩ := fi1_5 hA hB m (by decide) hd ht hr τ T
    refine ⟨τ', ?_⟩
    simpa [shP, shapeL, List.lookup_cons] using g
theorem fiF_2 {a b c : Int} {fin : Bool} {d t r : AV} {dl : Nat} {rs : List (Int × Int)} {A : Nat} {H H2 : AH}
    (hA : H.get A = some (.cells 72 false (frC 2 a b c fin d t r))) (m : Nat) (τ : Tm) (S : FiS τ A 2 dl) (hr : ∀ h, lenA Try.prog 70 r h = some (.int .i64 rs.length))
    (c4 : ev Try.prog m 139 [r] H = some (.bool (decide (rgOK rs)), H2)) (hK : Kp H H2) :
    ∃ τ' H', Kp H H' ∧ evAt Try.prog (ev Try.prog m) m 50 4075 τ H = some (.ret, τ', H') ∧ τ' 2 = .bool (decide (0 < rs.length ∧ rgOK rs)) := by
  obtain ⟨t1, t5, tk⟩ := S
  simp only [frC] at hA
  rw [at_M Try.func50 4075 (by decide) 12 (by decide) (by kernel_rfl) [16303]]
  by_cases q0 : 0 < rs.length
  · exact ⟨_, _, hK, by simp [Try.f50, t1, t5, tk, hA, ldVar, hr, q0, c4]; rfl, by simp [q0]⟩
  · have q0' : (0 < rs.length) = False := eq_false q0
    exact ⟨_, _, Kp.refl H, by simp [Try.f50, t1, t5, tk, hA, ldVar, hr, q0']; rfl, by simp [q0']⟩
def frY (k a b : Int) (dl tl : Nat) (rs : List (Int × Int)) : Prop :=
  if k = 0 then 1 ≤ a ∧ a ≤ 1500 else if k = 2 then 0 < rs.length ∧ rgOK rs else if k = 6 then (dl : Int) ≤ 1500 ∧ a ≤ 4611686018427387903 - dl else if k = 7 then 1 ≤ (dl : Int) ∧ (dl : Int) ≤ 64
  else if k = 8 then (dl : Int) ≤ 1500 ∧ b ≤ 4611686018427387903 - dl else if k = 18 ∨ k = 22 then a ≤ 1152921504606846976 ∧ b ≤ 1 else if k = 24 then b ≤ a ∧ 1 ≤ (dl : Int) ∧ (dl : Int) ≤ 8 ∧ (tl : Int) = 8
  else if k = 26 ∨ k = 27 then (dl : Int) = 8 else if k = 28 ∨ k = 29 then (dl : Int) ≤ 200 else if k = 48 then (dl : Int) ≤ 1500 else True
noncomputable instance (k a b : Int) (dl tl : Nat) (rs : List (Int × Int)) : Decidable (frY k a b dl tl rs) := Classical.propDecidable _
theorem fiY {k a b c : Int} {fin : Bool} {d t r : AV} {dl tl : Nat} {rs : List (Int × Int)} {A : Nat} {H H2 : AH} (hk : kindIn k)
    (hA : H.get A = some (.cells 72 false (frC k a b c fin d t r))) (m : Nat) (τ : Tm) (S : FiS τ A k dl) (hl : dl ≤ 1048576) (ht : ∀ h, lenA Try.prog 34 t h = some (.int .i64 tl)) (hr : ∀ h, lenA Try.prog 70 r h = some (.int .i64 rs.length))
    (c4 : ev Try.prog m 139 [r] H = some (.bool (decide (rgOK rs)), H2)) (hK : Kp H H2) :
    ∃ e τ' H', Kp H H' ∧ evAt Try.prog (ev Try.prog m) m 50 1018 τ H = some (e, τ', H') ∧ ((e = .ret ∧ τ' 2 = .bool (decide (frY k a b dl tl rs))) ∨ (e = .normal ∧ frY k a b dl tl rs)) := by
  simp only [kindIn] at hk
  rcases hk with rfl | rfl | rfl | rfl | rfl | rfl | rfl | rfl | rfl | rfl | rfl | rfl | rfl | rfl | rfl | rfl | rfl | rfl | rfl | rfl | rfl | rfl
  · obtain ⟨τ', e, g⟩ := fiF_0 hA m τ S hl
    exact ⟨_, τ', H, Kp.refl H, by rw [e], .inl ⟨rfl, by simpa [frY] using g⟩⟩
  · obtain ⟨τ1, e1, S1⟩ := fiS_1018 1 (by decide) m τ H S
    obtain ⟨τ2, e2, S2⟩ := fiS_4075 1 (by decide) m τ1 H S1
    obtain ⟨τ3, e3, S3⟩ := fiS_16303 1 (by decide) m τ2 H S2
    obtain ⟨τ4, e4, S4⟩ := fiS_65215 1 (by decide) m τ3 H S3
    obtain ⟨τ5, e5, S5⟩ := fiS_260863 1 (by decide) m τ4 H S4
    obtain ⟨τ6, e6, S6⟩ := fiS_1043455 1 (by decide) (by decide) m τ5 H S5
    obtain ⟨τ7, e7, S7⟩ := fiS_4173823 1 (by decide) m τ6 H S6
    obtain ⟨τ8, e8, S8⟩ := fiS_16695295 1 (by decide) (by decide) m τ7 H S7
    obtain ⟨τ9, e9, S9⟩ := fiS_66781183 1 (by decide) (by decide) m τ8 H S8
    obtain ⟨τ', e⟩ := fiE 1 (by decide) m τ9 H S9
    exact ⟨_, τ', H, Kp.refl H, by rw [e1, e2, e3, e4, e5, e6, e7, e8, e9, e], .inr ⟨rfl, by simp [frY]⟩⟩
  · obtain ⟨τ1, e1, S1⟩ := fiS_1018 2 (by decide) m τ H S
    obtain ⟨τ', H', kk, e, g⟩ := fiF_2 hA m τ1 S1 hr c4 hK
    exact ⟨_, τ', H', kk, by rw [e1, e], .inl ⟨rfl, by simpa [frY] using g⟩⟩
  · obtain ⟨τ1, e1, S1⟩ := fiS_1018 4 (by decide) m τ H S
    obtain ⟨τ2, e2, S2⟩ := fiS_4075 4 (by decide) m τ1 H S1
    obtain ⟨τ3, e3, S3⟩ := fiS_16303 4 (by decide) m τ2 H S2
    obtain ⟨τ4, e4, S4⟩ := fiS_65215 4 (by decide) m τ3 H S3
    obtain ⟨τ5, e5, S5⟩ := fiS_260863 4 (by decide) m τ4 H S4
    obtain ⟨τ6, e6, S6⟩ := fiS_1043455 4 (by decide) (by decide) m τ5 H S5
    obtain ⟨τ7, e7, S7⟩ := fiS_4173823 4 (by decide) m τ6 H S6
    obtain ⟨τ8, e8, S8⟩ := fiS_16695295 4 (by decide) (by decide) m τ7 H S7
    obtain ⟨τ9, e9, S9⟩ := fiS_66781183 4 (by decide) (by decide) m τ8 H S8
    obtain ⟨τ', e⟩ := fiE 4 (by decide) m τ9 H S9
    exact ⟨_, τ', H, Kp.refl H, by rw [e1, e2, e3, e4, e5, e6, e7, e8, e9, e], .inr ⟨rfl, by simp [frY]⟩⟩
  · obtain ⟨τ1, e1, S1⟩ := fiS_1018 5 (by decide) m τ H S
    obtain ⟨τ2, e2, S2⟩ := fiS_4075 5 (by decide) m τ1 H S1
    obtain ⟨τ3, e3, S3⟩ := fiS_16303 5 (by decide) m τ2 H S2
    obtain ⟨τ4, e4, S4⟩ := fiS_65215 5 (by decide) m τ3 H S3
    obtain ⟨τ5, e5, S5⟩ := fiS_260863 5 (by decide) m τ4 H S4
    obtain ⟨τ6, e6, S6⟩ := fiS_1043455 5 (by decide) (by decide) m τ5 H S5
    obtain ⟨τ7, e7, S7⟩ := fiS_4173823 5 (by decide) m τ6 H S6
    obtain ⟨τ8, e8, S8⟩ := fiS_16695295 5 (by decide) (by decide) m τ7 H S7
    obtain ⟨τ9, e9, S9⟩ := fiS_66781183 5 (by decide) (by decide) m τ8 H S8
    obtain ⟨τ', e⟩ := fiE 5 (by decide) m τ9 H S9
    exact ⟨_, τ', H, Kp.refl H, by rw [e1, e2, e3, e4, e5, e6, e7, e8, e9, e], .inr ⟨rfl, by simp [frY]⟩⟩
  · obtain ⟨τ1, e1, S1⟩ := fiS_1018 6 (by decide) m τ H S
    obtain ⟨τ2, e2, S2⟩ := fiS_4075 6 (by decide) m τ1 H S1
    obtain ⟨τ', e, g⟩ := fiF_6 hA m τ2 S2 hl
    exact ⟨_, τ', H, Kp.refl H, by rw [e1, e2, e], .inl ⟨rfl, by simpa [frY] using g⟩⟩
  · obtain ⟨τ1, e1, S1⟩ := fiS_1018 7 (by decide) m τ H S
    obtain ⟨τ2, e2, S2⟩ := fiS_4075 7 (by decide) m τ1 H S1
    obtain ⟨τ3, e3, S3⟩ := fiS_16303 7 (by decide) m τ2 H S2
    obtain ⟨τ', e, g⟩ := fiF_7 hA m τ3 S3 hl
    exact ⟨_, τ', H, Kp.refl H, by rw [e1, e2, e3, e], .inl ⟨rfl, by simpa [frY] using g⟩⟩
  · obtain ⟨τ1, e1, S1⟩ := fiS_1018 8 (by decide) m τ H S
    obtain ⟨τ2, e2, S2⟩ := fiS_4075 8 (by decide) m τ1 H S1
    obtain ⟨τ3, e3, S3⟩ := fiS_16303 8 (by decide) m τ2 H S2
    obtain ⟨τ4, e4, S4⟩ := fiS_65215 8 (by decide) m τ3 H S3
    obtain ⟨τ', e, g⟩ := fiF_8 hA m τ4 S4 hl
    exact ⟨_, τ', H, Kp.refl H, by rw [e1, e2, e3, e4, e], .inl ⟨rfl, by simpa [frY] using g⟩⟩
  · obtain ⟨τ1, e1, S1⟩ := fiS_1018 16 (by decide) m τ H S
    obtain ⟨τ2, e2, S2⟩ := fiS_4075 16 (by decide) m τ1 H S1
    obtain ⟨τ3, e3, S3⟩ := fiS_16303 16 (by decide) m τ2 H S2
    obtain ⟨τ4, e4, S4⟩ := fiS_65215 16 (by decide) m τ3 H S3
    obtain ⟨τ5, e5, S5⟩ := fiS_260863 16 (by decide) m τ4 H S4
    obtain ⟨τ6, e6, S6⟩ := fiS_1043455 16 (by decide) (by decide) m τ5 H S5
    obtain ⟨τ7, e7, S7⟩ := fiS_4173823 16 (by decide) m τ6 H S6
    obtain ⟨τ8, e8, S8⟩ := fiS_16695295 16 (by decide) (by decide) m τ7 H S7
    obtain ⟨τ9, e9, S9⟩ := fiS_66781183 16 (by decide) (by decide) m τ8 H S8
    obtain ⟨τ', e⟩ := fiE 16 (by decide) m τ9 H S9
    exact ⟨_, τ', H, Kp.refl H, by rw [e1, e2, e3, e4, e5, e6, e7, e8, e9, e], .inr ⟨rfl, by simp [frY]⟩⟩
  · obtain ⟨τ1, e1, S1⟩ := fiS_1018 17 (by decide) m τ H S
    obtain ⟨τ2, e2, S2⟩ := fiS_4075 17 (by decide) m τ1 H S1
    obtain ⟨τ3, e3, S3⟩ := fiS_16303 17 (by decide) m τ2 H S2
    obtain ⟨τ4, e4, S4⟩ := fiS_65215 17 (by decide) m τ3 H S3
    obtain ⟨τ5, e5, S5⟩ := fiS_260863 17 (by decide) m τ4 H S4
    obtain ⟨τ6, e6, S6⟩ := fiS_1043455 17 (by decide) (by decide) m τ5 H S5
    obtain ⟨τ7, e7, S7⟩ := fiS_4173823 17 (by decide) m τ6 H S6
    obtain ⟨τ8, e8, S8⟩ := fiS_16695295 17 (by decide) (by decide) m τ7 H S7
    obtain ⟨τ9, e9, S9⟩ := fiS_66781183 17 (by decide) (by decide) m τ8 H S8
    obtain ⟨τ', e⟩ := fiE 17 (by decide) m τ9 H S9
    exact ⟨_, τ', H, Kp.refl H, by rw [e1, e2, e3, e4, e5, e6, e7, e8, e9, e], .inr ⟨rfl, by simp [frY]⟩⟩
  · obtain ⟨τ1, e1, S1⟩ := fiS_1018 18 (by decide) m τ H S
    obtain ⟨τ2, e2, S2⟩ := fiS_4075 18 (by decide) m τ1 H S1
    obtain ⟨τ3, e3, S3⟩ := fiS_16303 18 (by decide) m τ2 H S2
    obtain ⟨τ4, e4, S4⟩ := fiS_65215 18 (by decide) m τ3 H S3
    obtain ⟨τ5, e5, S5⟩ := fiS_260863 18 (by decide) m τ4 H S4
    obtain ⟨τ', e, g⟩ := fiF_18 hA m τ5 S5 hl
    exact ⟨_, τ', H, Kp.refl H, by rw [e1, e2, e3, e4, e5, e], .inl ⟨rfl, by simpa [frY] using g⟩⟩
  · obtain ⟨τ1, e1, S1⟩ := fiS_1018 20 (by decide) m τ H S
    obtain ⟨τ2, e2, S2⟩ := fiS_4075 20 (by decide) m τ1 H S1
    obtain ⟨τ3, e3, S3⟩ := fiS_16303 20 (by decide) m τ2 H S2
    obtain ⟨τ4, e4, S4⟩ := fiS_65215 20 (by decide) m τ3 H S3
    obtain ⟨τ5, e5, S5⟩ := fiS_260863 20 (by decide) m τ4 H S4
    obtain ⟨τ6, e6, S6⟩ := fiS_1043455 20 (by decide) (by decide) m τ5 H S5
    obtain ⟨τ7, e7, S7⟩ := fiS_4173823 20 (by decide) m τ6 H S6
    obtain ⟨τ8, e8, S8⟩ := fiS_16695295 20 (by decide) (by decide) m τ7 H S7
    obtain ⟨τ9, e9, S9⟩ := fiS_66781183 20 (by decide) (by decide) m τ8 H S8
    obtain ⟨τ', e⟩ := fiE 20 (by decide) m τ9 H S9
    exact ⟨_, τ', H, Kp.refl H, by rw [e1, e2, e3, e4, e5, e6, e7, e8, e9, e], .inr ⟨rfl, by simp [frY]⟩⟩
  · obtain ⟨τ1, e1, S1⟩ := fiS_1018 21 (by decide) m τ H S
    obtain ⟨τ2, e2, S2⟩ := fiS_4075 21 (by decide) m τ1 H S1
    obtain ⟨τ3, e3, S3⟩ := fiS_16303 21 (by decide) m τ2 H S2
    obtain ⟨τ4, e4, S4⟩ := fiS_65215 21 (by decide) m τ3 H S3
    obtain ⟨τ5, e5, S5⟩ := fiS_260863 21 (by decide) m τ4 H S4
    obtain ⟨τ6, e6, S6⟩ := fiS_1043455 21 (by decide) (by decide) m τ5 H S5
    obtain ⟨τ7, e7, S7⟩ := fiS_4173823 21 (by decide) m τ6 H S6
    obtain ⟨τ8, e8, S8⟩ := fiS_16695295 21 (by decide) (by decide) m τ7 H S7
    obtain ⟨τ9, e9, S9⟩ := fiS_66781183 21 (by decide) (by decide) m τ8 H S8
    obtain ⟨τ', e⟩ := fiE 21 (by decide) m τ9 H S9
    exact ⟨_, τ', H, Kp.refl H, by rw [e1, e2, e3, e4, e5, e6, e7, e8, e9, e], .inr ⟨rfl, by simp [frY]⟩⟩
  · obtain ⟨τ1, e1, S1⟩ := fiS_1018 22 (by decide) m τ H S
    obtain ⟨τ2, e2, S2⟩ := fiS_4075 22 (by decide) m τ1 H S1
    obtain ⟨τ3, e3, S3⟩ := fiS_16303 22 (by decide) m τ2 H S2
    obtain ⟨τ4, e4, S4⟩ := fiS_65215 22 (by decide) m τ3 H S3
    obtain ⟨τ5, e5, S5⟩ := fiS_260863 22 (by decide) m τ4 H S4
    obtain ⟨τ', e, g⟩ := fiF_22 hA m τ5 S5 hl
    exact ⟨_, τ', H, Kp.refl H, by rw [e1, e2, e3, e4, e5, e], .inl ⟨rfl, by simpa [frY] using g⟩⟩
  · obtain ⟨τ1, e1, S1⟩ := fiS_1018 24 (by decide) m τ H S
    obtain ⟨τ2, e2, S2⟩ := fiS_4075 24 (by decide) m τ1 H S1
    obtain ⟨τ3, e3, S3⟩ := fiS_16303 24 (by decide) m τ2 H S2
    obtain ⟨τ4, e4, S4⟩ := fiS_65215 24 (by decide) m τ3 H S3
    obtain ⟨τ5, e5, S5⟩ := fiS_260863 24 (by decide) m τ4 H S4
    obtain ⟨τ6, e6, S6⟩ := fiS_1043455 24 (by decide) (by decide) m τ5 H S5
    obtain ⟨τ', e, g⟩ := fiF_24 ht hA m τ6 S6 hl
    exact ⟨_, τ', H, Kp.refl H, by rw [e1, e2, e3, e4, e5, e6, e], .inl ⟨rfl, by simpa [frY] using g⟩⟩
  · obtain ⟨τ1, e1, S1⟩ := fiS_1018 25 (by decide) m τ H S
    obtain ⟨τ2, e2, S2⟩ := fiS_4075 25 (by decide) m τ1 H S1
    obtain ⟨τ3, e3, S3⟩ := fiS_16303 25 (by decide) m τ2 H S2
    obtain ⟨τ4, e4, S4⟩ := fiS_65215 25 (by decide) m τ3 H S3
    obtain ⟨τ5, e5, S5⟩ := fiS_260863 25 (by decide) m τ4 H S4
    obtain ⟨τ6, e6, S6⟩ := fiS_1043455 25 (by decide) (by decide) m τ5 H S5
    obtain ⟨τ7, e7, S7⟩ := fiS_4173823 25 (by decide) m τ6 H S6
    obtain ⟨τ8, e8, S8⟩ := fiS_16695295 25 (by decide) (by decide) m τ7 H S7
    obtain ⟨τ9, e9, S9⟩ := fiS_66781183 25 (by decide) (by decide) m τ8 H S8
    obtain ⟨τ', e⟩ := fiE 25 (by decide) m τ9 H S9
    exact ⟨_, τ', H, Kp.refl H, by rw [e1, e2, e3, e4, e5, e6, e7, e8, e9, e], .inr ⟨rfl, by simp [frY]⟩⟩
  · obtain ⟨τ1, e1, S1⟩ := fiS_1018 26 (by decide) m τ H S
    obtain ⟨τ2, e2, S2⟩ := fiS_4075 26 (by decide) m τ1 H S1
    obtain ⟨τ3, e3, S3⟩ := fiS_16303 26 (by decide) m τ2 H S2
    obtain ⟨τ4, e4, S4⟩ := fiS_65215 26 (by decide) m τ3 H S3
    obtain ⟨τ5, e5, S5⟩ := fiS_260863 26 (by decide) m τ4 H S4
    obtain ⟨τ6, e6, S6⟩ := fiS_1043455 26 (by decide) (by decide) m τ5 H S5
    obtain ⟨τ7, e7, S7⟩ := fiS_4173823 26 (by decide) m τ6 H S6
    obtain ⟨τ', e, g⟩ := fiF_26 hA m τ7 S7 hl
    exact ⟨_, τ', H, Kp.refl H, by rw [e1, e2, e3, e4, e5, e6, e7, e], .inl ⟨rfl, by simpa [frY] using g⟩⟩
  · obtain ⟨τ1, e1, S1⟩ := fiS_1018 27 (by decide) m τ H S
    obtain ⟨τ2, e2, S2⟩ := fiS_4075 27 (by decide) m τ1 H S1
    obtain ⟨τ3, e3, S3⟩ := fiS_16303 27 (by decide) m τ2 H S2
    obtain ⟨τ4, e4, S4⟩ := fiS_65215 27 (by decide) m τ3 H S3
    obtain ⟨τ5, e5, S5⟩ := fiS_260863 27 (by decide) m τ4 H S4
    obtain ⟨τ6, e6, S6⟩ := fiS_1043455 27 (by decide) (by decide) m τ5 H S5
    obtain ⟨τ7, e7, S7⟩ := fiS_4173823 27 (by decide) m τ6 H S6
    obtain ⟨τ', e, g⟩ := fiF_27 hA m τ7 S7 hl
    exact ⟨_, τ', H, Kp.refl H, by rw [e1, e2, e3, e4, e5, e6, e7, e], .inl ⟨rfl, by simpa [frY] using g⟩⟩
  · obtain ⟨τ1, e1, S1⟩ := fiS_1018 28 (by decide) m τ H S
    obtain ⟨τ2, e2, S2⟩ := fiS_4075 28 (by decide) m τ1 H S1
    obtain ⟨τ3, e3, S3⟩ := fiS_16303 28 (by decide) m τ2 H S2
    obtain ⟨τ4, e4, S4⟩ := fiS_65215 28 (by decide) m τ3 H S3
    obtain ⟨τ5, e5, S5⟩ := fiS_260863 28 (by decide) m τ4 H S4
    obtain ⟨τ6, e6, S6⟩ := fiS_1043455 28 (by decide) (by decide) m τ5 H S5
    obtain ⟨τ7, e7, S7⟩ := fiS_4173823 28 (by decide) m τ6 H S6
    obtain ⟨τ8, e8, S8⟩ := fiS_16695295 28 (by decide) (by decide) m τ7 H S7
    obtain ⟨τ', e, g⟩ := fiF_28 hA m τ8 S8 hl
    exact ⟨_, τ', H, Kp.refl H, by rw [e1, e2, e3, e4, e5, e6, e7, e8, e], .inl ⟨rfl, by simpa [frY] using g⟩⟩
  · obtain ⟨τ1, e1, S1⟩ := fiS_1018 29 (by decide) m τ H S
    obtain ⟨τ2, e2, S2⟩ := fiS_4075 29 (by decide) m τ1 H S1
    obtain ⟨τ3, e3, S3⟩ := fiS_16303 29 (by decide) m τ2 H S2
    obtain ⟨τ4, e4, S4⟩ := fiS_65215 29 (by decide) m τ3 H S3
    obtain ⟨τ5, e5, S5⟩ := fiS_260863 29 (by decide) m τ4 H S4
    obtain ⟨τ6, e6, S6⟩ := fiS_1043455 29 (by decide) (by decide) m τ5 H S5
    obtain ⟨τ7, e7, S7⟩ := fiS_4173823 29 (by decide) m τ6 H S6
    obtain ⟨τ8, e8, S8⟩ := fiS_16695295 29 (by decide) (by decide) m τ7 H S7
    obtain ⟨τ', e, g⟩ := fiF_29 hA m τ8 S8 hl
    exact ⟨_, τ', H, Kp.refl H, by rw [e1, e2, e3, e4, e5, e6, e7, e8, e], .inl ⟨rfl, by simpa [frY] using g⟩⟩
  · obtain ⟨τ1, e1, S1⟩ := fiS_1018 30 (by decide) m τ H S
    obtain ⟨τ2, e2, S2⟩ := fiS_4075 30 (by decide) m τ1 H S1
    obtain ⟨τ3, e3, S3⟩ := fiS_16303 30 (by decide) m τ2 H S2
    obtain ⟨τ4, e4, S4⟩ := fiS_65215 30 (by decide) m τ3 H S3
    obtain ⟨τ5, e5, S5⟩ := fiS_260863 30 (by decide) m τ4 H S4
    obtain ⟨τ6, e6, S6⟩ := fiS_1043455 30 (by decide) (by decide) m τ5 H S5
    obtain ⟨τ7, e7, S7⟩ := fiS_4173823 30 (by decide) m τ6 H S6
    obtain ⟨τ8, e8, S8⟩ := fiS_16695295 30 (by decide) (by decide) m τ7 H S7
    obtain ⟨τ9, e9, S9⟩ := fiS_66781183 30 (by decide) (by decide) m τ8 H S8
    obtain ⟨τ', e⟩ := fiE 30 (by decide) m τ9 H S9
    exact ⟨_, τ', H, Kp.refl H, by rw [e1, e2, e3, e4, e5, e6, e7, e8, e9, e], .inr ⟨rfl, by simp [frY]⟩⟩
  · obtain ⟨τ1, e1, S1⟩ := fiS_1018 48 (by decide) m τ H S
    obtain ⟨τ2, e2, S2⟩ := fiS_4075 48 (by decide) m τ1 H S1
    obtain ⟨τ3, e3, S3⟩ := fiS_16303 48 (by decide) m τ2 H S2
    obtain ⟨τ4, e4, S4⟩ := fiS_65215 48 (by decide) m τ3 H S3
    obtain ⟨τ5, e5, S5⟩ := fiS_260863 48 (by decide) m τ4 H S4
    obtain ⟨τ6, e6, S6⟩ := fiS_1043455 48 (by decide) (by decide) m τ5 H S5
    obtain ⟨τ7, e7, S7⟩ := fiS_4173823 48 (by decide) m τ6 H S6
    obtain ⟨τ8, e8, S8⟩ := fiS_16695295 48 (by decide) (by decide) m τ7 H S7
    obtain ⟨τ9, e9, S9⟩ := fiS_66781183 48 (by decide) (by decide) m τ8 H S8
    obtain ⟨τ', e, g⟩ := fiF_48 hA m τ9 S9 hl
    exact ⟨_, τ', H, Kp.refl H, by rw [e1, e2, e3, e4, e5, e6, e7, e8, e9, e], .inl ⟨rfl, by simpa [frY] using g⟩⟩
theorem rgOK_nil {rs : List (Int × Int)} (h : rs.length = 0) : rgOK rs := by
  have : rs = [] := List.length_eq_zero_iff.1 h
  subst this; exact ⟨by simp, trivial⟩
theorem frI (k a b c : Int) (fin : Bool) (dl tl : Nat) (rs : List (Int × Int)) (hk : kindIn k) :
    frOK k a b c fin dl tl rs ↔ (inV a ∧ inV b ∧ inV c) ∧ shP ((shapeL.lookup k).getD shN) a b fin dl tl rs.length ∧ (c = 0 ∨ k = 4) ∧ frY k a b dl tl rs := by
  have hn := rgOK_nil (rs := rs)
  simp only [kindIn] at hk
  rcases hk with rfl | rfl | rfl | rfl | rfl | rfl | rfl | rfl | rfl | rfl | rfl | rfl | rfl | rfl | rfl | rfl | rfl | rfl | rfl | rfl | rfl | rfl
  all_goals
    have hn2 : rs = [] → rgOK rs := fun h => hn (by simp [h])
    simp [frOK, shP, frY, frX, usesL, shapeL, fldOK, List.lookup_cons]
    grind
theorem FrameOKI_ev {rw : Bool} {Hb H : AH} {k a b c : Int} {fin : Bool} {d t r : AV} {dl tl : Nat} {rs : List (Int × Int)} {bs : List Nat} (hr : (Ty.sl 94 tT94).R rw Hb [r] rs bs) (hK : Kp Hb H)
    (hd : ∀ h, lenA Try.prog 34 d h = some (.int .i64 dl)) (ht : ∀ h, lenA Try.prog 34 t h = some (.int .i64 tl)) (od : d.one = true) (ot : t.one = true) (hdl : dl ≤ 1048576) (hrl : rs.length ≤ 1048576) (m : Nat) (hm : 75 ≤ m) :
    ∃ H', ev Try.prog m 50 [.agg (frC k a b c fin d t r)] H = some (.bool (decide (frOK k a b c fin dl tl rs)), H') ∧ Kp H H' := by
  obtain ⟨m, rfl⟩ : ∃ k, m = k + 1 := ⟨m - 1, by omega⟩
  have hrl' := Ty.R.lenA hr (P := Try.prog) (T := 70) (by simp)
  have or_ : r.one = true := hr.sl_one
  rw [ev_M Try.func50 ok50 [7] m _ H (by simp [Try.f50, frC])]
  have k0 : Kp H (H.push (.cells 72 false (frC k a b c fin d t r))) := (Kp.refl H).push _
  obtain ⟨H1, e1, k1⟩ := shapeOf_ev k (H.push (.cells 72 false (frC k a b c fin d t r))) m (by omega)
  simp only [frC] at e1
  have n1 := k1.next
  simp at n1
  obtain ⟨sok, hsok⟩ : ∃ x, x = (shapeL.lookup k).isSome := ⟨_, rfl⟩
  obtain ⟨sh, hsh⟩ : ∃ x, x = (shapeL.lookup k).getD shN := ⟨_, rfl⟩
  rw [← hsok, ← hsh] at e1
  simp only [shC] at e1
  simp (disch := omega) [Try.f50, tm0, frC, od, ot, or_, e1, fillA, stVar, spl, ldVar]
  generalize hτ : upd _ 4 _ = τ1
  generalize hX : AH.push _ _ = X1
  have T1 : FiT τ1 H.next H1.next := ⟨by rw [← hτ]; simp, by rw [← hτ]; simp⟩
  have t4 : τ1 4 = .bool sok := by rw [← hτ]; simp
  have kX : Kp (H.push (.cells 72 false (frC k a b c fin d t r))) X1 := by rw [← hX]; exact k1.push _
  have hA : X1.get H.next = some (.cells 72 false (frC k a b c fin d t r)) := by rw [kX.get _ (by simp)]; simp
  have hB : X1.get H1.next = some (.cells 197 false (shL sh)) := by rw [← hX]; simp [shL]
  have kH := k0.trans kX
  have nX := kX.next
  simp at nX
  obtain ⟨τ2, g | g⟩ := fi0 hA m (by omega) τ1 T1 t4
  · obtain ⟨⟨p0, p1, p2, p3⟩, e2, T2⟩ := g
    have hk : kindIn k := by
      by_cases hk : kindIn k
      · exact hk
      · rw [shape_not hk] at hsok; rw [hsok] at p0; simp at p0
    rw [hsh] at hB
    have hI := frI k a b c fin dl tl rs hk
    obtain ⟨τ3, g | g⟩ := fi1 hk hA hB m hd ht hrl' τ2 T2
    · obtain ⟨q1, e3, T3⟩ := g
      obtain ⟨τ4, g | g⟩ := fi2 hA m hd τ3 T3
      · obtain ⟨q2, e4, T4, t5⟩ := g
        obtain ⟨H2, e5, k5⟩ := rangesOK_ev (H := X1) hr (hK.trans kH) hrl m (by omega)
        have hY : ∃ τ' H', Kp X1 H' ∧ evAt Try.prog (ev Try.prog m) m 50 127 τ4 X1 = some (.ret, τ', H') ∧ τ' 2 = .bool (decide (frY k a b dl tl rs)) := by
          obtain ⟨s1, s3⟩ := T4
          rw [at_M Try.func50 127 (by decide) 7 (by decide) (by kernel_rfl) [1018]]
          have hA' := hA
          simp only [frC] at hA'
          simp [Try.f50, s1, s3, t5, hA', ldVar]
          obtain ⟨e, τ', H', kk, ee, g⟩ := fiY hk hA m (upd (upd τ4 108 (AV.ptr H.next 0)) 109 (AV.int .i64 k)) ⟨by simp [s1], by simp [t5], by simp⟩ hdl ht hrl' e5 k5
          rcases g with ⟨rfl, g⟩ | ⟨rfl, g⟩
          · exact ⟨τ', H', kk, by simp [ee], g⟩
          · exact ⟨_, H', kk, by simp [ee]; rfl, by simp [g]⟩
        obtain ⟨τ5, H5, k6, e6, t6⟩ := hY
        refine ⟨H5, ?_, kH.trans k6⟩
        rw [e2, e3, e4, e6]
        have : frOK k a b c fin dl tl rs ↔ frY k a b dl tl rs := by rw [hI]; exact ⟨fun h => h.2.2.2, fun h => ⟨⟨p1, p2, p3⟩, q1, q2, h⟩⟩
        simp [t6, this]
      · obtain ⟨q, e4, t⟩ := g
        refine ⟨X1, ?_, kH⟩
        have : ¬ frOK k a b c fin dl tl rs := fun h => q (hI.1 h).2.2.1
        rw [e2, e3, e4]
        simp [t, this]
    · obtain ⟨q, e3, t⟩ := g
      refine ⟨X1, ?_, kH⟩
      have : ¬ frOK k a b c fin dl tl rs := fun h => q (hI.1 h).2.1
      rw [e2, e3]
      simp [t, this]
  · obtain ⟨q, e2, t⟩ := g
    refine ⟨X1, ?_, kH⟩
    have : ¬ frOK k a b c fin dl tl rs := fun h => q ⟨by
      rw [hsok]
      by_cases hk : kindIn k
      · simp only [kindIn] at hk
        rcases hk with rfl | rfl | rfl | rfl | rfl | rfl | rfl | rfl | rfl | rfl | rfl | rfl | rfl | rfl | rfl | rfl | rfl | rfl | rfl | rfl | rfl | rfl <;> decide
      · have := h.1.1; rw [uses_not hk] at this; simp at this, h.1.2.1, h.1.2.2.1, h.1.2.2.2.1⟩
    rw [e2]
    simp [t, this]
end Go.Ev

/- A frame read by the program: the head, the end. -/
namespace Go.Ev
open Go Go.Proofs
set_option linter.unusedSimpArgs false
set_option linter.unusedVariables false

structure FrT (τ : Tm) (q p2 p4 : Nat) (k : Int) : Prop where
  t0 : τ 0 = .ptr q 0
  t2 : τ 2 = .ptr p2 0
  t3 : τ 3 = .int .i64 k
  t4 : τ 4 = .ptr p4 0
theorem fr0 {Hb H : AH} {q a : Nat} {s : AV} {l : List Int} {c : Int} (hs : Bs Hb s l) (hb : By l) (hK : Kp Hb H) (hqb : Hb.next ≤ q) (hqn : q < H.next) (hq : H.get q = some (scB s a c)) (ha : a ≤ l.length) (hl : l.length ≤ 65536) (m : Nat) (hm : 4 ≤ m) :
    ∃ τ' H', ev Try.prog (m + 1) 126 [.ptr q 0] H = resM Try.prog [.cell 2 72] (evAt Try.prog (ev Try.prog m) m 126 15 τ' H') ∧ FrT τ' q H.next (H.next + 1) (octetI l a c).1 ∧
      H'.get H.next = some (.cells 72 false (frC 0 0 0 0 false .nilSlice .nilSlice .nilSlice)) ∧ H'.get (H.next + 1) = some (.cells 72 false (frC (octetI l a c).1 0 0 0 false .nilSlice .nilSlice .nilSlice)) ∧
      H'.get q = some (scB s (octetI l a c).2.1 (octetI l a c).2.2) ∧ Kx q H H' ∧ H'.next = H.next + 2 ∧ (octetI l a c).2.1 ≤ l.length := by
  let A0 : AH := H.push (.cells 72 false (frC 0 0 0 0 false .nilSlice .nilSlice .nilSlice))
  have nq : ¬ (q = H.next) := by omega
  have kA : Kp H A0 := (Kp.refl H).push _
  obtain ⟨H1, e1, k1, n1, g1, l1⟩ := octet_ev (H := A0) (c := c) (a := a) hs hb (hK.trans kA) hqb (by simp [A0, nq, hq]) ha hl m (by omega)
  have b1 := k1.get H.next (by simp [A0]) (by omega)
  simp [A0] at b1 n1
  simp only [A0, frC] at e1
  have nq1 : ¬ (q = H1.next) := by omega
  have nb1 : ¬ (H.next = H1.next) := by omega
  rw [ev_M Try.func126 ok126 [15] m _ H (by simp [Try.f126])]
  refine ⟨_, _, by simp [Try.f126, tm0, fillA, stVar, spl, e1]; rfl, ⟨by simp [tm0], by simp, by simp, by simp [n1]⟩, ?_⟩
  simp [n1, nq, nq1, nb1, b1, g1, frC, tm0, l1]
  exact ⟨fun e => absurd e (by omega), ((Kx.of kA).trans k1).push _⟩
/-- the head: the code stops it -/
theorem fr1 {h : AH} {q p2 p4 a : Nat} {s : AV} {k c : Int} (hq : h.get q = some (scB s a c)) (n42 : p2 ≠ p4) (g2 : h.get p2 = some (.cells 72 false (frC 0 0 0 0 false .nilSlice .nilSlice .nilSlice))) (g4 : h.get p4 = some (.cells 72 false (frC k 0 0 0 false .nilSlice .nilSlice .nilSlice)))
    (m : Nat) (τ : Tm) (T : FrT τ q p2 p4 k) : (c ≠ 0 → resM Try.prog [.cell 2 72] (evAt Try.prog (ev Try.prog m) m 126 15 τ h) = some (.agg (frC k 0 0 0 false .nilSlice .nilSlice .nilSlice), h.set p2 (.cells 72 false (frC k 0 0 0 false .nilSlice .nilSlice .nilSlice)))) ∧
      (c = 0 → ∃ τ', evAt Try.prog (ev Try.prog m) m 126 15 τ h = evAt Try.prog (ev Try.prog m) m 126 31 τ' h ∧ FrT τ' q p2 p4 k) := by
  obtain ⟨t0, t2, t3, t4⟩ := T
  unfold scB at hq
  simp only [frC] at g2 g4 ⊢
  rw [at_M Try.func126 15 (by decide) 4 (by decide) (by kernel_rfl) [31]]
  refine ⟨fun hc => ?_, fun hc => ?_⟩
  · have hc' : (c != 0) = true := by simpa using hc
    simp [Try.f126, t0, t2, t4, hq, g2, g4, ldVar, stVar, spl, hc']
  · subst hc
    exact ⟨_, by simp [Try.f126, t0, t2, t4, hq, g2, g4, ldVar]; rfl, by simp [t0], by simp [t2], by simp [t3], by simp [t4]⟩
/-- the end: whether the frame is right -/
theorem fr8 {rw : Bool} {Hb h : AH} {q p2 p4 a : Nat} {s : AV} {c k k' A B C : Int} {f : Bool} {d t r : AV} {dl tl : Nat} {rs : List (Int × Int)} {bs : List Nat} (hr : (Ty.sl 94 tT94).R rw Hb [r] rs bs) (hK : Kp Hb h)
    (hd : ∀ h, lenA Try.prog 34 d h = some (.int .i64 dl)) (ht : ∀ h, lenA Try.prog 34 t h = some (.int .i64 tl)) (od : d.one = true) (ot : t.one = true) (hdl : dl ≤ 1048576) (hrl : rs.length ≤ 1048576)
    (hq : h.get q = some (scB s a c)) (hqn : q < h.next) (n4 : p4 ≠ q) (l4 : p4 < h.next) (g4 : h.get p4 = some (.cells 72 false (frC k A B C f d t r))) (m : Nat) (hm : 75 ≤ m) (τ : Tm) (T : FrT τ q p2 p4 k') :
    ∃ τ' H', evAt Try.prog (ev Try.prog m) m 126 63 τ h = evAt Try.prog (ev Try.prog m) m 126 127 τ' H' ∧ FrT τ' q p2 p4 k' ∧ H'.get q = some (scB s a (if c = 0 ∧ ¬ frOK k A B C f dl tl rs then 3 else c)) ∧ Kx q h H' := by
  obtain ⟨t0, t2, t3, t4⟩ := T
  have or_ : r.one = true := hr.sl_one
  have hq0 := hq
  unfold scB at hq
  obtain ⟨H1, e1, k1⟩ := FrameOKI_ev (k := k) (a := A) (b := B) (c := C) (fin := f) hr hK hd ht od ot hdl hrl m hm
  have hq1 := (k1.get q hqn).trans hq0
  have ef := fail_ev (e := 3) hq1 m (by omega)
  simp only [frC] at e1 g4
  rw [at_M Try.func126 63 (by decide) 6 (by decide) (by kernel_rfl) [127]]
  by_cases c0 : c = 0
  · subst c0
    by_cases ok : frOK k A B C f dl tl rs
    · simp only [ok, decide_true] at e1
      exact ⟨_, H1, by simp [Try.f126, t0, t4, hq, g4, ldVar, e1]; rfl, ⟨by simp [t0], by simp [t2], by simp [t3], by simp [t4]⟩, by simpa [ok] using hq1, Kx.of k1⟩
    · simp only [ok, decide_false] at e1
      rw [if_pos rfl] at ef
      exact ⟨_, _, by simp [Try.f126, t0, t4, hq, g4, ldVar, e1, ef]; rfl, ⟨by simp [t0], by simp [t2], by simp [t3], by simp [t4]⟩, by simp [ok], (Kx.of k1).set _⟩
  · have c0' : (c == 0) = false := by simpa using c0
    exact ⟨_, h, by simp [Try.f126, t0, t4, hq, g4, ldVar, c0']; rfl, ⟨by simp [t0], by simp [t2], by simp [t3], by simp [t4]⟩, by simpa [c0] using hq0, Kx.refl q h⟩
theorem fr9 {h : AH} {q p2 p4 : Nat} {k k' A B C : Int} {f : Bool} {d t r : AV} (od : d.one = true) (ot : t.one = true) (or_ : r.one = true) (g2 : h.get p2 = some (.cells 72 false (frC 0 0 0 0 false .nilSlice .nilSlice .nilSlice))) (g4 : h.get p4 = some (.cells 72 false (frC k A B C f d t r)))
    (m : Nat) (τ : Tm) (T : FrT τ q p2 p4 k') : resM Try.prog [.cell 2 72] (evAt Try.prog (ev Try.prog m) m 126 127 τ h) = some (.agg (frC k A B C f d t r), h.set p2 (.cells 72 false (frC k A B C f d t r))) := by
  obtain ⟨t0, t2, t3, t4⟩ := T
  simp only [frC] at g2 g4 ⊢
  rw [at_M Try.func126 127 (by decide) 7 (by decide) (by kernel_rfl) []]
  simp [Try.f126, t2, t4, g2, g4, ldVar, stVar, spl, od, ot, or_]
end Go.Ev

/- A frame read by the program: the way to a kind's place. -/
namespace Go.Ev
open Go Go.Proofs
set_option linter.unusedSimpArgs false
set_option linter.unusedVariables false

structure FrU (τ : Tm) (q p2 p4 : Nat) (k : Int) : Prop where
  T : FrT τ q p2 p4 k
  t15 : τ 15 = .int .i64 k
set_option maxRecDepth 20000 in
theorem frS_250 {q p2 p4 : Nat} (k : Int) (h0 : ¬ (k = 0)) (m : Nat) (τ : Tm) (H : AH) (S : FrU τ q p2 p4 k) :
    ∃ τ', evAt Try.prog (ev Try.prog m) m 126 250 τ H = evAt Try.prog (ev Try.prog m) m 126 1003 τ' H ∧ FrU τ' q p2 p4 k := by
  obtain ⟨⟨t0, t2, t3, t4⟩, tk⟩ := S
  rw [at_M Try.func126 250 (by decide) 8 (by decide) (by kernel_rfl) [1003]]
  exact ⟨_, by simp [Try.f126, tk, beqF, h0]; rfl, ⟨by simp [t0], by simp [t2], by simp [t3], by simp [t4]⟩, by simp [tk]⟩
set_option maxRecDepth 20000 in
theorem frS_1003 {q p2 p4 : Nat} (k : Int) (h1 : ¬ (k = 1)) (h30 : ¬ (k = 30)) (m : Nat) (τ : Tm) (H : AH) (S : FrU τ q p2 p4 k) :
    ∃ τ', evAt Try.prog (ev Try.prog m) m 126 1003 τ H = evAt Try.prog (ev Try.prog m) m 126 4015 τ' H ∧ FrU τ' q p2 p4 k := by
  obtain ⟨⟨t0, t2, t3, t4⟩, tk⟩ := S
  rw [at_M Try.func126 1003 (by decide) 10 (by decide) (by kernel_rfl) [4015]]
  exact ⟨_, by simp [Try.f126, tk, beqF, h1, h30]; rfl, ⟨by simp [t0], by simp [t2], by simp [t3], by simp [t4]⟩, by simp [tk]⟩
set_option maxRecDepth 20000 in
theorem frS_4015 {q p2 p4 : Nat} (k : Int) (h2 : ¬ (k = 2)) (m : Nat) (τ : Tm) (H : AH) (S : FrU τ q p2 p4 k) :
    ∃ τ', evAt Try.prog (ev Try.prog m) m 126 4015 τ H = evAt Try.prog (ev Try.prog m) m 126 16063 τ' H ∧ FrU τ' q p2 p4 k := by
  obtain ⟨⟨t0, t2, t3, t4⟩, tk⟩ := S
  rw [at_M Try.func126 4015 (by decide) 12 (by decide) (by kernel_rfl) [16063]]
  exact ⟨_, by simp [Try.f126, tk, beqF, h2]; rfl, ⟨by simp [t0], by simp [t2], by simp [t3], by simp [t4]⟩, by simp [tk]⟩
set_option maxRecDepth 20000 in
theorem frS_16063 {q p2 p4 : Nat} (k : Int) (h4 : ¬ (k = 4)) (m : Nat) (τ : Tm) (H : AH) (S : FrU τ q p2 p4 k) :
    ∃ τ', evAt Try.prog (ev Try.prog m) m 126 16063 τ H = evAt Try.prog (ev Try.prog m) m 126 64255 τ' H ∧ FrU τ' q p2 p4 k := by
  obtain ⟨⟨t0, t2, t3, t4⟩, tk⟩ := S
  rw [at_M Try.func126 16063 (by decide) 14 (by decide) (by kernel_rfl) [64255]]
  exact ⟨_, by simp [Try.f126, tk, beqF, h4]; rfl, ⟨by simp [t0], by simp [t2], by simp [t3], by simp [t4]⟩, by simp [tk]⟩
set_option maxRecDepth 20000 in
theorem frS_64255 {q p2 p4 : Nat} (k : Int) (h5 : ¬ (k = 5)) (h17 : ¬ (k = 17)) (h21 : ¬ (k = 21)) (m : Nat) (τ : Tm) (H : AH) (S : FrU τ q p2 p4 k) :
    ∃ τ', evAt Try.prog (ev Try.prog m) m 126 64255 τ H = evAt Try.prog (ev Try.prog m) m 126 257023 τ' H ∧ FrU τ' q p2 p4 k := by
  obtain ⟨⟨t0, t2, t3, t4⟩, tk⟩ := S
  rw [at_M Try.func126 64255 (by decide) 16 (by decide) (by kernel_rfl) [257023]]
  exact ⟨_, by simp [Try.f126, tk, beqF, h5, h17, h21]; rfl, ⟨by simp [t0], by simp [t2], by simp [t3], by simp [t4]⟩, by simp [tk]⟩
set_option maxRecDepth 20000 in
theorem frS_257023 {q p2 p4 : Nat} (k : Int) (h6 : ¬ (k = 6)) (h29 : ¬ (k = 29)) (m : Nat) (τ : Tm) (H : AH) (S : FrU τ q p2 p4 k) :
    ∃ τ', evAt Try.prog (ev Try.prog m) m 126 257023 τ H = evAt Try.prog (ev Try.prog m) m 126 1028095 τ' H ∧ FrU τ' q p2 p4 k := by
  obtain ⟨⟨t0, t2, t3, t4⟩, tk⟩ := S
  rw [at_M Try.func126 257023 (by decide) 18 (by decide) (by kernel_rfl) [1028095]]
  exact ⟨_, by simp [Try.f126, tk, beqF, h6, h29]; rfl, ⟨by simp [t0], by simp [t2], by simp [t3], by simp [t4]⟩, by simp [tk]⟩
set_option maxRecDepth 20000 in
theorem frS_1028095 {q p2 p4 : Nat} (k : Int) (h7 : ¬ (k = 7)) (m : Nat) (τ : Tm) (H : AH) (S : FrU τ q p2 p4 k) :
    ∃ τ', evAt Try.prog (ev Try.prog m) m 126 1028095 τ H = evAt Try.prog (ev Try.prog m) m 126 4112383 τ' H ∧ FrU τ' q p2 p4 k := by
  obtain ⟨⟨t0, t2, t3, t4⟩, tk⟩ := S
  rw [at_M Try.func126 1028095 (by decide) 20 (by decide) (by kernel_rfl) [4112383]]
  exact ⟨_, by simp [Try.f126, tk, beqF, h7]; rfl, ⟨by simp [t0], by simp [t2], by simp [t3], by simp [t4]⟩, by simp [tk]⟩
set_option maxRecDepth 20000 in
theorem frS_4112383 {q p2 p4 : Nat} (k : Int) (h8 : ¬ (k = 8)) (h9 : ¬ (k = 9)) (h10 : ¬ (k = 10)) (h11 : ¬ (k = 11)) (h12 : ¬ (k = 12)) (h13 : ¬ (k = 13)) (h14 : ¬ (k = 14)) (h15 : ¬ (k = 15)) (m : Nat) (τ : Tm) (H : AH) (S : FrU τ q p2 p4 k) :
    ∃ τ', evAt Try.prog (ev Try.prog m) m 126 4112383 τ H = evAt Try.prog (ev Try.prog m) m 126 16449535 τ' H ∧ FrU τ' q p2 p4 k := by
  obtain ⟨⟨t0, t2, t3, t4⟩, tk⟩ := S
  rw [at_M Try.func126 4112383 (by decide) 22 (by decide) (by kernel_rfl) [16449535]]
  exact ⟨_, by simp [Try.f126, tk, beqF, h8, h9, h10, h11, h12, h13, h14, h15]; rfl, ⟨by simp [t0], by simp [t2], by simp [t3], by simp [t4]⟩, by simp [tk]⟩
set_option maxRecDepth 20000 in
theorem frS_16449535 {q p2 p4 : Nat} (k : Int) (h18 : ¬ (k = 18)) (h19 : ¬ (k = 19)) (m : Nat) (τ : Tm) (H : AH) (S : FrU τ q p2 p4 k) :
    ∃ τ', evAt Try.prog (ev Try.prog m) m 126 16449535 τ H = evAt Try.prog (ev Try.prog m) m 126 65798143 τ' H ∧ FrU τ' q p2 p4 k := by
  obtain ⟨⟨t0, t2, t3, t4⟩, tk⟩ := S
  rw [at_M Try.func126 16449535 (by decide) 24 (by decide) (by kernel_rfl) [65798143]]
  exact ⟨_, by simp [Try.f126, tk, beqF, h18, h19]; rfl, ⟨by simp [t0], by simp [t2], by simp [t3], by simp [t4]⟩, by simp [tk]⟩
set_option maxRecDepth 20000 in
theorem frS_65798143 {q p2 p4 : Nat} (k : Int) (h22 : ¬ (k = 22)) (h23 : ¬ (k = 23)) (m : Nat) (τ : Tm) (H : AH) (S : FrU τ q p2 p4 k) :
    ∃ τ', evAt Try.prog (ev Try.prog m) m 126 65798143 τ H = evAt Try.prog (ev Try.prog m) m 126 263192575 τ' H ∧ FrU τ' q p2 p4 k := by
  obtain ⟨⟨t0, t2, t3, t4⟩, tk⟩ := S
  rw [at_M Try.func126 65798143 (by decide) 26 (by decide) (by kernel_rfl) [263192575]]
  exact ⟨_, by simp [Try.f126, tk, beqF, h22, h23]; rfl, ⟨by simp [t0], by simp [t2], by simp [t3], by simp [t4]⟩, by simp [tk]⟩
set_option maxRecDepth 20000 in
theorem frS_263192575 {q p2 p4 : Nat} (k : Int) (h16 : ¬ (k = 16)) (h20 : ¬ (k = 20)) (h25 : ¬ (k = 25)) (m : Nat) (τ : Tm) (H : AH) (S : FrU τ q p2 p4 k) :
    ∃ τ', evAt Try.prog (ev Try.prog m) m 126 263192575 τ H = evAt Try.prog (ev Try.prog m) m 126 1052770303 τ' H ∧ FrU τ' q p2 p4 k := by
  obtain ⟨⟨t0, t2, t3, t4⟩, tk⟩ := S
  rw [at_M Try.func126 263192575 (by decide) 28 (by decide) (by kernel_rfl) [1052770303]]
  exact ⟨_, by simp [Try.f126, tk, beqF, h16, h20, h25]; rfl, ⟨by simp [t0], by simp [t2], by simp [t3], by simp [t4]⟩, by simp [tk]⟩
set_option maxRecDepth 20000 in
theorem frS_1052770303 {q p2 p4 : Nat} (k : Int) (h24 : ¬ (k = 24)) (m : Nat) (τ : Tm) (H : AH) (S : FrU τ q p2 p4 k) :
    ∃ τ', evAt Try.prog (ev Try.prog m) m 126 1052770303 τ H = evAt Try.prog (ev Try.prog m) m 126 4211081215 τ' H ∧ FrU τ' q p2 p4 k := by
  obtain ⟨⟨t0, t2, t3, t4⟩, tk⟩ := S
  rw [at_M Try.func126 1052770303 (by decide) 30 (by decide) (by kernel_rfl) [4211081215]]
  exact ⟨_, by simp [Try.f126, tk, beqF, h24]; rfl, ⟨by simp [t0], by simp [t2], by simp [t3], by simp [t4]⟩, by simp [tk]⟩
set_option maxRecDepth 20000 in
theorem frS_4211081215 {q p2 p4 : Nat} (k : Int) (h26 : ¬ (k = 26)) (h27 : ¬ (k = 27)) (m : Nat) (τ : Tm) (H : AH) (S : FrU τ q p2 p4 k) :
    ∃ τ', evAt Try.prog (ev Try.prog m) m 126 4211081215 τ H = evAt Try.prog (ev Try.prog m) m 126 16844324863 τ' H ∧ FrU τ' q p2 p4 k := by
  obtain ⟨⟨t0, t2, t3, t4⟩, tk⟩ := S
  rw [at_M Try.func126 4211081215 (by decide) 32 (by decide) (by kernel_rfl) [16844324863]]
  exact ⟨_, by simp [Try.f126, tk, beqF, h26, h27]; rfl, ⟨by simp [t0], by simp [t2], by simp [t3], by simp [t4]⟩, by simp [tk]⟩
set_option maxRecDepth 20000 in
theorem frS_16844324863 {q p2 p4 : Nat} (k : Int) (h28 : ¬ (k = 28)) (m : Nat) (τ : Tm) (H : AH) (S : FrU τ q p2 p4 k) :
    ∃ τ', evAt Try.prog (ev Try.prog m) m 126 16844324863 τ H = evAt Try.prog (ev Try.prog m) m 126 67377299455 τ' H ∧ FrU τ' q p2 p4 k := by
  obtain ⟨⟨t0, t2, t3, t4⟩, tk⟩ := S
  rw [at_M Try.func126 16844324863 (by decide) 34 (by decide) (by kernel_rfl) [67377299455]]
  exact ⟨_, by simp [Try.f126, tk, beqF, h28]; rfl, ⟨by simp [t0], by simp [t2], by simp [t3], by simp [t4]⟩, by simp [tk]⟩
set_option maxRecDepth 20000 in
theorem frS_67377299455 {q p2 p4 : Nat} (k : Int) (h48 : ¬ (k = 48)) (m : Nat) (τ : Tm) (H : AH) (S : FrU τ q p2 p4 k) :
    ∃ τ', evAt Try.prog (ev Try.prog m) m 126 67377299455 τ H = evAt Try.prog (ev Try.prog m) m 126 269509197823 τ' H ∧ FrU τ' q p2 p4 k := by
  obtain ⟨⟨t0, t2, t3, t4⟩, tk⟩ := S
  rw [at_M Try.func126 67377299455 (by decide) 36 (by decide) (by kernel_rfl) [269509197823]]
  exact ⟨_, by simp [Try.f126, tk, beqF, h48]; rfl, ⟨by simp [t0], by simp [t2], by simp [t3], by simp [t4]⟩, by simp [tk]⟩
end Go.Ev

/- A frame read by the program: the kinds of numbers alone. -/
namespace Go.Ev
open Go Go.Proofs
set_option linter.unusedSimpArgs false
set_option linter.unusedVariables false

/-- what a kind's place leaves: the frame, the scanner -/
structure FrE (q p2 p4 : Nat) (s : AV) (k : Int) (h H' : AH) (τ' : Tm) (fr : List AV) (st : Nat × Int) : Prop where
  T : FrT τ' q p2 p4 k
  g4 : H'.get p4 = some (.cells 72 false fr)
  gq : H'.get q = some (scB s st.1 st.2)
  next : h.next ≤ H'.next
  rest : ∀ b, b < h.next → b ≠ q → b ≠ p4 → H'.get b = h.get b
set_option maxRecDepth 20000 in
theorem frK_A {Hb h : AH} {q p2 p4 a : Nat} {s : AV} {l : List Int} {c : Int} (hs : Bs Hb s l) (hb : By l) (hK : Kp Hb h) (hqb : Hb.next ≤ q) (hq : h.get q = some (scB s a c)) (hqn : q < h.next) (ha : a ≤ l.length) (hl : l.length ≤ 65536)
    (k : Int) (hk : k = 16 ∨ k = 20 ∨ k = 25) (n4 : p4 ≠ q) (l4 : p4 < h.next) (g4 : h.get p4 = some (.cells 72 false (frC k 0 0 0 false .nilSlice .nilSlice .nilSlice))) (m : Nat) (hm : 21 ≤ m) (τ : Tm) (S : FrU τ q p2 p4 k) :
    ∃ τ' H', evAt Try.prog (ev Try.prog m) m 126 263192575 τ h = some (.normal, τ', H') ∧ FrE q p2 p4 s k h H' τ' (frC k (numberI l a c).1 0 0 false .nilSlice .nilSlice .nilSlice) (numberI l a c).2 := by
  obtain ⟨⟨t0, t2, t3, t4⟩, tk⟩ := S
  obtain ⟨H1, e1, k1, n1, g1, l1⟩ := number_ev (c := c) (a := a) hs hb hK hqb hq ha hl m hm
  have c4 := (k1.get p4 l4 n4).trans g4
  have n4' : ¬ (q = p4) := fun e => n4 e.symm
  simp only [frC] at c4 ⊢
  rw [at_M Try.func126 263192575 (by decide) 28 (by decide) (by kernel_rfl) [1052770303]]
  rcases hk with rfl | rfl | rfl
  all_goals
    refine ⟨_, _, by simp [Try.f126, tk, t0, t4, e1, c4, stVar, spl]; exact ⟨rfl, rfl⟩, ⟨by simp [t0], by simp [t2], by simp [t3], by simp [t4]⟩, by simp, by simp [n4', g1], by simp [n1], fun b hb h1 h2 => ?_⟩
    simp [h2]; exact k1.get b hb h1
set_option maxRecDepth 20000 in
theorem frK_AB {Hb h : AH} {q p2 p4 a : Nat} {s : AV} {l : List Int} {c : Int} (hs : Bs Hb s l) (hb : By l) (hK : Kp Hb h) (hqb : Hb.next ≤ q) (hq : h.get q = some (scB s a c)) (hqn : q < h.next) (ha : a ≤ l.length) (hl : l.length ≤ 65536)
    (k : Int) (hk : k = 5 ∨ k = 17 ∨ k = 21) (n4 : p4 ≠ q) (l4 : p4 < h.next) (g4 : h.get p4 = some (.cells 72 false (frC k 0 0 0 false .nilSlice .nilSlice .nilSlice))) (m : Nat) (hm : 21 ≤ m) (τ : Tm) (S : FrU τ q p2 p4 k) :
    ∃ τ' H', evAt Try.prog (ev Try.prog m) m 126 64255 τ h = some (.normal, τ', H') ∧ FrE q p2 p4 s k h H' τ' (frC k (numberI l a c).1 (numberI l (numberI l a c).2.1 (numberI l a c).2.2).1 0 false .nilSlice .nilSlice .nilSlice) (numberI l (numberI l a c).2.1 (numberI l a c).2.2).2 := by
  obtain ⟨⟨t0, t2, t3, t4⟩, tk⟩ := S
  obtain ⟨H1, e1, k1, n1, g1, l1⟩ := number_ev (c := c) (a := a) hs hb hK hqb hq ha hl m hm
  obtain ⟨H2, e2, k2, n2, g2, l2⟩ := number_ev hs hb (k1.kp hK hqb) hqb g1 l1 hl m hm
  have k12 := k1.trans k2
  have c4 := (k12.get p4 l4 n4).trans g4
  have n4' : ¬ (q = p4) := fun e => n4 e.symm
  simp only [frC] at c4 ⊢
  rw [at_M Try.func126 64255 (by decide) 16 (by decide) (by kernel_rfl) [257023]]
  rcases hk with rfl | rfl | rfl
  all_goals
    refine ⟨_, _, by simp [Try.f126, tk, t0, t4, e1, e2, c4, stVar, spl]; exact ⟨rfl, rfl⟩, ⟨by simp [t0], by simp [t2], by simp [t3], by simp [t4]⟩, by simp, by simp [n4', g2], by simp [n1, n2], fun b hb h1 h2 => ?_⟩
    simp [h2]; exact k12.get b hb h1
set_option maxRecDepth 20000 in
theorem frK_ABC {Hb h : AH} {q p2 p4 a : Nat} {s : AV} {l : List Int} {c : Int} (hs : Bs Hb s l) (hb : By l) (hK : Kp Hb h) (hqb : Hb.next ≤ q) (hq : h.get q = some (scB s a c)) (hqn : q < h.next) (ha : a ≤ l.length) (hl : l.length ≤ 65536)
     (n4 : p4 ≠ q) (l4 : p4 < h.next) (g4 : h.get p4 = some (.cells 72 false (frC 4 0 0 0 false .nilSlice .nilSlice .nilSlice))) (m : Nat) (hm : 21 ≤ m) (τ : Tm) (S : FrU τ q p2 p4 4) :
    ∃ τ' H', evAt Try.prog (ev Try.prog m) m 126 16063 τ h = some (.normal, τ', H') ∧ FrE q p2 p4 s 4 h H' τ' (frC 4 (numberI l a c).1 (numberI l (numberI l a c).2.1 (numberI l a c).2.2).1 (numberI l (numberI l (numberI l a c).2.1 (numberI l a c).2.2).2.1 (numberI l (numberI l a c).2.1 (numberI l a c).2.2).2.2).1 false .nilSlice .nilSlice .nilSlice) (numberI l (numberI l (numberI l a c).2.1 (numberI l a c).2.2).2.1 (numberI l (numberI l a c).2.1 (numberI l a c).2.2).2.2).2 := by
  obtain ⟨⟨t0, t2, t3, t4⟩, tk⟩ := S
  obtain ⟨H1, e1, k1, n1, g1, l1⟩ := number_ev (c := c) (a := a) hs hb hK hqb hq ha hl m hm
  obtain ⟨H2, e2, k2, n2, g2, l2⟩ := number_ev hs hb (k1.kp hK hqb) hqb g1 l1 hl m hm
  have k12 := k1.trans k2
  obtain ⟨H3, e3, k3, n3, g3, l3⟩ := number_ev hs hb (k12.kp hK hqb) hqb g2 l2 hl m hm
  have k13 := k12.trans k3
  have c4 := (k13.get p4 l4 n4).trans g4
  have n4' : ¬ (q = p4) := fun e => n4 e.symm
  simp only [frC] at c4 ⊢
  rw [at_M Try.func126 16063 (by decide) 14 (by decide) (by kernel_rfl) [64255]]
  refine ⟨_, _, by simp [Try.f126, tk, t0, t4, e1, e2, e3, c4, stVar, spl]; exact ⟨rfl, rfl⟩, ⟨by simp [t0], by simp [t2], by simp [t3], by simp [t4]⟩, by simp, by simp [n4', g3], by simp [n1, n2, n3], fun b hb h1 h2 => ?_⟩
  simp [h2]; exact k13.get b hb h1
set_option maxRecDepth 20000 in
theorem frK_18 {Hb h : AH} {q p2 p4 a : Nat} {s : AV} {l : List Int} {c : Int} (hs : Bs Hb s l) (hb : By l) (hK : Kp Hb h) (hqb : Hb.next ≤ q) (hq : h.get q = some (scB s a c)) (hqn : q < h.next) (ha : a ≤ l.length) (hl : l.length ≤ 65536)
    (k : Int) (hk : k = 18 ∨ k = 19) (n4 : p4 ≠ q) (l4 : p4 < h.next) (b4 : Hb.next ≤ p4) (g4 : h.get p4 = some (.cells 72 false (frC k 0 0 0 false .nilSlice .nilSlice .nilSlice))) (m : Nat) (hm : 21 ≤ m) (τ : Tm) (S : FrU τ q p2 p4 k) :
    ∃ τ' H', evAt Try.prog (ev Try.prog m) m 126 16449535 τ h = some (.normal, τ', H') ∧ FrE q p2 p4 s k h H' τ' (frC 18 (numberI l a c).1 (k - 18) 0 false .nilSlice .nilSlice .nilSlice) (numberI l a c).2 := by
  obtain ⟨⟨t0, t2, t3, t4⟩, tk⟩ := S
  have n4' : ¬ (q = p4) := fun e => n4 e.symm
  have K1 : Kp Hb (h.set p4 (.cells 72 false (frC 18 0 (k - 18) 0 false .nilSlice .nilSlice .nilSlice))) := ⟨hK.next, fun b hb' => by rw [AH.set_getN _ _ (by omega)]; exact hK.get b hb'⟩
  obtain ⟨H1, e1, k1, n1, g1, l1⟩ := number_ev (c := c) (a := a) hs hb K1 hqb (by rw [AH.set_getN _ _ (by omega)]; exact hq) ha hl m hm
  have c4 := k1.get p4 (by simpa using l4) n4
  simp only [frC] at c4 g4 e1 ⊢
  simp at c4 n1
  have w1 : IntKind.i64.wrap (k - 18) = k - 18 := wrap_i64 (n := k - 18) (by omega) (by omega)
  rw [at_M Try.func126 16449535 (by decide) 24 (by decide) (by kernel_rfl) [65798143]]
  rcases hk with rfl | rfl
  all_goals
    have z0 : IntKind.i64.wrap 0 = 0 := by decide
    have z1 : IntKind.i64.wrap 1 = 1 := by decide
    simp at e1 c4
    refine ⟨_, _, by simp [Try.f126, tk, t0, t3, t4, e1, z0, z1, c4, g4, stVar, spl]; exact ⟨rfl, rfl⟩, ⟨by simp [t0], by simp [t2], by simp [t3], by simp [t4]⟩, by simp, by simp [n4', g1], by simp [n1], fun b hb h1 h2 => ?_⟩
    simp [h2]; rw [k1.get b (by simpa using hb) h1, AH.set_getN _ _ h2]

set_option maxRecDepth 20000 in
theorem frK_22 {Hb h : AH} {q p2 p4 a : Nat} {s : AV} {l : List Int} {c : Int} (hs : Bs Hb s l) (hb : By l) (hK : Kp Hb h) (hqb : Hb.next ≤ q) (hq : h.get q = some (scB s a c)) (hqn : q < h.next) (ha : a ≤ l.length) (hl : l.length ≤ 65536)
    (k : Int) (hk : k = 22 ∨ k = 23) (n4 : p4 ≠ q) (l4 : p4 < h.next) (b4 : Hb.next ≤ p4) (g4 : h.get p4 = some (.cells 72 false (frC k 0 0 0 false .nilSlice .nilSlice .nilSlice))) (m : Nat) (hm : 21 ≤ m) (τ : Tm) (S : FrU τ q p2 p4 k) :
    ∃ τ' H', evAt Try.prog (ev Try.prog m) m 126 65798143 τ h = some (.normal, τ', H') ∧ FrE q p2 p4 s k h H' τ' (frC 22 (numberI l a c).1 (k - 22) 0 false .nilSlice .nilSlice .nilSlice) (numberI l a c).2 := by
  obtain ⟨⟨t0, t2, t3, t4⟩, tk⟩ := S
  have n4' : ¬ (q = p4) := fun e => n4 e.symm
  have K1 : Kp Hb (h.set p4 (.cells 72 false (frC 22 0 (k - 22) 0 false .nilSlice .nilSlice .nilSlice))) := ⟨hK.next, fun b hb' => by rw [AH.set_getN _ _ (by omega)]; exact hK.get b hb'⟩
  obtain ⟨H1, e1, k1, n1, g1, l1⟩ := number_ev (c := c) (a := a) hs hb K1 hqb (by rw [AH.set_getN _ _ (by omega)]; exact hq) ha hl m hm
  have c4 := k1.get p4 (by simpa using l4) n4
  simp only [frC] at c4 g4 e1 ⊢
  simp at c4 n1
  have w1 : IntKind.i64.wrap (k - 22) = k - 22 := wrap_i64 (n := k - 22) (by omega) (by omega)
  rw [at_M Try.func126 65798143 (by decide) 26 (by decide) (by kernel_rfl) [263192575]]
  rcases hk with rfl | rfl
  all_goals
    have z0 : IntKind.i64.wrap 0 = 0 := by decide
    have z1 : IntKind.i64.wrap 1 = 1 := by decide
    simp at e1 c4
    refine ⟨_, _, by simp [Try.f126, tk, t0, t3, t4, e1, z0, z1, c4, g4, stVar, spl]; exact ⟨rfl, rfl⟩, ⟨by simp [t0], by simp [t2], by simp [t3], by simp [t4]⟩, by simp, by simp [n4', g1], by simp [n1], fun b hb h1 h2 => ?_⟩
    simp [h2]; rw [k1.get b (by simpa using hb) h1, AH.set_getN _ _ h2]

end Go.Ev

/- A frame read by the program: kinds of bytes alone. -/
namespace Go.Ev
open Go Go.Proofs
set_option linter.unusedSimpArgs false
set_option linter.unusedVariables false

set_option maxRecDepth 20000 in
theorem frK_7 {Hb h : AH} {q p2 p4 a : Nat} {s : AV} {l : List Int} {c : Int} (hs : Bs Hb s l) (hb : By l) (hK : Kp Hb h) (hqb : Hb.next ≤ q) (hq : h.get q = some (scB s a c)) (hqn : q < h.next) (ha : a ≤ l.length) (hl : l.length ≤ 65536)
    (n4 : p4 ≠ q) (l4 : p4 < h.next) (b4 : Hb.next ≤ p4) (g4 : h.get p4 = some (.cells 72 false (frC 7 0 0 0 false .nilSlice .nilSlice .nilSlice))) (m : Nat) (hm : 22 ≤ m) (τ : Tm) (S : FrU τ q p2 p4 7) :
    ∃ τ' H' r, evAt Try.prog (ev Try.prog m) m 126 1028095 τ h = some (.normal, τ', H') ∧ FrE q p2 p4 s 7 h H' τ' (frC 7 0 0 0 false r .nilSlice .nilSlice) (countedI l a c).2 ∧ Ow h.next H'.next H' r (countedI l a c).1 := by
  obtain ⟨⟨t0, t2, t3, t4⟩, tk⟩ := S
  have n4' : ¬ (q = p4) := fun e => n4 e.symm
  obtain ⟨r1, H1, e1, k1, n1, o1, g1, l1⟩ := counted_ev (c := c) (a := a) hs hb hK hqb hq ha hl m (by omega)
  have hlen : (countedI l a c).1.length ≤ 70368744177664 := by
    have := (takeI_len l (numberI l a c).2.1 (numberI l a c).2.2 (numberI l a c).1).2
    unfold countedI; omega
  obtain ⟨r, H2, e2, k2, o2⟩ := copied_ev o1 (k1.kp hK hqb) hlen m (by omega)
  have n2 := k2.next
  have c4 := (k2.get p4 (by omega)).trans ((k1.get p4 l4 n4).trans g4)
  have cq := (k2.get q (by omega)).trans g1
  have or_ := o2.bs.one
  have orc := cells_one or_
  have o3 := o2.kx ((Kx.refl p4 H2).set (.cells 72 false (frC 7 0 0 0 false r .nilSlice .nilSlice))) (.inl (by omega))
  simp only [frC] at c4 o3 ⊢
  rw [at_M Try.func126 1028095 (by decide) 20 (by decide) (by kernel_rfl) [4112383]]
  refine ⟨_, _, r, by simp [Try.f126, tk, t0, t4, e1, e2, c4, stVar, spl, or_, orc]; first | exact ⟨rfl, rfl⟩ | rfl, ⟨⟨by simp [t0], by simp [t2], by simp [t3], by simp [t4]⟩, by simp, by simp [n4', cq], by simp; omega, fun b hb h1 h2 => ?_⟩, Ow.wide o3 (by omega) (by simp) (by simp)⟩
  simp [h2]; rw [k2.get b (by omega)]; exact k1.get b hb h1
set_option maxRecDepth 20000 in
theorem frK_48 {Hb h : AH} {q p2 p4 a : Nat} {s : AV} {l : List Int} {c : Int} (hs : Bs Hb s l) (hb : By l) (hK : Kp Hb h) (hqb : Hb.next ≤ q) (hq : h.get q = some (scB s a c)) (hqn : q < h.next) (ha : a ≤ l.length) (hl : l.length ≤ 65536)
    (n4 : p4 ≠ q) (l4 : p4 < h.next) (b4 : Hb.next ≤ p4) (g4 : h.get p4 = some (.cells 72 false (frC 48 0 0 0 false .nilSlice .nilSlice .nilSlice))) (m : Nat) (hm : 22 ≤ m) (τ : Tm) (S : FrU τ q p2 p4 48) :
    ∃ τ' H' r, evAt Try.prog (ev Try.prog m) m 126 67377299455 τ h = some (.normal, τ', H') ∧ FrE q p2 p4 s 48 h H' τ' (frC 48 0 0 0 false r .nilSlice .nilSlice) (restI l a c).2 ∧ Ow h.next H'.next H' r (restI l a c).1 := by
  obtain ⟨⟨t0, t2, t3, t4⟩, tk⟩ := S
  have n4' : ¬ (q = p4) := fun e => n4 e.symm
  obtain ⟨r1, H1, e1, k1, n1, o1, g1, l1⟩ := rest_ev (c := c) (a := a) hs hK hqb hq ha hl m (by omega)
  have hlen : (restI l a c).1.length ≤ 70368744177664 := by
    have := (takeI_len l a c ((l.length : Int) - a)).2
    unfold restI; omega
  obtain ⟨r, H2, e2, k2, o2⟩ := copied_ev o1 (k1.kp hK hqb) hlen m (by omega)
  have n2 := k2.next
  have c4 := (k2.get p4 (by omega)).trans ((k1.get p4 l4 n4).trans g4)
  have cq := (k2.get q (by omega)).trans g1
  have or_ := o2.bs.one
  have orc := cells_one or_
  have o3 := o2.kx ((Kx.refl p4 H2).set (.cells 72 false (frC 48 0 0 0 false r .nilSlice .nilSlice))) (.inl (by omega))
  simp only [frC] at c4 o3 ⊢
  rw [at_M Try.func126 67377299455 (by decide) 36 (by decide) (by kernel_rfl) [269509197823]]
  refine ⟨_, _, r, by simp [Try.f126, tk, t0, t4, e1, e2, c4, stVar, spl, or_, orc]; first | exact ⟨rfl, rfl⟩ | rfl, ⟨⟨by simp [t0], by simp [t2], by simp [t3], by simp [t4]⟩, by simp, by simp [n4', cq], by simp; omega, fun b hb h1 h2 => ?_⟩, Ow.wide o3 (by omega) (by simp) (by simp)⟩
  simp [h2]; rw [k2.get b (by omega)]; exact k1.get b hb h1
end Go.Ev

/- A frame read by the program: kinds of numbers and bytes. -/
namespace Go.Ev
open Go Go.Proofs
set_option linter.unusedSimpArgs false
set_option linter.unusedVariables false
theorem countedI_len (l : List Int) (a : Nat) (c : Int) : (countedI l a c).1.length ≤ 70368744177664 ∨ 70368744177664 < l.length := by
  have := (takeI_len l (numberI l a c).2.1 (numberI l a c).2.2 (numberI l a c).1).2
  unfold countedI; omega

set_option maxRecDepth 20000 in
theorem frK_6 {Hb h : AH} {q p2 p4 a : Nat} {s : AV} {l : List Int} {c : Int} (hs : Bs Hb s l) (hb : By l) (hK : Kp Hb h) (hqb : Hb.next ≤ q) (hq : h.get q = some (scB s a c)) (hqn : q < h.next) (ha : a ≤ l.length) (hl : l.length ≤ 65536)
    (k : Int) (hk : k = 6 ∨ k = 29) (n4 : p4 ≠ q) (l4 : p4 < h.next) (b4 : Hb.next ≤ p4) (g4 : h.get p4 = some (.cells 72 false (frC k 0 0 0 false .nilSlice .nilSlice .nilSlice))) (m : Nat) (hm : 22 ≤ m) (τ : Tm) (S : FrU τ q p2 p4 k) :
    ∃ τ' H' r, evAt Try.prog (ev Try.prog m) m 126 257023 τ h = some (.normal, τ', H') ∧ FrE q p2 p4 s k h H' τ' (frC k ((numberI l a c).1) 0 0 false r .nilSlice .nilSlice) (((countedI l ((numberI l a c).2.1) ((numberI l a c).2.2)).2.1, (countedI l ((numberI l a c).2.1) ((numberI l a c).2.2)).2.2) : Nat × Int) ∧ Ow h.next H'.next H' r (countedI l ((numberI l a c).2.1) ((numberI l a c).2.2)).1 := by
  obtain ⟨⟨t0, t2, t3, t4⟩, tk⟩ := S
  have n4' : ¬ (q = p4) := fun e => n4 e.symm
  obtain ⟨H1, e1, k1, n1, g1, l1⟩ := number_ev (c := c) (a := a) hs hb hK hqb hq ha hl m (by omega)
  have kk1 := k1
  have c4 := (kk1.get p4 l4 n4).trans g4
  let A0 : AH := H1.set p4 (.cells 72 false (frC k ((numberI l a c).1) 0 0 false .nilSlice .nilSlice .nilSlice))
  have KA : Kp Hb A0 := (kk1.kp hK hqb).set b4 _
  have qA : A0.get q = some (scB s ((numberI l a c).2.1) ((numberI l a c).2.2)) := by simp only [A0]; rw [AH.set_getN _ _ (by omega)]; exact g1
  have pA : A0.get p4 = some (.cells 72 false (frC k ((numberI l a c).1) 0 0 false .nilSlice .nilSlice .nilSlice)) := by simp [A0]
  have nA : h.next ≤ A0.next := by simp only [A0, AH.set_next]; omega
  have rA : ∀ b, b < h.next → b ≠ q → b ≠ p4 → A0.get b = h.get b := fun b h0 h1 h2 => by simp only [A0]; rw [AH.set_getN _ _ h2]; exact kk1.get b h0 h1
  obtain ⟨r1, X0, x0, y0, z0, o0, q0, m0⟩ := counted_ev (H := A0) (c := ((numberI l a c).2.2)) (a := ((numberI l a c).2.1)) hs hb KA hqb qA l1 hl m (by omega)
  have hlen0 : (countedI l ((numberI l a c).2.1) ((numberI l a c).2.2)).1.length ≤ 70368744177664 := by have := countedI_len l ((numberI l a c).2.1) ((numberI l a c).2.2); omega
  obtain ⟨r, Z0, f0, j0, d0⟩ := copied_ev o0 (y0.kp KA hqb) hlen0 m (by omega)
  have nz0 := j0.next
  have lp0 : p4 < A0.next := by omega
  have lq0 : q < A0.next := by omega
  have cp0 : Z0.get p4 = some (.cells 72 false (frC k ((numberI l a c).1) 0 0 false .nilSlice .nilSlice .nilSlice)) := (j0.get p4 (by omega)).trans ((y0.get p4 lp0 n4).trans pA)
  have cq0 : Z0.get q = some (scB s ((countedI l ((numberI l a c).2.1) ((numberI l a c).2.2)).2.1) ((countedI l ((numberI l a c).2.1) ((numberI l a c).2.2)).2.2)) := (j0.get q (by omega)).trans q0
  have rZ0 : ∀ b, b < h.next → b ≠ q → b ≠ p4 → Z0.get b = h.get b := fun b h0 h1 h2 => (j0.get b (by omega)).trans ((y0.get b (by omega) h1).trans (rA b h0 h1 h2))
  have or0 := d0.bs.one
  have orc0 := cells_one or0
  have dd0 := d0.kx ((Kx.refl p4 Z0).set (.cells 72 false (frC k ((numberI l a c).1) 0 0 false r .nilSlice .nilSlice))) (.inl (by omega))
  simp only [frC, A0] at c4 x0 cp0 f0 dd0 ⊢
  rw [at_M Try.func126 257023 (by decide) 18 (by decide) (by kernel_rfl) [1028095]]
  rcases hk with rfl | rfl
  all_goals
    refine ⟨_, _, r, by simp [Try.f126, tk, t0, t4, e1, c4, x0, f0, cp0, or0, orc0, stVar, spl]; first | exact ⟨rfl, rfl⟩ | rfl, ⟨⟨by simp [t0], by simp [t2], by simp [t3], by simp [t4]⟩, by simp, by simp [n4', cq0], by simp <;> omega, fun b h0 h1 h2 => ?_⟩, Ow.wide dd0 (by omega) (by simp) (by simp)⟩
    simp [h2]; exact rZ0 b h0 h1 h2

set_option maxRecDepth 20000 in
theorem frK_28 {Hb h : AH} {q p2 p4 a : Nat} {s : AV} {l : List Int} {c : Int} (hs : Bs Hb s l) (hb : By l) (hK : Kp Hb h) (hqb : Hb.next ≤ q) (hq : h.get q = some (scB s a c)) (hqn : q < h.next) (ha : a ≤ l.length) (hl : l.length ≤ 65536)
    (n4 : p4 ≠ q) (l4 : p4 < h.next) (b4 : Hb.next ≤ p4) (g4 : h.get p4 = some (.cells 72 false (frC 28 0 0 0 false .nilSlice .nilSlice .nilSlice))) (m : Nat) (hm : 22 ≤ m) (τ : Tm) (S : FrU τ q p2 p4 28) :
    ∃ τ' H' r, evAt Try.prog (ev Try.prog m) m 126 16844324863 τ h = some (.normal, τ', H') ∧ FrE q p2 p4 s 28 h H' τ' (frC 28 ((numberI l a c).1) ((numberI l ((numberI l a c).2.1) ((numberI l a c).2.2)).1) 0 false r .nilSlice .nilSlice) (((countedI l ((numberI l ((numberI l a c).2.1) ((numberI l a c).2.2)).2.1) ((numberI l ((numberI l a c).2.1) ((numberI l a c).2.2)).2.2)).2.1, (countedI l ((numberI l ((numberI l a c).2.1) ((numberI l a c).2.2)).2.1) ((numberI l ((numberI l a c).2.1) ((numberI l a c).2.2)).2.2)).2.2) : Nat × Int) ∧ Ow h.next H'.next H' r (countedI l ((numberI l ((numberI l a c).2.1) ((numberI l a c).2.2)).2.1) ((numberI l ((numberI l a c).2.1) ((numberI l a c).2.2)).2.2)).1 := by
  obtain ⟨⟨t0, t2, t3, t4⟩, tk⟩ := S
  have n4' : ¬ (q = p4) := fun e => n4 e.symm
  obtain ⟨H1, e1, k1, n1, g1, l1⟩ := number_ev (c := c) (a := a) hs hb hK hqb hq ha hl m (by omega)
  have kk1 := k1
  obtain ⟨H2, e2, k2, n2, g2, l2⟩ := number_ev (c := (numberI l a c).2.2) (a := (numberI l a c).2.1) hs hb (kk1.kp hK hqb) hqb g1 l1 hl m (by omega)
  have kk2 := kk1.trans k2
  have c4 := (kk2.get p4 l4 n4).trans g4
  let A0 : AH := H2.set p4 (.cells 72 false (frC 28 ((numberI l a c).1) ((numberI l ((numberI l a c).2.1) ((numberI l a c).2.2)).1) 0 false .nilSlice .nilSlice .nilSlice))
  have KA : Kp Hb A0 := (kk2.kp hK hqb).set b4 _
  have qA : A0.get q = some (scB s ((numberI l ((numberI l a c).2.1) ((numberI l a c).2.2)).2.1) ((numberI l ((numberI l a c).2.1) ((numberI l a c).2.2)).2.2)) := by simp only [A0]; rw [AH.set_getN _ _ (by omega)]; exact g2
  have pA : A0.get p4 = some (.cells 72 false (frC 28 ((numberI l a c).1) ((numberI l ((numberI l a c).2.1) ((numberI l a c).2.2)).1) 0 false .nilSlice .nilSlice .nilSlice)) := by simp [A0]
  have nA : h.next ≤ A0.next := by simp only [A0, AH.set_next]; omega
  have rA : ∀ b, b < h.next → b ≠ q → b ≠ p4 → A0.get b = h.get b := fun b h0 h1 h2 => by simp only [A0]; rw [AH.set_getN _ _ h2]; exact kk2.get b h0 h1
  obtain ⟨r1, X0, x0, y0, z0, o0, q0, m0⟩ := counted_ev (H := A0) (c := ((numberI l ((numberI l a c).2.1) ((numberI l a c).2.2)).2.2)) (a := ((numberI l ((numberI l a c).2.1) ((numberI l a c).2.2)).2.1)) hs hb KA hqb qA l2 hl m (by omega)
  have hlen0 : (countedI l ((numberI l ((numberI l a c).2.1) ((numberI l a c).2.2)).2.1) ((numberI l ((numberI l a c).2.1) ((numberI l a c).2.2)).2.2)).1.length ≤ 70368744177664 := by have := countedI_len l ((numberI l ((numberI l a c).2.1) ((numberI l a c).2.2)).2.1) ((numberI l ((numberI l a c).2.1) ((numberI l a c).2.2)).2.2); omega
  obtain ⟨r, Z0, f0, j0, d0⟩ := copied_ev o0 (y0.kp KA hqb) hlen0 m (by omega)
  have nz0 := j0.next
  have lp0 : p4 < A0.next := by omega
  have lq0 : q < A0.next := by omega
  have cp0 : Z0.get p4 = some (.cells 72 false (frC 28 ((numberI l a c).1) ((numberI l ((numberI l a c).2.1) ((numberI l a c).2.2)).1) 0 false .nilSlice .nilSlice .nilSlice)) := (j0.get p4 (by omega)).trans ((y0.get p4 lp0 n4).trans pA)
  have cq0 : Z0.get q = some (scB s ((countedI l ((numberI l ((numberI l a c).2.1) ((numberI l a c).2.2)).2.1) ((numberI l ((numberI l a c).2.1) ((numberI l a c).2.2)).2.2)).2.1) ((countedI l ((numberI l ((numberI l a c).2.1) ((numberI l a c).2.2)).2.1) ((numberI l ((numberI l a c).2.1) ((numberI l a c).2.2)).2.2)).2.2)) := (j0.get q (by omega)).trans q0
  have rZ0 : ∀ b, b < h.next → b ≠ q → b ≠ p4 → Z0.get b = h.get b := fun b h0 h1 h2 => (j0.get b (by omega)).trans ((y0.get b (by omega) h1).trans (rA b h0 h1 h2))
  have or0 := d0.bs.one
  have orc0 := cells_one or0
  have dd0 := d0.kx ((Kx.refl p4 Z0).set (.cells 72 false (frC 28 ((numberI l a c).1) ((numberI l ((numberI l a c).2.1) ((numberI l a c).2.2)).1) 0 false r .nilSlice .nilSlice))) (.inl (by omega))
  simp only [frC, A0] at c4 x0 cp0 f0 dd0 ⊢
  rw [at_M Try.func126 16844324863 (by decide) 34 (by decide) (by kernel_rfl) [67377299455]]
  refine ⟨_, _, r, by simp [Try.f126, tk, t0, t4, e1, e2, c4, x0, f0, cp0, or0, orc0, stVar, spl]; first | exact ⟨rfl, rfl⟩ | rfl, ⟨⟨by simp [t0], by simp [t2], by simp [t3], by simp [t4]⟩, by simp, by simp [n4', cq0], by simp <;> omega, fun b h0 h1 h2 => ?_⟩, Ow.wide dd0 (by omega) (by simp) (by simp)⟩
  simp [h2]; exact rZ0 b h0 h1 h2

set_option maxRecDepth 20000 in
theorem frK_26 {Hb h : AH} {q p2 p4 a : Nat} {s : AV} {l : List Int} {c : Int} (hs : Bs Hb s l) (hb : By l) (hK : Kp Hb h) (hqb : Hb.next ≤ q) (hq : h.get q = some (scB s a c)) (hqn : q < h.next) (ha : a ≤ l.length) (hl : l.length ≤ 65536)
    (k : Int) (hk : k = 26 ∨ k = 27) (n4 : p4 ≠ q) (l4 : p4 < h.next) (b4 : Hb.next ≤ p4) (g4 : h.get p4 = some (.cells 72 false (frC k 0 0 0 false .nilSlice .nilSlice .nilSlice))) (m : Nat) (hm : 22 ≤ m) (τ : Tm) (S : FrU τ q p2 p4 k) :
    ∃ τ' H' r, evAt Try.prog (ev Try.prog m) m 126 4211081215 τ h = some (.normal, τ', H') ∧ FrE q p2 p4 s k h H' τ' (frC k 0 0 0 false r .nilSlice .nilSlice) (((takeI l a c 8).2.1, (takeI l a c 8).2.2) : Nat × Int) ∧ Ow h.next H'.next H' r (takeI l a c 8).1 := by
  obtain ⟨⟨t0, t2, t3, t4⟩, tk⟩ := S
  have n4' : ¬ (q = p4) := fun e => n4 e.symm
  have KA := hK
  have qA := hq
  have pA := g4
  have nA : h.next ≤ h.next := Nat.le_refl _
  have rA : ∀ b, b < h.next → b ≠ q → b ≠ p4 → h.get b = h.get b := fun b h0 h1 h2 => rfl
  obtain ⟨r1, X0, x0, y0, z0, o0, q0, m0⟩ := take_ev (H := h) (c := c) (a := a) hs KA hqb qA ha hl 8 (by omega) m (by omega)
  have hlen0 : (takeI l a c 8).1.length ≤ 70368744177664 := by have := (takeI_len l a c 8).2; omega
  obtain ⟨r, Z0, f0, j0, d0⟩ := copied_ev o0 (y0.kp KA hqb) hlen0 m (by omega)
  have nz0 := j0.next
  have lp0 : p4 < h.next := by omega
  have lq0 : q < h.next := by omega
  have cp0 : Z0.get p4 = some (.cells 72 false (frC k 0 0 0 false .nilSlice .nilSlice .nilSlice)) := (j0.get p4 (by omega)).trans ((y0.get p4 lp0 n4).trans pA)
  have cq0 : Z0.get q = some (scB s ((takeI l a c 8).2.1) ((takeI l a c 8).2.2)) := (j0.get q (by omega)).trans q0
  have rZ0 : ∀ b, b < h.next → b ≠ q → b ≠ p4 → Z0.get b = h.get b := fun b h0 h1 h2 => (j0.get b (by omega)).trans ((y0.get b (by omega) h1).trans (rA b h0 h1 h2))
  have or0 := d0.bs.one
  have orc0 := cells_one or0
  have dd0 := d0.kx ((Kx.refl p4 Z0).set (.cells 72 false (frC k 0 0 0 false r .nilSlice .nilSlice))) (.inl (by omega))
  simp only [frC] at g4 x0 cp0 f0 dd0 ⊢
  rw [at_M Try.func126 4211081215 (by decide) 32 (by decide) (by kernel_rfl) [16844324863]]
  rcases hk with rfl | rfl
  all_goals
    refine ⟨_, _, r, by simp [Try.f126, tk, t0, t4, g4, x0, f0, cp0, or0, orc0, stVar, spl]; first | exact ⟨rfl, rfl⟩ | rfl, ⟨⟨by simp [t0], by simp [t2], by simp [t3], by simp [t4]⟩, by simp, by simp [n4', cq0], by simp <;> omega, fun b h0 h1 h2 => ?_⟩, Ow.wide dd0 (by omega) (by simp) (by simp)⟩
    simp [h2]; exact rZ0 b h0 h1 h2

set_option maxRecDepth 20000 in
theorem frK_49 {Hb h : AH} {q p2 p4 a : Nat} {s : AV} {l : List Int} {c : Int} (hs : Bs Hb s l) (hb : By l) (hK : Kp Hb h) (hqb : Hb.next ≤ q) (hq : h.get q = some (scB s a c)) (hqn : q < h.next) (ha : a ≤ l.length) (hl : l.length ≤ 65536)
    (n4 : p4 ≠ q) (l4 : p4 < h.next) (b4 : Hb.next ≤ p4) (g4 : h.get p4 = some (.cells 72 false (frC 49 0 0 0 false .nilSlice .nilSlice .nilSlice))) (m : Nat) (hm : 22 ≤ m) (τ : Tm) (S : FrU τ q p2 p4 49) :
    ∃ τ' H' r, evAt Try.prog (ev Try.prog m) m 126 269509197823 τ h = some (.normal, τ', H') ∧ FrE q p2 p4 s 49 h H' τ' (frC 48 0 0 0 false r .nilSlice .nilSlice) (((countedI l a c).2.1, (countedI l a c).2.2) : Nat × Int) ∧ Ow h.next H'.next H' r (countedI l a c).1 := by
  obtain ⟨⟨t0, t2, t3, t4⟩, tk⟩ := S
  have n4' : ¬ (q = p4) := fun e => n4 e.symm
  let A0 : AH := h.set p4 (.cells 72 false (frC 48 0 0 0 false .nilSlice .nilSlice .nilSlice))
  have KA : Kp Hb A0 := hK.set b4 _
  have qA : A0.get q = some (scB s a c) := by simp only [A0]; rw [AH.set_getN _ _ (by omega)]; exact hq
  have pA : A0.get p4 = some (.cells 72 false (frC 48 0 0 0 false .nilSlice .nilSlice .nilSlice)) := by simp [A0]
  have nA : h.next ≤ A0.next := by simp only [A0, AH.set_next]; omega
  have rA : ∀ b, b < h.next → b ≠ q → b ≠ p4 → A0.get b = h.get b := fun b h0 h1 h2 => by simp only [A0]; rw [AH.set_getN _ _ h2]; skip
  obtain ⟨r1, X0, x0, y0, z0, o0, q0, m0⟩ := counted_ev (H := A0) (c := c) (a := a) hs hb KA hqb qA ha hl m (by omega)
  have hlen0 : (countedI l a c).1.length ≤ 70368744177664 := by have := countedI_len l a c; omega
  obtain ⟨r, Z0, f0, j0, d0⟩ := copied_ev o0 (y0.kp KA hqb) hlen0 m (by omega)
  have nz0 := j0.next
  have lp0 : p4 < A0.next := by omega
  have lq0 : q < A0.next := by omega
  have cp0 : Z0.get p4 = some (.cells 72 false (frC 48 0 0 0 false .nilSlice .nilSlice .nilSlice)) := (j0.get p4 (by omega)).trans ((y0.get p4 lp0 n4).trans pA)
  have cq0 : Z0.get q = some (scB s ((countedI l a c).2.1) ((countedI l a c).2.2)) := (j0.get q (by omega)).trans q0
  have rZ0 : ∀ b, b < h.next → b ≠ q → b ≠ p4 → Z0.get b = h.get b := fun b h0 h1 h2 => (j0.get b (by omega)).trans ((y0.get b (by omega) h1).trans (rA b h0 h1 h2))
  have or0 := d0.bs.one
  have orc0 := cells_one or0
  have dd0 := d0.kx ((Kx.refl p4 Z0).set (.cells 72 false (frC 48 0 0 0 false r .nilSlice .nilSlice))) (.inl (by omega))
  simp only [frC, A0] at g4 x0 cp0 f0 dd0 ⊢
  rw [at_M Try.func126 269509197823 (by decide) 38 (by decide) (by kernel_rfl) []]
  refine ⟨_, _, r, by simp [Try.f126, tk, t0, t4, g4, x0, f0, cp0, or0, orc0, stVar, spl]; first | exact ⟨rfl, rfl⟩ | rfl, ⟨⟨by simp [t0], by simp [t2], by simp [t3], by simp [t4]⟩, by simp, by simp [n4', cq0], by simp <;> omega, fun b h0 h1 h2 => ?_⟩, Ow.wide dd0 (by omega) (by simp) (by simp)⟩
  simp [h2]; exact rZ0 b h0 h1 h2

set_option maxRecDepth 20000 in
theorem frK_24 {Hb h : AH} {q p2 p4 a : Nat} {s : AV} {l : List Int} {c : Int} (hs : Bs Hb s l) (hb : By l) (hK : Kp Hb h) (hqb : Hb.next ≤ q) (hq : h.get q = some (scB s a c)) (hqn : q < h.next) (ha : a ≤ l.length) (hl : l.length ≤ 65536)
    (n4 : p4 ≠ q) (l4 : p4 < h.next) (b4 : Hb.next ≤ p4) (g4 : h.get p4 = some (.cells 72 false (frC 24 0 0 0 false .nilSlice .nilSlice .nilSlice))) (m : Nat) (hm : 22 ≤ m) (τ : Tm) (S : FrU τ q p2 p4 24) :
    ∃ τ' H' r rt, evAt Try.prog (ev Try.prog m) m 126 1052770303 τ h = some (.normal, τ', H') ∧ FrE q p2 p4 s 24 h H' τ' (frC 24 ((numberI l a c).1) ((numberI l ((numberI l a c).2.1) ((numberI l a c).2.2)).1) 0 false r rt .nilSlice) (((takeI l ((takeI l ((octetI l ((numberI l ((numberI l a c).2.1) ((numberI l a c).2.2)).2.1) ((numberI l ((numberI l a c).2.1) ((numberI l a c).2.2)).2.2)).2.1) ((octetI l ((numberI l ((numberI l a c).2.1) ((numberI l a c).2.2)).2.1) ((numberI l ((numberI l a c).2.1) ((numberI l a c).2.2)).2.2)).2.2) (octetI l ((numberI l ((numberI l a c).2.1) ((numberI l a c).2.2)).2.1) ((numberI l ((numberI l a c).2.1) ((numberI l a c).2.2)).2.2)).1).2.1) ((takeI l ((octetI l ((numberI l ((numberI l a c).2.1) ((numberI l a c).2.2)).2.1) ((numberI l ((numberI l a c).2.1) ((numberI l a c).2.2)).2.2)).2.1) ((octetI l ((numberI l ((numberI l a c).2.1) ((numberI l a c).2.2)).2.1) ((numberI l ((numberI l a c).2.1) ((numberI l a c).2.2)).2.2)).2.2) (octetI l ((numberI l ((numberI l a c).2.1) ((numberI l a c).2.2)).2.1) ((numberI l ((numberI l a c).2.1) ((numberI l a c).2.2)).2.2)).1).2.2) 8).2.1, (takeI l ((takeI l ((octetI l ((numberI l ((numberI l a c).2.1) ((numberI l a c).2.2)).2.1) ((numberI l ((numberI l a c).2.1) ((numberI l a c).2.2)).2.2)).2.1) ((octetI l ((numberI l ((numberI l a c).2.1) ((numberI l a c).2.2)).2.1) ((numberI l ((numberI l a c).2.1) ((numberI l a c).2.2)).2.2)).2.2) (octetI l ((numberI l ((numberI l a c).2.1) ((numberI l a c).2.2)).2.1) ((numberI l ((numberI l a c).2.1) ((numberI l a c).2.2)).2.2)).1).2.1) ((takeI l ((octetI l ((numberI l ((numberI l a c).2.1) ((numberI l a c).2.2)).2.1) ((numberI l ((numberI l a c).2.1) ((numberI l a c).2.2)).2.2)).2.1) ((octetI l ((numberI l ((numberI l a c).2.1) ((numberI l a c).2.2)).2.1) ((numberI l ((numberI l a c).2.1) ((numberI l a c).2.2)).2.2)).2.2) (octetI l ((numberI l ((numberI l a c).2.1) ((numberI l a c).2.2)).2.1) ((numberI l ((numberI l a c).2.1) ((numberI l a c).2.2)).2.2)).1).2.2) 8).2.2) : Nat × Int) ∧ ∃ mid, h.next ≤ mid ∧ Ow h.next mid H' r (takeI l ((octetI l ((numberI l ((numberI l a c).2.1) ((numberI l a c).2.2)).2.1) ((numberI l ((numberI l a c).2.1) ((numberI l a c).2.2)).2.2)).2.1) ((octetI l ((numberI l ((numberI l a c).2.1) ((numberI l a c).2.2)).2.1) ((numberI l ((numberI l a c).2.1) ((numberI l a c).2.2)).2.2)).2.2) (octetI l ((numberI l ((numberI l a c).2.1) ((numberI l a c).2.2)).2.1) ((numberI l ((numberI l a c).2.1) ((numberI l a c).2.2)).2.2)).1).1 ∧ Ow mid H'.next H' rt (takeI l ((takeI l ((octetI l ((numberI l ((numberI l a c).2.1) ((numberI l a c).2.2)).2.1) ((numberI l ((numberI l a c).2.1) ((numberI l a c).2.2)).2.2)).2.1) ((octetI l ((numberI l ((numberI l a c).2.1) ((numberI l a c).2.2)).2.1) ((numberI l ((numberI l a c).2.1) ((numberI l a c).2.2)).2.2)).2.2) (octetI l ((numberI l ((numberI l a c).2.1) ((numberI l a c).2.2)).2.1) ((numberI l ((numberI l a c).2.1) ((numberI l a c).2.2)).2.2)).1).2.1) ((takeI l ((octetI l ((numberI l ((numberI l a c).2.1) ((numberI l a c).2.2)).2.1) ((numberI l ((numberI l a c).2.1) ((numberI l a c).2.2)).2.2)).2.1) ((octetI l ((numberI l ((numberI l a c).2.1) ((numberI l a c).2.2)).2.1) ((numberI l ((numberI l a c).2.1) ((numberI l a c).2.2)).2.2)).2.2) (octetI l ((numberI l ((numberI l a c).2.1) ((numberI l a c).2.2)).2.1) ((numberI l ((numberI l a c).2.1) ((numberI l a c).2.2)).2.2)).1).2.2) 8).1 := by
  obtain ⟨⟨t0, t2, t3, t4⟩, tk⟩ := S
  have n4' : ¬ (q = p4) := fun e => n4 e.symm
  obtain ⟨H1, e1, k1, n1, g1, l1⟩ := number_ev (c := c) (a := a) hs hb hK hqb hq ha hl m (by omega)
  have kk1 := k1
  obtain ⟨H2, e2, k2, n2, g2, l2⟩ := number_ev (c := (numberI l a c).2.2) (a := (numberI l a c).2.1) hs hb (kk1.kp hK hqb) hqb g1 l1 hl m (by omega)
  have kk2 := kk1.trans k2
  have c4 := (kk2.get p4 l4 n4).trans g4
  let A0 : AH := H2.set p4 (.cells 72 false (frC 24 ((numberI l a c).1) ((numberI l ((numberI l a c).2.1) ((numberI l a c).2.2)).1) 0 false .nilSlice .nilSlice .nilSlice))
  have KA : Kp Hb A0 := (kk2.kp hK hqb).set b4 _
  have qA : A0.get q = some (scB s ((numberI l ((numberI l a c).2.1) ((numberI l a c).2.2)).2.1) ((numberI l ((numberI l a c).2.1) ((numberI l a c).2.2)).2.2)) := by simp only [A0]; rw [AH.set_getN _ _ (by omega)]; exact g2
  have pA : A0.get p4 = some (.cells 72 false (frC 24 ((numberI l a c).1) ((numberI l ((numberI l a c).2.1) ((numberI l a c).2.2)).1) 0 false .nilSlice .nilSlice .nilSlice)) := by simp [A0]
  have nA : h.next ≤ A0.next := by simp only [A0, AH.set_next]; omega
  have rA : ∀ b, b < h.next → b ≠ q → b ≠ p4 → A0.get b = h.get b := fun b h0 h1 h2 => by simp only [A0]; rw [AH.set_getN _ _ h2]; exact kk2.get b h0 h1
  obtain ⟨Y0, w0, v0, u0, p0, i0⟩ := octet_ev (H := A0) (c := ((numberI l ((numberI l a c).2.1) ((numberI l a c).2.2)).2.2)) (a := ((numberI l ((numberI l a c).2.1) ((numberI l a c).2.2)).2.1)) hs hb KA hqb qA l2 hl m (by omega)
  have hoc : 0 ≤ (octetI l ((numberI l ((numberI l a c).2.1) ((numberI l a c).2.2)).2.1) ((numberI l ((numberI l a c).2.1) ((numberI l a c).2.2)).2.2)).1 := (octV_by (takeI_by hb ((numberI l ((numberI l a c).2.1) ((numberI l a c).2.2)).2.1) ((numberI l ((numberI l a c).2.1) ((numberI l a c).2.2)).2.2) 1)).1
  obtain ⟨r1, X0, x0, y0', z0', o0, q0, m0⟩ := take_ev (H := Y0) (c := ((octetI l ((numberI l ((numberI l a c).2.1) ((numberI l a c).2.2)).2.1) ((numberI l ((numberI l a c).2.1) ((numberI l a c).2.2)).2.2)).2.2)) (a := ((octetI l ((numberI l ((numberI l a c).2.1) ((numberI l a c).2.2)).2.1) ((numberI l ((numberI l a c).2.1) ((numberI l a c).2.2)).2.2)).2.1)) hs (v0.kp KA hqb) hqb p0 i0 hl (octetI l ((numberI l ((numberI l a c).2.1) ((numberI l a c).2.2)).2.1) ((numberI l ((numberI l a c).2.1) ((numberI l a c).2.2)).2.2)).1 (by omega) m (by omega)
  have y0 := v0.trans y0'
  have z0 : X0.next = A0.next := by rw [z0', u0]
  have hlen0 : (takeI l ((octetI l ((numberI l ((numberI l a c).2.1) ((numberI l a c).2.2)).2.1) ((numberI l ((numberI l a c).2.1) ((numberI l a c).2.2)).2.2)).2.1) ((octetI l ((numberI l ((numberI l a c).2.1) ((numberI l a c).2.2)).2.1) ((numberI l ((numberI l a c).2.1) ((numberI l a c).2.2)).2.2)).2.2) (octetI l ((numberI l ((numberI l a c).2.1) ((numberI l a c).2.2)).2.1) ((numberI l ((numberI l a c).2.1) ((numberI l a c).2.2)).2.2)).1).1.length ≤ 70368744177664 := by have := (takeI_len l ((octetI l ((numberI l ((numberI l a c).2.1) ((numberI l a c).2.2)).2.1) ((numberI l ((numberI l a c).2.1) ((numberI l a c).2.2)).2.2)).2.1) ((octetI l ((numberI l ((numberI l a c).2.1) ((numberI l a c).2.2)).2.1) ((numberI l ((numberI l a c).2.1) ((numberI l a c).2.2)).2.2)).2.2) (octetI l ((numberI l ((numberI l a c).2.1) ((numberI l a c).2.2)).2.1) ((numberI l ((numberI l a c).2.1) ((numberI l a c).2.2)).2.2)).1).2; omega
  obtain ⟨r, Z0, f0, j0, d0⟩ := copied_ev o0 (y0.kp KA hqb) hlen0 m (by omega)
  have nz0 := j0.next
  have lp0 : p4 < A0.next := by omega
  have lq0 : q < A0.next := by omega
  have cp0 : Z0.get p4 = some (.cells 72 false (frC 24 ((numberI l a c).1) ((numberI l ((numberI l a c).2.1) ((numberI l a c).2.2)).1) 0 false .nilSlice .nilSlice .nilSlice)) := (j0.get p4 (by omega)).trans ((y0.get p4 lp0 n4).trans pA)
  have cq0 : Z0.get q = some (scB s ((takeI l ((octetI l ((numberI l ((numberI l a c).2.1) ((numberI l a c).2.2)).2.1) ((numberI l ((numberI l a c).2.1) ((numberI l a c).2.2)).2.2)).2.1) ((octetI l ((numberI l ((numberI l a c).2.1) ((numberI l a c).2.2)).2.1) ((numberI l ((numberI l a c).2.1) ((numberI l a c).2.2)).2.2)).2.2) (octetI l ((numberI l ((numberI l a c).2.1) ((numberI l a c).2.2)).2.1) ((numberI l ((numberI l a c).2.1) ((numberI l a c).2.2)).2.2)).1).2.1) ((takeI l ((octetI l ((numberI l ((numberI l a c).2.1) ((numberI l a c).2.2)).2.1) ((numberI l ((numberI l a c).2.1) ((numberI l a c).2.2)).2.2)).2.1) ((octetI l ((numberI l ((numberI l a c).2.1) ((numberI l a c).2.2)).2.1) ((numberI l ((numberI l a c).2.1) ((numberI l a c).2.2)).2.2)).2.2) (octetI l ((numberI l ((numberI l a c).2.1) ((numberI l a c).2.2)).2.1) ((numberI l ((numberI l a c).2.1) ((numberI l a c).2.2)).2.2)).1).2.2)) := (j0.get q (by omega)).trans q0
  have rZ0 : ∀ b, b < h.next → b ≠ q → b ≠ p4 → Z0.get b = h.get b := fun b h0 h1 h2 => (j0.get b (by omega)).trans ((y0.get b (by omega) h1).trans (rA b h0 h1 h2))
  have or0 := d0.bs.one
  have orc0 := cells_one or0
  have dd0 := d0.kx ((Kx.refl p4 Z0).set (.cells 72 false (frC 24 ((numberI l a c).1) ((numberI l ((numberI l a c).2.1) ((numberI l a c).2.2)).1) 0 false r .nilSlice .nilSlice))) (.inl (by omega))
  let B0 : AH := Z0.set p4 (.cells 72 false (frC 24 ((numberI l a c).1) ((numberI l ((numberI l a c).2.1) ((numberI l a c).2.2)).1) 0 false r .nilSlice .nilSlice))
  have nB0 : B0.next = Z0.next := rfl
  have KB0 : Kp Hb B0 := ((y0.kp KA hqb).trans j0).set b4 _
  have qB0 : B0.get q = some (scB s ((takeI l ((octetI l ((numberI l ((numberI l a c).2.1) ((numberI l a c).2.2)).2.1) ((numberI l ((numberI l a c).2.1) ((numberI l a c).2.2)).2.2)).2.1) ((octetI l ((numberI l ((numberI l a c).2.1) ((numberI l a c).2.2)).2.1) ((numberI l ((numberI l a c).2.1) ((numberI l a c).2.2)).2.2)).2.2) (octetI l ((numberI l ((numberI l a c).2.1) ((numberI l a c).2.2)).2.1) ((numberI l ((numberI l a c).2.1) ((numberI l a c).2.2)).2.2)).1).2.1) ((takeI l ((octetI l ((numberI l ((numberI l a c).2.1) ((numberI l a c).2.2)).2.1) ((numberI l ((numberI l a c).2.1) ((numberI l a c).2.2)).2.2)).2.1) ((octetI l ((numberI l ((numberI l a c).2.1) ((numberI l a c).2.2)).2.1) ((numberI l ((numberI l a c).2.1) ((numberI l a c).2.2)).2.2)).2.2) (octetI l ((numberI l ((numberI l a c).2.1) ((numberI l a c).2.2)).2.1) ((numberI l ((numberI l a c).2.1) ((numberI l a c).2.2)).2.2)).1).2.2)) := by simp only [B0]; rw [AH.set_getN _ _ (by omega)]; exact cq0
  have pB0 : B0.get p4 = some (.cells 72 false (frC 24 ((numberI l a c).1) ((numberI l ((numberI l a c).2.1) ((numberI l a c).2.2)).1) 0 false r .nilSlice .nilSlice)) := by simp [B0]
  have rB0 : ∀ b, b < h.next → b ≠ q → b ≠ p4 → B0.get b = h.get b := fun b h0 h1 h2 => by simp only [B0]; rw [AH.set_getN _ _ h2]; exact rZ0 b h0 h1 h2
  obtain ⟨r3, X1, x1, y1, z1, o1, q1, m1⟩ := take_ev (H := B0) (c := ((takeI l ((octetI l ((numberI l ((numberI l a c).2.1) ((numberI l a c).2.2)).2.1) ((numberI l ((numberI l a c).2.1) ((numberI l a c).2.2)).2.2)).2.1) ((octetI l ((numberI l ((numberI l a c).2.1) ((numberI l a c).2.2)).2.1) ((numberI l ((numberI l a c).2.1) ((numberI l a c).2.2)).2.2)).2.2) (octetI l ((numberI l ((numberI l a c).2.1) ((numberI l a c).2.2)).2.1) ((numberI l ((numberI l a c).2.1) ((numberI l a c).2.2)).2.2)).1).2.2)) (a := ((takeI l ((octetI l ((numberI l ((numberI l a c).2.1) ((numberI l a c).2.2)).2.1) ((numberI l ((numberI l a c).2.1) ((numberI l a c).2.2)).2.2)).2.1) ((octetI l ((numberI l ((numberI l a c).2.1) ((numberI l a c).2.2)).2.1) ((numberI l ((numberI l a c).2.1) ((numberI l a c).2.2)).2.2)).2.2) (octetI l ((numberI l ((numberI l a c).2.1) ((numberI l a c).2.2)).2.1) ((numberI l ((numberI l a c).2.1) ((numberI l a c).2.2)).2.2)).1).2.1)) hs KB0 hqb qB0 m0 hl 8 (by omega) m (by omega)
  have hlen1 : (takeI l ((takeI l ((octetI l ((numberI l ((numberI l a c).2.1) ((numberI l a c).2.2)).2.1) ((numberI l ((numberI l a c).2.1) ((numberI l a c).2.2)).2.2)).2.1) ((octetI l ((numberI l ((numberI l a c).2.1) ((numberI l a c).2.2)).2.1) ((numberI l ((numberI l a c).2.1) ((numberI l a c).2.2)).2.2)).2.2) (octetI l ((numberI l ((numberI l a c).2.1) ((numberI l a c).2.2)).2.1) ((numberI l ((numberI l a c).2.1) ((numberI l a c).2.2)).2.2)).1).2.1) ((takeI l ((octetI l ((numberI l ((numberI l a c).2.1) ((numberI l a c).2.2)).2.1) ((numberI l ((numberI l a c).2.1) ((numberI l a c).2.2)).2.2)).2.1) ((octetI l ((numberI l ((numberI l a c).2.1) ((numberI l a c).2.2)).2.1) ((numberI l ((numberI l a c).2.1) ((numberI l a c).2.2)).2.2)).2.2) (octetI l ((numberI l ((numberI l a c).2.1) ((numberI l a c).2.2)).2.1) ((numberI l ((numberI l a c).2.1) ((numberI l a c).2.2)).2.2)).1).2.2) 8).1.length ≤ 70368744177664 := by have := (takeI_len l ((takeI l ((octetI l ((numberI l ((numberI l a c).2.1) ((numberI l a c).2.2)).2.1) ((numberI l ((numberI l a c).2.1) ((numberI l a c).2.2)).2.2)).2.1) ((octetI l ((numberI l ((numberI l a c).2.1) ((numberI l a c).2.2)).2.1) ((numberI l ((numberI l a c).2.1) ((numberI l a c).2.2)).2.2)).2.2) (octetI l ((numberI l ((numberI l a c).2.1) ((numberI l a c).2.2)).2.1) ((numberI l ((numberI l a c).2.1) ((numberI l a c).2.2)).2.2)).1).2.1) ((takeI l ((octetI l ((numberI l ((numberI l a c).2.1) ((numberI l a c).2.2)).2.1) ((numberI l ((numberI l a c).2.1) ((numberI l a c).2.2)).2.2)).2.1) ((octetI l ((numberI l ((numberI l a c).2.1) ((numberI l a c).2.2)).2.1) ((numberI l ((numberI l a c).2.1) ((numberI l a c).2.2)).2.2)).2.2) (octetI l ((numberI l ((numberI l a c).2.1) ((numberI l a c).2.2)).2.1) ((numberI l ((numberI l a c).2.1) ((numberI l a c).2.2)).2.2)).1).2.2) 8).2; omega
  obtain ⟨rt, Z1, f1, j1, d1⟩ := copied_ev o1 (y1.kp KB0 hqb) hlen1 m (by omega)
  have nz1 := j1.next
  have lp1 : p4 < B0.next := by omega
  have lq1 : q < B0.next := by omega
  have cp1 : Z1.get p4 = some (.cells 72 false (frC 24 ((numberI l a c).1) ((numberI l ((numberI l a c).2.1) ((numberI l a c).2.2)).1) 0 false r .nilSlice .nilSlice)) := (j1.get p4 (by omega)).trans ((y1.get p4 lp1 n4).trans pB0)
  have cq1 : Z1.get q = some (scB s ((takeI l ((takeI l ((octetI l ((numberI l ((numberI l a c).2.1) ((numberI l a c).2.2)).2.1) ((numberI l ((numberI l a c).2.1) ((numberI l a c).2.2)).2.2)).2.1) ((octetI l ((numberI l ((numberI l a c).2.1) ((numberI l a c).2.2)).2.1) ((numberI l ((numberI l a c).2.1) ((numberI l a c).2.2)).2.2)).2.2) (octetI l ((numberI l ((numberI l a c).2.1) ((numberI l a c).2.2)).2.1) ((numberI l ((numberI l a c).2.1) ((numberI l a c).2.2)).2.2)).1).2.1) ((takeI l ((octetI l ((numberI l ((numberI l a c).2.1) ((numberI l a c).2.2)).2.1) ((numberI l ((numberI l a c).2.1) ((numberI l a c).2.2)).2.2)).2.1) ((octetI l ((numberI l ((numberI l a c).2.1) ((numberI l a c).2.2)).2.1) ((numberI l ((numberI l a c).2.1) ((numberI l a c).2.2)).2.2)).2.2) (octetI l ((numberI l ((numberI l a c).2.1) ((numberI l a c).2.2)).2.1) ((numberI l ((numberI l a c).2.1) ((numberI l a c).2.2)).2.2)).1).2.2) 8).2.1) ((takeI l ((takeI l ((octetI l ((numberI l ((numberI l a c).2.1) ((numberI l a c).2.2)).2.1) ((numberI l ((numberI l a c).2.1) ((numberI l a c).2.2)).2.2)).2.1) ((octetI l ((numberI l ((numberI l a c).2.1) ((numberI l a c).2.2)).2.1) ((numberI l ((numberI l a c).2.1) ((numberI l a c).2.2)).2.2)).2.2) (octetI l ((numberI l ((numberI l a c).2.1) ((numberI l a c).2.2)).2.1) ((numberI l ((numberI l a c).2.1) ((numberI l a c).2.2)).2.2)).1).2.1) ((takeI l ((octetI l ((numberI l ((numberI l a c).2.1) ((numberI l a c).2.2)).2.1) ((numberI l ((numberI l a c).2.1) ((numberI l a c).2.2)).2.2)).2.1) ((octetI l ((numberI l ((numberI l a c).2.1) ((numberI l a c).2.2)).2.1) ((numberI l ((numberI l a c).2.1) ((numberI l a c).2.2)).2.2)).2.2) (octetI l ((numberI l ((numberI l a c).2.1) ((numberI l a c).2.2)).2.1) ((numberI l ((numberI l a c).2.1) ((numberI l a c).2.2)).2.2)).1).2.2) 8).2.2)) := (j1.get q (by omega)).trans q1
  have rZ1 : ∀ b, b < h.next → b ≠ q → b ≠ p4 → Z1.get b = h.get b := fun b h0 h1 h2 => (j1.get b (by omega)).trans ((y1.get b (by omega) h1).trans (rB0 b h0 h1 h2))
  have or1 := d1.bs.one
  have orc1 := cells_one or1
  have dd1 := d1.kx ((Kx.refl p4 Z1).set (.cells 72 false (frC 24 ((numberI l a c).1) ((numberI l ((numberI l a c).2.1) ((numberI l a c).2.2)).1) 0 false r rt .nilSlice))) (.inl (by omega))
  simp only [frC, A0, B0] at c4 x0 x1 cp0 cp1 f0 f1 dd0 dd1 w0 ⊢
  rw [at_M Try.func126 1052770303 (by decide) 30 (by decide) (by kernel_rfl) [4211081215]]
  refine ⟨_, _, r, rt, by simp [Try.f126, tk, t0, t4, e1, e2, c4, w0, x0, f0, cp0, or0, orc0, x1, f1, cp1, or1, orc1, stVar, spl]; first | exact ⟨rfl, rfl⟩ | rfl, ⟨⟨by simp [t0], by simp [t2], by simp [t3], by simp [t4]⟩, by simp, by simp [n4', cq1], by simp <;> omega, fun b h0 h1 h2 => ?_⟩, Z0.next, by omega, Ow.wide (((dd0.kx y1 (.inl (by omega))).kp j1).kx ((Kx.refl p4 Z1).set _) (.inl (by omega))) (by omega) (by omega) (by simp <;> omega), Ow.wide dd1 (by omega) (by simp) (by simp)⟩
  simp [h2]; exact rZ1 b h0 h1 h2

end Go.Ev
