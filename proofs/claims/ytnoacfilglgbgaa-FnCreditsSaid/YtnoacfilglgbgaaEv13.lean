/- Lemmas of an evaluator of the given code and of what the functions answer; no condition of its own. -/
import Derived.Test.YtnoacfilglgbgaaEv11
import Derived.Test.YtnoacfilglgbgaaEv12
/- The drawn setup. -/
namespace Go.Ev
open Go Go.Proofs
set_option linter.unusedSimpArgs false
set_option linter.unusedVariables false

/-- as drawn first -/
def supA (S : Src) : Sup × Src :=
  let r0 := chanceP 2 S
  let r1 := nextP 100 r0.2
  let r2 := nextP 60 r1.2
  let r3 := nextP 4 r2.2
  let r4 := nextP 3 r3.2
  let r5 := nextP 150 r4.2
  let r6 := nextP 60 r5.2
  let r7 := nextP 4 r6.2
  let r8 := nextP 3 r7.2
  (⟨r0.1, 20 + r1.1, 10 + r2.1, r3.1, r4.1, r5.1, r6.1, r7.1, r8.1⟩, r8.2)
def edgeL : List Int := [0, 1, 16384, 16385]
def edgeM : List Int := [-1, 64, 65]
def supB (u : Sup) (S : Src) : Sup × Src :=
  let k := nextP 40 S
  if k.1 = 0 then ({ u with cw := lkP edgeL (nextP 4 k.2).1 }, (nextP 4 k.2).2)
  else if k.1 = 1 then ({ u with sw := lkP edgeL (nextP 4 k.2).1 }, (nextP 4 k.2).2)
  else if k.1 = 2 then ({ u with tw := lkP edgeM (nextP 3 k.2).1 }, (nextP 3 k.2).2)
  else if k.1 = 3 then ({ u with pc := (numP k.2).1 }, (numP k.2).2)
  else if k.1 = 4 then ({ u with ps := (numP k.2).1 }, (numP k.2).2)
  else if k.1 = 5 then ({ u with ptw := 1152921504606846976 + (nextP 2 k.2).1 }, (nextP 2 k.2).2)
  else (u, k.2)
def supP (S : Src) : Sup × Src := supB (supA S).1 (supA S).2
theorem koS_2 {h : AH} {q : Nat} (x y z : Blk) (n : Nat) (hn : h.next ≤ n) : KoS [q] h ((((h.res 2).set q x).set n y).set n z) :=
  ⟨by simp, fun b hb hq => by
    have hbq : b ≠ q := by simpa using hq
    rw [AH.set_getN _ _ (by omega), AH.set_getN _ _ (by omega), AH.set_getN _ _ hbq, res_get, if_neg (by omega)]⟩
/-- what the second part leaves -/
def SupO (h h' : AH) (q : Nat) (v : AV) (bs : List Nat) (p2 : Nat) (ex : Ex) (K : Nat) (u : Sup) (S' : Src) : Prop :=
  ex = .ret ∧ h'.get p2 = some (.cells 49 false (suC u)) ∧ SrcI h' q v S' bs ∧ S'.pos ≤ K
theorem supFin {h Y : AH} {q p p2 : Nat} {v : AV} {bs : List Nat} {S' : Src} (hY : KoS [q] h Y) (hs : SrcI Y q v S' bs) (hpq : p ≠ q) (hp2q : p2 ≠ q) (hpb : p ∉ bs) (hp2b : p2 ∉ bs) (d e : Blk) :
    SrcI ((Y.set p d).set p2 e) q v S' bs ∧ KoS [q, p, p2] h ((Y.set p d).set p2 e) ∧ SrcI (Y.set p2 e) q v S' bs ∧ KoS [q, p, p2] h (Y.set p2 e) := by
  refine ⟨(hs.set_ne _ hpq hpb).set_ne _ hp2q hp2b, ⟨by simpa using hY.next, fun b hb hn => ?_⟩, hs.set_ne _ hp2q hp2b, ⟨by simpa using hY.next, fun b hb hn => ?_⟩⟩
  · simp only [List.mem_cons, List.not_mem_nil, or_false, not_or] at hn
    rw [AH.set_getN _ _ hn.2.2, AH.set_getN _ _ hn.2.1, hY.get b hb (by simpa using hn.1)]
  · simp only [List.mem_cons, List.not_mem_nil, or_false, not_or] at hn
    rw [AH.set_getN _ _ hn.2.2, hY.get b hb (by simpa using hn.1)]
theorem setupB {h : AH} {q p p2 : Nat} {v : AV} {bs : List Nat} {u : Sup} {S : Src} {K : Nat} {x2 : List AV} (h0 : SrcI h q v S bs) (hp : S.pos ≤ K) (hK : K ≤ 890000) (g1 : h.get p = some (.cells 49 false (suC u))) (g2 : h.get p2 = some (.cells 49 false x2)) (l2 : x2.length = 9)
    (hpq : p ≠ q) (hp2q : p2 ≠ q) (hpp : p2 ≠ p) (hpb : p ∉ bs) (hp2b : p2 ∉ bs) (hl : p < h.next) (hl2 : p2 < h.next) (m : Nat) (hm : 5 ≤ m) (τ : Tm) (t0 : τ 0 = .ptr q 0) (t2 : τ 2 = .ptr p2 0) (t3 : τ 3 = .ptr p 0) :
    ∃ (τ' : Tm) (h' : AH) (u' : Sup) (S' : Src), evAt Try.prog (ev Try.prog m) m 120 7 τ h = some (.ret, τ', h') ∧ τ' 2 = .ptr p2 0 ∧ supB u S = (u', S') ∧ h'.get p2 = some (.cells 49 false (suC u')) ∧ SrcI h' q v S' bs ∧ S'.pos ≤ K + 12 ∧ KoS [q, p, p2] h h' := by
  have hq := h0.lt
  obtain ⟨y0, y1, y2, y3, y4, y5, y6, y7, y8, rfl⟩ : ∃ y0 y1 y2 y3 y4 y5 y6 y7 y8, x2 = [y0, y1, y2, y3, y4, y5, y6, y7, y8] := by
    match x2, l2 with
    | [y0, y1, y2, y3, y4, y5, y6, y7, y8], _ => exact ⟨_, _, _, _, _, _, _, _, _, rfl⟩
  unfold suC at g1
  obtain ⟨k, S1, d1, a1, p1, e1, h1⟩ := draw h0 hp (by omega) 40 (by omega) (by omega) m (by omega)
  rw [at_M Try.func120 7 (by decide) 4 (by decide) (by kernel_rfl) []]
  unfold supB
  simp only [d1]
  by_cases c0 : k = 0
  · subst c0
    obtain ⟨j, S2, d2, a2, pp2, e2, h2⟩ := draw (h1.push (.cells 3 false (edgeL.map (.int .i64)))) p1 (by omega) 4 (by omega) (by omega) m (by omega)
    have g := lk_get (l := edgeL) (k := j) (by simp [edgeL]; omega)
    simp only [edgeL, List.map_cons, List.map_nil] at e2 h2 g
    have hn1 : ¬ (h.next = q) := by omega
    have hn2 : ¬ (p = h.next) := by omega
    have hn3 : ¬ (p2 = h.next) := by omega
    have F := supFin (h := h) (koS_qpq _ _ _) h2 hpq hp2q hpb hp2b
    refine ⟨_, _, { u with cw := lkP edgeL j }, S2, by simp (disch := omega) [Try.f120, t0, t2, t3, e1, e2, zerosA, idxA, ldVar, stVar, spl, hn1, hn2, hn3, a2, g1, g2, hpq, hp2q, hpp, Ne.symm hpp, U, g, edgeL]; exact ⟨rfl, rfl⟩, by simp [t2], by simp [d2], by rw [AH.set_getS]; simp [suC, edgeL], (F _ _).1, by omega, (F _ _).2.1⟩
  by_cases c1 : k = 1
  · subst c1
    obtain ⟨j, S2, d2, a2, pp2, e2, h2⟩ := draw (h1.push (.cells 3 false (edgeL.map (.int .i64)))) p1 (by omega) 4 (by omega) (by omega) m (by omega)
    have g := lk_get (l := edgeL) (k := j) (by simp [edgeL]; omega)
    simp only [edgeL, List.map_cons, List.map_nil] at e2 h2 g
    have hn1 : ¬ (h.next = q) := by omega
    have hn2 : ¬ (p = h.next) := by omega
    have hn3 : ¬ (p2 = h.next) := by omega
    have F := supFin (h := h) (koS_qpq _ _ _) h2 hpq hp2q hpb hp2b
    refine ⟨_, _, { u with sw := lkP edgeL j }, S2, by simp (disch := omega) [Try.f120, t0, t2, t3, e1, e2, zerosA, idxA, ldVar, stVar, spl, hn1, hn2, hn3, a2, g1, g2, hpq, hp2q, hpp, Ne.symm hpp, U, g, edgeL]; exact ⟨rfl, rfl⟩, by simp [t2], by simp [d2], by rw [AH.set_getS]; simp [suC, edgeL], (F _ _).1, by omega, (F _ _).2.1⟩
  by_cases c2 : k = 2
  · subst c2
    obtain ⟨j, S2, d2, a2, pp2, e2, h2⟩ := draw (h1.push (.cells 3 false (edgeM.map (.int .i64)))) p1 (by omega) 3 (by omega) (by omega) m (by omega)
    have g := lk_get (l := edgeM) (k := j) (by simp [edgeM]; omega)
    simp only [edgeM, List.map_cons, List.map_nil] at e2 h2 g
    have hn1 : ¬ (h.next = q) := by omega
    have hn2 : ¬ (p = h.next) := by omega
    have hn3 : ¬ (p2 = h.next) := by omega
    have F := supFin (h := h) (koS_qpq _ _ _) h2 hpq hp2q hpb hp2b
    refine ⟨_, _, { u with tw := lkP edgeM j }, S2, by simp (disch := omega) [Try.f120, t0, t2, t3, e1, e2, zerosA, idxA, ldVar, stVar, spl, hn1, hn2, hn3, a2, g1, g2, hpq, hp2q, hpp, Ne.symm hpp, U, g, edgeM]; exact ⟨rfl, rfl⟩, by simp [t2], by simp [d2], by rw [AH.set_getS]; simp [suC, edgeM], (F _ _).1, by omega, (F _ _).2.1⟩
  by_cases c3 : k = 3
  · subst c3
    obtain ⟨j, S2, Y, d2, a2, pp2, e2, h2, kY⟩ := number_ev h1 p1 (by omega) m (by omega)
    have kY2 : KoS [q] h Y := (koS_set _).trans kY fun b hb => .inl hb
    have hn := kY2.next
    have y1 : Y.get p = _ := (kY2.get p hl (by simpa using hpq)).trans g1
    have y2 : Y.get p2 = _ := (kY2.get p2 hl2 (by simpa using hp2q)).trans g2
    have F := supFin kY2 h2 hpq hp2q hpb hp2b
    refine ⟨_, _, { u with pc := j }, S2, by simp (disch := omega) [Try.f120, t0, t2, t3, e1, e2, idxA, ldVar, stVar, spl, y1, y2, hpq, hp2q, hpp, Ne.symm hpp, U]; exact ⟨rfl, rfl⟩, by simp [t2], by simp [d2], by rw [AH.set_getS]; simp [suC], (F _ _).1, by omega, (F _ _).2.1⟩
  by_cases c4 : k = 4
  · subst c4
    obtain ⟨j, S2, Y, d2, a2, pp2, e2, h2, kY⟩ := number_ev h1 p1 (by omega) m (by omega)
    have kY2 : KoS [q] h Y := (koS_set _).trans kY fun b hb => .inl hb
    have hn := kY2.next
    have y1 : Y.get p = _ := (kY2.get p hl (by simpa using hpq)).trans g1
    have y2 : Y.get p2 = _ := (kY2.get p2 hl2 (by simpa using hp2q)).trans g2
    have F := supFin kY2 h2 hpq hp2q hpb hp2b
    refine ⟨_, _, { u with ps := j }, S2, by simp (disch := omega) [Try.f120, t0, t2, t3, e1, e2, idxA, ldVar, stVar, spl, y1, y2, hpq, hp2q, hpp, Ne.symm hpp, U]; exact ⟨rfl, rfl⟩, by simp [t2], by simp [d2], by rw [AH.set_getS]; simp [suC], (F _ _).1, by omega, (F _ _).2.1⟩
  by_cases c5 : k = 5
  · subst c5
    obtain ⟨j, S2, d2, a2, pp2, e2, h2⟩ := draw h1 p1 (by omega) 2 (by omega) (by omega) m (by omega)
    rw [set_set] at e2 h2
    have w1 := wrap_i64 (n := 1152921504606846976 + (j : Int)) (by omega) (by omega)
    have F := supFin (h := h) (koS_set _) h2 hpq hp2q hpb hp2b
    refine ⟨_, _, { u with ptw := 1152921504606846976 + j }, S2, by simp (disch := omega) [Try.f120, t0, t2, t3, e1, e2, idxA, ldVar, stVar, spl, w1, g1, g2, hpq, hp2q, hpp, Ne.symm hpp, U]; exact ⟨rfl, rfl⟩, by simp [t2], by simp [d2], by rw [AH.set_getS]; simp [suC], (F _ _).1, by omega, (F _ _).2.1⟩
  have k0 : ¬ ((k : Int) = 0) := by omega
  have k1 : ¬ ((k : Int) = 1) := by omega
  have k2 : ¬ ((k : Int) = 2) := by omega
  have k3 : ¬ ((k : Int) = 3) := by omega
  have k4 : ¬ ((k : Int) = 4) := by omega
  have k5 : ¬ ((k : Int) = 5) := by omega
  have F := supFin (h := h) (koS_set _) h1 hpq hp2q hpb hp2b
  refine ⟨_, _, u, S1, by simp (disch := omega) [Try.f120, t0, t2, t3, e1, idxA, ldVar, stVar, spl, g1, g2, hpq, hp2q, hpp, Ne.symm hpp, U, c0, beqF k0, k0, c1, beqF k1, k1, c2, beqF k2, k2, c3, beqF k3, k3, c4, beqF k4, k4, c5, beqF k5, k5]; exact ⟨rfl, rfl⟩, by simp [t2], by simp [k0, k1, k2, k3, k4, k5, c0, c1, c2, c3, c4, c5], by rw [AH.set_getS]; simp [suC], (F (.cells 3 false []) _).2.2.1, by omega, (F (.cells 3 false []) _).2.2.2⟩
end Go.Ev

/- The drawn setup, whole. -/
namespace Go.Ev
open Go Go.Proofs
set_option linter.unusedSimpArgs false
set_option linter.unusedVariables false

theorem KoS.less {l l' : List Nat} {h h' : AH} (k : KoS l h h') (hl : ∀ b ∈ l, b ∈ l' ∨ h.next ≤ b) : KoS l' h h' :=
  ⟨k.next, fun b hb hn => k.get b hb (fun e => by rcases hl b e with h1 | h1; exact hn h1; omega)⟩
theorem setup_ev {h : AH} {q : Nat} {v : AV} {S : Src} {bs : List Nat} {K : Nat} (h0 : SrcI h q v S bs) (hp : S.pos ≤ K) (hK : K ≤ 800000) (m : Nat) (hm : 6 ≤ m) :
    ∃ (u : Sup) (S' : Src) (h' : AH), supP S = (u, S') ∧ S'.pos ≤ K + 39 ∧ ev Try.prog m 120 [.ptr q 0] h = some (.agg (suC u), h') ∧ SrcI h' q v S' bs ∧ KoS [q] h h' := by
  obtain ⟨m, rfl⟩ : ∃ k, m = k + 5 := ⟨m - 5, by omega⟩
  have hq := h0.lt
  have hbs : ∀ b ∈ bs, b < h.next := fun b hb => h0.row.mem b hb
  obtain ⟨A, hA⟩ : ∃ A : AH, A = h.push (.cells 49 false [.bool false, .int .i64 0, .int .i64 0, .int .i64 0, .int .i64 0, .int .i64 0, .int .i64 0, .int .i64 0, .int .i64 0]) := ⟨_, rfl⟩
  have hA0 : SrcI A q v S bs := by rw [hA]; exact h0.push _
  obtain ⟨B, hB⟩ : ∃ B : AH, B = A := ⟨_, rfl⟩
  have hB0 : SrcI B q v S bs := by rw [hB]; exact hA0
  have e0 := chance_ev hB0 (by omega) (n := 2) (by omega) (by omega) (m + 4) (by omega)
  have i0 := hB0.next (by omega) 2
  have p0 : (chanceP 2 S).2.pos ≤ K + 3 := nextP_p hp
  have i0 : SrcI (B.set q (.cells 259 false (srcC v (chanceP 2 S).2))) q v (chanceP 2 S).2 bs := i0
  unfold supP supA
  generalize hc : chanceP 2 S = c0 at *
  obtain ⟨b0, S0⟩ := c0
  simp only at e0 i0 p0 ⊢
  obtain ⟨x1, S1, d1, a1, p1, e1, i1⟩ := draw i0 p0 (by omega) 100 (by omega) (by omega) (m + 4) (by omega)
  rw [set_set] at e1 i1
  obtain ⟨x2, S2, d2, a2, p2, e2, i2⟩ := draw i1 p1 (by omega) 60 (by omega) (by omega) (m + 4) (by omega)
  rw [set_set] at e2 i2
  obtain ⟨x3, S3, d3, a3, p3, e3, i3⟩ := draw i2 p2 (by omega) 4 (by omega) (by omega) (m + 4) (by omega)
  rw [set_set] at e3 i3
  obtain ⟨x4, S4, d4, a4, p4, e4, i4⟩ := draw i3 p3 (by omega) 3 (by omega) (by omega) (m + 4) (by omega)
  rw [set_set] at e4 i4
  obtain ⟨x5, S5, d5, a5, p5, e5, i5⟩ := draw i4 p4 (by omega) 150 (by omega) (by omega) (m + 4) (by omega)
  rw [set_set] at e5 i5
  obtain ⟨x6, S6, d6, a6, p6, e6, i6⟩ := draw i5 p5 (by omega) 60 (by omega) (by omega) (m + 4) (by omega)
  rw [set_set] at e6 i6
  obtain ⟨x7, S7, d7, a7, p7, e7, i7⟩ := draw i6 p6 (by omega) 4 (by omega) (by omega) (m + 4) (by omega)
  rw [set_set] at e7 i7
  obtain ⟨x8, S8, d8, a8, p8, e8, i8⟩ := draw i7 p7 (by omega) 3 (by omega) (by omega) (m + 4) (by omega)
  rw [set_set] at e8 i8
  simp only [d1, d2, d3, d4, d5, d6, d7, d8]
  have w1 := wrap_i64 (n := 20 + (x1 : Int)) (by omega) (by omega)
  have w2 := wrap_i64 (n := 10 + (x2 : Int)) (by omega) (by omega)
  have n1 : ¬ (h.next = q) := by omega
  have n2 : ¬ (h.next + 1 = q) := by omega
  subst hB hA
  obtain ⟨u, hu⟩ : ∃ u : Sup, u = ⟨b0, 20 + x1, 10 + x2, x3, x4, x5, x6, x7, x8⟩ := ⟨_, rfl⟩
  obtain ⟨Y, hY⟩ : ∃ Y : AH, Y = ((((h.push (.cells 49 false [.bool false, .int .i64 0, .int .i64 0, .int .i64 0, .int .i64 0, .int .i64 0, .int .i64 0, .int .i64 0, .int .i64 0])).set q (.cells 259 false (srcC v S8))).push (.cells 49 false [.bool false, .int .i64 0, .int .i64 0, .int .i64 0, .int .i64 0, .int .i64 0, .int .i64 0, .int .i64 0, .int .i64 0])).set (h.next + 1) (.cells 49 false [.bool b0, .int .i64 (20 + x1), .int .i64 (10 + x2), .int .i64 x3, .int .i64 x4, .int .i64 x5, .int .i64 x6, .int .i64 x7, .int .i64 x8])) := ⟨_, rfl⟩
  have iY : SrcI Y q v S8 bs := by rw [hY]; exact (i8.push _).set_ne _ (by omega) fun e => by have := hbs _ e; omega
  have gY : Y.get (h.next + 1) = some (.cells 49 false (suC u)) := by rw [hY, AH.set_getS, hu]; rfl
  have gY2 : Y.get h.next = some (.cells 49 false [.bool false, .int .i64 0, .int .i64 0, .int .i64 0, .int .i64 0, .int .i64 0, .int .i64 0, .int .i64 0, .int .i64 0]) := by
    rw [hY, AH.set_getN _ _ (by omega), AH.push_get, if_neg (by simp), AH.set_getN _ _ (by omega)]; simp
  have nY : Y.next = h.next + 2 := by rw [hY]; simp
  have kY : KoS [q] h Y := by
    refine ⟨by omega, fun b hb hn => ?_⟩
    have hbq : b ≠ q := by simpa using hn
    rw [hY, AH.set_getN _ _ (by omega), AH.push_get, if_neg (by simp; omega), AH.set_getN _ _ hbq, AH.push_get, if_neg (by omega)]
  have hB := fun τ => setupB (K := K + 27) iY (by omega) (by omega) gY gY2 rfl (by omega) (by omega) (by omega) (fun e => by have := hbs _ e; omega) (fun e => by have := hbs _ e; omega) (by omega) (by omega) (m + 4) (by omega) τ
  rw [ev_M Try.func120 ok120 [7] _ _ h (by simp [Try.f120])]
  simp (disch := omega) [Try.f120, tm0, e0, e1, e2, e3, e4, e5, e6, e7, e8, w1, w2, fillA, spl, zerosA, stVar, n1, n2]
  rw [← hY]
  generalize hτ : upd _ 3 _ = τ2
  obtain ⟨τ', h', u', S', r1, r2, r3, r4, r5, r6, r7⟩ := hB τ2 (by rw [← hτ]; simp) (by rw [← hτ]; simp) (by rw [← hτ]; simp)
  rw [hu] at r3
  refine ⟨u', S', r3, by omega, h', ?_, r5, ?_⟩
  · rw [r1]; unfold suC at r4 ⊢; simp [resM_i, r2, ldVar, r4]
  · refine KoS.trans kY (r7.less (l' := [q, h.next, h.next + 1]) fun b hb => by simp at hb ⊢; omega) fun b hb => ?_
    simp only [List.mem_cons, List.not_mem_nil, or_false] at hb ⊢
    rcases hb with h1 | h1 | h1
    · exact .inl h1
    · exact .inr (by omega)
    · exact .inr (by omega)
end Go.Ev

/- Credit: the books at the start; what holds behind each operation. -/
namespace Go.Ev
open Go Go.Proofs
set_option linter.unusedSimpArgs false
set_option linter.unusedVariables false

theorem AH.push_set' {H : AH} {p : Nat} (hp : p = H.next) (a b : Blk) : (H.push a).set p b = H.push b := by
  subst hp
  refine AH.eq_of ?_ rfl
  funext x
  rw [AH.set_get, AH.push_get, AH.push_get]
  split <;> rfl
def Fw0 (S : Sup) : Fw := ⟨[], 0, 0, S.ptw, S.pow, S.pc, S.tw, S.ow, S.cw, 0⟩
theorem newS_ev (S : Sup) (H : AH) (m : Nat) (hm : 2 ≤ m) : ∃ H', ev Try.prog m 105 [.agg (suC S)] H = some (.ptr (H.next + 1) 0, H') ∧ FsS S (Fw0 S) (H.next + 1) .nilSlice [] H' ∧ Kp H H' := by
  obtain ⟨m, rfl⟩ : ∃ k, m = k + 1 := ⟨m - 1, by omega⟩
  have n1 : ¬ (H.next = H.next + 1) := by omega
  have n2 : ¬ (H.next + 1 = H.next) := by omega
  refine ⟨((H.push (.cells 49 false (suC S))).push (.cells 263 false (fsC S (Fw0 S) .nilSlice))), ?_, ⟨by simp, .inl ⟨rfl, rfl, rfl⟩, by simp, by simp, by simp, by simp [Fw0]⟩, ((Kp.refl H).push _).push _⟩
  obtain ⟨sv, cw, sw, tw, ow, pc, ps, ptw, pow⟩ := S
  simp only [suC, fsC, Fw0]
  rw [ev_M Try.func105 ok105 [] m _ H (by simp [Try.f105])]
  simp [Try.f105, tm0, ldVar, stVar, spl, fillA, ia0, ia1, n1, n2, evHist, ObsOk, ObOk, List.getElem?_cons_zero]
  exact AH.push_set' (by simp) _ _
theorem Fw0_good {S : Sup} (h : S.ok) : (Fw0 S).good S 0 := by
  have h1 := h.pc; have h2 := h.cw; have h3 := h.tw; have h4 := h.ow; have h5 := h.ptw; have h6 := h.pow
  unfold inW at h1
  exact ⟨h, by omega, by simp [Fw0], by simp [Fw0], by simp [Fw0], fun w => by cases w <;> simp [Fw0, Fw.o], fun w => by cases w <;> simp [Fw0, Fw.m] <;> omega, fun w => by cases w <;> simp [Fw0, Fw.i] <;> omega, by simp [Fw0, sumI]; omega, by simp [Fw0]; omega, by simp [Fw0, sumI]; omega, by simp [Fw0]; omega, by simp [Fw0, sumI]⟩
/-- more operations: weaker -/
theorem Bk.good.mono {s : Bk} {k k' : Nat} (h : s.good k) (hk : k ≤ k') : s.good k' := ⟨h.id, h.se, h.cr, h.re, h.ca, by have := h.to; omega⟩
theorem Fw.good.mono {S : Sup} {F : Fw} {k k' : Nat} (h : F.good S k) (hk : k ≤ k') (hk' : k' ≤ 400) : F.good S k' :=
  ⟨h.sup, hk', fun s hs => (h.bk s hs).mono hk, h.own, by have := h.len; omega, fun w => by have := h.o w; omega, h.m, fun w => by have := h.i w; omega, h.se, h.cc, h.ca, by have := h.tc; omega, h.rc⟩
theorem creditP_rng {r w t : Int} (h1 : 0 ≤ r) (h2 : r ≤ t) (h3 : t ≤ 1000000000) (hw : 1 ≤ w ∧ w ≤ 16384) : t ≤ creditP r w t ∧ creditP r w t ≤ max t (r + w) := by
  unfold creditP
  rw [if_neg (by omega)]
  split <;> omega
theorem idOf_ok {sv w : Bool} {n : Int} (h : 0 ≤ n) (h2 : n < 1152921504606846976) : idOk (idOf sv w n) ∧ idSv (idOf sv w n) = sv ∧ idOw (idOf sv w n) = w ∧ idOf sv w n / 4 = n := by
  unfold idOf
  rw [if_neg (by omega)]
  refine ⟨?_, ?_, ?_, ?_⟩
  · unfold idOk; cases sv <;> cases w <;> simp <;> omega
  · unfold idSv; cases sv <;> cases w <;> simp <;> omega
  · unfold idOw; cases sv <;> cases w <;> simp <;> omega
  · cases sv <;> cases w <;> simp <;> omega
theorem newBk_good {S : Sup} (hS : S.ok) {id : Int} (hi : idOk id) (k : Nat) : (newBk S id).good k := by
  have h1 := hS.ps; have h2 := hS.sw
  unfold inW at h1
  exact ⟨hi, by simp only [newBk]; omega, by simp only [newBk]; omega, by simp [newBk], by simp only [newBk]; omega, by simp only [newBk]; omega⟩
theorem open_good {S : Sup} {F : Fw} {k : Nat} (G : F.good S k) (hk : k + 1 ≤ 400) (w : Bool) : (openP S F w).1.good S (k + 1) := by
  unfold openP
  split
  · exact G.mono (by omega) hk
  · rename_i hlt
    have ho := G.o w
    have hm := G.m w
    obtain ⟨i1, i2, i3, i4⟩ := idOf_ok (sv := S.sv) (w := w) (n := F.o w) (by omega) (by omega)
    have hL : (putP S (F.incO w) (idOf S.sv w (F.o w))).L = F.L ++ [newBk S (idOf S.sv w (F.o w))] := by cases w <;> rfl
    have hO : ∀ w', (putP S (F.incO w) (idOf S.sv w (F.o w))).o w' = if w' = w then F.o w + 1 else F.o w' := fun w' => by cases w <;> cases w' <;> rfl
    refine ⟨G.sup, hk, ?_, ?_, ?_, ?_, fun w' => by have := G.m w'; cases w <;> cases w' <;> exact this, fun w' => by have := G.i w'; cases w <;> cases w' <;> simp only [putP, Fw.incO, Fw.i] at this ⊢ <;> simp only [Bool.false_eq_true, if_false, if_true] at this ⊢ <;> omega, ?_, by have := G.cc; cases w <;> exact this, ?_, ?_, ?_⟩
    · rw [hL]; intro s hs
      rcases List.mem_append.1 hs with hs | hs
      · exact (G.bk s hs).mono (by omega)
      · simp at hs; subst hs; exact newBk_good G.sup i1 _
    · rw [hL]; intro s hs hsv
      rw [hO]
      rcases List.mem_append.1 hs with hs | hs
      · have := G.own s hs hsv
        split
        · rename_i e; rw [e] at this; omega
        · exact this
      · simp at hs; subst hs
        have : (newBk S (idOf S.sv w (F.o w))).id = idOf S.sv w (F.o w) := rfl
        rw [this, i3, i4]; simp <;> omega
    · rw [hL]; have := G.len; simp; omega
    · intro w'; rw [hO]; have := G.o w'; split <;> omega
    · rw [hL, sumI_app]; have := G.se; cases w <;> simp [putP, Fw.incO, sumI, newBk] <;> exact this
    · rw [hL, sumI_app]; have := G.ca; cases w <;> simp [putP, Fw.incO, sumI, newBk] <;> exact this
    · have := G.tc; cases w <;> simp only [putP, Fw.incO] <;> simp only [Bool.false_eq_true, if_false, if_true] <;> omega
    · rw [hL, sumI_app]; have := G.rc; cases w <;> simp [putP, Fw.incO, sumI, newBk] <;> exact this
theorem open_new {S : Sup} {F : Fw} {k : Nat} (G : F.good S k) (w : Bool) (hlt : F.o w < F.m w) : stIx F.L (idOf S.sv w (F.o w)) = none := by
  have ho := G.o w
  have hm := G.m w
  obtain ⟨i1, i2, i3, i4⟩ := idOf_ok (sv := S.sv) (w := w) (n := F.o w) (by omega) (by omega)
  unfold stIx
  rw [List.findIdx?_eq_none_iff]
  intro s hs
  simp only [beq_eq_false_iff_ne]
  intro e
  have := G.own s hs (by rw [e]; exact i2)
  rw [e, i3, i4] at this
  omega
end Go.Ev

/- Credit: what holds behind each operation. -/
namespace Go.Ev
open Go Go.Proofs
set_option linter.unusedSimpArgs false
set_option linter.unusedVariables false

theorem mk_upd {S : Sup} {F F' : Fw} {k i : Nat} (G : F.good S k) (hk : k + 1 ≤ 400) (hi : i < F.L.length) (s' : Bk) (hs' : s'.good (k + 1)) (hid : s'.id = (F.at_ i).id) (hL : F'.L = F.L.set i s') (o : ∀ w, F'.o w = F.o w) (m : ∀ w, 0 ≤ F'.m w ∧ F'.m w ≤ 1152921504606846976)
    (ii : ∀ w, 0 ≤ F'.i w ∧ F'.i w ≤ 64 + (k + 1 : Nat)) (se : sumI Bk.se F.L - (F.at_ i).se + s'.se ≤ F'.cc) (cc : F'.cc ≤ 4611686018427387903) (ca : sumI Bk.ca F.L - (F.at_ i).ca + s'.ca ≤ F'.tc) (tc : F'.tc ≤ 16384 * (((k + 1 : Nat) : Int) + 1)) (rc : F'.rc = F.rc - (F.at_ i).re + s'.re) : F'.good S (k + 1) := by
  rw [at_L hi] at hid se ca rc
  refine ⟨G.sup, hk, ?_, ?_, by rw [hL, List.length_set]; have := G.len; omega, fun w => by rw [o]; have := G.o w; omega, m, ii, by rw [hL, sumI_set Bk.se F.L i hi]; exact se, cc, by rw [hL, sumI_set Bk.ca F.L i hi]; exact ca, tc, by rw [hL, sumI_set Bk.re F.L i hi, rc, G.rc]⟩
  · rw [hL]; intro s hs
    rcases List.mem_or_eq_of_mem_set hs with h | rfl
    · exact (G.bk s h).mono (by omega)
    · exact hs'
  · rw [hL]; intro s hs hsv
    rw [o]
    rcases List.mem_or_eq_of_mem_set hs with h | rfl
    · exact G.own s h hsv
    · rw [hid] at hsv ⊢; exact G.own _ (List.getElem_mem hi) hsv
theorem Fw.good.at_ {S : Sup} {F : Fw} {k i : Nat} (G : F.good S k) (hi : i < F.L.length) : (F.at_ i).good k := by rw [at_L hi]; exact G.bk _ (List.getElem_mem hi)
theorem send_good {S : Sup} {F : Fw} {k : Nat} (G : F.good S k) (hk : k + 1 ≤ 400) (id n : Int) : (sendP S F id n).1.good S (k + 1) := by
  unfold sendP
  split
  · exact G.mono (by omega) hk
  · cases hs : sendsP S F.L id with
    | none => exact G.mono (by omega) hk
    | some i =>
      have hi := sendsP_lt hs
      have g := G.at_ hi
      have h1 := g.se; have h2 := g.cr; have h3 := G.se; have h4 := G.cc; have h5 := G.ca; have h6 := G.tc
      have hI := fun w => G.i w
      dsimp only
      refine mk_upd G hk hi { F.at_ i with se := (F.at_ i).se + min (min n ((F.at_ i).cr - (F.at_ i).se)) (F.cc - sumI Bk.se F.L) } ⟨g.id, ?_, g.cr, g.re, g.ca, by have := g.to; simp only; omega⟩ rfl rfl (fun w => rfl) (fun w => G.m w) (fun w => by have := hI w; show 0 ≤ F.i w ∧ F.i w ≤ _; omega) ?_ G.cc ?_ ?_ ?_
      · simp only; omega
      · simp only; show _ ≤ F.cc; omega
      · simp only; show _ ≤ F.tc; omega
      · show F.tc ≤ _; omega
      · show F.rc = _; simp only; omega
theorem told_good {S : Sup} {F : Fw} {kk : Nat} (G : F.good S kk) (hk : kk + 1 ≤ 400) (k id n : Int) (w : Bool) (hk8 : k = 6 ∨ k = 7 ∨ k = 8) : (toldP S F k id n w).1.good S (kk + 1) := by
  have G1 := G.mono (k' := kk + 1) (by omega) hk
  unfold toldP
  split
  · exact G1
  · rename_i hn
    have hn1 : inW n := by
      apply Classical.byContradiction; intro h; exact hn (.inl h)
    have hn2 : ¬ (k = 8 ∧ 1152921504606846976 < n) := fun h => hn (.inr h)
    unfold inW at hn1
    split
    · have h3 := G1.se; have h4 := G1.cc
      exact ⟨G1.sup, hk, G1.bk, G1.own, G1.len, G1.o, G1.m, G1.i, by simp only; omega, by simp only; omega, G1.ca, G1.tc, G1.rc⟩
    · split
      · cases hs : sendsP S F.L id with
        | none => exact G1
        | some i =>
          have hi := sendsP_lt hs
          have g := G.at_ hi
          have h1 := g.se; have h2 := g.cr; have h3 := G.se; have h4 := G.cc; have h5 := G.ca; have h6 := G.tc
          dsimp only
          refine mk_upd G hk hi { F.at_ i with cr := max (F.at_ i).cr n } ⟨g.id, ?_, ?_, g.re, g.ca, by have := g.to; simp only; omega⟩ rfl rfl (fun w => rfl) (fun w => G.m w) (fun w => G1.i w) ?_ G.cc ?_ G1.tc ?_
          · simp only; omega
          · simp only; omega
          · simp only; show _ ≤ F.cc; omega
          · simp only; show _ ≤ F.tc; omega
          · show F.rc = _; simp only; omega
      · have hm := fun w => G1.m w
        rename_i k6 k7
        have k8 : k = 8 := by omega
        have hn3 : n ≤ 1152921504606846976 := by
          apply Classical.byContradiction; intro h; exact hn2 ⟨k8, by omega⟩
        refine ⟨G1.sup, hk, by cases w <;> exact G1.bk, ?_, by cases w <;> exact G1.len, fun w' => by have := G1.o w'; cases w <;> cases w' <;> exact this, fun w' => ?_, fun w' => by have := G1.i w'; cases w <;> cases w' <;> exact this, by cases w <;> exact G1.se, by cases w <;> exact G1.cc, by cases w <;> exact G1.ca, by cases w <;> exact G1.tc, by cases w <;> exact G1.rc⟩
        · have : ∀ w', (F.maxM w n).o w' = F.o w' := fun w' => by cases w <;> cases w' <;> rfl
          intro s hs hsv
          rw [this]; exact G1.own s (by cases w <;> exact hs) hsv
        · have := hm w'
          cases w <;> cases w' <;> simp only [Fw.m, Fw.maxM, Bool.false_eq_true, if_false, if_true] at this ⊢ <;> omega
theorem over_good {S : Sup} {F : Fw} {k : Nat} (G : F.good S k) (hk : k + 1 ≤ 400) (id : Int) : (overP S F id).1.good S (k + 1) := by
  have G1 := G.mono (k' := k + 1) (by omega) hk
  unfold overP
  cases hs : stIx F.L id with
  | none => exact G1
  | some i =>
    obtain ⟨hi, _⟩ := stIx_some hs
    have g := G.at_ hi
    have h1 := g.se; have h3 := G.se; have h4 := G.cc; have h5 := G.ca; have h6 := G.tc
    have hG : (F.upd i fun s => { s with ov := true }).good S (k + 1) := by
      refine mk_upd G hk hi { F.at_ i with ov := true } ⟨g.id, g.se, g.cr, g.re, g.ca, by have := g.to; simp only; omega⟩ rfl rfl (fun w => rfl) (fun w => G.m w) (fun w => G1.i w) ?_ G.cc ?_ G1.tc ?_
      · simp only; show _ ≤ F.cc; omega
      · simp only; show _ ≤ F.tc; omega
      · show F.rc = _; simp only; omega
    dsimp only
    split
    · exact G1
    · split
      · exact hG
      · have hI := fun w => G.i w
        generalize idOw id = w
        have hu : ∀ w', (F.upd i fun s => { s with ov := true }).i w' = F.i w' := fun w' => rfl
        generalize (F.upd i fun s => { s with ov := true }) = F1 at *
        refine ⟨hG.sup, hk, by cases w <;> exact hG.bk, ?_, by cases w <;> exact hG.len, fun w' => by have := hG.o w'; cases w <;> cases w' <;> exact this, fun w' => by have := hG.m w'; cases w <;> cases w' <;> exact this, fun w' => ?_, by cases w <;> exact hG.se, by cases w <;> exact hG.cc, by cases w <;> exact hG.ca, by cases w <;> exact hG.tc, by cases w <;> exact hG.rc⟩
        · have : ∀ w', (F1.incI w).o w' = F1.o w' := fun w' => by cases w <;> cases w' <;> rfl
          intro s hs hsv
          rw [this]; exact hG.own s (by cases w <;> exact hs) hsv
        · have h1 := hI w'
          have h2 := hu w'
          cases w <;> cases w' <;> simp only [Fw.i, Fw.incI, Bool.false_eq_true, if_false, if_true] at h1 h2 ⊢ <;> omega
theorem sumI_le {f g : Bk → Int} : ∀ {L : List Bk}, (∀ s ∈ L, f s ≤ g s) → sumI f L ≤ sumI g L
  | [], _ => by simp [sumI]
  | s :: l, h => by
    have h1 := h s (by simp)
    have h2 := sumI_le (L := l) fun x hx => h x (by simp [hx])
    simp only [sumI]; omega
theorem read_good {S : Sup} {F : Fw} {k : Nat} (G : F.good S k) (hk : k + 1 ≤ 400) (id n : Int) : (readP S F id n).1.good S (k + 1) := by
  have G1 := G.mono (k' := k + 1) (by omega) hk
  unfold readP
  cases hs : getsP S F.L id with
  | none => exact G1
  | some i =>
    have hi := getsP_lt hs
    have g := G.at_ hi
    dsimp only
    split
    · exact G1
    · rename_i hn
      have h1 := g.re; have h2 := g.ca; have h3 := g.to; have h4 := G.ca; have h5 := G.tc; have h6 := G.rc
      have hr : sumI Bk.re F.L - (F.at_ i).re + ((F.at_ i).re + n) ≤ F.tc := by
        have h7 : sumI Bk.re (F.L.set i { F.at_ i with re := (F.at_ i).re + n }) ≤ sumI Bk.ca (F.L.set i { F.at_ i with re := (F.at_ i).re + n }) := sumI_le fun s hs => by
          rcases List.mem_or_eq_of_mem_set hs with h | rfl
          · exact (G.bk s h).re.2
          · simp only; omega
        rw [sumI_set Bk.re F.L i hi, sumI_set Bk.ca F.L i hi, ← at_L hi] at h7
        simp only at h7; omega
      have hr0 := sumI_nn (f := Bk.re) (fun s hs => (G.bk s hs).re.1)
      have c1 := creditP_rng (r := (F.at_ i).re + n) (w := S.sw) (t := (F.at_ i).to) (by omega) (by omega) (by omega) G.sup.sw
      have c2 := creditP_rng (r := F.rc + n) (w := S.cw) (t := F.tc) (by omega) (by omega) (by omega) G.sup.cw
      have hsw := G.sup.sw; have hcw := G.sup.cw
      refine mk_upd G hk hi { F.at_ i with re := (F.at_ i).re + n, to := creditP ((F.at_ i).re + n) S.sw (F.at_ i).to } ⟨g.id, g.se, g.cr, by simp only; omega, by simp only; omega, by simp only; omega⟩ rfl rfl (fun w => rfl) (fun w => G.m w) (fun w => G1.i w) ?_ G.cc ?_ ?_ ?_
      · simp only; show _ ≤ F.cc; have := G.se; omega
      · simp only; omega
      · simp only; omega
      · show F.rc + n = _; simp only; omega
theorem addAll_good {S : Sup} {F : Fw} {k : Nat} (G : F.good S k) (hk : k + 1 ≤ 400) {sv : Bool} (hsv : sv ≠ S.sv) (w : Bool) {n : Nat} (hn : n ≤ 470) : (addAll S sv w n F).good S (k + 1) := by
  have G1 := G.mono (k' := k + 1) (by omega) hk
  have hs := addAll_same S sv w n F
  have h1 := addAll_sum (S := S) (sv := sv) (w := w) Bk.se (fun _ => rfl) n F
  have h2 := addAll_sum (S := S) (sv := sv) (w := w) Bk.ca (fun _ => rfl) n F
  have h3 := addAll_sum (S := S) (sv := sv) (w := w) Bk.re (fun _ => rfl) n F
  have hl := addAll_len S sv w n F
  have hid : ∀ j : Nat, j < n → idOk (idOf sv w j) ∧ idSv (idOf sv w j) = sv ∧ idOw (idOf sv w j) = w ∧ idOf sv w j / 4 = j := fun j hj => idOf_ok (by omega) (by omega)
  have ho : ∀ w', (addAll S sv w n F).o w' = F.o w' := fun w' => by cases w' <;> simp only [Fw.o, hs.o0, hs.o1]
  refine ⟨G.sup, hk, addAll_all n G1.bk fun j hj => newBk_good G.sup (hid j hj).1 _, ?_, by have := G.len; omega, fun w' => by rw [ho]; exact G1.o w', fun w' => by have := G1.m w'; cases w' <;> simp only [Fw.m, hs.m0, hs.m1] at this ⊢ <;> exact this, fun w' => by have := G1.i w'; cases w' <;> simp only [Fw.i, hs.i0, hs.i1] at this ⊢ <;> exact this, by rw [h1, hs.cc]; exact G.se, by rw [hs.cc]; exact G.cc, by rw [h2, hs.tc]; exact G.ca, by rw [hs.tc]; exact G1.tc, by rw [hs.rc, h3]; exact G.rc⟩
  have := addAll_all (S := S) (sv := sv) (w := w) (P := fun s => idSv s.id = S.sv → s.id / 4 < F.o (idOw s.id)) n (F := F) G.own fun j hj h => by
    have h4 : idSv (newBk S (idOf sv w j)).id = sv := (hid j hj).2.1
    rw [h4] at h; exact absurd h hsv
  intro s hs' h
  rw [ho]; exact this s hs' h
theorem arrive_good {S : Sup} {F : Fw} {k : Nat} (G : F.good S k) (hk : k + 1 ≤ 400) (id n : Int) : (arriveP S F id n).1.good S (k + 1) := by
  have G1 := G.mono (k' := k + 1) (by omega) hk
  unfold arriveP
  split
  · exact G1
  · rename_i hok
    split
    · exact G1
    · rename_i h9
      have hG : (if idSv id ≠ S.sv then addAll S (idSv id) (idOw id) (id / 4 + 1).toNat F else F).good S (k + 1) := by
        split
        · rename_i hne
          have hI := G.i (idOw id)
          have : ¬ (F.i (idOw id) ≤ id / 4) := fun h => h9 ⟨hne, h⟩
          exact addAll_good G hk hne _ (by omega)
        · exact G1
      dsimp only
      generalize (if idSv id ≠ S.sv then addAll S (idSv id) (idOw id) (id / 4 + 1).toNat F else F) = H at *
      cases hs : getsP S H.L id with
      | none => exact hG
      | some i =>
        dsimp only
        split
        · exact hG
        · rename_i hlt
          have hi := getsP_lt hs
          have g := hG.at_ hi
          have h1 := g.re; have h2 := g.ca
          have hs1 := sumI_set Bk.ca H.L i hi { H.at_ i with ca := max n (H.at_ i).ca }
          rw [← at_L hi] at hs1
          refine ⟨hG.sup, hk, ?_, ?_, by simp only [Fw.upd, List.length_set]; exact hG.len, hG.o, hG.m, hG.i, ?_, hG.cc, ?_, hG.tc, ?_⟩
          · intro s hs
            rcases List.mem_or_eq_of_mem_set hs with h | rfl
            · exact hG.bk s h
            · exact ⟨g.id, g.se, g.cr, by simp only; omega, by simp only; omega, g.to⟩
          · intro s hs hsv
            rcases List.mem_or_eq_of_mem_set hs with h | rfl
            · exact hG.own s h hsv
            · have := hG.own _ (List.getElem_mem hi)
              rw [← at_L hi] at this
              exact this hsv
          · simp only [Fw.upd]; rw [sumI_set Bk.se H.L i hi, ← at_L hi]; have := hG.se; simp only; omega
          · simp only [Fw.upd]; rw [hs1]; simp only; omega
          · simp only [Fw.upd]; rw [sumI_set Bk.re H.L i hi, ← at_L hi]; have := hG.rc; simp only; omega
theorem doF_good {S : Sup} {F : Fw} {k : Nat} (G : F.good S k) (hk : k + 1 ≤ 400) (op : tT65.D) : (doF S F op).1.good S (k + 1) := by
  unfold doF
  split
  · exact open_good G hk _
  · split
    · exact send_good G hk _ _
    · split
      · exact arrive_good G hk _ _
      · split
        · exact read_good G hk _ _
        · split
          · exact over_good G hk _
          · split
            · rename_i h; exact told_good G hk _ _ _ _ h
            · exact G.mono (by omega) hk
end Go.Ev

/- Credit: the reference's run. -/
namespace Go.Ev
open Go Go.Proofs
set_option linter.unusedSimpArgs false
set_option linter.unusedVariables false

def runF (S : Sup) : Fw → List tT65.D → List Ob
  | _, [] => []
  | F, op :: l => (doF S F op).2 :: runF S (doF S F op).1 l
noncomputable def FlowP (S : Sup) (ops : List tT65.D) : List Ob × Int := if 400 < ops.length then ([], 4) else if S.ok then (runF S (Fw0 S) ops, 0) else ([], 1)
theorem app63 {X : AH} {v : AV} {l : List Ob} {bs b1 : List Nat} {c : List AV} {d : Ob} (h : (Ty.sl 63 tT63).R true X [v] l bs) (hc : tT63.R true X c d b1) (hnd : (bs ++ b1).Nodup) (hl : l.length ≤ 1000) :
    ∃ v' X' bs', appA Try.prog 46 46 v (.slice X.next 0 1) (X.push (.cells 63 false c)) = some (v', X') ∧ (Ty.sl 63 tT63).R true X' [v'] (l ++ [d]) bs' ∧ bs'.Nodup ∧ (∀ b ∈ bs', b ∈ bs ∨ b ∈ b1 ∨ X.next ≤ b) ∧ KoS bs X X' :=
  Ty.R.app1 (P := Try.prog) (T := 46) h hc hnd (by simp) (by simp) (by simp [Ty.n]) (by_ := 48) (by simp) (z := obC 0 0 0 .nilSlice) (by simp [obC]) (by simp [obC, Ty.n]) (by omega) (by omega)
theorem opAt {rw : Bool} {H : AH} {s : AV} {ops : List tT65.D} {bs : List Nat} (hr : (Ty.sl 65 tT65).R rw H [s] ops bs) {k : Nat} (hk : k < ops.length) :
    ∃ b o ro L, idxA Try.prog 51 s (.int .i64 k) = some (.ptr b o) ∧ b < H.next ∧ H.get b = some (.cells 65 ro L) ∧ o + 4 ≤ L.length ∧ (L.drop o).take 4 = opC ops[k].1 ops[k].2.1 ops[k].2.2.1 ops[k].2.2.2 := by
  obtain ⟨b, o, ro, x1, c, x2, bk, u1, u2, u3, u4, u5, u6, u7, u8⟩ := Ty.R.at_ hr (P := Try.prog) (T := 51) (by simp) (by simp [Ty.n]) (k := k) hk
  rcases hx : ops[k] with ⟨x0, x1', x2', x3⟩
  rw [hx] at u5
  obtain ⟨rfl, _, _⟩ := o65 u5
  subst u4
  exact ⟨b, _, ro, _, u1, u2, u3, by simp, by simp [opC]⟩
def RuS (S : Sup) (ops : List tT65.D) (s : AV) (H : AH) (q : Nat) (d : Nat) (τ : Tm) (h : AH) : Prop :=
  ∃ (i : Nat) (F : Fw) (v : AV) (bs : List Nat) (outs : List Ob) (vo : AV) (bo : List Nat), i + d = ops.length ∧ τ 1 = s ∧ τ 6 = .ptr q 0 ∧ τ 7 = vo ∧ τ 8 = .int .i64 i ∧ FsS S F q v bs h ∧ F.good S i ∧ (Ty.sl 63 tT63).R true h [vo] outs bo ∧ bo.Nodup ∧
    (∀ b ∈ bo, b ∉ bs ∧ b ≠ q) ∧ (∀ b ∈ bs, H.next ≤ b) ∧ (∀ b ∈ bo, H.next ≤ b) ∧ H.next ≤ q ∧ Kp H h ∧ outs ++ runF S F (ops.drop i) = runF S (Fw0 S) ops ∧ outs.length = i
set_option maxRecDepth 20000 in
theorem ruLoopS {Hb H h0 : AH} {S : Sup} {s : AV} {q : Nat} {ops : List tT65.D} {bx : List Nat} {rw : Bool} (hd : (Ty.sl 65 tT65).R rw Hb [s] ops bx) (hKb : Kp Hb H) (hlen : ops.length ≤ 400) (m : Nat) (hm : 1000050 ≤ m) (τ : Tm) (hI : RuS S ops s H q ops.length τ h0) :
    ∃ e τ' H', evLoop Try.prog (ev Try.prog m) m (lp Try.prog 26 506) τ h0 = some (e, τ', H') ∧ e = .exit 0 ∧ RuS S ops s H q 0 τ' H' := by
  have hL := Ty.R.lenA hd (P := Try.prog) (T := 51) (by simp)
  refine loop_rule (d := ops.length) (RuS S ops s H q) (fun e τ h => e = .exit 0 ∧ RuS S ops s H q 0 τ h) ?_ hI (by omega)
  rintro d τ h ⟨i, F, v, bs, outs, vo, bo, hi, t1, t6, t7, t8, X, G, hR, hnd, hdj, hlo, hlo2, hlq, hK, hrun, hol⟩
  rw [lp_M Try.func26 506 (by decide) 9 (by decide) (by kernel_rfl) []]
  by_cases hd0 : d = 0
  · subst hd0
    have hkn : ¬ ((i : Int) < ops.length) := by omega
    simp [Try.f26, t1, t8, hL, hkn]
    exact ⟨i, F, v, bs, outs, vo, bo, hi, by simp [t1], by simp [t6], by simp [t7], by simp [t8], X, G, hR, hnd, hdj, hlo, hlo2, hlq, hK, hrun, hol⟩
  · have hlt : i < ops.length := by omega
    have hlt' : (i : Int) < ops.length := by omega
    obtain ⟨b, o, ro, L, u1, u2, u3, L1, L2⟩ := opAt (hd.kp (hKb.trans hK)) hlt
    rcases hop : ops[i] with ⟨k, id, n, w⟩
    rw [hop] at L2
    simp only at L2
    obtain ⟨c, h2, e1, v2, bs2, b1, y1, y2, y3, y4, y5, y6, y7⟩ := do_ev X G k id n w m (by omega)
    have G2 := doF_good G (by omega) (k, id, n, w)
    have hdrop : ops.drop i = (k, id, n, w) :: ops.drop (i + 1) := by rw [List.drop_eq_getElem_cons hlt, hop]
    rw [hdrop] at hrun
    simp only [runF] at hrun
    generalize doF S F (k, id, n, w) = D at *
    have hbo := hR.mem
    have hqbs : ∀ x ∈ bo, x ∉ q :: bs := fun x hx h => by rcases List.mem_cons.1 h with e | e; exact (hdj x hx).2 e; exact (hdj x hx).1 e
    have hR2 : (Ty.sl 63 tT63).R true h2 [vo] outs bo := hR.koS y2 hqbs
    have hnd2 : (bo ++ b1).Nodup := by
      rw [List.nodup_append]
      exact ⟨hnd, y5, fun x hx y hy e => by have := hbo x hx; have := y6 y hy; omega⟩
    obtain ⟨v', X', bo', a1, a2, a3, a4, a5⟩ := app63 hR2 y4 hnd2 (by omega)
    have hc := y4.len
    have ny2 := y2.next
    have ny5 := a5.next
    have hKn := hK.next
    have hqn := X.qn
    have X2 : FsS S D.1 q v2 bs2 X' := y1.stay a5.next (a5.get q y1.qn (fun hx => (hdj q hx).2 rfl)) (fun x hx => a5.get x (y1.R.mem x hx) (fun hxb => by
      rcases y3 x hx with h | h
      · exact (hdj x hxb).1 h
      · have := hbo x hxb; omega))
    have w1 : IntKind.i64.wrap ((i : Int) + 1) = ((i + 1 : Nat) : Int) := by rw [wrap_i64 (n := (i : Int) + 1) (by omega) (by omega)]; omega
    have l65 : ldVar Try.prog 65 b o h = some (.agg (opC k id n w)) := by simp [ldVar, u3, L1, L2]
    obtain ⟨c0, c1, c2, va, rfl, ova⟩ := StpO.cells (S := S) (F' := D.1) (d := D.2) (q := q) (bs := bs) (h := h) (h' := h2) (c := c) ⟨v2, bs2, b1, y1, y2, y3, y4, y5, y6, y7⟩
    simp only [obC] at e1 a1
    simp [Try.f26, t1, t6, t7, t8, hL, hlt', u1, l65, e1, zerosA, spl, fillA, ova, a1, w1]
    refine ⟨d - 1, by omega, i + 1, D.1, v2, bs2, outs ++ [D.2], v', bo', by omega, by simp [t1], by simp [t6], by simp, by simp, X2, G2, a2, a3, ?_, ?_, ?_, hlq, ?_, by simpa using hrun, by simp [hol]⟩
    · intro x hx
      rcases a4 x hx with h | h | h
      · refine ⟨fun hb => ?_, (hdj x h).2⟩
        rcases y3 x hb with h4 | h4
        · exact (hdj x h).1 h4
        · have := hbo x h; omega
      · exact ⟨y7 x h, fun e => by have := y6 x h; omega⟩
      · exact ⟨fun hb => by have := y1.R.mem x hb; omega, by omega⟩
    · intro x hx
      rcases y3 x hx with h | h
      · exact hlo x h
      · omega
    · intro x hx
      rcases a4 x hx with h | h | h
      · exact hlo2 x h
      · have := y6 x h; omega
      · omega
    · refine ⟨by omega, fun x hx => ?_⟩
      rw [a5.get x (by omega) (fun hb => by have := hlo2 x hb; omega), y2.get x (by omega) (fun hb => by rcases List.mem_cons.1 hb with e | e; omega; have := hlo x e; omega)]
      exact hK.get x hx
theorem runF_len (S : Sup) : ∀ (F : Fw) (ops : List tT65.D), (runF S F ops).length = ops.length
  | _, [] => rfl
  | F, op :: l => by simp only [runF, List.length_cons, runF_len S _ l]
theorem empty63 {H : AH} {p : Nat} (hp : p < H.next) (hg : H.get p = some (.cells 63 false [])) : (Ty.sl 63 tT63).R true H [.slice p 0 0] [] [p] :=
  .inr ⟨p, 0, false, [], [], rfl, rfl, hp, hg, fun _ => ⟨rfl, rfl, by simp⟩, by simp, by simp [Rows]⟩
theorem flowS_ev {Hb H : AH} {S : Sup} {s : AV} {ops : List tT65.D} {bx : List Nat} {rw : Bool} (hd : (Ty.sl 65 tT65).R rw Hb [s] ops bx) (hKb : Kp Hb H) (m : Nat) (hm : 1000060 ≤ m) :
    ∃ r H' bo, ev Try.prog m 26 [.agg (suC S), s] H = some (.tuple [r, .int .i64 (FlowP S ops).2], H') ∧ Kp H H' ∧ (Ty.sl 63 tT63).R true H' [r] (FlowP S ops).1 bo ∧ bo.Nodup ∧ ∀ b ∈ bo, H.next ≤ b := by
  obtain ⟨m, rfl⟩ : ∃ k, m = k + 1 := ⟨m - 1, by omega⟩
  have hL := Ty.R.lenA hd (P := Try.prog) (T := 51) (by simp)
  unfold FlowP
  by_cases c1 : 400 < ops.length
  · rw [if_pos c1]
    have c1' : 400 < (ops.length : Int) := by omega
    refine ⟨.slice (H.next + 1) 0 0, (H.push (.cells 49 false (suC S))).push (.cells 63 false []), [H.next + 1], ?_, ((Kp.refl H).push _).push _, empty63 (by simp) (by simp), by simp, by simp⟩
    simp only [suC]
    rw [ev_M Try.func26 ok26 [] m _ H (by simp [Try.f26])]
    simp [Try.f26, tm0, hL, c1', zerosA]
  · rw [if_neg c1]
    have c1' : (400 < (ops.length : Int)) = False := eq_false (by omega)
    have e1 := fun H => supS_ev S H m (by omega)
    have lz : ldVar Try.prog 49 H.next 0 (H.push (.cells 49 false (suC S))) = some (.agg (suC S)) := by simp [ldVar, suC]
    have hA0 : H.push (.cells 49 false [.bool S.sv, .int .i64 S.cw, .int .i64 S.sw, .int .i64 S.tw, .int .i64 S.ow, .int .i64 S.pc, .int .i64 S.ps, .int .i64 S.ptw, .int .i64 S.pow]) = H.push (.cells 49 false (suC S)) := rfl
    by_cases c2 : S.ok
    · rw [if_pos c2]
      simp only [c2, decide_true] at e1
      let A1 : AH := (H.push (.cells 49 false (suC S))).push (.cells 49 false (suC S))
      have lz1 : ldVar Try.prog 49 H.next 0 A1 = some (.agg (suC S)) := by simp [ldVar, suC, A1]
      obtain ⟨A2, e2, X2, k2⟩ := newS_ev S A1 m (by omega)
      have kA1 : Kp H A1 := ((Kp.refl H).push _).push _
      have n2 := k2.next
      simp [A1] at n2
      let A3 : AH := A2.push (.cells 63 false [])
      have kA3 : Kp A2 A3 := (Kp.refl A2).push _
      have X3 := X2.kp kA3
      have hK3 : Kp H A3 := (kA1.trans k2).trans kA3
      have key : ∃ τ' H', ev Try.prog (m + 1) 26 [.agg (suC S), s] H = resM Try.prog [.tmp 4, .tmp 5] (evAt Try.prog (ev Try.prog m) m 26 127 τ' H') ∧ RuS S ops s H (A1.next + 1) 0 τ' H' := by
        have hls := ruLoopS (S := S) (q := A1.next + 1) (h0 := A3) hd hKb (by omega) m (by omega)
        have hA1 : (H.push (.cells 49 false (suC S))).push (.cells 49 false (suC S)) = A1 := rfl
        have hA3 : A2.push (.cells 63 false []) = A3 := rfl
        have hn3 : A2.next < A3.next := by simp [A3]
        have hg3 : A3.get A2.next = some (.cells 63 false []) := by simp [A3]
        have hqn : A1.next + 1 < A2.next := X2.qn
        have hlo1 : H.next ≤ A1.next := kA1.next
        have hA1n : A1.next = H.next + 2 := by simp [A1]
        clear_value A1 A3
        simp only [suC] at e1 e2 lz lz1 hA0 hA1 ⊢
        rw [ev_M Try.func26 ok26 [127] m _ H (by simp [Try.f26])]
        simp [Try.f26, tm0, hL, c1', lz, e1, hA1, lz1, e2, hA3, zerosA]
        generalize hLo : evLoop _ _ _ _ _ _ = R
        obtain ⟨e, τ', H', rfl, rfl, g⟩ := loop_at hLo (hls _ ⟨0, Fw0 S, .nilSlice, [], [], .slice A2.next 0 0, [A2.next], by omega, by simp, by simp, by simp, by simp, X3, Fw0_good c2, empty63 hn3 hg3, by simp, by simp; omega, by simp, by simp; omega, by omega, hK3, by simp, rfl⟩)
        exact ⟨τ', H', by simp, g⟩
      obtain ⟨τ1, H1, e3, i, F, v, bs, outs, vo, bo, hi, t1, t6, t7, t8, X, G, hR, hnd, hdj, hlo, hlo2, hlq, hK, hrun, hol⟩ := key
      have hi' : ops.length ≤ i := by omega
      rw [List.drop_eq_nil_of_le hi'] at hrun
      simp only [runF, List.append_nil] at hrun
      rw [← hrun]
      refine ⟨vo, H1, bo, ?_, hK, hR, hnd, hlo2⟩
      rw [e3]
      rw [at_M Try.func26 127 (by decide) 7 (by decide) (by kernel_rfl) []]
      simp [Try.f26, t7]
    · rw [if_neg c2]
      simp only [c2, decide_false] at e1
      refine ⟨.slice (H.next + 2) 0 0, ((H.push (.cells 49 false (suC S))).push (.cells 49 false (suC S))).push (.cells 63 false []), [H.next + 2], ?_, (((Kp.refl H).push _).push _).push _, empty63 (by simp) (by simp), by simp, by simp⟩
      simp only [suC] at e1 lz hA0 ⊢
      rw [ev_M Try.func26 ok26 [] m _ H (by simp [Try.f26])]
      simp [Try.f26, tm0, hL, c1', lz, e1, zerosA]
end Go.Ev

/- The drawn operations: one operation. -/
namespace Go.Ev
open Go Go.Proofs
set_option linter.unusedSimpArgs false
set_option linter.unusedVariables false

def kindL : List Int := [1, 2, 2, 2, 3, 3, 3, 3, 4, 4, 4, 5, 6, 7, 8]
def opdA (S : Src) : tT65.D × Src :=
  let r0 := nextP 15 S
  let r1 := nextP 12 r0.2
  let r2 := nextP 60 r1.2
  let r3 := chanceP 3 r2.2
  ((lkP kindL r0.1, r1.1, r2.1, r3.1), r3.2)
def opdB (o : tT65.D) (S : Src) : tT65.D × Src :=
  let k := nextP 40 S
  if k.1 = 0 then ((o.1, o.2.1, (numP k.2).1, o.2.2.2), (numP k.2).2)
  else if k.1 = 1 then ((o.1, (numP k.2).1, o.2.2.1, o.2.2.2), (numP k.2).2)
  else if k.1 = 2 then (((nextP 11 k.2).1 - 1, o.2.1, o.2.2.1, o.2.2.2), (nextP 11 k.2).2)
  else (o, k.2)
def opdP (S : Src) : tT65.D × Src := opdB (opdA S).1 (opdA S).2
def opdL : Nat → Src → List tT65.D
  | 0, _ => []
  | n + 1, S => (opdP S).1 :: opdL n (opdP S).2
def OdIn (o : tT65.D) : Prop := InK .i64 o.1 ∧ InK .i64 o.2.1 ∧ InK .i64 o.2.2.1
def odC (o : tT65.D) : List AV := opC o.1 o.2.1 o.2.2.1 o.2.2.2
/-- the slots -/
structure OdT (τ : Tm) (q p5 : Nat) (v6 : AV) (i : Int) : Prop where
  t2 : τ 2 = .ptr (q - 1) 0
  t4 : τ 4 = .ptr q 0
  t5 : τ 5 = .ptr p5 0
  t6 : τ 6 = v6
  t7 : τ 7 = .int .i64 i
theorem koS_r2 {h : AH} {q : Nat} (x y z u : Blk) (n1 n2 n3 : Nat) (h1 : h.next ≤ n1) (h2 : h.next ≤ n2) (h3 : h.next ≤ n3) : KoS [q] h (((((h.res 2).set q x).set n1 y).set n2 z).set n3 u) :=
  ⟨by simp, fun b hb hn => by
    have hbq : b ≠ q := by simpa using hn
    rw [AH.set_getN _ _ (by omega), AH.set_getN _ _ (by omega), AH.set_getN _ _ (by omega), AH.set_getN _ _ hbq, res_get, if_neg (by omega)]⟩
theorem od0 {h : AH} {q : Nat} {v : AV} {bs : List Nat} {S : Src} (h0 : SrcI h q v S bs) {K : Nat} (hp : S.pos ≤ K) (hK : K ≤ 800000) {p5 : Nat} {v6 : AV} {i : Int} (m : Nat) (hm : 10 ≤ m) (τ : Tm) (hτ : OdT τ q p5 v6 i) :
    ∃ (τ' : Tm) (h' : AH) (o : tT65.D) (S' : Src), evAt Try.prog (ev Try.prog m) m 35 4004 τ h = evAt Try.prog (ev Try.prog m) m 35 8009 τ' h' ∧ opdA S = (o, S') ∧ OdIn o ∧
      OdT τ' q p5 v6 i ∧ τ' 8 = .ptr (h.next + 1) 0 ∧ h'.get (h.next + 1) = some (.cells 65 false (odC o)) ∧ h'.next = h.next + 2 ∧ SrcI h' q v S' bs ∧ KoS [q] h h' ∧ S'.pos ≤ K + 12 := by
  obtain ⟨t2, t4, t5, t6, t7⟩ := hτ
  have hq := h0.lt
  obtain ⟨x0, S0, d0, a0, p0, e0, i0⟩ := draw (h0.resv 2) hp (by omega) 15 (by omega) (by omega) m (by omega)
  obtain ⟨x1, S1, d1, a1, p1, e1, i1⟩ := draw i0 p0 (by omega) 12 (by omega) (by omega) m (by omega)
  rw [set_set] at e1 i1
  obtain ⟨x2, S2, d2, a2, p2, e2, i2⟩ := draw i1 p1 (by omega) 60 (by omega) (by omega) m (by omega)
  rw [set_set] at e2 i2
  have e3 := chance_ev i2 (by omega) (n := 3) (by omega) (by omega) m (by omega)
  have i3 : SrcI _ q v (chanceP 3 S2).2 bs := i2.next (by omega) 3
  have p3 : (chanceP 3 S2).2.pos ≤ K + 12 := nextP_p p2
  unfold opdA
  simp only [d0, d1, d2]
  generalize hc : chanceP 3 S2 = c3 at *
  obtain ⟨b3, S3⟩ := c3
  simp only at e3 i3 p3 ⊢
  rw [show (nextP 3 S2).2 = S3 from congrArg Prod.snd hc, set_set] at i3
  rw [set_set] at e3
  have g := lk_get (l := kindL) (k := x0) (by simp [kindL]; omega)
  have b1 : InK .i64 (lkP kindL x0) := lkP_in (fun x hx => by simp only [kindL, List.mem_cons, List.not_mem_nil, or_false] at hx; apply inK64 <;> omega) _
  simp only [kindL, List.map_cons, List.map_nil] at g
  have hn1 : ¬ (h.next = q) := by omega
  have hn2 : ¬ (h.next + 1 = q) := by omega
  have hbs : ∀ b ∈ bs, b < h.next := fun b hb => h0.row.mem b hb
  rw [at_M Try.func35 4004 (by decide) 12 (by decide) (by kernel_rfl) [8009]]
  refine ⟨_, _, _, S3, by simp (disch := omega) [Try.f35, t4, t7, g, e0, e1, e2, e3, hn1, hn2, zerosA, fillA, spl, idxA, a0, ldVar, stVar, wrapI]; rfl, rfl, ⟨b1, inK64 (by simp only; omega) (by simp only; omega), inK64 (by simp only; omega) (by simp only; omega)⟩,
    ⟨by simp [t2], by simp [t4], by simp [t5], by simp [t6], by simp [t7]⟩, by simp, by simp [odC, opC, kindL], by simp, ?_, ?_, p3⟩
  · exact ((i3.set_ne _ (by omega) fun e => by have := hbs _ e; omega).set_ne _ (by omega) fun e => by have := hbs _ e; omega).set_ne _ (by omega) fun e => by have := hbs _ e; omega
  · exact koS_r2 _ _ _ _ _ _ _ (by omega) (by omega) (by omega)
theorem od1 {h : AH} {q : Nat} {v : AV} {bs : List Nat} {S : Src} {o : tT65.D} (h0 : SrcI h q v S bs) {K : Nat} (hp : S.pos ≤ K) (hK : K ≤ 800000) (ho : OdIn o) {p p5 : Nat} {v6 : AV} {i : Int} (g : h.get p = some (.cells 65 false (odC o))) (hpq : p ≠ q) (hpb : p ∉ bs) (hpn : p < h.next) (m : Nat) (hm : 10 ≤ m) (τ : Tm) (hτ : OdT τ q p5 v6 i) (t8 : τ 8 = .ptr p 0) :
    ∃ (τ' : Tm) (h' : AH) (o' : tT65.D) (S' : Src), evAt Try.prog (ev Try.prog m) m 35 8009 τ h = evAt Try.prog (ev Try.prog m) m 35 16019 τ' h' ∧ opdB o S = (o', S') ∧ OdIn o' ∧
      OdT τ' q p5 v6 i ∧ τ' 8 = .ptr p 0 ∧ h'.get p = some (.cells 65 false (odC o')) ∧ SrcI h' q v S' bs ∧ KoS [q, p] h h' ∧ S'.pos ≤ K + 12 := by
  have hτ' := hτ
  obtain ⟨t2, t4, t5, t6, t7⟩ := hτ
  have hq := h0.lt
  obtain ⟨k, S0, d0, a0, p0, e0, i0⟩ := draw h0 hp (by omega) 40 (by omega) (by omega) m (by omega)
  unfold opdB
  simp only [d0]
  rw [at_M Try.func35 8009 (by decide) 13 (by decide) (by kernel_rfl) [16019]]
  unfold odC opC at g
  have fin : ∀ {Y : AH} {S' : Src} (z : List AV), SrcI Y q v S' bs → KoS [q] h Y → SrcI (Y.set p (.cells 65 false z)) q v S' bs ∧ KoS [q, p] h (Y.set p (.cells 65 false z)) := fun z hs hY => by
    refine ⟨hs.set_ne _ hpq hpb, ⟨by simpa using hY.next, fun b hb hn => ?_⟩⟩
    simp only [List.mem_cons, List.not_mem_nil, or_false, not_or] at hn
    rw [AH.set_getN _ _ hn.2, hY.get b hb (by simpa using hn.1)]
  by_cases c0 : k = 0
  · subst c0
    obtain ⟨j, S1, Y, d1, a1, p1, e1, i1, kY⟩ := number_ev i0 p0 (by omega) m (by omega)
    have kY2 : KoS [q] h Y := (koS_set _).trans kY fun b hb => .inl hb
    have y1 : Y.get p = _ := (kY2.get p hpn (by simpa using hpq)).trans g
    have F := fun z => fin z i1 kY2
    refine ⟨_, _, (o.1, o.2.1, j, o.2.2.2), S1, by simp (disch := omega) [Try.f35, t4, t8, e0, e1, idxA, ldVar, stVar, spl, y1, U]; rfl, by simp [d1], ⟨ho.1, ho.2.1, a1⟩, ⟨by simp [t2], by simp [t4], by simp [t5], by simp [t6], by simp [t7]⟩, by simp [t8], by rw [AH.set_getS]; simp [odC, opC], (F _).1, (F _).2, by omega⟩
  by_cases c1 : k = 1
  · subst c1
    obtain ⟨j, S1, Y, d1, a1, p1, e1, i1, kY⟩ := number_ev i0 p0 (by omega) m (by omega)
    have kY2 : KoS [q] h Y := (koS_set _).trans kY fun b hb => .inl hb
    have y1 : Y.get p = _ := (kY2.get p hpn (by simpa using hpq)).trans g
    have F := fun z => fin z i1 kY2
    refine ⟨_, _, (o.1, j, o.2.2.1, o.2.2.2), S1, by simp (disch := omega) [Try.f35, t4, t8, e0, e1, idxA, ldVar, stVar, spl, y1, U]; rfl, by simp [d1], ⟨ho.1, a1, ho.2.2⟩, ⟨by simp [t2], by simp [t4], by simp [t5], by simp [t6], by simp [t7]⟩, by simp [t8], by rw [AH.set_getS]; simp [odC, opC], (F _).1, (F _).2, by omega⟩
  by_cases c2 : k = 2
  · subst c2
    obtain ⟨j, S1, d1, a1, p1, e1, i1⟩ := draw i0 p0 (by omega) 11 (by omega) (by omega) m (by omega)
    rw [set_set] at e1 i1
    have w1 := wrap_i64 (n := (j : Int) - 1) (by omega) (by omega)
    have F := fun z => fin z i1 (koS_set _)
    refine ⟨_, _, ((j : Int) - 1, o.2.1, o.2.2.1, o.2.2.2), S1, by simp (disch := omega) [Try.f35, t4, t8, e0, e1, w1, hpq, idxA, ldVar, stVar, spl, g, U]; rfl, by simp [d1], ⟨inK64 (by simp only; omega) (by simp only; omega), ho.2.1, ho.2.2⟩, ⟨by simp [t2], by simp [t4], by simp [t5], by simp [t6], by simp [t7]⟩, by simp [t8], by rw [AH.set_getS]; simp [odC, opC], (F _).1, (F _).2, by omega⟩
  have k0 : ¬ ((k : Int) = 0) := by omega
  have k1 : ¬ ((k : Int) = 1) := by omega
  have k2 : ¬ ((k : Int) = 2) := by omega
  refine ⟨_, _, o, S0, by simp (disch := omega) [Try.f35, t4, t8, e0, k0, k1, k2, c0, c1, c2, beqF k0, beqF k1, beqF k2, U]; rfl, by simp [k0, k1, k2, c0, c1, c2], ho, ⟨by simp [t2], by simp [t4], by simp [t5], by simp [t6], by simp [t7]⟩, by simp [t8], by rw [AH.set_getN _ _ hpq, g]; rfl, i0, (koS_set _).less (by simp), by omega⟩
end Go.Ev

/- The drawn operations: the loop. -/
namespace Go.Ev
open Go Go.Proofs
set_option linter.unusedSimpArgs false
set_option linter.unusedVariables false

theorem app_od {X : AH} {v : AV} {l : List tT65.D} {bs : List Nat} {o : tT65.D} (h : (Ty.sl 65 tT65).R true X [v] l bs) (hnd : bs.Nodup) (ho : OdIn o) (hl : l.length ≤ 1000000) :
    ∃ v' X' bs', appA Try.prog 51 51 v (.slice X.next 0 1) (X.push (.cells 65 false (odC o))) = some (v', X') ∧ (Ty.sl 65 tT65).R true X' [v'] (l ++ [o]) bs' ∧ bs'.Nodup ∧ (∀ b ∈ bs', b ∈ bs ∨ X.next ≤ b) ∧ KoS bs X X' := by
  obtain ⟨o1, o2, o3, o4⟩ := o
  obtain ⟨v', X', bs', h1, h2, h3, h4, h5⟩ := Ty.R.app1 (P := Try.prog) (T := 51) h (i65 (rw := true) (H := X) (x_3 := o4) ho.1 ho.2.1 ho.2.2) (by simpa using hnd) (by simp) (by simp) (by simp [Ty.n]) (by_ := 32) (by simp) (z := [.int .i64 0, .int .i64 0, .int .i64 0, .bool false]) (by simp) (by simp [Ty.n]) (by omega) (by omega)
  exact ⟨v', X', bs', h1, h2, h3, fun b hb => by rcases h4 b hb with h | h | h <;> simp_all, h5⟩
structure OdR (H h : AH) (q p5 : Nat) (u : Sup) (v : AV) (bs : List Nat) (S : Src) (outs : List tT65.D) (v6 : AV) (b6 : List Nat) : Prop where
  src : SrcI h q v S bs
  bs : ∀ b ∈ bs, b < H.next
  ops : (Ty.sl 65 tT65).R true h [v6] outs b6
  nd : (q :: p5 :: b6).Nodup
  lo : ∀ b ∈ q :: p5 :: b6, H.next ≤ b
  pl : p5 < h.next
  g5 : h.get p5 = some (.cells 49 false (suC u))
  kp : Kp H h
def OdI (N : Nat) (all : List tT65.D) (H : AH) (q p5 : Nat) (u : Sup) (v : AV) (bs : List Nat) (d : Nat) (τ : Tm) (h : AH) : Prop :=
  ∃ (k : Nat) (S : Src) (outs : List tT65.D) (v6 : AV) (b6 : List Nat), k + d = N ∧ OdT τ q p5 v6 ((d : Int) - 1) ∧ OdR H h q p5 u v bs S outs v6 b6 ∧ S.pos ≤ 100 + 24 * k ∧ outs.length = k ∧ outs ++ opdL d S = all
theorem OdR.stay {H h h' : AH} {q p5 : Nat} {u : Sup} {v : AV} {bs : List Nat} {S S' : Src} {outs : List tT65.D} {v6 : AV} {b6 : List Nat} (r : OdR H h q p5 u v bs S outs v6 b6) (hs : SrcI h' q v S' bs) (hn : h.next ≤ h'.next)
    (hk : ∀ b, b < h.next → b ≠ q → h'.get b = h.get b) : OdR H h' q p5 u v bs S' outs v6 b6 := by
  have hnd := r.nd
  simp only [List.nodup_cons, List.mem_cons, not_or] at hnd
  have m6 := r.ops.mem
  have hlo := r.lo
  have hkn := r.kp.next
  refine ⟨hs, r.bs, r.ops.stay hn fun b hb => hk b (m6 b hb) (fun e => hnd.1.2 (e ▸ hb)), r.nd, r.lo, by have := r.pl; omega, ?_, ⟨by omega, fun b hb => ?_⟩⟩
  · rw [hk p5 r.pl (Ne.symm hnd.1.1)]; exact r.g5
  · rw [hk b (by omega) (fun e => by have := hlo q (by simp); omega)]; exact r.kp.get b hb
theorem odLoop {N : Nat} {all : List tT65.D} {H h : AH} {q p5 : Nat} {u : Sup} {v : AV} {bs : List Nat} (hN : N ≤ 200) (m : Nat) (hm : 210 ≤ m) (τ : Tm) (hI : OdI N all H q p5 u v bs N τ h) :
    ∃ e τ' H', evLoop Try.prog (ev Try.prog m) m (lp Try.prog 35 250) τ h = some (e, τ', H') ∧ e = .exit 0 ∧ OdI N all H q p5 u v bs 0 τ' H' := by
  refine loop_rule (d := N) (OdI N all H q p5 u v bs) (fun e τ h => e = .exit 0 ∧ OdI N all H q p5 u v bs 0 τ h) ?_ hI (by omega)
  intro d τ h hI
  obtain ⟨k, S, outs, v6, b6, hk, hτ, r, hp, hol, hall⟩ := hI
  obtain ⟨t2, t4, t5, t6, t7⟩ := hτ
  rw [lp_M Try.func35 250 (by decide) 8 (by decide) (by kernel_rfl) [4004]]
  by_cases hd0 : d = 0
  · subst hd0
    have hc : ¬ ((0 : Int) ≤ 0 - 1) := by omega
    simp [Try.f35, t7]
    exact ⟨k, S, outs, v6, b6, hk, ⟨by simp [t2], by simp [t4], by simp [t5], by simp [t6], by simp [t7]⟩, r, hp, hol, hall⟩
  · have hge : (0 : Int) ≤ (d : Int) - 1 := by omega
    simp (disch := omega) [Try.f35, t7, decT]
    generalize hτ1 : upd _ 20 _ = τ1
    have T1 : OdT τ1 q p5 v6 ((d : Int) - 1) := by
      rw [← hτ1]; exact ⟨by simp [t2], by simp [t4], by simp [t5], by simp [t6], by simp [t7]⟩
    obtain ⟨τ2, h2, o, S2, e2, D2, ho2, T2, t28, g2, n2, i2, k2, p2⟩ := od0 r.src hp (by omega) m (by omega) τ1 T1
    have hbs := r.bs
    have hkn := r.kp.next
    have hql := r.src.lt
    obtain ⟨τ3, h3, o', S3, e3, D3, ho3, T3, t38, g3, i3, k3, p3⟩ := od1 i2 p2 (by omega) ho2 g2 (by omega) (fun e => by have := hbs _ e; omega) (by omega) m (by omega) τ2 T2 t28
    have n3 := k3.next
    have r3 := r.stay i3 (by omega) fun b hb hq => by
      rw [k3.get b (by omega) (by simp; omega), k2.get b hb (by simpa using hq)]
    obtain ⟨v6', h4, b6', a1, a2, a3, a4, a5⟩ := app_od r3.ops (by have := r3.nd; simp at this; grind) ho3 (by omega)
    obtain ⟨s2, s4, s5, s6, s7⟩ := T3
    have hw : IntKind.i64.wrap ((d : Int) - 1 - 1) = (d : Int) - 1 - 1 := wrap_i64 (by omega) (by omega)
    rw [e2, e3, at_M Try.func35 16019 (by decide) 14 (by decide) (by kernel_rfl) []]
    unfold odC opC at a1 g3
    simp [Try.f35, s4, s6, s7, t38, g3, ldVar, zerosA, fillA, spl, a1, hw]
    have hn5 := a5.next
    have hnd := r3.nd
    simp only [List.nodup_cons, List.mem_cons, not_or] at hnd
    have hlo := r3.lo
    have mq := r3.src.lt
    have m6 := r3.ops.mem
    have kn3 := r3.kp.next
    have r4 : OdR H h4 q p5 u v bs S3 (outs ++ [o']) v6' b6' := by
      refine ⟨r3.src.ko hn5 (a5.get q mq hnd.1.2) fun b hb => a5.get b (by have := hbs b hb; omega) (fun e => by have := hbs b hb; have := hlo b (by simp [e]); omega), hbs, a2, ?_, ?_, by have := r3.pl; omega, ?_, ?_⟩
      · simp only [List.nodup_cons, List.mem_cons, not_or]
        refine ⟨⟨hnd.1.1, fun e => ?_⟩, fun e => ?_, a3⟩
        · rcases a4 _ e with h | h
          · exact hnd.1.2 h
          · omega
        · have := r3.pl
          rcases a4 _ e with h | h
          · exact hnd.2.1 h
          · omega
      · intro b hb
        simp only [List.mem_cons] at hb
        rcases hb with hb | hb | hb
        · exact hlo b (by simp [hb])
        · exact hlo b (by simp [hb])
        · rcases a4 b hb with h | h
          · exact hlo b (by simp [h])
          · omega
      · rw [a5.get p5 r3.pl hnd.2.1]; exact r3.g5
      · refine ⟨by omega, fun b hb => ?_⟩
        rw [a5.get b (by omega) (fun e => by have := hlo b (by simp [e]); omega), r3.kp.get b hb]
    refine ⟨d - 1, by omega, k + 1, S3, outs ++ [o'], v6', b6', by omega,
      ⟨by simp [s2], by simp [s4], by simp [s5], by simp, by simp; omega⟩, r4, by omega, by simp [hol], ?_⟩
    rw [List.append_assoc, ← hall]
    obtain ⟨d, rfl⟩ : ∃ j, d = j + 1 := ⟨d - 1, by omega⟩
    have hP : opdP S = (o', S3) := by unfold opdP; rw [D2]; exact D3
    simp only [opdL, Nat.add_sub_cancel, hP]; rfl
end Go.Ev

/- Rows: several elements appended at once. -/
namespace Go.Ev
open Go Go.Proofs
set_option linter.unusedSimpArgs false
set_option linter.unusedVariables false

variable {P : Program}
theorem Ty.R.appR {H : AH} {e T : TypeId} {t : Ty} {s : AV} {c : List AV} {ds es : List t.D} {bs b1 : List Nat} (h : (Ty.sl e t).R true H [s] ds bs) (hv : Rows (t.R true H) t.n c es b1) (hc : c.length = es.length * t.n) (hes : es.length ≠ 0) (hnd : (bs ++ b1).Nodup)
    (hT : P.underlying T = some (.slice e)) (hT' : sliceT P T = some e) (hs : sizeT P e = some t.n) {by_ : Nat} (hb : bytesT P e = some by_) {z : List AV} (hz : zeroT P e = some z) (hzl : z.length = t.n)
    (h1 : (ds.length + es.length) * by_ ≤ 70368744177664) (h2 : ds.length + es.length ≤ 70368744177664) :
    ∃ s' H' bs', appA P T T s (.slice H.next 0 es.length) (H.push (.cells e false c)) = some (s', H') ∧ (Ty.sl e t).R true H' [s'] (ds ++ es) bs' ∧ bs'.Nodup ∧ (∀ b ∈ bs', b ∈ bs ∨ b ∈ b1 ∨ H.next ≤ b) ∧ KoS bs H H' := by
  have ht : c.take (es.length * t.n) = c := by rw [← hc, List.take_length]
  have hmem := Rows.mem (fun c d bs h => Ty.R.mem h) hv
  have hnews : newsA P t.n T (.slice H.next 0 es.length) (H.push (.cells e false c)) = some (es.length, c) := by
    simp [newsA, hT, rowOf, hc, ht]
  unfold appA
  simp only [hT', hs, hb, hz, hnews, if_pos hzl]
  rcases h with ⟨g1, g2, g3⟩ | ⟨b, o, ro, xs, b', g1, g2, g3, g4, g5, g6, g7⟩
  · simp only [List.cons.injEq, and_true] at g1; subst g1 g2 g3
    simp only [List.length_nil, Nat.zero_add] at h1 h2
    refine ⟨.slice (H.next + 1) 0 es.length, (H.push (.cells e false c)).push (.cells e false c), (H.next + 1) :: b1, by rw [if_neg hes]; simp [h1, h2], .inr ⟨H.next + 1, 0, false, c, b1, by simp, rfl, by simp, by simp, fun _ => ⟨rfl, rfl, by simp [hc]⟩, by simp [hc], ?_⟩, ?_, ?_, ?_⟩
    · simp only [List.nil_append, List.drop_zero, ht]
      exact hv.imp fun c d b3 _ hb h => h.stay (by simp; omega) fun x hx => by
        have := h.mem x hx
        rw [AH.push_get, if_neg (by simp; omega), AH.push_get, if_neg (by omega)]
    · rw [List.nodup_cons]
      exact ⟨fun hx => by have := hmem _ hx; omega, by simpa using hnd⟩
    · intro x hx
      rcases List.mem_cons.1 hx with rfl | hx
      · right; right; omega
      · exact .inr (.inl hx)
    · exact ⟨by simp; omega, fun x hx _ => by rw [AH.push_get, if_neg (by simp; omega), AH.push_get, if_neg (by omega)]⟩
  · simp only [List.cons.injEq, and_true] at g1; subst g1
    obtain ⟨rfl, rfl, hw⟩ := g5 rfl
    have hne : ¬ (b = H.next) := by omega
    have hxs : (xs.drop 0).take (ds.length * t.n) = xs := by rw [List.drop_zero, ← hw, List.take_length]
    rw [hxs] at g7
    subst g2
    have hnd' := hnd
    rw [List.nodup_append, List.nodup_cons] at hnd
    obtain ⟨⟨n1, n2⟩, n3, n4⟩ := hnd
    have hst : ∀ x, x < H.next → x ≠ b → (((H.push (.cells e false c)).kill b).push (.cells e false (xs ++ c))).get x = H.get x := by
      intro x hx hxb
      rw [AH.push_get, if_neg (by simp; omega), AH.kill_get, if_neg hxb, AH.push_get, if_neg (by omega)]
    have hge : (H.push (Blk.cells e false c)).get b = some (.cells e false xs) := by rw [AH.push_get, if_neg hne]; exact g4
    refine ⟨.slice (H.next + 1) 0 (ds.length + es.length), ((H.push (.cells e false c)).kill b).push (.cells e false (xs ++ c)), (H.next + 1) :: (b' ++ b1), ?_, .inr ⟨H.next + 1, 0, false, xs ++ c, b' ++ b1, by simp, rfl, by simp, by simp, fun _ => ⟨rfl, rfl, ?_⟩, ?_, ?_⟩, ?_, ?_, ?_⟩
    · simp only [hge]
      rw [if_neg hes, if_pos ⟨trivial, by omega, h1, h2⟩, hxs]
      simp
    · rw [List.length_append, hc, hw, List.length_append, Nat.add_mul]
    · rw [List.length_append, List.length_append, hc, hw, Nat.add_mul]; omega
    · have : ((xs ++ c).drop 0).take ((ds ++ es).length * t.n) = xs ++ c := by
        rw [List.drop_zero, List.length_append, Nat.add_mul, ← hw, ← hc, ← List.length_append, List.take_length]
      rw [this]
      refine (g7.imp fun c d b3 _ hb h => h.stay (by simp; omega) fun x hx => hst x (h.mem x hx) fun e => n1 (by rw [← e]; exact hb x hx)).app (hv.imp fun c d b3 _ hb h => h.stay (by simp; omega) fun x hx => hst x (h.mem x hx) fun e => n4 b (by simp) x (hb x hx) e.symm)
    · rw [List.nodup_cons, List.nodup_append]
      refine ⟨fun hx => ?_, n2, n3, fun x hx y hy => n4 x (by simp [hx]) y hy⟩
      rcases List.mem_append.1 hx with hx | hx
      · have := Rows.mem (fun c d bs h => Ty.R.mem h) g7 _ hx; omega
      · have := hmem _ hx; omega
    · intro x hx
      rcases List.mem_cons.1 hx with rfl | hx
      · right; right; omega
      · rcases List.mem_append.1 hx with hx | hx
        · exact .inl (by simp [hx])
        · exact .inr (.inl hx)
    · exact ⟨by simp; omega, fun x hx hxb => hst x hx fun e => hxb (by simp [e])⟩
/-- two operations at once -/
theorem app_od2 {X : AH} {v : AV} {l : List tT65.D} {bs : List Nat} {o p : tT65.D} (h : (Ty.sl 65 tT65).R true X [v] l bs) (hnd : bs.Nodup) (ho : OdIn o) (hp : OdIn p) (hl : l.length ≤ 1000000) :
    ∃ v' X' bs', appA Try.prog 51 51 v (.slice X.next 0 2) (X.push (.cells 65 false (odC o ++ odC p))) = some (v', X') ∧ (Ty.sl 65 tT65).R true X' [v'] (l ++ [o, p]) bs' ∧ bs'.Nodup ∧ (∀ b ∈ bs', b ∈ bs ∨ X.next ≤ b) ∧ KoS bs X X' := by
  obtain ⟨o1, o2, o3, o4⟩ := o
  obtain ⟨p1, p2, p3, p4⟩ := p
  obtain ⟨v', X', bs', h1, h2, h3, h4, h5⟩ := Ty.R.appR (P := Try.prog) (T := 51) (es := [(o1, o2, o3, o4), (p1, p2, p3, p4)]) h ((Rows.one (i65 (rw := true) (H := X) (x_3 := o4) ho.1 ho.2.1 ho.2.2) (by simp [Ty.n])).app (Rows.one (i65 (rw := true) (H := X) (x_3 := p4) hp.1 hp.2.1 hp.2.2) (by simp [Ty.n]))) (by simp [Ty.n]) (by simp) (by simpa using hnd) (by simp) (by simp) (by simp [Ty.n]) (by_ := 32) (by simp) (z := [.int .i64 0, .int .i64 0, .int .i64 0, .bool false]) (by simp) (by simp [Ty.n]) (by simp; omega) (by simp; omega)
  exact ⟨v', X', bs', h1, h2, h3, fun b hb => by rcases h4 b hb with h | h | h <;> simp_all, h5⟩
end Go.Ev

/- Two ends by credit's books, plain. -/
namespace Go.Ev
open Go Go.Proofs
set_option linter.unusedSimpArgs false
set_option linter.unusedVariables false

def foldF (S : Sup) : Fw → List tT65.D → Fw
  | F, [] => F
  | F, op :: l => foldF S (doF S F op).1 l
theorem foldF_app (S : Sup) : ∀ (F : Fw) (l : List tT65.D) (op : tT65.D), foldF S F (l ++ [op]) = (doF S (foldF S F l) op).1
  | F, [], op => rfl
  | F, x :: l, op => by simp only [List.cons_append, foldF, foldF_app S _ l op]
theorem runF_app (S : Sup) : ∀ (F : Fw) (l : List tT65.D) (op : tT65.D), runF S F (l ++ [op]) = runF S F l ++ [(doF S (foldF S F l) op).2]
  | F, [], op => rfl
  | F, x :: l, op => by simp only [List.cons_append, runF, foldF, runF_app S _ l op]
def crA (C V : Int) : Sup := ⟨false, 10, 10, 0, 0, C, V, 1, 0⟩
def crB (C V : Int) : Sup := ⟨true, C, V, 1, 0, 10, 10, 0, 0⟩
def fwA (st cn se : Int) : Fw := ⟨[⟨0, st, se, 10, 0, 0, false⟩], 1, 0, 1, 0, cn, 0, 0, 10, 0⟩
def fwB (st cn ca re : Int) : Fw := ⟨[⟨0, 10, 0, st, ca, re, false⟩], 0, 0, 0, 0, 10, 1, 0, cn, re⟩
theorem crOpen (C V : Int) : doF (crA C V) (Fw0 (crA C V)) (1, 0, 0, false) = (fwA V C 0, ob 0 0 0 []) := by
  simp [doF, openP, Fw0, crA, Fw.m, Fw.o, putP, Fw.incO, newBk, idOf, fwA]
theorem stIx0 (s : Bk) (h : s.id = 0) : stIx [s] 0 = some 0 := by simp [stIx, List.findIdx?_cons, h]
theorem idOk0 : idOk 0 := ⟨by omega, by omega⟩
theorem idSv0 : idSv 0 = false := by simp [idSv]
theorem idOw0 : idOw 0 = false := by simp [idOw]
theorem crSend (C V st cn se : Int) : doF (crA C V) (fwA st cn se) (2, 0, 100000, false) = (fwA st cn (se + min (min 100000 (st - se)) (cn - se)), ob 0 0 (min (min 100000 (st - se)) (cn - se)) []) := by
  simp [doF, sendP, sendsP, crA, fwA, idOk0, idSv0, idOw0, stIx0, Fw.at_, Fw.upd, sumI]
theorem crTold7 (C V st cn se n : Int) (h : inW n) : doF (crA C V) (fwA st cn se) (7, 0, n, false) = (fwA (max st n) cn se, ob 0 0 0 []) := by
  simp [doF, toldP, h, sendsP, crA, fwA, idOk0, idSv0, idOw0, stIx0, Fw.at_, Fw.upd]
theorem crTold6 (C V st cn se n : Int) (h : inW n) : doF (crA C V) (fwA st cn se) (6, 0, n, false) = (fwA st (max cn n) se, ob 0 0 0 []) := by
  simp [doF, toldP, h, crA, fwA]
theorem crArr0 (C V n : Int) (hn : 0 ≤ n) (h1 : n ≤ V) (h2 : n ≤ C) (h3 : n ≤ 1000000) : doF (crB C V) (Fw0 (crB C V)) (3, 0, n, false) = (fwB V C n 0, ob 0 0 0 []) := by
  have h : inW n := ⟨hn, by omega⟩
  have e : max n 0 = n := by omega
  have c1 : ¬ (V < n) := by omega
  have c2 : ¬ (C < n) := by omega
  have i0 : idOf false false 0 = 0 := by simp [idOf]
  simp [doF, arriveP, h, crB, Fw0, idOk0, idSv0, idOw0, Fw.i, addAll, addP, i0, stIx, putP, newBk, getsP, Fw.at_, Fw.upd, sumI, List.findIdx?_cons, e, c1, c2, fwB]
theorem crArr (C V st cn re n : Int) (hr : 0 ≤ re) (hn : re ≤ n) (h1 : n ≤ st) (h2 : n ≤ cn) (h3 : n ≤ 1000000) : doF (crB C V) (fwB st cn re re) (3, 0, n, false) = (fwB st cn n re, ob 0 0 0 []) := by
  have h : inW n := ⟨by omega, by omega⟩
  have e : max n re = n := by omega
  have c1 : ¬ (st < n) := by omega
  have c2 : ¬ (cn < n) := by omega
  have i0 : idOf false false 0 = 0 := by simp [idOf]
  simp [doF, arriveP, h, crB, fwB, idOk0, idSv0, idOw0, Fw.i, addAll, addP, i0, stIx, getsP, Fw.at_, Fw.upd, sumI, List.findIdx?_cons, e, c1, c2]
def crFr (st st' cn cn' : Int) : List Fr := (if st' ≠ st then [frm 17 0 st'] else []) ++ (if cn' ≠ cn then [frm 16 cn' 0] else [])
theorem crRead (C V st cn re ca n : Int) (hn : 1 ≤ n) (h : n ≤ ca - re) : doF (crB C V) (fwB st cn ca re) (4, 0, n, false) = (fwB (creditP (re + n) V st) (creditP (re + n) C cn) ca (re + n), ob 0 0 0 (crFr st (creditP (re + n) V st) cn (creditP (re + n) C cn))) := by
  have c1 : ¬ (n < 1) := by omega
  have c2 : ¬ (ca - re < n) := by omega
  simp [doF, readP, getsP, crB, fwB, idOk0, idSv0, idOw0, stIx0, Fw.at_, Fw.upd, c1, c2, crFr]
  congr 2
  split <;> simp_all
/-- a window's next credit -/
theorem crNext {r w t : Int} (hr : 0 ≤ r) (hr' : r ≤ t) (ht : t ≤ r + w) (hw : 1 ≤ w ∧ w ≤ 16384) (hb : r ≤ 1000000) : t ≤ creditP r w t ∧ r < creditP r w t ∧ creditP r w t ≤ r + w := by
  unfold creditP
  rw [if_neg (by omega)]
  split <;> omega
end Go.Ev

/- The drawn run of credit, whole. -/
namespace Go.Ev
open Go Go.Proofs
set_option linter.unusedSimpArgs false
set_option linter.unusedVariables false

def drawFlP (l : List Int) : Sup × List tT65.D :=
  let s := supP ⟨l, 0, (l.length : Int) % 1000⟩
  let n := nextP (sizeP 90 s.2 + 1) s.2
  (s.1, opdL (n.1.toNat + 1) n.2)
theorem opdL_len : ∀ n S, (opdL n S).length = n
  | 0, S => rfl
  | n + 1, S => by simp only [opdL, List.length_cons, opdL_len n]
set_option maxHeartbeats 1000000 in
theorem drawFl_ev {H : AH} {v : AV} {l : List Int} {bs : List Nat} (h : (Ty.sl 5 (.int .u8)).R false H [v] l bs) (hl : l.length ≤ 1048576) (m : Nat) (hm : 260 ≤ m) :
    ∃ v6 H' b6, ev Try.prog m 35 [v] H = some (.tuple [.agg (suC (drawFlP l).1), v6], H') ∧ (Ty.sl 65 tT65).R true H' [v6] (drawFlP l).2 b6 ∧ b6.Nodup ∧ (∀ b ∈ b6, H.next ≤ b) ∧ Kp H H' ∧ (drawFlP l).2.length ≤ 91 := by
  obtain ⟨m, rfl⟩ : ∃ k, m = k + 1 := ⟨m - 1, by omega⟩
  have hv := h.sl_one
  have hbs : ∀ b ∈ bs, b < H.next := fun b hb => h.mem b hb
  obtain ⟨A, hA⟩ : ∃ A : AH, A = H.push (.cells 49 false [.bool false, .int .i64 0, .int .i64 0, .int .i64 0, .int .i64 0, .int .i64 0, .int .i64 0, .int .i64 0, .int .i64 0]) := ⟨_, rfl⟩
  have kA : Kp H A := by rw [hA]; exact (Kp.refl H).push _
  have nA : A.next = H.next + 1 := by rw [hA]; simp
  have gA : A.get H.next = some (.cells 49 false [.bool false, .int .i64 0, .int .i64 0, .int .i64 0, .int .i64 0, .int .i64 0, .int .i64 0, .int .i64 0, .int .i64 0]) := by rw [hA]; simp
  have hsrc := source_ev (h.kp kA) hv hl m (by omega)
  have hI := source_I (h.kp kA) hl
  obtain ⟨B, hB⟩ : ∃ B : AH, B = A.push (.cells 259 false (srcC v ⟨l, 0, l.length % 1000⟩)) := ⟨_, rfl⟩
  rw [← hB] at hsrc hI
  have kB : Kp A B := by rw [hB]; exact (Kp.refl A).push _
  have nB : B.next = A.next + 1 := by rw [hB]; simp
  obtain ⟨u, S1, C, d1, p1, e1, i1, k1⟩ := setup_ev hI (K := 0) (by simp) (by omega) m (by omega)
  have nC := k1.next
  have gC : C.get H.next = A.get H.next := by rw [k1.get _ (by omega) (by simp; omega), kB.get _ (by omega)]
  obtain ⟨D, hD⟩ : ∃ D : AH, D = (C.push (.cells 49 false [.bool false, .int .i64 0, .int .i64 0, .int .i64 0, .int .i64 0, .int .i64 0, .int .i64 0, .int .i64 0, .int .i64 0])).set C.next (.cells 49 false (suC u)) := ⟨_, rfl⟩
  obtain ⟨E, hE⟩ : ∃ E : AH, E = D.push (.cells 65 false []) := ⟨_, rfl⟩
  have nD : D.next = C.next + 1 := by rw [hD]; simp
  have nE : E.next = D.next + 1 := by rw [hE]; simp
  have kD : Kp C D := by
    rw [hD]; exact ⟨by simp, fun b hb => by rw [AH.set_getN _ _ (by omega), AH.push_get, if_neg (by omega)]⟩
  have kE : Kp D E := by rw [hE]; exact (Kp.refl D).push _
  have gD : D.get C.next = some (.cells 49 false (suC u)) := by rw [hD, AH.set_getS]
  have gE : E.get D.next = some (.cells 65 false []) := by rw [hE]; simp
  have iE : SrcI E A.next v S1 bs := i1.ko (by omega) (by rw [kE.get _ (by omega), kD.get _ (by omega)]) fun b hb => by have := hbs b hb; rw [kE.get _ (by omega), kD.get _ (by omega)]
  have hs := size_ev iE 90 m (by omega)
  have hlen := iE.len
  have hsz : 1 ≤ sizeP 90 S1 ∧ sizeP 90 S1 ≤ 90 := by unfold sizeP miI; split <;> omega
  obtain ⟨n, S2, d2, a2, p2, e2, i2⟩ := draw iE p1 (by omega) (sizeP 90 S1 + 1) (by omega) (by omega) m (by omega)
  have w1 : IntKind.i64.wrap (sizeP 90 S1 + 1) = sizeP 90 S1 + 1 := wrap_i64 (by omega) (by omega)
  unfold drawFlP
  simp only [d1, d2, Int.toNat_natCast]
  generalize sizeP 90 S1 = Z at *
  have A' := hA.symm
  have D' := hD.symm
  have E' := hE.symm
  have hN : ∀ τ : Tm, OdT τ A.next C.next (.slice D.next 0 0) n → OdI (n + 1) (opdL (n + 1) S2) A A.next C.next u v bs (n + 1) τ (E.set A.next (.cells 259 false (srcC v S2))) := by
    intro τ T
    have hR : (Ty.sl 65 tT65).R true (E.set A.next (.cells 259 false (srcC v S2))) [.slice D.next 0 0] [] [D.next] :=
      .inr ⟨D.next, 0, false, [], [], rfl, rfl, by simp; omega, by rw [AH.set_getN _ _ (by omega)]; exact gE, fun _ => ⟨rfl, rfl, by simp⟩, by simp, rfl, rfl⟩
    have hT : OdT τ A.next C.next (.slice D.next 0 0) (((n + 1 : Nat) : Int) - 1) := by rw [show ((n + 1 : Nat) : Int) - 1 = n from by push_cast; exact Int.add_sub_cancel _ _]; exact T
    refine ⟨0, S2, [], _, _, by omega, hT, ⟨i2, fun b hb => by have := hbs b hb; omega, hR, ?_, ?_, ?_, ?_, ?_⟩, by omega, rfl, by rw [List.nil_append]⟩
    · simp; omega
    · intro b hb; simp at hb; omega
    · simp; omega
    · rw [AH.set_getN _ _ (by omega), kE.get _ (by omega), gD]
    · refine ⟨by simp; omega, fun b hb => ?_⟩
      rw [AH.set_getN _ _ (by omega), kE.get _ (by omega), kD.get _ (by omega), k1.get _ (by omega) (by simp; omega), kB.get _ hb]
  rw [ev_M Try.func35 ok35 [31] m _ H (by simp [Try.f35])]
  unfold suC at D' gD
  simp (disch := omega) [Try.f35, tm0, zerosA, fillA, spl, A', hsrc, e1, suC, stVar, D', E']
  generalize hτ : upd _ 6 _ = τ2
  have t2 : τ2 2 = .ptr H.next 0 := by rw [← hτ]; simp
  have t4 : τ2 4 = .ptr A.next 0 := by rw [← hτ]; simp
  have t5 : τ2 5 = .ptr C.next 0 := by rw [← hτ]; simp
  have t6 : τ2 6 = .slice D.next 0 0 := by rw [← hτ]; simp
  clear hτ D' A' E'
  rw [at_M Try.func35 31 (by decide) 5 (by decide) (by kernel_rfl) []]
  simp (disch := omega) [Try.f35, t4, hs, e2, w1]
  generalize hLo : evLoop _ _ _ _ _ _ = R
  obtain ⟨e, τ', H', rfl, rfl, k, S, outs, v6, b6, hk, hτ', r, hp', hol, hall⟩ := loop_at hLo (odLoop (by omega) m (by omega) _ (hN _ ⟨by simp [t2, nA], by simp [t4], by simp [t5], by simp [t6], by simp⟩))
  have k2 : τ' 2 = .ptr H.next 0 := by rw [hτ'.t2, nA]; simp
  have q5 := hτ'.t5
  have q6 := hτ'.t6
  have g5 := r.g5
  have g2 := (r.kp.get H.next (by omega)).trans gA
  have hne : ¬ (H.next = C.next) := by omega
  simp only [opdL, List.append_nil] at hall
  have hops := r.ops
  rw [hall] at hops
  unfold suC at g5
  have hlo := r.lo
  have hnd := r.nd
  simp only [List.nodup_cons] at hnd
  have K' : Kp H H' := kA.trans r.kp
  refine ⟨v6, H'.set H.next (.cells 49 false [.bool u.sv, .int .i64 u.cw, .int .i64 u.sw, .int .i64 u.tw, .int .i64 u.ow, .int .i64 u.pc, .int .i64 u.ps, .int .i64 u.ptw, .int .i64 u.pow]), ?_, b6, ?_, hnd.2.2, fun b hb => ?_, ?_, ?_⟩
  · simp [Try.f35, ldVar, stVar, spl, k2, q5, q6, g5, g2, hne]
  · refine hops.stay (by simp) fun b hb => AH.set_getN _ _ fun e => ?_
    have := hlo b (List.mem_cons_of_mem _ (List.mem_cons_of_mem _ hb)); omega
  · have := hlo b (List.mem_cons_of_mem _ (List.mem_cons_of_mem _ hb)); omega
  · exact ⟨by simpa using K'.next, fun b hb => by rw [AH.set_getN _ _ (by omega)]; exact K'.get b hb⟩
  · rw [opdL_len]; omega
end Go.Ev

/- Two frames alike: of the frames that credit tells. -/
namespace Go.Ev
open Go Go.Proofs
set_option linter.unusedSimpArgs false
set_option linter.unusedVariables false

theorem same_ev {r1 r2 : Bool} {H : AH} {s1 s2 : AV} {l : List Int} {b1 b2 : List Nat} (h1 : (Ty.sl 5 (.int .u8)).R r1 H [s1] l b1) (h2 : (Ty.sl 5 (.int .u8)).R r2 H [s2] l b2) (m : Nat) (hm : 1 ≤ m) :
    ev Try.prog m 91 [s1, s2] H = some (.bool true, H) := by
  obtain ⟨m, rfl⟩ : ∃ k, m = k + 1 := ⟨m - 1, by omega⟩
  have c1 := conv_str (P := Try.prog) (s := 34) (d := 9) (by simp) (by simp) (by simp) h1
  have c2 := conv_str (P := Try.prog) (s := 34) (d := 9) (by simp) (by simp) (by simp) h2
  rw [ev_eq Try.func91 ok91 m _ H (by simp [Try.f91])]
  simp [Try.f91, c1, c2]
theorem sameNil_ev {r1 r2 : Bool} {H : AH} {s1 s2 : AV} {b1 b2 : List Nat} (h1 : (Ty.sl 94 tT94).R r1 H [s1] [] b1) (h2 : (Ty.sl 94 tT94).R r2 H [s2] [] b2) (m : Nat) (hm : 3 ≤ m) :
    ev Try.prog m 57 [s1, s2] H = some (.bool true, H) := by
  obtain ⟨m, rfl⟩ : ∃ k, m = k + 1 := ⟨m - 1, by omega⟩
  have L1 := Ty.R.lenA h1 (P := Try.prog) (T := 70) (by simp)
  have L2 := Ty.R.lenA h2 (P := Try.prog) (T := 70) (by simp)
  simp only [List.length_nil] at L1 L2
  obtain ⟨m, rfl⟩ : ∃ k, m = k + 1 := ⟨m - 1, by omega⟩
  rw [ev_M Try.func57 ok57 [] _ _ H (by simp [Try.f57])]
  simp [Try.f57, tm0, L1, L2]
  generalize hLo : evLoop _ _ _ _ _ _ = R
  obtain ⟨e, τ', H', rfl, rfl, rfl⟩ := loop_at hLo (loop_rule (d := 0) (fun d τ h => d = 0 ∧ τ 0 = s1 ∧ τ 1 = s2 ∧ τ 5 = .int .i64 0 ∧ h = H) (fun e τ h => e = .exit 0 ∧ h = H) (by
    intro d τ h ⟨hd, t0, t1, t5, hh⟩
    subst hh
    rw [lp_M Try.func57 58 (by decide) 6 (by decide) (by kernel_rfl) [466]]
    simp [Try.f57, t0, t5, L1]) ⟨rfl, by simp, by simp, by simp, rfl⟩ (by omega))
  simp [Try.f57]
theorem sameFrame_ev {r1 r2 : Bool} {H : AH} {c1 c2 : List AV} {k a b : Int} {b1 b2 : List Nat} (h1 : tT72.R r1 H c1 (frm k a b) b1) (h2 : tT72.R r2 H c2 (frm k a b) b2) (m : Nat) (hm : 5 ≤ m) :
    ∃ H', ev Try.prog m 38 [.agg c1, .agg c2] H = some (.bool true, H') ∧ Kp H H' := by
  obtain ⟨m, rfl⟩ : ∃ k, m = k + 1 := ⟨m - 1, by omega⟩
  obtain ⟨u5, u6, u7, bu5, bu6, bu7, rfl, _, R5, R6, R7, ix⟩ := o72 h1
  obtain ⟨v5, v6, v7, bv5, bv6, bv7, rfl, _, Q5, Q6, Q7, iy⟩ := o72 h2
  have kX : ∀ x y, Kp H ((H.push x).push y) := fun x y => ((Kp.refl H).push _).push _
  have s5 := fun x y => same_ev (R5.kp (kX x y)) (Q5.kp (kX x y)) m (by omega)
  have s6 := fun x y => same_ev (R6.kp (kX x y)) (Q6.kp (kX x y)) m (by omega)
  have s7 := fun x y => sameNil_ev (R7.kp (kX x y)) (Q7.kp (kX x y)) m (by omega)
  have key : ∃ x y, ev Try.prog (m + 1) 38 [.agg [.int .i64 k, .int .i64 a, .int .i64 b, .int .i64 0, .bool false, u5, u6, u7], .agg [.int .i64 k, .int .i64 a, .int .i64 b, .int .i64 0, .bool false, v5, v6, v7]] H = some (.bool true, (H.push x).push y) := by
    refine ⟨.cells 72 false [.int .i64 k, .int .i64 a, .int .i64 b, .int .i64 0, .bool false, u5, u6, u7], .cells 72 false [.int .i64 k, .int .i64 a, .int .i64 b, .int .i64 0, .bool false, v5, v6, v7], ?_⟩
    rw [ev_M Try.func38 ok38 [] _ _ H (by simp [Try.f38])]
    simp [Try.f38, tm0, ldVar, s5, s6, s7, R5.sl_one, R6.sl_one, R7.sl_one, Q5.sl_one, Q6.sl_one, Q7.sl_one, evHist, ObsOk, ObOk]
  obtain ⟨x, y, e⟩ := key
  exact ⟨_, e, kX _ _⟩
end Go.Ev

/- Credit's books, plain: what an operation's answer tells of the books. -/
namespace Go.Ev
open Go Go.Proofs
set_option linter.unusedSimpArgs false
set_option linter.unusedVariables false

/-- the books that the law follows are the same -/
structure Eqv (F G : Fw) : Prop where
  o : ∀ w, G.o w = F.o w
  m : ∀ w, G.m w = F.m w
  cc : G.cc = F.cc
  tc : G.tc = F.tc
  se : sumI Bk.se G.L = sumI Bk.se F.L
theorem Eqv.rfl' (F : Fw) : Eqv F F := ⟨fun _ => rfl, fun _ => rfl, rfl, rfl, rfl⟩
theorem Eqv.trans {F G X : Fw} (a : Eqv F G) (b : Eqv G X) : Eqv F X := ⟨fun w => (b.o w).trans (a.o w), fun w => (b.m w).trans (a.m w), b.cc.trans a.cc, b.tc.trans a.tc, b.se.trans a.se⟩
theorem addP_eqv (S : Sup) (F : Fw) (id : Int) : Eqv F (addP S F id) := by
  unfold addP
  split
  · exact ⟨fun w => by cases w <;> rfl, fun w => by cases w <;> rfl, rfl, rfl, by simp [putP, sumI_app, sumI, newBk]⟩
  · exact .rfl' F
theorem addAll_eqv (S : Sup) (sv w : Bool) : ∀ n F, Eqv F (addAll S sv w n F)
  | 0, F => .rfl' F
  | n + 1, F => (addAll_eqv S sv w n F).trans (addP_eqv S _ _)
theorem upd_eqv {F : Fw} {i : Nat} {f : Bk → Bk} (hi : i < F.L.length) (h : ∀ s, (f s).se = s.se) : Eqv F (F.upd i f) :=
  ⟨fun w => by cases w <;> rfl, fun w => by cases w <;> rfl, rfl, rfl, by
    unfold Fw.upd; simp only; rw [sumI_set _ _ _ hi, h]; unfold Fw.at_; rw [List.getD_eq_getElem?_getD, List.getElem?_eq_getElem hi]; simp⟩
theorem arrive_eqv (S : Sup) (F : Fw) (id n : Int) : Eqv F (arriveP S F id n).1 := by
  unfold arriveP
  split
  · exact .rfl' F
  · split
    · exact .rfl' F
    · have hG : Eqv F (if idSv id ≠ S.sv then addAll S (idSv id) (idOw id) (id / 4 + 1).toNat F else F) := by
        split
        · exact addAll_eqv _ _ _ _ _
        · exact .rfl' F
      dsimp only
      generalize (if idSv id ≠ S.sv then addAll S (idSv id) (idOw id) (id / 4 + 1).toNat F else F) = H at *
      cases hs : getsP S H.L id with
      | none => exact hG
      | some i =>
        dsimp only
        split
        · exact hG
        · exact hG.trans (upd_eqv (f := fun s => { s with ca := max n (H.at_ i).ca }) (getsP_lt hs) fun s => rfl)
theorem open_law {S : Sup} {F : Fw} {k : Nat} (G : F.good S k) (w : Bool) (hw : F.m w ≤ 1152921504606846976) :
    ((openP S F w).1 = F ∧ (openP S F w).2 = ob 9 0 0 []) ∨
    (F.o w < F.m w ∧ (openP S F w).2 = ob 0 (idOf S.sv w (F.o w)) 0 [] ∧ idOk (idOf S.sv w (F.o w)) ∧ idSv (idOf S.sv w (F.o w)) = S.sv ∧ idOw (idOf S.sv w (F.o w)) = w ∧ idOf S.sv w (F.o w) / 4 = F.o w ∧
      (openP S F w).1.o w = F.o w + 1 ∧ (openP S F w).1.o (!w) = F.o (!w) ∧ (∀ x, (openP S F w).1.m x = F.m x) ∧ (openP S F w).1.cc = F.cc ∧ (openP S F w).1.tc = F.tc ∧ sumI Bk.se (openP S F w).1.L = sumI Bk.se F.L) := by
  unfold openP
  split
  · exact .inl ⟨rfl, rfl⟩
  · rename_i h
    right
    obtain ⟨a1, a2, a3, a4⟩ := idOf_ok (sv := S.sv) (w := w) (G.o w).1 (by omega)
    refine ⟨by omega, rfl, a1, a2, a3, a4, ?_⟩
    cases w <;> refine ⟨rfl, rfl, fun x => by cases x <;> rfl, rfl, rfl, by simp [putP, Fw.incO, sumI_app, sumI, newBk]⟩
theorem over_law (S : Sup) (F : Fw) (id : Int) : Eqv F (overP S F id).1 ∧ (overP S F id).2.2.2.1 = 0 ∧ ∀ f ∈ (overP S F id).2.2.2.2, ∃ k a b, f = frm k a b ∧ k ≠ 16 := by
  unfold overP
  cases hs : stIx F.L id with
  | none => exact ⟨.rfl' F, rfl, by simp [ob]⟩
  | some i =>
    have hi := (stIx_some hs).1
    have hu : Eqv F (F.upd i fun s => { s with ov := true }) := upd_eqv hi fun s => rfl
    dsimp only
    split
    · exact ⟨.rfl' F, rfl, by simp [ob]⟩
    · split
      · exact ⟨hu, rfl, by simp [ob]⟩
      · refine ⟨hu.trans ?_, rfl, ?_⟩
        · unfold Fw.incI; split <;> exact ⟨fun w => by cases w <;> rfl, fun w => by cases w <;> rfl, rfl, rfl, rfl⟩
        · intro f hf
          simp only [ob, List.mem_singleton] at hf
          exact ⟨18, _, _, hf, by omega⟩
theorem send_law {S : Sup} {F : Fw} (id n : Int) : (sendP S F id n).2 = ob (sendP S F id n).2.1 0 (sendP S F id n).2.2.2.1 [] ∧ (∀ w, (sendP S F id n).1.o w = F.o w) ∧ (∀ w, (sendP S F id n).1.m w = F.m w) ∧ (sendP S F id n).1.cc = F.cc ∧ (sendP S F id n).1.tc = F.tc ∧
    sumI Bk.se (sendP S F id n).1.L = sumI Bk.se F.L + (sendP S F id n).2.2.2.1 := by
  unfold sendP
  split
  · exact ⟨rfl, fun w => rfl, fun w => rfl, rfl, rfl, by simp [ob]⟩
  · cases hs : sendsP S F.L id with
    | none => exact ⟨rfl, fun w => rfl, fun w => rfl, rfl, rfl, by simp [ob]⟩
    | some i =>
      have hi := sendsP_lt hs
      refine ⟨rfl, fun w => by cases w <;> rfl, fun w => by cases w <;> rfl, rfl, rfl, ?_⟩
      dsimp only
      unfold Fw.upd
      simp only [ob]
      rw [sumI_set _ _ _ hi, at_L hi]; simp only; omega
theorem told_law (S : Sup) (F : Fw) (k id n : Int) (w : Bool) (hk : k = 6 ∨ k = 7 ∨ k = 8) :
    (toldP S F k id n w).1.tc = F.tc ∧ sumI Bk.se (toldP S F k id n w).1.L = sumI Bk.se F.L ∧ (∀ x, (toldP S F k id n w).1.o x = F.o x) ∧
    (toldP S F k id n w).1.cc = (if k = 6 ∧ (toldP S F k id n w).2 = 0 then max F.cc n else F.cc) ∧
    (∀ x, (toldP S F k id n w).1.m x = if k = 8 ∧ (toldP S F k id n w).2 = 0 ∧ x = w then max (F.m x) n else F.m x) := by
  unfold toldP
  split
  · simp
  · split
    · rename_i h6
      subst h6
      exact ⟨rfl, rfl, fun x => by cases x <;> rfl, by simp, fun x => by cases x <;> simp [Fw.m]⟩
    · split
      · rename_i h7
        subst h7
        cases hs : sendsP S F.L id with
        | none => simp
        | some i =>
          have hi := sendsP_lt hs
          have hu : Eqv F (F.upd i fun s => { s with cr := max s.cr n }) := upd_eqv hi fun s => rfl
          exact ⟨hu.tc, hu.se, hu.o, by simpa using hu.cc, fun x => by simpa using hu.m x⟩
      · have h8 : k = 8 := by omega
        subst h8
        refine ⟨by cases w <;> rfl, by cases w <;> rfl, fun x => by cases w <;> cases x <;> rfl, by cases w <;> rfl, fun x => by cases w <;> cases x <;> simp [Fw.maxM, Fw.m]⟩
theorem read_law {S : Sup} {F : Fw} {k : Nat} (G : F.good S k) (hk : k + 1 ≤ 400) (id n : Int) : (readP S F id n).2.2.2.1 = 0 ∧ (∀ w, (readP S F id n).1.o w = F.o w) ∧ (∀ w, (readP S F id n).1.m w = F.m w) ∧ (readP S F id n).1.cc = F.cc ∧ F.tc ≤ (readP S F id n).1.tc ∧
    sumI Bk.se (readP S F id n).1.L = sumI Bk.se F.L ∧ ∀ (j : Nat) (hj : j < (readP S F id n).2.2.2.2.length), ∃ k a b, (readP S F id n).2.2.2.2[j] = frm k a b ∧ (k = 16 → j + 1 = (readP S F id n).2.2.2.2.length ∧ F.tc < a ∧ a = (readP S F id n).1.tc) := by
  unfold readP
  cases hs : getsP S F.L id with
  | none => exact ⟨rfl, fun w => rfl, fun w => rfl, rfl, by simp, rfl, by simp [ob]⟩
  | some i =>
    have hi := getsP_lt hs
    have g := G.at_ hi
    dsimp only
    split
    · exact ⟨rfl, fun w => rfl, fun w => rfl, rfl, by simp, rfl, by simp [ob]⟩
    · rename_i hn
      have h1 := g.re; have h2 := g.ca; have h3 := g.to; have h4 := G.ca; have h5 := G.tc; have h6 := G.rc
      have hr : sumI Bk.re F.L - (F.at_ i).re + ((F.at_ i).re + n) ≤ F.tc := by
        have h7 : sumI Bk.re (F.L.set i { F.at_ i with re := (F.at_ i).re + n }) ≤ sumI Bk.ca (F.L.set i { F.at_ i with re := (F.at_ i).re + n }) := sumI_le fun s hs => by
          rcases List.mem_or_eq_of_mem_set hs with h | rfl
          · exact (G.bk s h).re.2
          · simp only; omega
        rw [sumI_set Bk.re F.L i hi, sumI_set Bk.ca F.L i hi, ← at_L hi] at h7
        simp only at h7; omega
      have hr0 := sumI_nn (f := Bk.re) (fun s hs => (G.bk s hs).re.1)
      have c1 := creditP_rng (r := (F.at_ i).re + n) (w := S.sw) (t := (F.at_ i).to) (by omega) (by omega) (by omega) G.sup.sw
      have c2 := creditP_rng (r := F.rc + n) (w := S.cw) (t := F.tc) (by omega) (by omega) (by omega) G.sup.cw
      have hsw := G.sup.sw; have hcw := G.sup.cw
      refine ⟨rfl, fun w => by cases w <;> rfl, fun w => by cases w <;> rfl, rfl, by simp only; omega, ?_, ?_⟩
      · unfold Fw.upd; simp only; rw [sumI_set _ _ _ hi, at_L hi]; simp only; omega
      · simp only [ob]
        by_cases ht : creditP ((F.at_ i).re + n) S.sw (F.at_ i).to = (F.at_ i).to
        · by_cases hu : creditP (F.rc + n) S.cw F.tc = F.tc
          · simp [ht, hu]
          · simp only [ht, hu, ne_eq, not_true_eq_false, not_false_eq_true, if_true, if_false, List.nil_append]
            intro j hj
            simp only [List.length_singleton] at hj
            obtain rfl : j = 0 := by omega
            exact ⟨16, _, _, rfl, fun _ => ⟨rfl, by omega, rfl⟩⟩
        · by_cases hu : creditP (F.rc + n) S.cw F.tc = F.tc
          · simp only [ht, hu, ne_eq, not_true_eq_false, not_false_eq_true, if_true, if_false, List.append_nil]
            intro j hj
            simp only [List.length_singleton] at hj
            obtain rfl : j = 0 := by omega
            exact ⟨17, _, _, rfl, by omega⟩
          · simp only [ht, hu, ne_eq, not_false_eq_true, if_true]
            intro j hj
            simp only [List.length_append, List.length_singleton] at hj
            obtain rfl | rfl : j = 0 ∨ j = 1 := by omega
            · exact ⟨17, _, _, rfl, by omega⟩
            · exact ⟨16, _, _, rfl, fun _ => ⟨rfl, by omega, rfl⟩⟩
end Go.Ev

/- Credit's books, plain: one operation's answer and the law's own books. -/
namespace Go.Ev
open Go Go.Proofs
set_option linter.unusedSimpArgs false
set_option linter.unusedVariables false

/-- what an answer tells -/
structure StpL (S : Sup) (F : Fw) (op : tT65.D) (G : Fw) (b : Ob) : Prop where
  le : ∀ w, G.o w ≤ G.m w
  opn : b.1 = 0 → op.1 = 1 → idOk b.2.1 ∧ idSv b.2.1 = S.sv ∧ idOw b.2.1 = op.2.2.2 ∧ b.2.1 / 4 = F.o op.2.2.2 ∧ idOf S.sv op.2.2.2 (F.o op.2.2.2) = b.2.1
  o : ∀ w, G.o w = if b.1 = 0 ∧ op.1 = 1 ∧ w = op.2.2.2 then F.o w + 1 else F.o w
  cc : G.cc = if b.1 = 0 ∧ op.1 = 6 then max F.cc op.2.2.1 else F.cc
  m : ∀ w, G.m w = if b.1 = 0 ∧ op.1 = 8 ∧ w = op.2.2.2 then max (F.m w) op.2.2.1 else F.m w
  se : sumI Bk.se G.L = sumI Bk.se F.L + b.2.2.1
  tc : F.tc ≤ G.tc
  fr : ∀ (j : Nat) (hj : j < b.2.2.2.length), ∃ k a c, b.2.2.2[j] = frm k a c ∧ (k = 16 → j + 1 = b.2.2.2.length ∧ F.tc < a ∧ a = G.tc)
theorem Eqv.stp {S : Sup} {F G : Fw} {op : tT65.D} {b : Ob} (e : Eqv F G) (hle : ∀ w, F.o w ≤ F.m w) (h : b.1 ≠ 0 ∨ (op.1 ≠ 1 ∧ op.1 ≠ 6 ∧ op.1 ≠ 8)) (hn : b.2.2.1 = 0) (hf : ∀ f ∈ b.2.2.2, ∃ k a c, f = frm k a c ∧ k ≠ 16) : StpL S F op G b := by
  refine ⟨fun w => by rw [e.o, e.m]; exact hle w, fun h0 h1 => by rcases h with h | h; exact absurd h0 h; exact absurd h1 h.1, fun w => ?_, ?_, fun w => ?_, by rw [e.se, hn]; omega, by rw [e.tc]; exact Int.le_refl _, fun j hj => ?_⟩
  · rw [e.o, if_neg]; rintro ⟨h0, h1, -⟩; rcases h with h | h; exact h h0; exact h.1 h1
  · rw [e.cc, if_neg]; rintro ⟨h0, h1⟩; rcases h with h | h; exact h h0; exact h.2.1 h1
  · rw [e.m, if_neg]; rintro ⟨h0, h1, -⟩; rcases h with h | h; exact h h0; exact h.2.2 h1
  · obtain ⟨k, a, c, h1, h2⟩ := hf _ (List.getElem_mem hj); exact ⟨k, a, c, h1, fun h => absurd h h2⟩
theorem doF_law {S : Sup} {F : Fw} {k : Nat} (G : F.good S k) (hk : k + 1 ≤ 400) (hle : ∀ w, F.o w ≤ F.m w) (op : tT65.D) : StpL S F op (doF S F op).1 (doF S F op).2 := by
  obtain ⟨x0, x1, x2, x3⟩ := op
  unfold doF
  by_cases c1 : x0 = 1
  · subst c1
    rw [if_pos rfl]
    rcases open_law G x3 (by have := (G.m x3).2; omega) with ⟨h1, h2⟩ | ⟨h0, h2, h3, h4, h5, h6, h7, h8, h9, h10, h11, h12⟩
    · simp only at h1 h2 ⊢
      rw [h1, h2]
      exact (Eqv.rfl' F).stp hle (.inl (by simp [ob])) rfl (by simp [ob])
    · simp only at *
      rw [h2]
      refine ⟨fun w => ?_, fun _ _ => ⟨h3, h4, h5, h6, rfl⟩, fun w => ?_, ?_, fun w => ?_, by rw [h12]; simp [ob], by rw [h11]; exact Int.le_refl _, by simp [ob]⟩
      · rw [h9]
        by_cases hw : w = x3
        · subst hw; omega
        · have : w = !x3 := by cases w <;> cases x3 <;> simp_all
          rw [this, h8]; exact hle _
      · by_cases hw : w = x3
        · subst hw; simp [ob, h7]
        · have h : w = !x3 := by cases w <;> cases x3 <;> simp_all
          simp [ob, hw]; rw [h, h8]
      · simp [h10]
      · simp [h9]
  rw [if_neg c1]
  by_cases c2 : x0 = 2
  · subst c2
    rw [if_pos rfl]
    obtain ⟨h1, h2, h3, h4, h5, h6⟩ := send_law (S := S) (F := F) x1 x2
    simp only
    generalize sendP S F x1 x2 = r at *
    refine ⟨fun w => by rw [h2, h3]; exact hle w, by simp, fun w => by simp [h2], by simp [h4], fun w => by simp [h3], h6, by rw [h5]; exact Int.le_refl _, by rw [h1]; intro j hj; simp [ob] at hj⟩
  rw [if_neg c2]
  by_cases c3 : x0 = 3
  · subst c3
    rw [if_pos rfl]
    exact (arrive_eqv S F x1 x2).stp hle (.inr ⟨by simp, by simp, by simp⟩) rfl (by simp [ob])
  rw [if_neg c3]
  by_cases c4 : x0 = 4
  · subst c4
    rw [if_pos rfl]
    obtain ⟨h1, h2, h3, h4, h5, h6, h7⟩ := read_law G hk x1 x2
    simp only
    generalize readP S F x1 x2 = r at *
    exact ⟨fun w => by rw [h2, h3]; exact hle w, by simp, fun w => by simp [h2], by simp [h4], fun w => by simp [h3], by rw [h6, h1]; omega, h5, h7⟩
  rw [if_neg c4]
  by_cases c5 : x0 = 5
  · subst c5
    rw [if_pos rfl]
    obtain ⟨h1, h2, h3⟩ := over_law S F x1
    exact h1.stp hle (.inr ⟨by simp, by simp, by simp⟩) h2 h3
  rw [if_neg c5]
  by_cases c6 : x0 = 6 ∨ x0 = 7 ∨ x0 = 8
  · rw [if_pos c6]
    obtain ⟨h1, h2, h3, h4, h5⟩ := told_law S F x0 x1 x2 x3 c6
    simp only
    generalize toldP S F x0 x1 x2 x3 = r at *
    refine ⟨fun w => ?_, by simp [c1], fun w => by simp [c1, h3], by rw [h4]; simp only [ob]; congr 1; exact propext ⟨fun h => ⟨h.2, h.1⟩, fun h => ⟨h.2, h.1⟩⟩, fun w => by rw [h5]; simp only [ob]; congr 1; exact propext ⟨fun h => ⟨h.2.1, h.1, h.2.2⟩, fun h => ⟨h.2.1, h.1, h.2.2⟩⟩, by rw [h2]; simp [ob], by rw [h1]; exact Int.le_refl _, by simp [ob]⟩
    rw [h3, h5]; have := hle w; split <;> omega
  · rw [if_neg c6]
    exact (Eqv.rfl' F).stp hle (.inl (by simp [ob])) rfl (by simp [ob])
end Go.Ev

/- Credit: the program's books. -/
namespace Go.Ev
open Go Go.Proofs
set_option linter.unusedSimpArgs false
set_option linter.unusedVariables false

def ents (L : List Bk) (bs : List Nat) : List (AV × AV) := (L.zip bs).map fun p => (.int .i64 p.1.id, .ptr p.2 0)
def Bk.c5 (s : Bk) : List AV := [.int .i64 s.cr, .int .i64 s.se, .int .i64 s.to, .int .i64 s.ca, .int .i64 s.re, .bool s.ov]
def fiC (S : Sup) (F : Fw) (mp op pt tl : Nat) : List AV := [.bool S.sv, .int .i64 S.cw, .int .i64 S.sw, .int .i64 S.tw, .int .i64 S.ow, .int .i64 S.pc, .int .i64 S.ps, .int .i64 S.ptw, .int .i64 S.pow, .map mp, .map op, .map pt, .map tl, .int .i64 F.cc, .int .i64 (sumI Bk.se F.L), .int .i64 F.tc, .int .i64 (sumI Bk.ca F.L), .int .i64 F.rc]
/-- a map of both ways -/
def BM (l : List (AV × AV)) (a b : Int) : Prop :=
  (l = [] ∧ a = 0 ∧ b = 0) ∨ (l = [(.bool false, .int .i64 a)] ∧ b = 0) ∨ (l = [(.bool true, .int .i64 b)] ∧ a = 0) ∨ l = [(.bool false, .int .i64 a), (.bool true, .int .i64 b)] ∨ l = [(.bool true, .int .i64 b), (.bool false, .int .i64 a)]
structure FwI (S : Sup) (F : Fw) (q mp op pt tl : Nat) (bs : List Nat) (h : AH) : Prop where
  gq : h.get q = some (.cells 271 false (fiC S F mp op pt tl))
  gm : h.get mp = some (.map (ents F.L bs))
  go : ∃ l, h.get op = some (.map l) ∧ BM l F.o0 F.o1
  gp : ∃ l, h.get pt = some (.map l) ∧ BM l F.m0 F.m1
  gt : ∃ l, h.get tl = some (.map l) ∧ BM l F.i0 F.i1
  len : bs.length = F.L.length
  gb : ∀ i (hi : i < F.L.length), h.get (bs.getD i 0) = some (.cells 277 false (F.L[i].c5))
  nd : (q :: mp :: op :: pt :: tl :: bs).Nodup
  lt : ∀ b ∈ q :: mp :: op :: pt :: tl :: bs, b < h.next
theorem find_ents (id : Int) : ∀ (L : List Bk) (bs : List Nat) (n : Nat), bs.length = L.length → findA (.int .i64 id) (ents L bs) n = some ((stIx L id).map fun i => (n + i, .ptr (bs.getD i 0) 0))
  | [], [], n, _ => by simp [ents, findA, stIx]
  | s :: L, b :: bs, n, h => by
    have ih := find_ents id L bs (n + 1) (by simpa using h)
    unfold stIx at ih ⊢
    rw [List.findIdx?_cons]
    simp only [ents] at ih
    simp only [ents, List.zip_cons_cons, List.map_cons, findA, sameK, if_true]
    by_cases e : s.id = id
    · subst e; simp
    · have e1 : (id == s.id) = false := by simpa using fun h => e h.symm
      have e2 : (s.id == id) = false := by simpa using e
      simp only [e1, e2, Bool.false_eq_true, if_false]
      rw [ih]
      cases L.findIdx? (fun s => s.id == id) <;> simp; omega
def strm (L : List Bk) (bs : List Nat) (id : Int) : AV := match stIx L id with
  | some i => .ptr (bs.getD i 0) 0
  | none => .nilPtr
theorem FwI.look {S : Sup} {F : Fw} {q mp op pt tl : Nat} {bs : List Nat} {h : AH} (X : FwI S F q mp op pt tl bs h) (id : Int) : lookA Try.prog 268 (.map mp) (.int .i64 id) h false = some (strm F.L bs id) := by
  have h1 := find_ents id F.L bs 0 X.len
  have h2 := X.gm
  unfold lookA strm
  cases hs : stIx F.L id <;> simp [mapT, keyOk, h2, h1, hs]
theorem BM.look {l : List (AV × AV)} {a b : Int} {p : Nat} {h : AH} (H : BM l a b) (g : h.get p = some (.map l)) (w : Bool) : lookA Try.prog 269 (.map p) (.bool w) h false = some (.int .i64 (if w then b else a)) := by
  unfold lookA
  rcases H with ⟨rfl, rfl, rfl⟩ | ⟨rfl, rfl⟩ | ⟨rfl, rfl⟩ | rfl | rfl <;> cases w <;> simp [mapT, keyOk, g, findA, sameK]
theorem BM.upd {l : List (AV × AV)} {a b : Int} {p : Nat} {h : AH} (H : BM l a b) (g : h.get p = some (.map l)) (w : Bool) (v : Int) : ∃ l', updA Try.prog 269 (.map p) (.bool w) (.int .i64 v) h = some (h.set p (.map l')) ∧ BM l' (if w then a else v) (if w then v else b) := by
  unfold updA
  rcases H with ⟨rfl, rfl, rfl⟩ | ⟨rfl, rfl⟩ | ⟨rfl, rfl⟩ | rfl | rfl <;> cases w <;> simp [mapT, keyOk, g, mapPut, findA, sameK, BM] <;> exact ⟨_, rfl, by simp⟩
theorem FwI.lo {S : Sup} {F : Fw} {q mp op pt tl : Nat} {bs : List Nat} {h : AH} (X : FwI S F q mp op pt tl bs h) (w : Bool) : lookA Try.prog 269 (.map op) (.bool w) h false = some (.int .i64 (F.o w)) := by
  obtain ⟨l, g, H⟩ := X.go; exact H.look g w
theorem FwI.lp {S : Sup} {F : Fw} {q mp op pt tl : Nat} {bs : List Nat} {h : AH} (X : FwI S F q mp op pt tl bs h) (w : Bool) : lookA Try.prog 269 (.map pt) (.bool w) h false = some (.int .i64 (F.m w)) := by
  obtain ⟨l, g, H⟩ := X.gp; exact H.look g w
theorem FwI.lt_ {S : Sup} {F : Fw} {q mp op pt tl : Nat} {bs : List Nat} {h : AH} (X : FwI S F q mp op pt tl bs h) (w : Bool) : lookA Try.prog 269 (.map tl) (.bool w) h false = some (.int .i64 (F.i w)) := by
  obtain ⟨l, g, H⟩ := X.gt; exact H.look g w
theorem ents_set {L : List Bk} {bs : List Nat} {i : Nat} (hi : i < L.length) {s' : Bk} (h : s'.id = L[i].id) : ents (L.set i s') bs = ents L bs := by
  unfold ents
  apply List.ext_getElem
  · simp
  · intro j h1 h2
    simp only [List.getElem_map, List.getElem_zip]
    simp only [List.length_map, List.length_zip] at h2
    by_cases e : i = j
    · subst e; simp [h]
    · rw [List.getElem_set_ne e]
theorem mem6 {b q mp op pt tl : Nat} {bs : List Nat} (h : b ∈ bs) : b ∈ q :: mp :: op :: pt :: tl :: bs := by simp [h]
theorem mem5 {b mp op pt tl : Nat} {bs : List Nat} (h : b ∈ bs) : b ∈ mp :: op :: pt :: tl :: bs := by simp [h]
theorem FwI.nds {S : Sup} {F : Fw} {q mp op pt tl : Nat} {bs : List Nat} {h : AH} (X : FwI S F q mp op pt tl bs h) {i : Nat} (hi : i < F.L.length) : bs.getD i 0 ∈ bs ∧ bs.getD i 0 < h.next ∧ bs.getD i 0 ≠ q ∧ bs.getD i 0 ≠ mp ∧ bs.getD i 0 ≠ op ∧ bs.getD i 0 ≠ pt ∧ bs.getD i 0 ≠ tl := by
  have hl := X.len
  have hm : bs.getD i 0 ∈ bs := by
    rw [List.getD_eq_getElem?_getD, List.getElem?_eq_getElem (by omega)]; exact List.getElem_mem _
  have nd := X.nd
  simp only [List.nodup_cons, List.mem_cons, not_or] at nd
  obtain ⟨⟨n1, n2, n3, n4, n5⟩, ⟨n6, n7, n8, n9⟩, ⟨n10, n11, n12⟩, ⟨n13, n14⟩, n15, n16⟩ := nd
  exact ⟨hm, X.lt _ (mem6 hm), fun e => n5 (e ▸ hm), fun e => n9 (e ▸ hm), fun e => n12 (e ▸ hm), fun e => n14 (e ▸ hm), fun e => n15 (e ▸ hm)⟩
theorem FwI.nq {S : Sup} {F : Fw} {q mp op pt tl : Nat} {bs : List Nat} {h : AH} (X : FwI S F q mp op pt tl bs h) : q < h.next ∧ mp ≠ q ∧ op ≠ q ∧ pt ≠ q ∧ tl ≠ q ∧ (∀ b ∈ bs, b ≠ q) := by
  have nd := X.nd
  simp only [List.nodup_cons, List.mem_cons, not_or] at nd
  obtain ⟨⟨n1, n2, n3, n4, n5⟩, _⟩ := nd
  exact ⟨X.lt q (by simp), fun e => n1 e.symm, fun e => n2 e.symm, fun e => n3 e.symm, fun e => n4 e.symm, fun b hb e => n5 (e ▸ hb)⟩
/-- a stream's record changed, and fields of the books -/
theorem FwI.upd {S : Sup} {F F' : Fw} {q mp op pt tl : Nat} {bs : List Nat} {h h' : AH} (X : FwI S F q mp op pt tl bs h) {i : Nat} (hi : i < F.L.length) (s' : Bk) (hid : s'.id = F.L[i].id) (hL : F'.L = F.L.set i s') (ho : F'.o0 = F.o0 ∧ F'.o1 = F.o1) (hm : F'.m0 = F.m0 ∧ F'.m1 = F.m1) (hii : F'.i0 = F.i0 ∧ F'.i1 = F.i1)
    (hn : h.next ≤ h'.next) (hq : h'.get q = some (.cells 271 false (fiC S F' mp op pt tl))) (hb : h'.get (bs.getD i 0) = some (.cells 277 false s'.c5)) (hr : ∀ x, x ∈ mp :: op :: pt :: tl :: bs → x ≠ bs.getD i 0 → h'.get x = h.get x) : FwI S F' q mp op pt tl bs h' := by
  obtain ⟨u0, u1, u2, u3, u4, u5, u6⟩ := X.nds hi
  have hlen := X.len
  refine ⟨hq, by rw [hr mp (by simp) (fun e => u3 e.symm), X.gm, hL, ents_set hi hid], by rw [hr op (by simp) (fun e => u4 e.symm), ho.1, ho.2]; exact X.go, by rw [hr pt (by simp) (fun e => u5 e.symm), hm.1, hm.2]; exact X.gp, by rw [hr tl (by simp) (fun e => u6 e.symm), hii.1, hii.2]; exact X.gt, by rw [hL]; simpa using hlen, ?_, X.nd, fun b hb => Nat.lt_of_lt_of_le (X.lt b hb) hn⟩
  intro j hj
  have hj' : j < F.L.length := by rw [hL] at hj; simpa using hj
  by_cases e : i = j
  · subst e
    have : F'.L[i] = s' := by simp [hL]
    rw [this]; exact hb
  · have e2 : F'.L[j] = F.L[j] := by simp only [hL]; rw [List.getElem_set_ne e]
    rw [e2, hr _ (mem5 (X.nds hj').1) ?_]
    · exact X.gb j hj'
    · intro e3
      have nd := X.nd
      simp only [List.nodup_cons] at nd
      have hnb := nd.2.2.2.2.2
      rw [List.getD_eq_getElem?_getD, List.getD_eq_getElem?_getD, List.getElem?_eq_getElem (by omega), List.getElem?_eq_getElem (by omega)] at e3
      simp only [Option.getD_some] at e3
      exact e ((List.getElem_inj hnb).1 e3).symm
/-- only the books' own cells changed -/
theorem FwI.fld {S : Sup} {F F' : Fw} {q mp op pt tl : Nat} {bs : List Nat} {h h' : AH} (X : FwI S F q mp op pt tl bs h) (hL : F'.L = F.L) (ho : F'.o0 = F.o0 ∧ F'.o1 = F.o1) (hm : F'.m0 = F.m0 ∧ F'.m1 = F.m1) (hii : F'.i0 = F.i0 ∧ F'.i1 = F.i1)
    (hn : h.next ≤ h'.next) (hq : h'.get q = some (.cells 271 false (fiC S F' mp op pt tl))) (hr : ∀ x, x ∈ mp :: op :: pt :: tl :: bs → h'.get x = h.get x) : FwI S F' q mp op pt tl bs h' :=
  ⟨hq, by rw [hr mp (by simp), X.gm, hL], by rw [hr op (by simp), ho.1, ho.2]; exact X.go, by rw [hr pt (by simp), hm.1, hm.2]; exact X.gp, by rw [hr tl (by simp), hii.1, hii.2]; exact X.gt, by rw [hL]; exact X.len, fun i hi => by
    have hi' : i < F.L.length := by rw [hL] at hi; exact hi
    have e : F'.L[i] = F.L[i] := by simp only [hL]
    rw [hr _ (mem5 (X.nds hi').1), e]; exact X.gb i hi', X.nd, fun b hb => Nat.lt_of_lt_of_le (X.lt b hb) hn⟩
theorem FwI.stay {S : Sup} {F : Fw} {q mp op pt tl : Nat} {bs : List Nat} {h h' : AH} (X : FwI S F q mp op pt tl bs h) (hn : h.next ≤ h'.next) (hr : ∀ x, x ∈ q :: mp :: op :: pt :: tl :: bs → h'.get x = h.get x) : FwI S F q mp op pt tl bs h' :=
  X.fld rfl ⟨rfl, rfl⟩ ⟨rfl, rfl⟩ ⟨rfl, rfl⟩ hn (by rw [hr q (by simp)]; exact X.gq) fun x hx => hr x (List.mem_cons_of_mem _ hx)
theorem FwI.kp {S : Sup} {F : Fw} {q mp op pt tl : Nat} {bs : List Nat} {h h' : AH} (X : FwI S F q mp op pt tl bs h) (hK : Kp h h') : FwI S F q mp op pt tl bs h' := X.stay hK.next fun x hx => hK.get x (X.lt x hx)
end Go.Ev

/- Credit: the program's streams. -/
namespace Go.Ev
open Go Go.Proofs
set_option linter.unusedSimpArgs false
set_option linter.unusedVariables false

def StpI (S : Sup) (F' : Fw) (q mp op pt tl : Nat) (bs : List Nat) (h h' : AH) : Prop := ∃ bs', FwI S F' q mp op pt tl bs' h' ∧ KoS (q :: mp :: op :: pt :: tl :: bs) h h' ∧ ∀ b ∈ bs', b ∈ bs ∨ h.next ≤ b
theorem StpI.trans {S : Sup} {F G : Fw} {q mp op pt tl : Nat} {bs bs1 : List Nat} {A B C : AH} (X : FwI S F q mp op pt tl bs1 B) (k : KoS (q :: mp :: op :: pt :: tl :: bs) A B) (hb : ∀ b ∈ bs1, b ∈ bs ∨ A.next ≤ b) (Y : StpI S G q mp op pt tl bs1 B C) : StpI S G q mp op pt tl bs A C := by
  obtain ⟨bs2, y1, y2, y3⟩ := Y
  have kn := k.next
  refine ⟨bs2, y1, k.trans y2 (fun b hb' => ?_), fun b hb' => ?_⟩
  · simp only [List.mem_cons] at hb' ⊢
    rcases hb' with h | h | h | h | h | h
    · exact .inl (.inl h)
    · exact .inl (.inr (.inl h))
    · exact .inl (.inr (.inr (.inl h)))
    · exact .inl (.inr (.inr (.inr (.inl h))))
    · exact .inl (.inr (.inr (.inr (.inr (.inl h)))))
    · exact (hb b h).imp (fun h => .inr (.inr (.inr (.inr (.inr h))))) id
  · rcases y3 b hb' with h | h
    · exact hb b h
    · exact .inr (by omega)
theorem ours_ev {S : Sup} {F : Fw} {q mp op pt tl : Nat} {bs : List Nat} {h : AH} (X : FwI S F q mp op pt tl bs h) (id : Int) (m : Nat) (hm : 1 ≤ m) : ev Try.prog m 212 [.ptr q 0, .int .i64 id] h = some (.bool (idSv id == S.sv), h) := by
  obtain ⟨m, rfl⟩ : ∃ k, m = k + 1 := ⟨m - 1, by omega⟩
  have g := X.gq
  have a1 := and_1 id
  have l0 : ldVar Try.prog 4 q 0 h = some (.bool S.sv) := by simp only [fiC] at g; simp [ldVar, g]
  rw [ev_M Try.func212 ok212 [] m _ h (by simp [Try.f212])]
  unfold idSv
  by_cases c : id % 2 = 1
  · rw [c] at a1; simp [Try.f212, tm0, a1, l0, c]
  · have : id % 2 = 0 := by omega
    rw [this] at a1; simp [Try.f212, tm0, a1, l0, this]
def ptrO (bs : List Nat) : Option Nat → AV
  | some i => .ptr (bs.getD i 0) 0
  | none => .nilPtr
theorem strm_o (L : List Bk) (bs : List Nat) (id : Int) : strm L bs id = ptrO bs (stIx L id) := by unfold strm ptrO; cases stIx L id <;> rfl
theorem sending_ev {S : Sup} {F : Fw} {k : Nat} {q mp op pt tl : Nat} {bs : List Nat} {h : AH} (X : FwI S F q mp op pt tl bs h) (G : F.good S k) (id : Int) (m : Nat) (hm : 2 ≤ m) : ev Try.prog m 207 [.ptr q 0, .int .i64 id] h = some (ptrO bs (sendsP S F.L id), h) := by
  obtain ⟨m, rfl⟩ : ∃ k, m = k + 1 := ⟨m - 1, by omega⟩
  have g := X.gq
  have e1 := ours_ev X id m (by omega)
  have a2 := and_2 id
  have l9 : ldVar Try.prog 268 q 9 h = some (.map mp) := by simp only [fiC] at g; simp [ldVar, g]
  have lk := X.look id
  rw [strm_o] at lk
  rw [ev_M Try.func207 ok207 [] m _ h (by simp [Try.f207])]
  unfold sendsP
  cases hs : stIx F.L id with
  | none =>
    rw [hs] at lk
    simp only [ptrO] at lk
    simp [Try.f207, tm0, l9, lk, ptrO, U]
  | some i =>
    rw [hs] at lk
    simp only [ptrO] at lk
    obtain ⟨hi, hid⟩ := stIx_some hs
    have hok := (G.bk _ (List.getElem_mem hi)).id
    rw [hid] at hok
    by_cases c1 : idSv id = S.sv
    · simp [Try.f207, tm0, l9, lk, e1, c1, ptrO, hok, U]
    · have c1' : (idSv id == S.sv) = false := by simpa using c1
      rw [c1'] at e1
      by_cases c2 : id / 2 % 2 = 1
      · rw [if_pos c2] at a2
        simp [Try.f207, tm0, l9, lk, e1, a2, c1, c2, ptrO, hok, idOw, U]
      · rw [if_neg c2] at a2
        simp [Try.f207, tm0, l9, lk, e1, a2, c1, c2, ptrO, hok, idOw, U]
theorem getting_ev {S : Sup} {F : Fw} {k : Nat} {q mp op pt tl : Nat} {bs : List Nat} {h : AH} (X : FwI S F q mp op pt tl bs h) (G : F.good S k) (id : Int) (m : Nat) (hm : 2 ≤ m) : ev Try.prog m 210 [.ptr q 0, .int .i64 id] h = some (ptrO bs (getsP S F.L id), h) := by
  obtain ⟨m, rfl⟩ : ∃ k, m = k + 1 := ⟨m - 1, by omega⟩
  have g := X.gq
  have e1 := ours_ev X id m (by omega)
  have a2 := and_2 id
  have l9 : ldVar Try.prog 268 q 9 h = some (.map mp) := by simp only [fiC] at g; simp [ldVar, g]
  have lk := X.look id
  rw [strm_o] at lk
  rw [ev_M Try.func210 ok210 [] m _ h (by simp [Try.f210])]
  unfold getsP
  cases hs : stIx F.L id with
  | none =>
    rw [hs] at lk
    simp only [ptrO] at lk
    simp [Try.f210, tm0, l9, lk, ptrO, U]
  | some i =>
    rw [hs] at lk
    simp only [ptrO] at lk
    obtain ⟨hi, hid⟩ := stIx_some hs
    have hok := (G.bk _ (List.getElem_mem hi)).id
    rw [hid] at hok
    by_cases c1 : idSv id = S.sv
    · have c1' : (idSv id == S.sv) = true := by simpa using c1
      rw [c1'] at e1
      by_cases c2 : id / 2 % 2 = 1
      · rw [if_pos c2] at a2
        simp [Try.f210, tm0, l9, lk, e1, a2, c1, c2, ptrO, hok, idOw, U]
      · rw [if_neg c2] at a2
        simp [Try.f210, tm0, l9, lk, e1, a2, c1, c2, ptrO, hok, idOw, U]
    · have c1' : (idSv id == S.sv) = false := by simpa using c1
      rw [c1'] at e1
      simp [Try.f210, tm0, l9, lk, e1, c1, ptrO, hok, U]
theorem add_ev {S : Sup} {F : Fw} {q mp op pt tl : Nat} {bs : List Nat} {h : AH} (X : FwI S F q mp op pt tl bs h) (id : Int) (m : Nat) (hm : 1 ≤ m) :
    ∃ h', ev Try.prog m 206 [.ptr q 0, .int .i64 id] h = some (U, h') ∧ StpI S (addP S F id) q mp op pt tl bs h h' := by
  obtain ⟨m, rfl⟩ : ∃ k, m = k + 1 := ⟨m - 1, by omega⟩
  have g := X.gq
  have l9 : ldVar Try.prog 268 q 9 h = some (.map mp) := by simp only [fiC] at g; simp [ldVar, g]
  have lk := X.look id
  rw [strm_o] at lk
  unfold addP
  cases hs : stIx F.L id with
  | some i =>
    rw [hs] at lk
    simp only [ptrO] at lk
    rw [if_neg (by simp)]
    refine ⟨h, ?_, bs, X, KoS.refl _ _, fun b hb => .inl hb⟩
    rw [ev_M Try.func206 ok206 [] m _ h (by simp [Try.f206])]
    simp [Try.f206, tm0, l9, lk, U]
  | none =>
    rw [hs] at lk
    simp only [ptrO] at lk
    rw [if_pos rfl]
    have gm := X.gm
    have hf := find_ents id F.L bs 0 X.len
    rw [hs] at hf
    have hnq := X.nq
    have hlt := X.lt
    have nm : ¬ (mp = h.next) := fun e => by have := hlt mp (by simp); omega
    have hup : updA Try.prog 268 (.map mp) (.int .i64 id) (.ptr h.next 0) (h.push (.cells 277 false (newBk S id).c5)) = some ((h.push (.cells 277 false (newBk S id).c5)).set mp (.map (ents F.L bs ++ [(.int .i64 id, .ptr h.next 0)]))) := by
      unfold updA
      simp [mapT, keyOk, AH.push_get, nm, gm, mapPut, hf]
    have hz : ents (F.L ++ [newBk S id]) (bs ++ [h.next]) = ents F.L bs ++ [(.int .i64 id, .ptr h.next 0)] := by
      unfold ents
      rw [List.zip_append (by rw [X.len])]
      simp [newBk]
    have hsum : sumI Bk.se (F.L ++ [newBk S id]) = sumI Bk.se F.L ∧ sumI Bk.ca (F.L ++ [newBk S id]) = sumI Bk.ca F.L := by
      constructor <;> rw [sumI_app] <;> simp [sumI, newBk]
    have hget : ∀ x, x ≠ mp → x < h.next → ((h.push (.cells 277 false (newBk S id).c5)).set mp (.map (ents F.L bs ++ [(.int .i64 id, .ptr h.next 0)]))).get x = h.get x := fun x h1 h2 => by
      rw [AH.set_getN _ _ h1, AH.push_get, if_neg (by omega)]
    have nd := X.nd
    have nd' := X.nd
    simp only [List.nodup_cons, List.mem_cons, not_or] at nd
    obtain ⟨⟨n1, n2, n3, n4, n5⟩, ⟨n6, n7, n8, n9⟩, ⟨n10, n11, n12⟩, ⟨n13, n14⟩, n15, n16⟩ := nd
    have lm := X.len
    refine ⟨_, ?_, bs ++ [h.next], ⟨?_, ?_, ?_, ?_, ?_, by simp [putP, lm], ?_, ?_, ?_⟩, ⟨by simp, fun b hb hx => hget b (fun e => hx (by simp [e])) hb⟩, fun b hb => ?_⟩
    · have l0 : ldVar Try.prog 3 q 6 h = some (.int .i64 S.ps) := by simp only [fiC] at g; simp [ldVar, g]
      have l2 : ldVar Try.prog 3 q 2 h = some (.int .i64 S.sw) := by simp only [fiC] at g; simp [ldVar, g]
      have kz : Kp h (h.push (.cells 277 false (newBk S id).c5)) := (Kp.refl h).push _
      have gz := (X.kp kz).gq
      have l9' : ldVar Try.prog 268 q 9 (h.push (.cells 277 false (newBk S id).c5)) = some (.map mp) := by simp only [fiC] at gz; simp only [ldVar, gz]; simp
      simp only [newBk, Bk.c5] at hup l9' ⊢
      rw [ev_M Try.func206 ok206 [] m _ h (by simp [Try.f206])]
      simp [Try.f206, tm0, l9, l9', lk, l0, l2, fillA, spl, hup, U, evHist, ObsOk, ObOk, List.getElem?_cons_zero]
    · rw [hget q (fun e => n1 e) hnq.1]
      rw [g]; simp only [fiC, putP, hsum.1, hsum.2]
    · simp only [putP, hz]; simp
    · rw [hget op (fun e => n6 e.symm) (hlt op (by simp))]; exact X.go
    · rw [hget pt (fun e => n7 e.symm) (hlt pt (by simp))]; exact X.gp
    · rw [hget tl (fun e => n8 e.symm) (hlt tl (by simp))]; exact X.gt
    · intro i hi
      simp only [putP, List.length_append, List.length_singleton] at hi
      by_cases e : i < F.L.length
      · have e1 : (bs ++ [h.next]).getD i 0 = bs.getD i 0 := by
          rw [List.getD_eq_getElem?_getD, List.getD_eq_getElem?_getD, List.getElem?_append_left (by omega)]
        have e2 : (putP S F id).L[i] = F.L[i] := by simp only [putP]; rw [List.getElem_append_left e]
        obtain ⟨u0, u1, u2, u3, _⟩ := X.nds e
        rw [e1, e2, hget _ u3 u1]; exact X.gb i e
      · have e3 : i = F.L.length := by omega
        subst e3
        have e1 : (bs ++ [h.next]).getD F.L.length 0 = h.next := by
          rw [List.getD_eq_getElem?_getD, List.getElem?_append_right (by omega)]; simp [lm]
        have e2 : (putP S F id).L[F.L.length] = newBk S id := by simp only [putP]; rw [List.getElem_append_right (by omega)]; simp
        rw [e1, e2, AH.set_getN _ _ (fun e => nm e.symm)]; simp
    · have hmem : ∀ b ∈ q :: mp :: op :: pt :: tl :: bs, b ≠ h.next := fun b hb e => by have := hlt b hb; omega
      have : q :: mp :: op :: pt :: tl :: (bs ++ [h.next]) = (q :: mp :: op :: pt :: tl :: bs) ++ [h.next] := by simp
      rw [this, List.nodup_append]
      exact ⟨nd', by simp, fun a ha b hb e => by simp at hb; exact hmem a ha (by omega)⟩
    · intro b hb
      have : b ∈ (q :: mp :: op :: pt :: tl :: bs) ∨ b = h.next := by
        simp only [List.mem_cons, List.mem_append, List.not_mem_nil, or_false] at hb ⊢; grind
      rcases this with h1 | h1
      · have := hlt b h1; simp; omega
      · simp [h1]
    · rcases List.mem_append.1 hb with h1 | h1
      · exact .inl h1
      · simp at h1; exact .inr (by omega)
end Go.Ev

/- Credit: the program opens a stream, sends. -/
namespace Go.Ev
open Go Go.Proofs
set_option linter.unusedSimpArgs false
set_option linter.unusedVariables false

/-- the maps of both ways, one changed -/
theorem FwI.incO {S : Sup} {F : Fw} {q mp op pt tl : Nat} {bs : List Nat} {h : AH} (X : FwI S F q mp op pt tl bs h) (w : Bool) : ∃ l', updA Try.prog 269 (.map op) (.bool w) (.int .i64 (F.o w + 1)) h = some (h.set op (.map l')) ∧ FwI S (F.incO w) q mp op pt tl bs (h.set op (.map l')) := by
  obtain ⟨l, g, H⟩ := X.go
  obtain ⟨l', e1, H'⟩ := H.upd g w (F.o w + 1)
  have nd := X.nd
  simp only [List.nodup_cons, List.mem_cons, not_or] at nd
  obtain ⟨⟨n1, n2, n3, n4, n5⟩, ⟨n6, n7, n8, n9⟩, ⟨n10, n11, n12⟩, ⟨n13, n14⟩, n15, n16⟩ := nd
  refine ⟨l', e1, ⟨by rw [AH.set_getN _ _ n2]; cases w <;> exact X.gq, by rw [AH.set_getN _ _ n6]; cases w <;> exact X.gm, ⟨l', by simp, ?_⟩, by rw [AH.set_getN _ _ (fun e => n10 e.symm)]; cases w <;> exact X.gp, by rw [AH.set_getN _ _ (fun e => n11 e.symm)]; cases w <;> exact X.gt, by cases w <;> exact X.len, ?_, X.nd, fun b hb => X.lt b hb⟩⟩
  · cases w <;> exact H'
  · intro i hi
    have hi' : i < F.L.length := by cases w <;> exact hi
    obtain ⟨u0, u1, u2, u3, u4, u5, u6⟩ := X.nds hi'
    rw [AH.set_getN _ _ u4]
    cases w <;> exact X.gb i hi'
theorem FwI.incI {S : Sup} {F : Fw} {q mp op pt tl : Nat} {bs : List Nat} {h : AH} (X : FwI S F q mp op pt tl bs h) (w : Bool) : ∃ l', updA Try.prog 269 (.map tl) (.bool w) (.int .i64 (F.i w + 1)) h = some (h.set tl (.map l')) ∧ FwI S (F.incI w) q mp op pt tl bs (h.set tl (.map l')) := by
  obtain ⟨l, g, H⟩ := X.gt
  obtain ⟨l', e1, H'⟩ := H.upd g w (F.i w + 1)
  have nd := X.nd
  simp only [List.nodup_cons, List.mem_cons, not_or] at nd
  obtain ⟨⟨n1, n2, n3, n4, n5⟩, ⟨n6, n7, n8, n9⟩, ⟨n10, n11, n12⟩, ⟨n13, n14⟩, n15, n16⟩ := nd
  refine ⟨l', e1, ⟨by rw [AH.set_getN _ _ n4]; cases w <;> exact X.gq, by rw [AH.set_getN _ _ n8]; cases w <;> exact X.gm, by rw [AH.set_getN _ _ n11]; cases w <;> exact X.go, by rw [AH.set_getN _ _ n13]; cases w <;> exact X.gp, ⟨l', by simp, ?_⟩, by cases w <;> exact X.len, ?_, X.nd, fun b hb => X.lt b hb⟩⟩
  · cases w <;> exact H'
  · intro i hi
    have hi' : i < F.L.length := by cases w <;> exact hi
    obtain ⟨u0, u1, u2, u3, u4, u5, u6⟩ := X.nds hi'
    rw [AH.set_getN _ _ u6]
    cases w <;> exact X.gb i hi'
theorem FwI.maxM {S : Sup} {F : Fw} {q mp op pt tl : Nat} {bs : List Nat} {h : AH} (X : FwI S F q mp op pt tl bs h) (w : Bool) (n : Int) : ∃ l', updA Try.prog 269 (.map pt) (.bool w) (.int .i64 (max (F.m w) n)) h = some (h.set pt (.map l')) ∧ FwI S (F.maxM w n) q mp op pt tl bs (h.set pt (.map l')) := by
  obtain ⟨l, g, H⟩ := X.gp
  obtain ⟨l', e1, H'⟩ := H.upd g w (max (F.m w) n)
  have nd := X.nd
  simp only [List.nodup_cons, List.mem_cons, not_or] at nd
  obtain ⟨⟨n1, n2, n3, n4, n5⟩, ⟨n6, n7, n8, n9⟩, ⟨n10, n11, n12⟩, ⟨n13, n14⟩, n15, n16⟩ := nd
  refine ⟨l', e1, ⟨by rw [AH.set_getN _ _ n3]; cases w <;> exact X.gq, by rw [AH.set_getN _ _ n7]; cases w <;> exact X.gm, by rw [AH.set_getN _ _ n10]; cases w <;> exact X.go, ⟨l', by simp, ?_⟩, by rw [AH.set_getN _ _ (fun e => n13 e.symm)]; cases w <;> exact X.gt, by cases w <;> exact X.len, ?_, X.nd, fun b hb => X.lt b hb⟩⟩
  · cases w <;> exact H'
  · intro i hi
    have hi' : i < F.L.length := by cases w <;> exact hi
    obtain ⟨u0, u1, u2, u3, u4, u5, u6⟩ := X.nds hi'
    rw [AH.set_getN _ _ u5]
    cases w <;> exact X.gb i hi'
theorem openI_ev {S : Sup} {F : Fw} {k : Nat} {q mp op pt tl : Nat} {bs : List Nat} {h : AH} (X : FwI S F q mp op pt tl bs h) (G : F.good S k) (w : Bool) (m : Nat) (hm : 10 ≤ m) :
    ∃ i c h', ev Try.prog m 110 [.ptr q 0, .bool w] h = some (.tuple [.int .i64 i, .int .i64 c], h') ∧ (openP S F w).2 = ob c i 0 [] ∧ StpI S (openP S F w).1 q mp op pt tl bs h h' := by
  obtain ⟨m, rfl⟩ : ∃ k, m = k + 1 := ⟨m - 1, by omega⟩
  have g := X.gq
  have la := X.lo w
  have lb := X.lp w
  have ho := G.o w; have hM := G.m w; have hk := G.kk
  have l10 : ldVar Try.prog 269 q 10 h = some (.map op) := by simp only [fiC] at g; simp [ldVar, g]
  have l11 : ldVar Try.prog 269 q 11 h = some (.map pt) := by simp only [fiC] at g; simp [ldVar, g]
  have l0 : ldVar Try.prog 4 q 0 h = some (.bool S.sv) := by simp only [fiC] at g; simp [ldVar, g]
  unfold openP
  by_cases c1 : F.m w ≤ F.o w
  · rw [if_pos c1]
    refine ⟨0, 9, h, ?_, rfl, bs, X, KoS.refl _ _, fun b hb => .inl hb⟩
    rw [ev_M Try.func110 ok110 [] m _ h (by simp [Try.f110])]
    simp [Try.f110, tm0, l10, l11, la, lb, c1]
  · rw [if_neg c1]
    have c1' := eq_false c1
    obtain ⟨l', e1, X1⟩ := X.incO w
    obtain ⟨h2, e2, s2⟩ := add_ev X1 (idOf S.sv w (F.o w)) m (by omega)
    have hnew := open_new G w (by omega)
    have hL : (F.incO w).L = F.L := by cases w <;> rfl
    rw [addP, if_pos (by rw [hL]; exact hnew)] at s2
    have e3 := fun H => IdOfI_ev S.sv w (F.o w) H m (by omega)
    have w1 : IntKind.i64.wrap (F.o w + 1) = F.o w + 1 := wrap_i64 (n := F.o w + 1) (by omega) (by omega)
    refine ⟨idOf S.sv w (F.o w), 0, h2, ?_, rfl, StpI.trans X1 ((KoS.refl _ _).set1 (by simp) _) (fun b hb => .inl hb) s2⟩
    rw [ev_M Try.func110 ok110 [] m _ h (by simp [Try.f110])]
    simp [Try.f110, tm0, l10, l11, l0, la, lb, c1', e3, w1, e1, e2]
theorem sendI_ev {S : Sup} {F : Fw} {k : Nat} {q mp op pt tl : Nat} {bs : List Nat} {h : AH} (X : FwI S F q mp op pt tl bs h) (G : F.good S k) (id n : Int) (m : Nat) (hm : 10 ≤ m) :
    ∃ n' c h', ev Try.prog m 111 [.ptr q 0, .int .i64 id, .int .i64 n] h = some (.tuple [.int .i64 n', .int .i64 c], h') ∧ (sendP S F id n).2 = ob c 0 n' [] ∧ StpI S (sendP S F id n).1 q mp op pt tl bs h h' := by
  obtain ⟨m, rfl⟩ : ∃ k, m = k + 1 := ⟨m - 1, by omega⟩
  have g := X.gq
  unfold sendP
  by_cases c1 : n < 0
  · rw [if_pos c1]
    refine ⟨0, 1, h, ?_, rfl, bs, X, KoS.refl _ _, fun b hb => .inl hb⟩
    rw [ev_M Try.func111 ok111 [] m _ h (by simp [Try.f111])]
    simp [Try.f111, tm0, c1]
  · rw [if_neg c1]
    have c1' := eq_false c1
    have e1 := sending_ev X G id m (by omega)
    cases hs : sendsP S F.L id with
    | none =>
      rw [hs] at e1
      simp only [ptrO] at e1
      refine ⟨0, 7, h, ?_, rfl, bs, X, KoS.refl _ _, fun b hb => .inl hb⟩
      rw [ev_M Try.func111 ok111 [] m _ h (by simp [Try.f111])]
      simp [Try.f111, tm0, c1', e1]
    | some i =>
      rw [hs] at e1
      simp only [ptrO] at e1
      have hi := sendsP_lt hs
      have gb := X.gb i hi
      obtain ⟨u0, u1, u2, u3, u4, u5, u6⟩ := X.nds hi
      have hgs := G.at_ hi
      have hcc := G.se; have hc2 := G.cc; have hg1 := hgs.se; have hg2 := hgs.cr
      have hsn := sumI_nn (good_se G)
      rw [at_L hi] at hg1 hg2
      dsimp only
      rw [at_L hi]
      generalize hB : bs.getD i 0 = b at *
      generalize hK : min (min n (F.L[i].cr - F.L[i].se)) (F.cc - sumI Bk.se F.L) = K at *
      have hm2 : max 0 (min (F.L[i].cr - F.L[i].se) (F.cc - sumI Bk.se F.L)) = min (F.L[i].cr - F.L[i].se) (F.cc - sumI Bk.se F.L) := by omega
      have hupd : ∀ s', (F.upd i fun s => s').L = F.L.set i s' := fun s' => rfl
      have hsum : sumI Bk.se (F.L.set i { F.L[i] with se := F.L[i].se + K }) = sumI Bk.se F.L + K := by rw [sumI_set Bk.se F.L i hi]; simp only; omega
      have hsum2 : sumI Bk.ca (F.L.set i { F.L[i] with se := F.L[i].se + K }) = sumI Bk.ca F.L := by rw [sumI_set Bk.ca F.L i hi]; simp only; omega
      have w1 : IntKind.i64.wrap (F.L[i].cr - F.L[i].se) = F.L[i].cr - F.L[i].se := wrap_i64 (n := F.L[i].cr - F.L[i].se) (by omega) (by omega)
      have w2 : IntKind.i64.wrap (F.cc - sumI Bk.se F.L) = F.cc - sumI Bk.se F.L := wrap_i64 (n := F.cc - sumI Bk.se F.L) (by omega) (by omega)
      have w3 : IntKind.i64.wrap (F.L[i].se + K) = F.L[i].se + K := wrap_i64 (n := F.L[i].se + K) (by omega) (by omega)
      have w4 : IntKind.i64.wrap (sumI Bk.se F.L + K) = sumI Bk.se F.L + K := wrap_i64 (n := sumI Bk.se F.L + K) (by omega) (by omega)
      have e2 : ∀ m, 1 ≤ m → ev Try.prog m 208 [.ptr q 0, .ptr b 0] h = some (.int .i64 (min (F.L[i].cr - F.L[i].se) (F.cc - sumI Bk.se F.L)), h) := by
        intro m hm
        obtain ⟨m, rfl⟩ : ∃ k, m = k + 1 := ⟨m - 1, by omega⟩
        have hmx : (if 0 < (if F.cc - sumI Bk.se F.L < F.L[i].cr - F.L[i].se then F.cc - sumI Bk.se F.L else F.L[i].cr - F.L[i].se) then (if F.cc - sumI Bk.se F.L < F.L[i].cr - F.L[i].se then F.cc - sumI Bk.se F.L else F.L[i].cr - F.L[i].se) else 0) = min (F.L[i].cr - F.L[i].se) (F.cc - sumI Bk.se F.L) := by split <;> split <;> omega
        simp only [fiC] at g
        simp only [Bk.c5] at gb
        rw [ev_M Try.func208 ok208 [] m _ h (by simp [Try.f208])]
        simp [Try.f208, tm0, g, gb, ldVar, w1, w2, mn2, mx2, foldA, hmx, evHist, ObsOk, ObOk, List.getElem?_cons_zero]
      have e2' := e2 m (by omega)
      have hK2 : (if min (F.L[i].cr - F.L[i].se) (F.cc - sumI Bk.se F.L) < n then min (F.L[i].cr - F.L[i].se) (F.cc - sumI Bk.se F.L) else n) = K := by rw [← hK]; split <;> omega
      generalize min (F.L[i].cr - F.L[i].se) (F.cc - sumI Bk.se F.L) = R at *
      refine ⟨K, 0, (h.set b (.cells 277 false (Bk.c5 { F.L[i] with se := F.L[i].se + K }))).set q (.cells 271 false (fiC S (F.upd i fun s => { s with se := s.se + K }) mp op pt tl)), ?_, rfl, bs, ?_, ((KoS.refl _ _).set1 (mem6 (hB ▸ u0)) _).set1 (by simp) _, fun b hb => .inl hb⟩
      · have nqb : ¬ (q = b) := fun e => u2 e.symm
        simp only [fiC, Bk.c5, Fw.upd, at_L hi, hsum, hsum2] at g gb ⊢
        rw [ev_M Try.func111 ok111 [] m _ h (by simp [Try.f111])]
        simp [Try.f111, tm0, c1', e1, e2', mn2, foldA, hK2, g, gb, nqb, u2, ldVar, stVar, spl, w3, w4]
      · refine X.upd hi { F.L[i] with se := F.L[i].se + K } rfl (by simp only [Fw.upd, at_L hi]) ⟨rfl, rfl⟩ ⟨rfl, rfl⟩ ⟨rfl, rfl⟩ (by simp) (by simp) (by rw [hB, AH.set_getN _ _ u2]; simp) (fun x hx hxb => ?_)
        have hxq : x ≠ q := fun e => by have := X.nd; rw [List.nodup_cons] at this; exact this.1 (e ▸ hx)
        rw [hB] at hxb
        rw [AH.set_getN _ _ hxq, AH.set_getN _ _ hxb]
end Go.Ev

/- Credit: the program ends a stream, is told. -/
namespace Go.Ev
open Go Go.Proofs
set_option linter.unusedSimpArgs false
set_option linter.unusedVariables false

def StpF (S : Sup) (F' : Fw) (l : List Fr) (q mp op pt tl : Nat) (bs : List Nat) (h h' : AH) (r : AV) : Prop :=
  ∃ bs' bo, FwI S F' q mp op pt tl bs' h' ∧ KoS (q :: mp :: op :: pt :: tl :: bs) h h' ∧ (∀ b ∈ bs', b ∈ bs ∨ h.next ≤ b) ∧ (Ty.sl 72 tT72).R true h' [r] l bo ∧ bo.Nodup ∧ (∀ b ∈ bo, h.next ≤ b) ∧ ∀ b ∈ bo, b ∉ bs'
theorem nil72 {rw : Bool} {H : AH} : (Ty.sl 72 tT72).R rw H [.nilSlice] [] [] := .inl ⟨rfl, rfl, rfl⟩
theorem endI_ev {S : Sup} {F : Fw} {k : Nat} {q mp op pt tl : Nat} {bs : List Nat} {h : AH} (X : FwI S F q mp op pt tl bs h) (G : F.good S k) (id : Int) (m : Nat) (hm : 10 ≤ m) :
    ∃ r c l h', ev Try.prog m 114 [.ptr q 0, .int .i64 id] h = some (.tuple [r, .int .i64 c], h') ∧ (overP S F id).2 = ob c 0 0 l ∧ StpF S (overP S F id).1 l q mp op pt tl bs h h' r := by
  obtain ⟨m, rfl⟩ : ∃ k, m = k + 1 := ⟨m - 1, by omega⟩
  have g := X.gq
  have l9 : ldVar Try.prog 268 q 9 h = some (.map mp) := by simp only [fiC] at g; simp [ldVar, g]
  have lk := X.look id
  rw [strm_o] at lk
  have e1 := ours_ev X id m (by omega)
  have a2 := and_2 id
  have bad : (overP S F id) = (F, ob 7 0 0 []) → ev Try.prog (m + 1) 114 [.ptr q 0, .int .i64 id] h = some (.tuple [.nilSlice, .int .i64 7], h) → 
      ∃ r c l h', ev Try.prog (m + 1) 114 [.ptr q 0, .int .i64 id] h = some (.tuple [r, .int .i64 c], h') ∧ (overP S F id).2 = ob c 0 0 l ∧ StpF S (overP S F id).1 l q mp op pt tl bs h h' r :=
    fun h1 h2 => ⟨_, 7, [], h, h2, by rw [h1], bs, [], by rw [h1]; exact X, KoS.refl _ _, fun b hb => .inl hb, nil72, by simp, by simp, by simp⟩
  cases hs : stIx F.L id with
  | none =>
    rw [hs] at lk
    simp only [ptrO] at lk
    refine bad (by unfold overP; rw [hs]) ?_
    rw [ev_M Try.func114 ok114 [] m _ h (by simp [Try.f114])]
    simp [Try.f114, tm0, l9, lk, U]
  | some i =>
    rw [hs] at lk
    simp only [ptrO] at lk
    obtain ⟨hi, hid⟩ := stIx_some hs
    have hok := (G.bk _ (List.getElem_mem hi)).id
    rw [hid] at hok
    have gb := X.gb i hi
    obtain ⟨u0, u1, u2, u3, u4, u5, u6⟩ := X.nds hi
    have l5 : ldVar Try.prog 4 (bs.getD i 0) 5 h = some (.bool F.L[i].ov) := by simp only [Bk.c5] at gb; simp only [ldVar, gb]; simp
    by_cases c1 : idSv id = S.sv
    · have c1' : (idSv id == S.sv) = true := by simpa using c1
      rw [c1'] at e1
      refine bad (by unfold overP; rw [hs]; simp only; rw [if_pos (.inr (.inl c1))]) ?_
      rw [ev_M Try.func114 ok114 [] m _ h (by simp [Try.f114])]
      simp [Try.f114, tm0, l9, lk, e1, U]
    · have c1' : (idSv id == S.sv) = false := by simpa using c1
      rw [c1'] at e1
      by_cases c2 : F.L[i].ov = true
      · rw [c2] at l5
        refine bad (by unfold overP; rw [hs]; simp only; rw [if_pos (.inr (.inr (by rw [at_L hi]; exact c2)))]) ?_
        generalize bs.getD i 0 = b at *
        rw [ev_M Try.func114 ok114 [] m _ h (by simp [Try.f114])]
        simp [Try.f114, tm0, l9, lk, e1, l5, U]
      · have c2' : F.L[i].ov = false := by simpa using c2
        rw [c2'] at l5
        have hi2 := G.i (idOw id)
        have hk2 := G.kk
        have hov : overP S F id = ((F.upd i fun s => { s with ov := true }).incI (idOw id), ob 0 0 0 [frm 18 (F.i (idOw id) + 1) (if idOw id then 1 else 0)]) := by
          unfold overP
          rw [hs]
          simp only
          rw [if_neg (by simp [hok, c1, at_L hi, c2']), if_neg (by omega)]
        rw [hov]
        have hsum : sumI Bk.se (F.L.set i { F.L[i] with ov := true }) = sumI Bk.se F.L := by rw [sumI_set Bk.se F.L i hi]; simp only; omega
        have hsum2 : sumI Bk.ca (F.L.set i { F.L[i] with ov := true }) = sumI Bk.ca F.L := by rw [sumI_set Bk.ca F.L i hi]; simp only; omega
        have X1 : FwI S (F.upd i fun s => { s with ov := true }) q mp op pt tl bs (h.set (bs.getD i 0) (.cells 277 false (Bk.c5 { F.L[i] with ov := true }))) := by
          refine X.upd hi { F.L[i] with ov := true } rfl (by simp only [Fw.upd, at_L hi]) ⟨rfl, rfl⟩ ⟨rfl, rfl⟩ ⟨rfl, rfl⟩ (by simp) ?_ (by simp) (fun x hx hxb => AH.set_getN _ _ hxb)
          rw [AH.set_getN _ _ (fun e => u2 e.symm), g]
          simp only [fiC, Fw.upd, at_L hi, hsum, hsum2]
        have hst : stVar Try.prog 4 (bs.getD i 0) 5 (.bool true) h = some (h.set (bs.getD i 0) (.cells 277 false (Bk.c5 { F.L[i] with ov := true }))) := by simp only [Bk.c5] at gb ⊢; simp only [stVar, gb]; simp [spl]
        have kB : KoS (q :: mp :: op :: pt :: tl :: bs) h (h.set (bs.getD i 0) (.cells 277 false (Bk.c5 { F.L[i] with ov := true }))) := (KoS.refl _ _).set1 (mem6 u0) _
        have hin : (F.upd i fun s => { s with ov := true }).i (idOw id) = F.i (idOw id) := by cases idOw id <;> rfl
        have nB : (h.set (bs.getD i 0) (.cells 277 false (Bk.c5 { F.L[i] with ov := true }))).next = h.next := rfl
        generalize (F.upd i fun s => { s with ov := true }) = F1 at *
        generalize h.set (bs.getD i 0) (.cells 277 false (Bk.c5 { F.L[i] with ov := true })) = B at *
        generalize bs.getD i 0 = b at *
        obtain ⟨l', e2, X2⟩ := X1.incI (idOw id)
        have lt1 := X1.lt_ (idOw id)
        have lt2 := X2.lt_ (idOw id)
        have hin2 : (F1.incI (idOw id)).i (idOw id) = F.i (idOw id) + 1 := by rw [← hin]; cases idOw id <;> rfl
        rw [hin] at lt1 e2
        rw [hin2] at lt2
        have g1 := X1.gq
        have g2 := X2.gq
        have l12 : ldVar Try.prog 269 q 12 B = some (.map tl) := by simp only [fiC] at g1; simp [ldVar, g1]
        have l12' : ldVar Try.prog 269 q 12 (B.set tl (.map l')) = some (.map tl) := by simp only [fiC] at g2; simp only [ldVar, g2]; simp
        have kX : Kp (B.set tl (.map l')) ((B.set tl (.map l')).push (.cells 72 false (frmC 18 (F.i (idOw id) + 1) (if idOw id then 1 else 0)))) := (Kp.refl _).push _
        have X3 := X2.kp kX
        have hbs : ∀ x ∈ bs, x < h.next := fun x hx => X.lt x (mem6 hx)
        refine ⟨.slice h.next 0 1, 0, _, (B.set tl (.map l')).push (.cells 72 false (frmC 18 (F.i (idOw id) + 1) (if idOw id then 1 else 0))), ?_, rfl, bs, [h.next], X3, ?_, fun b hb => .inl hb, one72 (by simp [nB]) (by simp [nB]) (InK.i64 (by omega) (by omega)) (InK.i64 (by omega) (by omega)) (InK.i64 (by split <;> omega) (by split <;> omega)), by simp, by simp, fun b hb hx => by simp at hb; have := hbs b hx; omega⟩
        · have w1 : IntKind.i64.wrap (F.i (idOw id) + 1) = F.i (idOw id) + 1 := wrap_i64 (n := F.i (idOw id) + 1) (by omega) (by omega)
          have w2 : (F.i (idOw id) == 1152921504606846976) = false := by simp; omega
          have nC : (B.set tl (.map l')).next = h.next := by simpa using nB
          generalize hI : F.i (idOw id) = I at *
          generalize hC : B.set tl (.map l') = C at *
          clear bad kX X3 X2 X1 kB
          rw [ev_M Try.func114 ok114 [] m _ h (by simp [Try.f114])]
          by_cases c3 : id / 2 % 2 = 1
          · have hw : idOw id = true := by simp [idOw, c3]
            rw [if_pos c3] at a2
            simp only [hw, if_true, frmC] at lt1 lt2 e2 ⊢
            simp [Try.f114, tm0, l9, lk, e1, l5, hst, a2, l12, l12', lt1, lt2, e2, w1, w2, fillA, zerosA, spl, nC, U]
          · have hw : idOw id = false := by simp [idOw, c3]
            rw [if_neg c3] at a2
            simp only [hw, Bool.false_eq_true, if_false, frmC] at lt1 lt2 e2 ⊢
            simp [Try.f114, tm0, l9, lk, e1, l5, hst, a2, l12, l12', lt1, lt2, e2, w1, w2, fillA, zerosA, spl, nC, U]
        · exact ((kB.set1 (by simp) _).trans (kX.koS (q :: mp :: op :: pt :: tl :: bs)) (fun b hb => .inl hb))
theorem raiseI_ev {S : Sup} {F : Fw} {k0 : Nat} {q mp op pt tl : Nat} {bs : List Nat} {h : AH} (X : FwI S F q mp op pt tl bs h) (G : F.good S k0) (k id n : Int) (w : Bool) (hk : k = 6 ∨ k = 7 ∨ k = 8) (m : Nat) (hm : 10 ≤ m) :
    ∃ h', ev Try.prog m 115 [.ptr q 0, .agg (opC k id n w)] h = some (.int .i64 (toldP S F k id n w).2, h') ∧ StpI S (toldP S F k id n w).1 q mp op pt tl bs h h' := by
  obtain ⟨m, rfl⟩ : ∃ k, m = k + 1 := ⟨m - 1, by omega⟩
  let A0 : AH := h.push (.cells 65 false (opC k id n w))
  have kA : Kp h A0 := (Kp.refl h).push _
  have X0 := X.kp kA
  have qn := X.nq.1
  have nq : ¬ (q = h.next) := by omega
  have np : ¬ (h.next = q) := by omega
  have e1 := sending_ev X0 G id m (by omega)
  have g := X.gq
  have g0 := X0.gq
  have st0 : StpI S F q mp op pt tl bs h A0 := ⟨bs, X0, kA.koS _, fun b hb => .inl hb⟩
  have hA0 : h.push (.cells 65 false [.int .i64 k, .int .i64 id, .int .i64 n, .bool w]) = A0 := rfl
  have a0 : ldVar Try.prog 3 h.next 0 A0 = some (.int .i64 k) := by simp [ldVar, A0, opC]
  have a1 : ldVar Try.prog 3 h.next 1 A0 = some (.int .i64 id) := by simp [ldVar, A0, opC]
  have a2 : ldVar Try.prog 3 h.next 2 A0 = some (.int .i64 n) := by simp [ldVar, A0, opC]
  have a3 : ldVar Try.prog 4 h.next 3 A0 = some (.bool w) := by simp [ldVar, A0, opC]
  unfold toldP
  by_cases c0 : n < 0
  · have : ¬ inW n := fun h => by have := h.1; omega
    rw [if_pos (.inl this)]
    refine ⟨A0, ?_, st0⟩
    clear_value A0
    simp only [opC]
    rw [ev_M Try.func115 ok115 [] m _ h (by simp [Try.f115])]
    rcases hk with rfl | rfl | rfl <;> simp [Try.f115, tm0, hA0, a0, a2, c0, U]
  have c0' := eq_false c0
  by_cases c1 : inW n
  · have c1a : (4611686018427387903 < n) = False := eq_false (by have := c1.2; omega)
    by_cases c2 : k = 8 ∧ 1152921504606846976 < n
    · obtain ⟨rfl, c2'⟩ := c2
      rw [if_pos (.inr ⟨rfl, c2'⟩)]
      refine ⟨A0, ?_, st0⟩
      clear_value A0
      simp only [opC]
      rw [ev_M Try.func115 ok115 [] m _ h (by simp [Try.f115])]
      simp [Try.f115, tm0, hA0, a0, a2, c0', c2', U]
    · rw [if_neg (by intro h; rcases h with h | h; exact h c1; exact c2 h)]
      rcases hk with rfl | rfl | rfl
      · rw [if_pos rfl]
        have hmx : (if F.cc < n then n else F.cc) = max F.cc n := by split <;> omega
        have l13 : ldVar Try.prog 3 q 13 A0 = some (.int .i64 F.cc) := by simp only [fiC] at g0; simp only [ldVar, g0]; simp
        have s13 : stVar Try.prog 3 q 13 (.int .i64 (max F.cc n)) A0 = some (A0.set q (.cells 271 false (fiC S { F with cc := max F.cc n } mp op pt tl))) := by simp only [fiC] at g0 ⊢; simp only [stVar, g0]; simp [spl]
        refine ⟨A0.set q (.cells 271 false (fiC S { F with cc := max F.cc n } mp op pt tl)), ?_, bs, X0.fld rfl ⟨rfl, rfl⟩ ⟨rfl, rfl⟩ ⟨rfl, rfl⟩ (by simp) (by simp) (fun x hx => AH.set_getN _ _ (fun e => by have := X.nd; rw [List.nodup_cons] at this; exact this.1 (e ▸ hx))), (kA.koS _).set1 (by simp) _, fun b hb => .inl hb⟩
        clear_value A0
        simp only [opC]
        rw [ev_M Try.func115 ok115 [] m _ h (by simp [Try.f115])]
        simp [Try.f115, tm0, hA0, a0, a2, c0', c1a, l13, mx2, foldA, hmx, s13, evHist, ObsOk, ObOk, List.getElem?_cons_zero]
      · rw [if_neg (by decide), if_pos rfl]
        cases hs : sendsP S F.L id with
        | none =>
          rw [hs] at e1
          refine ⟨A0, ?_, st0⟩
          simp only [ptrO] at e1
          clear_value A0
          simp only [opC]
          rw [ev_M Try.func115 ok115 [] m _ h (by simp [Try.f115])]
          simp [Try.f115, tm0, hA0, a0, a1, a2, c0', c1a, e1]
        | some i =>
          rw [hs] at e1
          simp only [ptrO] at e1
          have hi := sendsP_lt hs
          have gb := X0.gb i hi
          obtain ⟨u0, u1, u2, u3, u4, u5, u6⟩ := X0.nds hi
          dsimp only
          have hmx : (if F.L[i].cr < n then n else F.L[i].cr) = max F.L[i].cr n := by split <;> omega
          have lc : ldVar Try.prog 3 (bs.getD i 0) 0 A0 = some (.int .i64 F.L[i].cr) := by simp only [Bk.c5] at gb; simp only [ldVar, gb]; simp
          have sc : stVar Try.prog 3 (bs.getD i 0) 0 (.int .i64 (max F.L[i].cr n)) A0 = some (A0.set (bs.getD i 0) (.cells 277 false (Bk.c5 { F.L[i] with cr := max F.L[i].cr n }))) := by simp only [Bk.c5] at gb ⊢; simp only [stVar, gb]; simp [spl]
          have hsum : sumI Bk.se (F.L.set i { F.L[i] with cr := max F.L[i].cr n }) = sumI Bk.se F.L := by rw [sumI_set Bk.se F.L i hi]; simp only; omega
          have hsum2 : sumI Bk.ca (F.L.set i { F.L[i] with cr := max F.L[i].cr n }) = sumI Bk.ca F.L := by rw [sumI_set Bk.ca F.L i hi]; simp only; omega
          refine ⟨A0.set (bs.getD i 0) (.cells 277 false (Bk.c5 { F.L[i] with cr := max F.L[i].cr n })), ?_, bs, ?_, (kA.koS _).set1 (mem6 u0) _, fun b hb => .inl hb⟩
          · generalize bs.getD i 0 = b at *
            clear_value A0
            simp only [opC]
            rw [ev_M Try.func115 ok115 [] m _ h (by simp [Try.f115])]
            simp [Try.f115, tm0, hA0, a0, a1, a2, c0', c1a, e1, lc, mx2, foldA, hmx, sc, evHist, ObsOk, ObOk, List.getElem?_cons_zero]
          · refine X0.upd hi { F.L[i] with cr := max F.L[i].cr n } rfl (by simp only [Fw.upd, at_L hi]) ⟨rfl, rfl⟩ ⟨rfl, rfl⟩ ⟨rfl, rfl⟩ (by simp) ?_ (by simp) (fun x hx hxb => AH.set_getN _ _ hxb)
            rw [AH.set_getN _ _ (fun e => u2 e.symm), g0]
            simp only [fiC, Fw.upd, at_L hi, hsum, hsum2]
      · rw [if_neg (by decide), if_neg (by decide)]
        have c2' : (1152921504606846976 < n) = False := eq_false (fun h => c2 ⟨rfl, h⟩)
        obtain ⟨l', e2, X2⟩ := X0.maxM w n
        have lp := X0.lp w
        have hmx : (if F.m w < n then n else F.m w) = max (F.m w) n := by split <;> omega
        have l11 : ldVar Try.prog 269 q 11 A0 = some (.map pt) := by simp only [fiC] at g0; simp only [ldVar, g0]; simp
        refine ⟨A0.set pt (.map l'), ?_, bs, X2, (kA.koS _).set1 (by simp) _, fun b hb => .inl hb⟩
        clear_value A0
        simp only [opC]
        rw [ev_M Try.func115 ok115 [] m _ h (by simp [Try.f115])]
        simp [Try.f115, tm0, hA0, a0, a2, a3, c0', c2', l11, lp, mx2, foldA, hmx, e2, evHist, ObsOk, ObOk, List.getElem?_cons_zero]
  · rw [if_pos (.inl c1)]
    have c1a : 4611686018427387903 < n := by
      apply Classical.byContradiction; intro h; exact c1 ⟨by omega, by omega⟩
    have c1b : 1152921504606846976 < n := by omega
    refine ⟨A0, ?_, st0⟩
    clear_value A0
    simp only [opC]
    rw [ev_M Try.func115 ok115 [] m _ h (by simp [Try.f115])]
    rcases hk with rfl | rfl | rfl <;> simp [Try.f115, tm0, hA0, a0, a2, c0', c1a, c1b, U]
end Go.Ev
