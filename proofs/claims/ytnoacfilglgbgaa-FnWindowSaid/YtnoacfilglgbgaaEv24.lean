/- Lemmas of an evaluator of the given code and of what the functions answer; no condition of its own. -/
import Derived.Test.YtnoacfilglgbgaaEv23
/- The drawn congestion run: what may be odd of an operation. -/
namespace Go.Ev
open Go Go.Proofs
set_option linter.unusedSimpArgs false
set_option linter.unusedVariables false

theorem upd_ne {τ : Tm} {d j : Nat} {v : AV} (h : j ≠ d) : upd τ d v j = τ j := by unfold upd; rw [if_neg h]
theorem koS_pq {h h' : AH} {p q : Nat} (hn : h.next ≤ h'.next) (hg : ∀ b, b < h.next → b ≠ p → b ≠ q → h'.get b = h.get b) : KoS ([p] ++ [q]) h h' :=
  ⟨hn, fun b hb hn' => by simp only [List.cons_append, List.nil_append, List.mem_cons, List.not_mem_nil, or_false, not_or] at hn'; exact hg b hb hn'.1 hn'.2⟩
set_option maxHeartbeats 4000000 in
theorem dw3 {H h : AH} {q p : Nat} {v : AV} {bs : List Nat} {x : DrS} {outs : List tT40.D} {v6 v8 v9 : AV} {b6 b8 b9 : List Nat} (r : DrR H h q [p] v bs x outs v6 v8 v9 b6 b8 b9) {K : Nat} (hp : x.S.pos ≤ K) (hK : K ≤ 900000)
    {o : CcOpP} (ho : h.get p = some (.cells 40 false (opC o))) {kind trip i : Int} {now : Int} (m : Nat) (hm : 10 ≤ m) (τ : Tm) (hτ : DrT τ q kind trip i now v6 v8 v9) (t12 : τ 12 = .ptr p 0) :
    ∃ (τ' : Tm) (h' : AH), evAt Try.prog (ev Try.prog m) m 24 2095695 τ h = evAt Try.prog (ev Try.prog m) m 24 4191391 τ' h' ∧
      DrT τ' q kind trip i now v6 v8 v9 ∧ τ' 12 = .ptr p 0 ∧ h'.get p = some (.cells 40 false (opC (dwC o x.S).1)) ∧ DrR H h' q [p] v bs { x with S := (dwC o x.S).2 } outs v6 v8 v9 b6 b8 b9 ∧ (dwC o x.S).2.pos ≤ K + 9 := by
  obtain ⟨t4, t5, t6, t7, t8, t9, t10, t11⟩ := hτ
  have ho' := ho
  simp only [opC] at ho
  have h0 := r.src
  have hq := h0.lt
  have mp := r.pl p (by simp)
  have hpq : p ≠ q := by have := r.nd; simp at this; grind
  have hqp := Ne.symm hpq
  have hbs := r.bs
  have hlo := r.lo p (by simp)
  have hpb : p ∉ bs := fun e => by have := hbs _ e; omega
  obtain ⟨c, S1, d1, a1, p1, e1, h1⟩ := draw h0 hp (by omega) 80 (by omega) (by omega) m (by omega)
  have hpn : ¬ (p = h.next) := by omega
  have hnp : ¬ (h.next = p) := by omega
  have hnq : ¬ (h.next = q) := by omega
  have hqn : ¬ (q = h.next) := by omega
  have fin : ∀ (o2 : CcOpP) (S2 : Src), dwC o x.S = (o2, S2) → (∃ (τ' : Tm) (h2 : AH), evAt Try.prog (ev Try.prog m) m 24 2095695 τ h = evAt Try.prog (ev Try.prog m) m 24 4191391 τ' h2 ∧ (∀ j, j < 13 → τ' j = τ j) ∧
      h2.get p = some (.cells 40 false (opC o2)) ∧ h.next ≤ h2.next ∧ (∀ b, b < h.next → b ≠ p → b ≠ q → h2.get b = h.get b) ∧ SrcI h2 q v S2 bs ∧ S2.pos ≤ K + 9) →
      ∃ (τ' : Tm) (h' : AH), evAt Try.prog (ev Try.prog m) m 24 2095695 τ h = evAt Try.prog (ev Try.prog m) m 24 4191391 τ' h' ∧
      DrT τ' q kind trip i now v6 v8 v9 ∧ τ' 12 = .ptr p 0 ∧ h'.get p = some (.cells 40 false (opC (dwC o x.S).1)) ∧ DrR H h' q [p] v bs { x with S := (dwC o x.S).2 } outs v6 v8 v9 b6 b8 b9 ∧ (dwC o x.S).2.pos ≤ K + 9 := by
    rintro o2 S2 hd ⟨τ', h2, f1, hj, f3, f4, f5, f6, f7⟩
    rw [hd]
    exact ⟨τ', h2, f1, ⟨(hj 4 (by omega)).trans t4, (hj 5 (by omega)).trans t5, (hj 6 (by omega)).trans t6, (hj 7 (by omega)).trans t7, (hj 8 (by omega)).trans t8, (hj 9 (by omega)).trans t9, (hj 10 (by omega)).trans t10, (hj 11 (by omega)).trans t11⟩,
      (hj 12 (by omega)).trans t12, f3, r.stay (koS_pq f4 f5) f6, f7⟩
  have hat := at_M Try.func24 2095695 (by decide) 22 (by decide) (by kernel_rfl) [4191391] (ev Try.prog m) m τ h
  have od := odd_ev h1 (by omega) m (by omega)
  have h6 := (h1.push (.cells 3 false (oddL.map (.int .i64)))).next (by omega) 6
  have p6 := nextP_p (n := 6) p1
  by_cases c0 : c = 0
  · subst c0
    refine fin { o with t := pickP oddL S1 } (nextP 6 S1).2 (by unfold dwC; simp [d1]) ?_
    generalize (nextP 6 S1).2 = S2 at *
    generalize pickP oddL S1 = V at *
    generalize List.map (AV.int .i64) oddL = L at *
    refine ⟨_, _, by rw [hat]; simp (disch := omega) [Try.f24, t4, t12, ho, e1, od, ldVar, stVar, spl, hpq, hqp, hpn, hnp, hnq, hqn]; rfl, ?_, by simp [opC], by simp, ?_, ?_, by omega⟩
    · clear fin hat od h6 e1 h1 h0 r ho ho'; intro j hj; simp (disch := omega) only [upd_ne]
    · intro b hb hbp hbq; rw [AH.set_getN _ _ hbp, AH.set_getN _ _ hbq, AH.push_get, if_neg (by simp; omega), AH.set_getN _ _ hbq]
    · exact h6.set_ne _ hpq hpb
  by_cases c1 : c = 1
  · subst c1
    refine fin { o with s := pickP oddL S1 } (nextP 6 S1).2 (by unfold dwC; simp [d1]) ?_
    generalize (nextP 6 S1).2 = S2 at *
    generalize pickP oddL S1 = V at *
    generalize List.map (AV.int .i64) oddL = L at *
    refine ⟨_, _, by rw [hat]; simp (disch := omega) [Try.f24, t4, t12, ho, e1, od, ldVar, stVar, spl, hpq, hqp, hpn, hnp, hnq, hqn]; rfl, ?_, by simp [opC], by simp, ?_, ?_, by omega⟩
    · clear fin hat od h6 e1 h1 h0 r ho ho'; intro j hj; simp (disch := omega) only [upd_ne]
    · intro b hb hbp hbq; rw [AH.set_getN _ _ hbp, AH.set_getN _ _ hbq, AH.push_get, if_neg (by simp; omega), AH.set_getN _ _ hbq]
    · exact h6.set_ne _ hpq hpb
  by_cases c2 : c = 2
  · subst c2
    obtain ⟨d, S2, d2, a2, p2, e2, h2⟩ := draw (h1.push (.cells 3 false ([-1, 0, 2000, 2001].map (AV.int .i64)))) p1 (by omega) 4 (by omega) (by omega) m (by omega)
    have g2 := lk_get (l := [-1, 0, 2000, 2001]) (k := d) (by simp; omega)
    simp only [List.map_cons, List.map_nil] at g2 e2 h2
    refine fin { o with b := lkP [-1, 0, 2000, 2001] d } S2 (by unfold dwC; simp [d1, d2]) ?_
    generalize lkP [-1, 0, 2000, 2001] d = V at *
    have hd4 : (d : Int) < 4 := a2
    refine ⟨_, _, by rw [hat]; simp (disch := omega) [Try.f24, t4, t12, ho, e1, e2, g2, hd4, ldVar, stVar, spl, zerosA, fillA, idxA, hpq, hqp, hpn, hnp, hnq, hqn, if_pos, if_neg]; rfl, ?_, by simp [opC], by simp, ?_, ?_, by omega⟩
    · clear fin hat od h6 e1 h1 h0 r ho ho'; intro j hj; simp (disch := omega) only [upd_ne]
    · intro b hb hbp hbq; rw [AH.set_getN _ _ hbp, AH.set_getN _ _ hbq, AH.push_get, if_neg (by simp; omega), AH.set_getN _ _ hbq]
    · exact h2.set_ne _ hpq hpb
  by_cases c3 : c = 3
  · subst c3
    obtain ⟨d, S2, d2, a2, p2, e2, h2⟩ := draw (h1.push (.cells 3 false ([0, 1, 1000000000000, 1000000000001].map (AV.int .i64)))) p1 (by omega) 4 (by omega) (by omega) m (by omega)
    have g2 := lk_get (l := [0, 1, 1000000000000, 1000000000001]) (k := d) (by simp; omega)
    simp only [List.map_cons, List.map_nil] at g2 e2 h2
    refine fin { o with p := lkP [0, 1, 1000000000000, 1000000000001] d } S2 (by unfold dwC; simp [d1, d2]) ?_
    generalize lkP [0, 1, 1000000000000, 1000000000001] d = V at *
    have hd4 : (d : Int) < 4 := a2
    refine ⟨_, _, by rw [hat]; simp (disch := omega) [Try.f24, t4, t12, ho, e1, e2, g2, hd4, ldVar, stVar, spl, zerosA, fillA, idxA, hpq, hqp, hpn, hnp, hnq, hqn, if_pos, if_neg]; rfl, ?_, by simp [opC], by simp, ?_, ?_, by omega⟩
    · clear fin hat od h6 e1 h1 h0 r ho ho'; intro j hj; simp (disch := omega) only [upd_ne]
    · intro b hb hbp hbq; rw [AH.set_getN _ _ hbp, AH.set_getN _ _ hbq, AH.push_get, if_neg (by simp; omega), AH.set_getN _ _ hbq]
    · exact h2.set_ne _ hpq hpb
  by_cases c4 : c = 4
  · subst c4
    obtain ⟨d, S2, d2, a2, p2, e2, h2⟩ := draw h1 p1 (by omega) 7 (by omega) (by omega) m (by omega)
    refine fin { o with k := (d : Int) - 1 } S2 (by unfold dwC; simp [d1, d2]) ?_
    rw [set_set] at e2 h2
    refine ⟨_, _, by rw [hat]; simp (disch := omega) [Try.f24, t4, t12, ho, e1, e2, ldVar, stVar, spl, hpq, hqp, hpn, hnp, hnq, hqn, wrapI]; rfl, ?_, by simp [opC], by simp, ?_, ?_, by omega⟩
    · clear fin hat od h6 e1 h1 h0 r ho ho'; intro j hj; simp (disch := omega) only [upd_ne]
    · intro b hb hbp hbq; rw [AH.set_getN _ _ hbp, AH.set_getN _ _ hbq]
    · exact h2.set_ne _ hpq hpb
  · have k0 : ¬ (c : Int) = 0 := by omega
    have k1 : ¬ (c : Int) = 1 := by omega
    have k2 : ¬ (c : Int) = 2 := by omega
    have k3 : ¬ (c : Int) = 3 := by omega
    have k4 : ¬ (c : Int) = 4 := by omega
    refine fin o S1 (by unfold dwC; simp only [d1]; rw [if_neg k0, if_neg k1, if_neg k2, if_neg k3, if_neg k4]) ?_
    refine ⟨_, _, by rw [hat]; simp (disch := omega) [Try.f24, t4, t12, e1, beqF, c0, c1, c2, c3, c4]; rfl, ?_, by simp [hpq, ho'], by simp, ?_, h1, by omega⟩
    · clear fin hat od h6 e1 h1 h0 r ho ho'; intro j hj; simp (disch := omega) only [upd_ne]
    · intro b hb hbp hbq; rw [AH.set_getN _ _ hbq]
end Go.Ev

/- The drawn congestion run: a round, the loop. -/
namespace Go.Ev
open Go Go.Proofs
set_option linter.unusedSimpArgs false
set_option linter.unusedVariables false

structure OpIn (o : CcOpP) : Prop where
  k : InK .i64 o.k
  t : InK .i64 o.t
  b : InK .i64 o.b
  s : InK .i64 o.s
  p : InK .i64 o.p
theorem lk_mem {l : List Int} {i : Int} : lkP l i ∈ l ∨ lkP l i = 0 := by
  unfold lkP
  cases h : l[i.toNat]? with
  | none => right; rfl
  | some x => left; exact List.mem_of_getElem? h
theorem odd_in (S : Src) : InK .i64 (pickP oddL S) := by
  rcases lk_mem (l := oddL) (i := (nextP oddL.length S).1) with h | h
  · have h' : pickP oddL S ∈ oddL := h
    generalize pickP oddL S = V at *
    simp only [oddL, List.mem_cons, List.not_mem_nil, or_false] at h'
    rcases h' with rfl | rfl | rfl | rfl | rfl | rfl <;> exact InK.i64 (by decide) (by decide)
  · have h' : pickP oddL S = 0 := h
    rw [h']; exact InK.i64 (by decide) (by decide)
theorem small_in {x : Int} (h : -1000000000000000 ≤ x ∧ x ≤ 1000000000000000) : InK .i64 x := InK.i64 (by omega) (by omega)
theorem dwC_in {H : AH} {q : Nat} {v : AV} {bs : List Nat} {o : CcOpP} {S : Src} (h0 : SrcI H q v S bs) {K : Nat} (hp : S.pos ≤ K) (hK : K ≤ 900000) (ho : OpIn o) : OpIn (dwC o S).1 := by
  have h1 := h0.next (by omega) 80
  have p1 := nextP_p (n := 80) hp
  have i7 := nextP_in h1 (by omega) 7
  unfold dwC
  simp only
  have m7 : mxI 1 7 = 7 := by decide
  rw [m7] at i7
  split
  · exact ⟨ho.k, odd_in _, ho.b, ho.s, ho.p⟩
  · split
    · exact ⟨ho.k, ho.t, ho.b, odd_in _, ho.p⟩
    · split
      · refine ⟨ho.k, ho.t, ?_, ho.s, ho.p⟩
        rcases lk_mem (l := [-1, 0, 2000, 2001]) (i := (nextP 4 (nextP 80 S).2).1) with h | h
        · simp only [List.mem_cons, List.not_mem_nil, or_false] at h
          exact small_in (by simp only; rcases h with h | h | h | h <;> rw [h] <;> omega)
        · exact small_in (by simp only; rw [h]; omega)
      · split
        · refine ⟨ho.k, ho.t, ho.b, ho.s, ?_⟩
          rcases lk_mem (l := [0, 1, 1000000000000, 1000000000001]) (i := (nextP 4 (nextP 80 S).2).1) with h | h
          · simp only [List.mem_cons, List.not_mem_nil, or_false] at h
            exact small_in (by simp only; rcases h with h | h | h | h <;> rw [h] <;> omega)
          · exact small_in (by simp only; rw [h]; omega)
        · split
          · exact ⟨small_in (by simp only; omega), ho.t, ho.b, ho.s, ho.p⟩
          · exact ho
/-- a round, but for its last append -/
theorem dwR {H h : AH} {q : Nat} {v : AV} {bs : List Nat} {x : DrS} {outs : List tT40.D} {v6 v8 v9 : AV} {b6 b8 b9 : List Nat} (r : DrR H h q [] v bs x outs v6 v8 v9 b6 b8 b9) {n : Nat} (hB : DrB x n) (hn : n ≤ 900) {K : Nat} (hp : x.S.pos ≤ K) (hK : K ≤ 800000)
    (hnow : 0 ≤ x.now ∧ x.now ≤ 900000000) {kind trip i : Int} (ht : 0 ≤ trip ∧ trip ≤ 1000000) (m : Nat) (hm : 10 ≤ m) (τ : Tm) (hτ : DrT τ q kind trip i x.now v6 v8 v9) :
    ∃ (τ' : Tm) (h' : AH) (p : Nat) (v8' v9' : AV) (b8' b9' : List Nat), evAt Try.prog (ev Try.prog m) m 24 130980 τ h = evAt Try.prog (ev Try.prog m) m 24 4191391 τ' h' ∧
      DrT τ' q kind trip i (dwD trip x).2.now v6 v8' v9' ∧ τ' 12 = .ptr p 0 ∧ h'.get p = some (.cells 40 false (opC (dwD trip x).1)) ∧ DrR H h' q [p] v bs (dwD trip x).2 outs v6 v8' v9' b6 b8' b9' ∧ DrB (dwD trip x).2 (n + 1) ∧
      (dwD trip x).2.S.pos ≤ K + 27 ∧ x.now ≤ (dwD trip x).2.now ∧ (dwD trip x).2.now ≤ x.now + 40000 ∧ OpIn (dwD trip x).1 := by
  have m6 := r.src.lt
  obtain ⟨τ1, h1, B, S3, e1, s3, hBv, l1, l2, T1, src1, K1, p1⟩ := dw0 (H := H) r.src hp (by omega) (by omega) m hm τ hτ
  have r1 : DrR H h1 q [] v bs { x with S := S3 } outs v6 v8 v9 b6 b8 b9 := r.stay (by simpa using K1) src1
  obtain ⟨τ2, h2, o, S6, e2, s6, hov, ob1, ob2, ok1, ok2, op1, op2, T2, t12, g2, n2, src2, K2, p2⟩ := dw1 src1 p1 (by omega) (by omega) ht m hm τ1 T1
  have r2 := r1.more (h1.next + 1) (by omega) n2 K2 src2
  have hA : dwA trip x = (o, ⟨S6, B, x.fl, x.tm⟩) := by
    unfold dwA
    simp only
    rw [s3, ← hBv, s6, ← hov]
  have hB1 : DrB ⟨S6, B, x.fl, x.tm⟩ n := ⟨hB.len, hB.le, hB.fl, hB.tm⟩
  have r2' : DrR H h2 q [h1.next + 1] v bs ⟨S6, B, x.fl, x.tm⟩ outs v6 v8 v9 b6 b8 b9 := ⟨r2.src, r2.bs, r2.ops, r2.fl, r2.tm, r2.nd, r2.lo, r2.pl, r2.kp⟩
  obtain ⟨τ3, h3, v8', v9', b8', b9', e3, T3, t3, g3, r3, hB3⟩ := dw2 r2' hB1 hn g2 ⟨ob1, ob2⟩ ⟨by simp only; omega, by simp only; omega⟩ m τ2 T2 t12
  have hS3 : (dwB o ⟨S6, B, x.fl, x.tm⟩).2.S = S6 ∧ (dwB o ⟨S6, B, x.fl, x.tm⟩).2.now = B := by
    unfold dwB; repeat' split
    all_goals exact ⟨rfl, rfl⟩
  have hp3 : (dwB o ⟨S6, B, x.fl, x.tm⟩).2.S.pos ≤ K + 9 + 9 := by rw [hS3.1]; omega
  obtain ⟨τ4, h4, e4, T4, t4, g4, r4, p4⟩ := dw3 r3 hp3 (by omega) g3 m hm τ3 T3 t3
  have hin : OpIn (dwB o ⟨S6, B, x.fl, x.tm⟩).1 := by
    have hoi : OpIn o := by
      rw [hov] at *
      exact ⟨small_in (by simp only at *; omega), small_in (by simp only; omega), small_in (by simp only at *; omega), small_in (by simp only; omega), small_in (by simp only at *; omega)⟩
    unfold dwB
    split
    · exact hoi
    · split
      · cases hfl : x.fl with
        | nil => exact hoi
        | cons f fl => cases htm : x.tm with
          | nil => exact hoi
          | cons t tm =>
            have h1 := hB.fl f (by rw [hfl]; simp)
            have h2 := hB.tm t (by rw [htm]; simp)
            exact ⟨hoi.k, hoi.t, small_in (by simp only; omega), small_in (by simp only; omega), hoi.p⟩
      · exact hoi
  have hC := dwC_in r3.src hp3 (by omega) hin
  unfold dwD
  simp only [hA]
  refine ⟨τ4, h4, h1.next + 1, v8', v9', b8', b9', by rw [e1, e2, e3, e4], by rw [hS3.2]; exact T4, t4, g4, r4, ⟨hB3.len, hB3.le, hB3.fl, hB3.tm⟩, by show (dwC _ _).2.pos ≤ _; omega, by rw [hS3.2]; exact l1, by rw [hS3.2]; exact l2, hC⟩
theorem app_op {X : AH} {v : AV} {l : List tT40.D} {bs : List Nat} {o : CcOpP} (h : (Ty.sl 40 tT40).R true X [v] l bs) (hnd : bs.Nodup) (ho : OpIn o) (hl : l.length ≤ 1000000) :
    ∃ v' X' bs', appA Try.prog 27 27 v (.slice X.next 0 1) (X.push (.cells 40 false (opC o))) = some (v', X') ∧ (Ty.sl 40 tT40).R true X' [v'] (l ++ [o.d]) bs' ∧ bs'.Nodup ∧ (∀ b ∈ bs', b ∈ bs ∨ X.next ≤ b) ∧ KoS bs X X' := by
  obtain ⟨v', X', bs', h1, h2, h3, h4, h5⟩ := Ty.R.app1 (P := Try.prog) (T := 27) h (i40 (rw := true) (H := X) ho.k ho.t ho.b ho.s ho.p) (by simpa using hnd) (by simp) (by simp) (by simp [Ty.n]) (by_ := 40) (by simp) (z := [.int .i64 0, .int .i64 0, .int .i64 0, .int .i64 0, .int .i64 0]) (by simp) (by simp [Ty.n]) (by omega) (by omega)
  exact ⟨v', X', bs', h1, h2, h3, fun b hb => by rcases h4 b hb with h | h | h <;> simp_all, h5⟩
def DwI (N : Nat) (all : List tT40.D) (H : AH) (q : Nat) (v : AV) (bs : List Nat) (kind trip : Int) (d : Nat) (τ : Tm) (h : AH) : Prop :=
  ∃ (k : Nat) (x : DrS) (outs : List tT40.D) (v6 v8 v9 : AV) (b6 b8 b9 : List Nat), k + d = N ∧ DrT τ q kind trip ((d : Int) - 1) x.now v6 v8 v9 ∧ DrR H h q [] v bs x outs v6 v8 v9 b6 b8 b9 ∧ DrB x k ∧ x.S.pos ≤ 100 + 27 * k ∧
    0 ≤ x.now ∧ x.now ≤ 40000 * k ∧ outs.length = k ∧ outs ++ dwDraws trip d x = all
theorem dwLoop {N : Nat} {all : List tT40.D} {H h : AH} {q : Nat} {v : AV} {bs : List Nat} {kind trip : Int} (hN : N ≤ 200) (ht : 0 ≤ trip ∧ trip ≤ 1000000) (m : Nat) (hm : 210 ≤ m) (τ : Tm) (hI : DwI N all H q v bs kind trip N τ h) :
    ∃ e τ' H', evLoop Try.prog (ev Try.prog m) m (lp Try.prog 24 8186) τ h = some (e, τ', H') ∧ e = .exit 0 ∧ DwI N all H q v bs kind trip 0 τ' H' := by
  refine loop_rule (d := N) (DwI N all H q v bs kind trip) (fun e τ h => e = .exit 0 ∧ DwI N all H q v bs kind trip 0 τ h) ?_ hI (by omega)
  intro d τ h hI
  obtain ⟨k, x, outs, v6, v8, v9, b6, b8, b9, hk, hτ, r, hB, hp, n0, n1, hol, hall⟩ := hI
  have hτ' := hτ
  obtain ⟨t4, t5, t6, t7, t8, t9, t10, t11⟩ := hτ
  rw [lp_M Try.func24 8186 (by decide) 13 (by decide) (by kernel_rfl) [130980]]
  by_cases hd0 : d = 0
  · subst hd0
    have hc : ¬ ((0 : Int) ≤ 0 - 1) := by omega
    simp [Try.f24, t11]
    exact ⟨k, x, outs, v6, v8, v9, b6, b8, b9, hk, ⟨by simp [t4], by simp [t5], by simp [t6], by simp [t7], by simp [t8], by simp [t9], by simp [t10], by simp [t11]⟩, r, hB, hp, n0, n1, hol, hall⟩
  · have hge : (0 : Int) ≤ (d : Int) - 1 := by omega
    simp (disch := omega) [Try.f24, t11, decT]
    generalize hτ1 : upd _ 35 _ = τ1
    have T1 : DrT τ1 q kind trip ((d : Int) - 1) x.now v6 v8 v9 := by
      rw [← hτ1]; exact ⟨by simp [t4], by simp [t5], by simp [t6], by simp [t7], by simp [t8], by simp [t9], by simp [t10], by simp [t11]⟩
    obtain ⟨τ2, h2, p, v8', v9', b8', b9', e1, T2, t12, g2, r2, hB2, p2, l1, l2, ho⟩ := dwR r hB (by omega) hp (by omega) ⟨n0, by omega⟩ ht m (by omega) τ1 T1
    have r2' := r2.less
    obtain ⟨v6', h3, b6', a1, a2, a3, a4, a5⟩ := app_op r2.ops (by have := r2'.nd; simp at this; grind) ho (by omega)
    rw [e1, at_M Try.func24 4191391 (by decide) 22 (by decide) (by kernel_rfl) []]
    have hpn := r2.pl p (by simp)
    obtain ⟨s4, s5, s6, s7, s8, s9, s10, s11⟩ := T2
    have hw : IntKind.i64.wrap ((d : Int) - 1 - 1) = (d : Int) - 1 - 1 := wrap_i64 (by omega) (by omega)
    simp only [opC] at a1 g2
    simp [Try.f24, s4, s6, s11, t12, g2, ldVar, zerosA, fillA, spl, a1, hw]
    have hn5 := a5.next
    have hnd := r2'.nd
    simp only [List.nil_append, List.nodup_cons, List.nodup_append, List.mem_append] at hnd
    have hlo := r2'.lo
    simp only [List.nil_append, List.mem_cons, List.mem_append] at hlo
    have hbs := r2'.bs
    have m8 := r2'.fl.mem
    have m9 := r2'.tm.mem
    have mq := r2'.src.lt
    have hb6 : ∀ b ∈ bs, b ∉ b6 := fun b hb e => by have := hbs b hb; have := hlo b (by simp [e]); omega
    have r3 : DrR H h3 q [] v bs (dwD trip x).2 (outs ++ [(dwD trip x).1.d]) v6' v8' v9' b6' b8' b9' := by
      refine ⟨r2'.src.ko hn5 (a5.get q mq (by grind)) fun b hb => a5.get b (by have := hbs b hb; have := r2'.kp.next; omega) (hb6 b hb), hbs, a2, r2'.fl.koS a5 (by grind), r2'.tm.koS a5 (by grind), ?_, ?_, by simp, ?_⟩
      · simp only [List.nil_append, List.nodup_cons, List.nodup_append, List.mem_append]
        grind
      · intro b hb
        simp only [List.nil_append, List.mem_cons, List.mem_append] at hb
        have := r2'.kp.next
        rcases hb with hb | hb | hb | hb
        · exact hlo b (by simp [hb])
        · rcases a4 b hb with h | h
          · exact hlo b (by simp [h])
          · omega
        · exact hlo b (by simp [hb])
        · exact hlo b (by simp [hb])
      · refine ⟨by have := r2'.kp.next; omega, fun b hb => ?_⟩
        rw [a5.get b (by have := r2'.kp.next; omega) (fun e => by have := hlo b (by simp [e]); omega), r2'.kp.get b hb]
    refine ⟨d - 1, by omega, k + 1, (dwD trip x).2, outs ++ [(dwD trip x).1.d], v6', v8', v9', b6', b8', b9', by omega,
      ⟨by simp [s4], by simp [s5], by simp, by simp [s7], by simp [s8], by simp [s9], by simp [s10], by simp; omega⟩, r3, hB2, by push_cast; omega, by omega, by push_cast; omega, by simp [hol], ?_⟩
    rw [List.append_assoc, ← hall]
    obtain ⟨d, rfl⟩ : ∃ j, d = j + 1 := ⟨d - 1, by omega⟩
    simp only [dwDraws, Nat.add_sub_cancel]; rfl
end Go.Ev

/- The drawn congestion run, whole. -/
namespace Go.Ev
open Go Go.Proofs
set_option linter.unusedSimpArgs false
set_option linter.unusedVariables false

theorem dwT {H h : AH} {q : Nat} {v : AV} {bs : List Nat} {S : Src} (h0 : SrcI h q v S bs) (hbs : ∀ b ∈ bs, b < H.next) (hq : H.next ≤ q) (hK : Kp H h) (hp : S.pos ≤ 50) {kind : Int} (m : Nat) (hm : 250 ≤ m) (τ : Tm) (t4 : τ 4 = .ptr q 0) (t5 : τ 5 = .int .i64 kind) :
    ∃ (τ' : Tm) (h' : AH) (v6 : AV) (b6 : List Nat), evAt Try.prog (ev Try.prog m) m 24 31 τ h = some (.ret, τ', h') ∧ τ' 2 = .int .i64 kind ∧ τ' 3 = v6 ∧
      (Ty.sl 40 tT40).R true h' [v6] (dwDraws (1000 + (nextP 90000 S).1) ((nextP (sizeP 150 (nextP 90000 S).2 + 1) (nextP 90000 S).2).1.toNat + 1) ⟨(nextP (sizeP 150 (nextP 90000 S).2 + 1) (nextP 90000 S).2).2, 0, [], []⟩) b6 ∧ b6.Nodup ∧ (∀ b ∈ b6, H.next ≤ b) ∧ Kp H h' := by
  have hql := h0.lt
  have hlen := h0.len
  let A : AH := ((h.push (.cells 40 false [])).push (.cells 3 false [])).push (.cells 3 false [])
  have hA : SrcI A q v S bs := ((h0.push _).push _).push _
  obtain ⟨t, S1, d1, a1, p1, e1, h1⟩ := draw hA hp (by omega) 90000 (by omega) (by omega) m (by omega)
  have hs := size_ev h1 150 m (by omega)
  have hsz : 1 ≤ sizeP 150 S1 ∧ sizeP 150 S1 ≤ 150 := by unfold sizeP miI; split <;> omega
  obtain ⟨n, S2, d2, a2, p2, e2, h2⟩ := draw h1 p1 (by omega) (sizeP 150 S1 + 1) (by omega) (by omega) m (by omega)
  simp only [d1, d2, Int.toNat_natCast]
  rw [set_set] at e2 h2
  generalize sizeP 150 S1 = Z at *
  have kA : Kp h A := (((Kp.refl h).push _).push _).push _
  have hn := kA.next
  have w1 : IntKind.i64.wrap (1000 + (t : Int)) = 1000 + t := wrap_i64 (by omega) (by omega)
  have w2 : IntKind.i64.wrap (Z + 1) = Z + 1 := wrap_i64 (by omega) (by omega)
  have n0 : h.next ≠ q := by omega
  have nA : A.next = h.next + 3 := rfl
  have hI : ∀ τ : Tm, τ 4 = .ptr q 0 → τ 5 = .int .i64 kind → τ 6 = .slice h.next 0 0 → τ 7 = .int .i64 0 → τ 8 = .slice (h.next + 1) 0 0 → τ 9 = .slice (h.next + 2) 0 0 → τ 10 = .int .i64 (1000 + t) → τ 11 = .int .i64 n →
      DwI (n + 1) (dwDraws (1000 + t) (n + 1) ⟨S2, 0, [], []⟩) H q v bs kind (1000 + t) (n + 1) τ (A.set q (.cells 259 false (srcC v S2))) := by
    intro τ t4 t5 t6 t7 t8 t9 t10 t11
    have g6 : (A.set q (.cells 259 false (srcC v S2))).get h.next = some (.cells 40 false []) := by rw [AH.set_getN _ _ (by omega)]; simp [A]; try omega
    have g8 : (A.set q (.cells 259 false (srcC v S2))).get (h.next + 1) = some (.cells 3 false []) := by rw [AH.set_getN _ _ (by omega)]; simp [A]; try omega
    have g9 : (A.set q (.cells 259 false (srcC v S2))).get (h.next + 2) = some (.cells 3 false []) := by rw [AH.set_getN _ _ (by omega)]; simp [A]; try omega
    refine ⟨0, ⟨S2, 0, [], []⟩, [], .slice h.next 0 0, .slice (h.next + 1) 0 0, .slice (h.next + 2) 0 0, [h.next], [h.next + 1], [h.next + 2], by omega, ⟨t4, t5, t6, t7, t8, t9, t10, by rw [t11]; congr 1; omega⟩, ?_, ⟨rfl, by simp, by simp, by simp⟩, by simp only; omega, by simp, by simp, rfl, by simp⟩
    refine ⟨h2, hbs, .inr ⟨h.next, 0, false, [], [], rfl, rfl, by simp [nA], g6, fun _ => ⟨rfl, rfl, by simp⟩, by simp, rfl, rfl⟩, .inr ⟨h.next + 1, 0, [], rfl, rfl, by simp [nA], g8, by simp, rfl⟩, .inr ⟨h.next + 2, 0, [], rfl, rfl, by simp [nA], g9, by simp, rfl⟩, ?_, ?_, by simp, ?_⟩
    · simp; omega
    · have := hK.next
      intro b hb
      simp at hb; omega
    · refine ⟨by have := hK.next; simp; omega, fun b hb => ?_⟩
      rw [AH.set_getN _ _ (by omega), kA.get b (by have := hK.next; omega), hK.get b hb]
  rw [at_M Try.func24 31 (by decide) 5 (by decide) (by kernel_rfl) []]
  simp only [A] at e1 e2 hs
  simp (disch := omega) [Try.f24, t4, t5, e1, e2, hs, w1, w2, zerosA]
  generalize hLo : evLoop _ _ _ _ _ _ = R
  obtain ⟨e, τ', H', rfl, rfl, k, x, outs, v6, v8, v9, b6, b8, b9, hk, hτ, r, hB, hp', n0', n1, hol, hall⟩ := loop_at hLo (dwLoop (by omega) ⟨by omega, by omega⟩ m (by omega) _ (hI _ (by simp [t4]) (by simp [t5]) (by simp) (by simp) (by simp) (by simp) (by simp) (by simp)))
  have hnd := r.nd
  have hlo := r.lo
  simp only [List.nil_append, List.nodup_cons, List.nodup_append, List.mem_append, List.mem_cons] at hnd hlo
  simp only [dwDraws, List.append_nil] at hall
  refine ⟨_, H', by simp; rfl, by simp [hτ.t5], b6, ?_, hnd.2.1, fun b hb => hlo b (by simp [hb]), r.kp⟩
  have := r.ops
  rw [hall] at this
  simpa [hτ.t6, dwDraws] using this
theorem drawCc_ev {H : AH} {v : AV} {l : List Int} {bs : List Nat} (h : (Ty.sl 5 (.int .u8)).R false H [v] l bs) (hl : l.length ≤ 1048576) (m : Nat) (hm : 260 ≤ m) :
    ∃ v6 H' b6, ev Try.prog m 24 [v] H = some (.tuple [.int .i64 (drawCcP l).1, v6], H') ∧ (Ty.sl 40 tT40).R true H' [v6] (drawCcP l).2 b6 ∧ b6.Nodup ∧ (∀ b ∈ b6, H.next ≤ b) ∧ Kp H H' := by
  obtain ⟨m, rfl⟩ : ∃ k, m = k + 1 := ⟨m - 1, by omega⟩
  have hs := source_ev h h.sl_one hl m (by omega)
  have hI := source_I h hl
  have hK : Kp H (H.push (.cells 259 false (srcC v ⟨l, 0, l.length % 1000⟩))) := (Kp.refl H).push _
  have hbs : ∀ b ∈ bs, b < H.next := fun b hb => h.mem b hb
  obtain ⟨a, S1, d1, a1, p1, e1, h1⟩ := draw hI (K := 0) (by simp) (by omega) 2 (by omega) (by omega) m (by omega)
  rw [push_set (h := rfl)] at e1 h1
  have ce := chance_ev h1 (n := 40) (by omega) (by omega) (by omega) m (by omega)
  obtain ⟨b, S2, d2, a2, p2, e2, h2⟩ := draw h1 p1 (by omega) 40 (by omega) (by omega) m (by omega)
  rw [push_set (h := rfl)] at e2 h2
  unfold chanceP at ce
  simp only [d2] at ce
  rw [push_set (h := rfl)] at ce
  unfold drawCcP
  have hd : dwHead l = if (b : Int) = 40 - 1 then ((nextP 5 S2).1 - 1, (nextP 5 S2).2) else (1 + (a : Int), S2) := by
    unfold dwHead chanceP
    simp only [d1, d2]
    by_cases hb : (b : Int) = 40 - 1
    · simp [hb]
    · simp [hb]
  rw [hd]
  have fin : ∀ (k : Int) (S : Src) (τ : Tm), S.pos ≤ 50 → SrcI (H.push (.cells 259 false (srcC v S))) H.next v S bs → τ 4 = .ptr H.next 0 → τ 5 = .int .i64 k → _ := fun k S τ hp hS t4 t5 =>
    dwT (H := H) hS hbs (Nat.le_refl _) ((Kp.refl H).push _) hp (kind := k) m (by omega) τ t4 t5
  rw [ev_M Try.func24 ok24 [31] m _ H (by simp [Try.f24])]
  have w1 : IntKind.i64.wrap (1 + (a : Int)) = 1 + a := wrap_i64 (by omega) (by omega)
  by_cases hb : (b : Int) = 40 - 1
  · rw [if_pos hb]
    obtain ⟨c, S3, d3, a3, p3, e3, h3⟩ := draw h2 p2 (by omega) 5 (by omega) (by omega) m (by omega)
    rw [push_set (h := rfl)] at e3 h3
    have w2 : IntKind.i64.wrap ((c : Int) - 1) = c - 1 := wrap_i64 (by omega) (by omega)
    simp only [d3]
    rw [show decide ((b : Int) = 40 - 1) = true from decide_eq_true hb] at ce
    simp [Try.f24, hs, e1, ce, e3, w1, w2]
    generalize hτ : upd _ 5 _ = τ2
    obtain ⟨τ', h', v6, b6, f1, f2, f3, f4, f5, f6, f7⟩ := fin (c - 1) S3 τ2 (by omega) h3 (by rw [← hτ]; simp) (by rw [← hτ]; simp)
    subst f3
    refine ⟨τ' 3, h', ?_, b6, f4, f5, f6, f7⟩
    simp [f1, f2]
  · rw [if_neg hb]
    rw [show decide ((b : Int) = 40 - 1) = false from decide_eq_false hb] at ce
    simp [Try.f24, hs, e1, ce, w1]
    generalize hτ : upd _ 19 _ = τ2
    obtain ⟨τ', h', v6, b6, f1, f2, f3, f4, f5, f6, f7⟩ := fin (1 + a) S2 τ2 (by omega) h2 (by rw [← hτ]; simp) (by rw [← hτ]; simp)
    subst f3
    refine ⟨τ' 3, h', ?_, b6, f4, f5, f6, f7⟩
    simp [f1, f2]
end Go.Ev
