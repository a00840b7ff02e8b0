/- Lemmas of an evaluator of the given code and of what the functions answer; no condition of its own. -/
import Derived.Test.YtnoacfilglgbgaaEv24
import Derived.Test.YtnoacfilglgbgaaEv20
/- The law FnWindow: a round of its loop. -/
namespace Go.Ev
open Go Go.Proofs
set_option linter.unusedSimpArgs false
set_option linter.unusedVariables false

theorem at_fld {h : AH} {b o : Nat} {e : TypeId} {ro : Bool} {x1 c x2 : List AV} (h4 : x1.length = o) (j : Nat) (hj : j < c.length) : (x1 ++ c ++ x2)[o + j]? = c[j]? := by
  rw [List.append_assoc, List.getElem?_append_right (by omega), List.getElem?_append_left (by omega)]; congr 1; omega
/-- an operation of a row: where its numbers lie -/
def ElOp (h : AH) (s : AV) (i : Nat) (o : CcOpP) : Prop := ∃ (b z : Nat) (e : TypeId) (ro : Bool) (xs : List AV), idxA Try.prog 27 s (.int .i64 i) = some (.ptr b z) ∧ b < h.next ∧ h.get b = some (.cells e ro xs) ∧ xs[z]? = some (.int .i64 o.k) ∧ xs[z + 2]? = some (.int .i64 o.b)
theorem ElOp.kp {h h' : AH} {s : AV} {i : Nat} {o : CcOpP} (e : ElOp h s i o) (hK : Kp h h') : ElOp h' s i o := by
  obtain ⟨b, z, e, ro, xs, h1, h2, h3, h4, h5⟩ := e
  exact ⟨b, z, e, ro, xs, h1, by have := hK.next; omega, by rw [hK.get b h2]; exact h3, h4, h5⟩
theorem el_op {h : AH} {s : AV} {ops : List tT40.D} {bs : List Nat} {rw : Bool} (hd : (Ty.sl 40 tT40).R rw h [s] ops bs) {i : Nat} (hi : i < ops.length) : ElOp h s i (.of ops[i]) := by
  obtain ⟨b, o, ro, x1, c, x2, bk, u1, u2, u3, u4, u5, u6, u7, u8⟩ := Ty.R.at_ hd (P := Try.prog) (T := 27) (by simp) (by simp [Ty.n]) (k := i) hi
  obtain rfl := op_cells u5
  refine ⟨b, o, _, ro, _, u1, u2, u3, ?_, ?_⟩
  · rw [← Nat.add_zero o, at_fld (h := h) (b := 0) (e := 0) (ro := ro) u4 0 (by simp [opC])]; rfl
  · rw [at_fld (h := h) (b := 0) (e := 0) (ro := ro) u4 2 (by simp [opC])]; rfl
def ElOb (h : AH) (s : AV) (i : Nat) (c : List AV) : Prop := ∃ (b z : Nat) (e : TypeId) (ro : Bool) (xs : List AV), idxA Try.prog 24 s (.int .i64 i) = some (.ptr b z) ∧ b < h.next ∧ h.get b = some (.cells e ro xs) ∧ z + 6 ≤ xs.length ∧ List.take 6 (List.drop z xs) = c ∧
  xs[z]? = c[0]? ∧ xs[z + 1]? = c[1]? ∧ xs[z + 5]? = c[5]?
theorem ElOb.kp {h h' : AH} {s : AV} {i : Nat} {c : List AV} (e : ElOb h s i c) (hK : Kp h h') : ElOb h' s i c := by
  obtain ⟨b, z, e, ro, xs, h1, h2, h3, h4⟩ := e
  exact ⟨b, z, e, ro, xs, h1, by have := hK.next; omega, by rw [hK.get b h2]; exact h3, h4⟩
theorem el_ob {h : AH} {s : AV} {outs : List tT38.D} {bs : List Nat} {rw : Bool} (hd : (Ty.sl 38 tT38).R rw h [s] outs bs) {i : Nat} (hi : i < outs.length) :
    ElOb h s i (obC outs[i].1 outs[i].2.1 outs[i].2.2.1 outs[i].2.2.2.1 outs[i].2.2.2.2.1 outs[i].2.2.2.2.2) := by
  obtain ⟨b, o, ro, x1, c, x2, bk, u1, u2, u3, u4, u5, u6, u7, u8⟩ := Ty.R.at_ hd (P := Try.prog) (T := 24) (by simp) (by simp [Ty.n]) (k := i) hi
  generalize outs[i] = d at *
  obtain ⟨d0, d1, d2, d3, d4, d5⟩ := d
  obtain ⟨rfl, _⟩ := o38 u5
  refine ⟨b, o, _, ro, _, u1, u2, u3, by simp; omega, ?_, ?_, ?_, ?_⟩
  · rw [List.append_assoc, List.drop_append, List.drop_eq_nil_of_le (by omega)]; simp [← u4, obC]
  · rw [← Nat.add_zero o, at_fld (h := h) (b := 0) (e := 0) (ro := ro) u4 0 (by simp)]; rfl
  · rw [at_fld (h := h) (b := 0) (e := 0) (ro := ro) u4 1 (by simp)]; rfl
  · rw [at_fld (h := h) (b := 0) (e := 0) (ro := ro) u4 5 (by simp)]; rfl
/-- the slots of the law's loop -/
structure WnT (τ : Tm) (kind f w i : Int) (s4 s5 s9 : AV) : Prop where
  t3 : τ 3 = .int .i64 kind
  t4 : τ 4 = s4
  t5 : τ 5 = s5
  t9 : τ 9 = s9
  t11 : τ 11 = .int .i64 f
  t12 : τ 12 = .int .i64 w
  t13 : τ 13 = .int .i64 i
theorem wnA {h : AH} {s4 s5 s9 : AV} {i : Nat} {C W Rt St F : Int} {M : Bool} (e9 : ElOb h s9 i (obC C W Rt St F M)) (e5 : ElOb h s5 i (obC C W Rt St F M)) {kind f w : Int} (call : CallF) (n : Nat) (τ : Tm) (hτ : WnT τ kind f w i s4 s5 s9) :
    ∃ τ', evAt Try.prog call n 4 262052 τ h = evAt Try.prog call n 4 1048211 τ' (h.push (.cells 38 false (obC C W Rt St F M))) ∧ WnT τ' kind f w i s4 s5 s9 ∧ τ' 14 = .ptr h.next 0 := by
  obtain ⟨t3, t4, t5, t9, t11, t12, t13⟩ := hτ
  obtain ⟨b, z, e, ro, xs, q1, q2, q3, q4, q5, q6, q7, q8⟩ := e9
  obtain ⟨b', z', e', ro', xs', r1, r2, r3, r4, r5, r6, r7, r8⟩ := e5
  have hbn : ¬ (b = h.next) := by omega
  have hbn' : ¬ (b' = h.next) := by omega
  simp only [obC] at q5 r6 r7 r8 ⊢
  simp only [List.getElem?_cons_zero, List.getElem?_cons_succ] at r6 r7 r8
  rw [at_M Try.func4 262052 (by decide) 18 (by decide) (by kernel_rfl) [1048211]]
  refine ⟨_, by simp [Try.f4, t4, t5, t9, t13, q1, q3, q4, q5, r1, r3, r6, r7, r8, hbn, hbn', ldVar, stVar, spl]; rfl, ⟨by simp [t3], by simp [t4], by simp [t5], by simp [t9], by simp [t11], by simp [t12], by simp [t13]⟩, by simp⟩
end Go.Ev

/- The law FnWindow: a round of its loop, the rest. -/
namespace Go.Ev
open Go Go.Proofs
set_option linter.unusedSimpArgs false
set_option linter.unusedVariables false

def fli (C k f b : Int) : Int := if C = 0 then (if k = 1 then f + b else if k = 2 ∨ k = 3 then f - b else f) else f
section
variable {h : AH} {s4 s5 s9 : AV} {i p : Nat} {C W Rt St F : Int} {M : Bool} {o : CcOpP} {kind f w : Int} {call : CallF} {n : Nat} {τ : Tm}
theorem wnB (eo : ElOp h s4 i o) (hp : h.get p = some (.cells 38 false (obC C W Rt St F M))) (hf : 0 ≤ f ∧ f ≤ 10000000) (hb : C = 0 → 0 ≤ o.b ∧ o.b ≤ 2000) (hτ : WnT τ kind f w i s4 s5 s9) (t14 : τ 14 = .ptr p 0) :
    ∃ τ', evAt Try.prog call n 4 1048211 τ h = evAt Try.prog call n 4 2096423 τ' h ∧ WnT τ' kind (fli C o.k f o.b) w i s4 s5 s9 ∧ τ' 14 = .ptr p 0 := by
  obtain ⟨t3, t4, t5, t9, t11, t12, t13⟩ := hτ
  obtain ⟨b, z, e, ro, xs, q1, q2, q3, q4, q5⟩ := eo
  simp only [obC] at hp
  rw [at_M Try.func4 1048211 (by decide) 20 (by decide) (by kernel_rfl) [2096423]]
  unfold fli
  by_cases c : C = 0
  · have hb := hb c
    have w1 : IntKind.i64.wrap (f + o.b) = f + o.b := wrap_i64 (by omega) (by omega)
    have w2 : IntKind.i64.wrap (f - o.b) = f - o.b := wrap_i64 (by omega) (by omega)
    rw [if_pos c]
    by_cases k1 : o.k = 1
    · rw [if_pos k1]
      exact ⟨_, by simp (disch := omega) [Try.f4, t4, t11, t13, t14, hp, q1, q3, q4, q5, c, k1, w1, ldVar, beqF]; rfl, ⟨by simp [t3], by simp [t4], by simp [t5], by simp [t9], by simp, by simp [t12], by simp [t13]⟩, by simp [t14]⟩
    · rw [if_neg k1]
      by_cases k2 : o.k = 2
      · rw [if_pos (.inl k2)]
        exact ⟨_, by simp (disch := omega) [Try.f4, t4, t11, t13, t14, hp, q1, q3, q4, q5, c, k2, w2, ldVar, beqF]; rfl, ⟨by simp [t3], by simp [t4], by simp [t5], by simp [t9], by simp, by simp [t12], by simp [t13]⟩, by simp [t14]⟩
      · by_cases k3 : o.k = 3
        · rw [if_pos (.inr k3)]
          exact ⟨_, by simp (disch := omega) [Try.f4, t4, t11, t13, t14, hp, q1, q3, q4, q5, c, k3, w2, ldVar, beqF]; rfl, ⟨by simp [t3], by simp [t4], by simp [t5], by simp [t9], by simp, by simp [t12], by simp [t13]⟩, by simp [t14]⟩
        · rw [if_neg (by omega)]
          exact ⟨_, by simp (disch := omega) [Try.f4, t4, t11, t13, t14, hp, q1, q3, q4, q5, c, k1, k2, k3, ldVar, beqF]; rfl, ⟨by simp [t3], by simp [t4], by simp [t5], by simp [t9], by simp [t11], by simp [t12], by simp [t13]⟩, by simp [t14]⟩
  · rw [if_neg c]
    exact ⟨_, by simp (disch := omega) [Try.f4, t4, t11, t13, t14, hp, c, ldVar, beqF]; rfl, ⟨by simp [t3], by simp [t4], by simp [t5], by simp [t9], by simp [t11], by simp [t12], by simp [t13]⟩, by simp [t14]⟩
theorem wnC (hp : h.get p = some (.cells 38 false (obC C W Rt St F M))) (hF : F = f) (hW : 2400 ≤ W ∧ W ≤ 100000000) (hR : 0 ≤ Rt ∧ Rt ≤ 1000000000000) (hτ : WnT τ kind f w i s4 s5 s9) (t14 : τ 14 = .ptr p 0) :
    ∃ τ', evAt Try.prog call n 4 2096423 τ h = evAt Try.prog call n 4 4192847 τ' h ∧ WnT τ' kind f w i s4 s5 s9 ∧ τ' 14 = .ptr p 0 := by
  obtain ⟨t3, t4, t5, t9, t11, t12, t13⟩ := hτ
  simp only [obC] at hp
  subst hF
  have c1 : ¬ (W < 2400) := by omega
  have c2 : ¬ (100000000 < W) := by omega
  have c3 : ¬ (Rt < 0) := by omega
  have c4 : ¬ (1000000000000 < Rt) := by omega
  rw [at_M Try.func4 2096423 (by decide) 22 (by decide) (by kernel_rfl) [4192847]]
  exact ⟨_, by simp [Try.f4, t11, t14, hp, c1, c2, c3, c4, ldVar]; rfl, ⟨by simp [t3], by simp [t4], by simp [t5], by simp [t9], by simp [t11], by simp [t12], by simp [t13]⟩, by simp [t14]⟩
theorem wnD (eo : ElOp h s4 i o) (hp : h.get p = some (.cells 38 false (obC C W Rt St F M))) (hw : 0 ≤ w ∧ w ≤ 100000000) (hk : kind = 1 → W < w → o.k = 3 ∧ w.tdiv 2 ≤ W) (hτ : WnT τ kind f w i s4 s5 s9) (t14 : τ 14 = .ptr p 0) :
    ∃ τ', evAt Try.prog call n 4 4192847 τ h = evAt Try.prog call n 4 8385695 τ' h ∧ WnT τ' kind f w i s4 s5 s9 ∧ τ' 14 = .ptr p 0 := by
  obtain ⟨t3, t4, t5, t9, t11, t12, t13⟩ := hτ
  obtain ⟨b, z, e, ro, xs, q1, q2, q3, q4, q5⟩ := eo
  simp only [obC] at hp
  have hd := tdiv_le_self (a := w) (b := 2) hw.1 (by omega)
  have w1 : IntKind.i64.wrap (w.tdiv 2) = w.tdiv 2 := wrap_i64 (by omega) (by omega)
  rw [at_M Try.func4 4192847 (by decide) 23 (by decide) (by kernel_rfl) [8385695]]
  by_cases k1 : kind = 1
  · by_cases c : W < w
    · obtain ⟨k3, c2⟩ := hk k1 c
      have c3 : ¬ (W < w.tdiv 2) := by omega
      exact ⟨_, by simp (disch := omega) [Try.f4, t3, t4, t12, t13, t14, hp, q1, q3, q4, k1, k3, c, c3, w1, ldVar, beqF]; rfl, ⟨by simp [t3, k1], by simp [t4], by simp [t5], by simp [t9], by simp [t11], by simp [t12], by simp [t13]⟩, by simp [t14]⟩
    · exact ⟨_, by simp (disch := omega) [Try.f4, t3, t4, t12, t13, t14, hp, k1, c, ldVar, beqF]; rfl, ⟨by simp [t3, k1], by simp [t4], by simp [t5], by simp [t9], by simp [t11], by simp [t12], by simp [t13]⟩, by simp [t14]⟩
  · exact ⟨_, by simp (disch := omega) [Try.f4, t3, t4, t12, t13, t14, hp, k1, ldVar, beqF]; rfl, ⟨by simp [t3], by simp [t4], by simp [t5], by simp [t9], by simp [t11], by simp [t12], by simp [t13]⟩, by simp [t14]⟩
theorem wnE (eo : ElOp h s4 i o) (hp : h.get p = some (.cells 38 false (obC C W Rt St F M))) (hf : 0 ≤ f ∧ f ≤ 10000000) (hb : C = 0 → 0 ≤ o.b ∧ o.b ≤ 2000) (hk : C = 0 → o.k = 4 → M = decide (f + o.b ≤ W)) (hτ : WnT τ kind f w i s4 s5 s9) (t14 : τ 14 = .ptr p 0) :
    ∃ τ', evAt Try.prog call n 4 8385695 τ h = some (.normal, τ', h) ∧ WnT τ' kind f W i s4 s5 s9 := by
  obtain ⟨t3, t4, t5, t9, t11, t12, t13⟩ := hτ
  obtain ⟨b, z, e, ro, xs, q1, q2, q3, q4, q5⟩ := eo
  simp only [obC] at hp
  rw [at_M Try.func4 8385695 (by decide) 23 (by decide) (by kernel_rfl) []]
  by_cases c : C = 0
  · have hb := hb c
    have w1 : IntKind.i64.wrap (f + o.b) = f + o.b := wrap_i64 (by omega) (by omega)
    by_cases k4 : o.k = 4
    · obtain rfl := hk c k4
      exact ⟨_, by simp (disch := omega) [Try.f4, t4, t11, t13, t14, hp, q1, q3, q4, q5, c, k4, w1, ldVar, beqF]; rfl, ⟨by simp [t3], by simp [t4], by simp [t5], by simp [t9], by simp [t11], by simp, by simp [t13]⟩⟩
    · exact ⟨_, by simp (disch := omega) [Try.f4, t4, t11, t13, t14, hp, q1, q3, q4, q5, c, k4, w1, ldVar, beqF]; rfl, ⟨by simp [t3], by simp [t4], by simp [t5], by simp [t9], by simp [t11], by simp, by simp [t13]⟩⟩
  · exact ⟨_, by simp (disch := omega) [Try.f4, t4, t11, t13, t14, hp, c, ldVar, beqF]; rfl, ⟨by simp [t3], by simp [t4], by simp [t5], by simp [t9], by simp [t11], by simp, by simp [t13]⟩⟩
end
end Go.Ev

/- The law FnWindow by the evaluator. -/
namespace Go.Ev
open Go Go.Proofs
set_option linter.unusedSimpArgs false
set_option linter.unusedVariables false

def WnI (kind : Int) (ops : List tT40.D) (s4 s5 s9 : AV) (H : AH) (d : Nat) (τ : Tm) (h : AH) : Prop :=
  ∃ (i : Nat) (S : Cc), i + d = ops.length ∧ WnT τ kind S.flight S.window i s4 s5 s9 ∧ S.ok kind i ∧ Kp H h ∧ (ccRun kind Cc0 ops).drop i = ccRun kind S (ops.drop i)
set_option maxRecDepth 20000 in
theorem wnLoop {H h : AH} {kind : Int} {ops : List tT40.D} {s4 s5 s9 : AV} {b4 b5 b9 : List Nat} (h4 : (Ty.sl 40 tT40).R false H [s4] ops b4) (h5 : (Ty.sl 38 tT38).R false H [s5] (ccRun kind Cc0 ops) b5) (h9 : (Ty.sl 38 tT38).R false H [s9] (ccRun kind Cc0 ops) b9)
    (hkd : kind = 1 ∨ kind = 2) (hlen : ops.length ≤ 600) (m : Nat) (hm : 700 ≤ m) (τ : Tm) (hI : WnI kind ops s4 s5 s9 H ops.length τ h) :
    ∃ e τ' H', evLoop Try.prog (ev Try.prog m) m (lp Try.prog 4 16378) τ h = some (e, τ', H') ∧ e = .exit 0 ∧ True := by
  refine loop_rule (d := ops.length) (WnI kind ops s4 s5 s9 H) (fun e τ h => e = .exit 0 ∧ True) ?_ hI (by omega)
  intro d τ h hI
  obtain ⟨i, S, hi, hτ, hok, hK, hrun⟩ := hI
  have hτ' := hτ
  obtain ⟨t3, t4, t5, t9, t11, t12, t13⟩ := hτ
  have hrl := ccRun_len kind Cc0 ops
  have hL := h9.lenA (P := Try.prog) (T := 24) (by simp)
  rw [hrl] at hL
  rw [lp_M Try.func4 16378 (by decide) 14 (by decide) (by kernel_rfl) [262052]]
  by_cases hd0 : d = 0
  · have hc : ¬ (i < ops.length) := by omega
    simp [Try.f4, t9, t13, hL, hc]
  · have hlt : i < ops.length := by omega
    simp [Try.f4, t9, t13, hL, hlt]
    generalize hτ1 : upd _ 58 _ = τ1
    have T1 : WnT τ1 kind S.flight S.window i s4 s5 s9 := by
      rw [← hτ1]; exact ⟨by simp [t3], by simp [t4], by simp [t5], by simp [t9], by simp [t11], by simp [t12], by simp [t13]⟩
    have hdrop : ops.drop i = ops[i] :: ops.drop (i + 1) := List.drop_eq_getElem_cons hlt
    have hdrop2 : (ccRun kind Cc0 ops).drop i = (ccRun kind Cc0 ops)[i]'(by omega) :: (ccRun kind Cc0 ops).drop (i + 1) := List.drop_eq_getElem_cons (by omega)
    rw [hdrop2, hdrop] at hrun
    simp only [ccRun, List.cons.injEq] at hrun
    obtain ⟨hel, hrun⟩ := hrun
    have e9 := el_ob (h9.kp hK) (i := i) (by omega)
    have e5 := el_ob (h5.kp hK) (i := i) (by omega)
    have e4 := el_op (h4.kp hK) (i := i) hlt
    rw [hel] at e9 e5
    have hw := winOk (op := .of ops[i]) hkd hok (by omega)
    have hok2 := ccDo_ok (op := .of ops[i]) hkd hok (by omega)
    generalize ccDo kind S (.of ops[i]) = R at *
    simp only [ccObs] at e9 e5
    have hfl := hok.flight
    have hwn := hok.win
    obtain ⟨τ2, a1, T2, p2⟩ := wnA e9 e5 (ev Try.prog m) m τ1 T1
    let A : AH := h.push (.cells 38 false (obC R.2.2 R.1.window R.1.rate R.1.state R.1.flight R.2.1))
    have KA : Kp h A := (Kp.refl h).push _
    have gA : A.get h.next = some (.cells 38 false (obC R.2.2 R.1.window R.1.rate R.1.state R.1.flight R.2.1)) := by simp [A]
    have e4' := e4.kp KA
    obtain ⟨τ3, a2, T3, p3⟩ := wnB (call := ev Try.prog m) (n := m) e4' gA ⟨by omega, by omega⟩ hw.small T2 p2
    have hF : R.1.flight = fli R.2.2 (CcOpP.of ops[i]).k S.flight (CcOpP.of ops[i]).b := hw.flight
    rw [← hF] at T3
    have hfl2 := hok2.flight
    obtain ⟨τ4, a3, T4, p4⟩ := wnC (call := ev Try.prog m) (n := m) gA rfl hw.win hw.rate T3 p3
    obtain ⟨τ5, a4, T5, p5⟩ := wnD (call := ev Try.prog m) (n := m) e4' gA ⟨by omega, by omega⟩ hw.fall T4 p4
    obtain ⟨τ6, a5, T6⟩ := wnE (call := ev Try.prog m) (n := m) e4' gA ⟨by omega, by omega⟩ hw.small (fun c k => by
      have h1 := hw.ask c k
      have h2 := hw.flight
      rw [if_pos c, if_neg (by omega), if_neg (by omega)] at h2
      rw [h1, h2]) T5 p5
    rw [a1, a2, a3, a4, a5]
    have w1 : IntKind.i64.wrap ((i : Int) + 1) = i + 1 := wrap_i64 (by omega) (by omega)
    have u13 := T6.t13
    simp [u13, w1]
    exact ⟨d - 1, by omega, i + 1, R.1, by omega, ⟨by simp [T6.t3], by simp [T6.t4], by simp [T6.t5], by simp [T6.t9], by simp [T6.t11], by simp [T6.t12], by simp⟩, hok2, hK.trans KA, hrun⟩
set_option maxRecDepth 20000 in
theorem law4 {H : AH} {s : AV} {l : List Int} {bs : List Nat} (h : (Ty.sl 5 (.int .u8)).R false H [s] l bs) (hs : (Ty.sl 5 (.int .u8)).sm l) (m : Nat) (hm : 4000000 ≤ m) : ∃ H', ev Try.prog m 4 [s] H = some (.bool true, H') := by
  obtain ⟨m, rfl⟩ : ∃ k, m = k + 1 := ⟨m - 1, by omega⟩
  have hL := h.lenA (P := Try.prog) (T := 34) (by simp)
  rw [ev_M Try.func4 ok4 [] m _ H (by simp [Try.f4])]
  by_cases c : 1048576 < l.length
  · have c' : (1048576 : Int) < l.length := by omega
    exact ⟨_, by simp [Try.f4, hL, c']; rfl⟩
  · have c' : ¬ ((1048576 : Int) < l.length) := by omega
    obtain ⟨s1, H1, b1, a1, a2, a3, a4, a5⟩ := drawCc_ev h (by omega) m (by omega)
    obtain ⟨w, H2, bw, c1, c2, c3, c4, c5⟩ := runS_ev (kind := (drawCcP l).1) a2 (Kp.refl H1) m (by omega)
    obtain ⟨s2, H3, b2, d1, d2, d3, d4, d5⟩ := drawCc_ev (h.kp (a5.trans c2)) (by omega) m (by omega)
    obtain ⟨g, H4, bg, e1, e2, e3, e4, e5⟩ := runI_ev (kind := (drawCcP l).1) d2 (Kp.refl H3) m (by omega)
    obtain ⟨s3, H5, b3, f1, f2, f3, f4, f5⟩ := drawCc_ev (h.kp (((a5.trans c2).trans d5).trans e2)) (by omega) m (by omega)
    have w5 := (c3.kp ((d5.trans e2).trans f5)).weak
    have g5 := (e3.kp f5).weak
    have o5 := f2.weak
    have L1 := g5.lenA (P := Try.prog) (T := 24) (by simp)
    have L2 := w5.lenA (P := Try.prog) (T := 24) (by simp)
    generalize hD : drawCcP l = D at *
    obtain ⟨kind, ops⟩ := D
    simp only at *
    have hrl := ccRun_len kind Cc0 ops
    have stuck : ∀ R : Out, R = R := fun _ => rfl
    by_cases hbig : 600 < ops.length ∨ (kind ≠ 1 ∧ kind ≠ 2)
    · have hz : (CcRunP kind ops).1 = [] := by
        unfold CcRunP
        by_cases hb : 600 < ops.length
        · rw [if_pos hb]
        · rw [if_neg hb, if_pos (by omega)]
      rw [hz] at L1 L2
      have hcz : ¬ ((0 : Int) < ((([] : List tT38.D).length : Nat) : Int)) := by simp
      simp [Try.f4, hL, c', a1, c1, d1, e1, f1, L1, L2]
      generalize hLo : evLoop _ _ _ _ _ _ = R
      have hl : ∀ (τ : Tm) (h : AH), τ 9 = g → τ 13 = .int .i64 0 → ∃ e τ' H', evLoop Try.prog (ev Try.prog m) m (lp Try.prog 4 16378) τ h = some (e, τ', H') ∧ e = .exit 0 ∧ True := fun τ h t9 t13 =>
        loop_rule (d := 0) (fun d τ h => τ 9 = g ∧ τ 13 = .int .i64 0) (fun e τ h => e = .exit 0 ∧ True) (fun d τ h hI => by
          obtain ⟨t9, t13⟩ := hI
          rw [lp_M Try.func4 16378 (by decide) 14 (by decide) (by kernel_rfl) [262052]]
          simp [Try.f4, t9, t13, L1]) ⟨t9, t13⟩ (by omega)
      obtain ⟨e, τ', H', rfl, rfl, _⟩ := loop_at hLo (hl _ _ (by simp) (by simp))
      simp
    · have hrun : CcRunP kind ops = (ccRun kind Cc0 ops, 0) := by
        unfold CcRunP; rw [if_neg (by omega), if_neg (by omega)]
      rw [hrun] at c1 e1 w5 g5 L1 L2
      simp only at c1 e1 w5 g5 L1 L2
      simp [Try.f4, hL, c', a1, c1, d1, e1, f1, L1, L2]
      generalize hLo : evLoop _ _ _ _ _ _ = R
      obtain ⟨e, τ', H', rfl, rfl, _⟩ := loop_at hLo (wnLoop o5 w5 g5 (by omega) (by omega) m (by omega) _ ⟨0, Cc0, by omega, ⟨by simp, by simp, by simp, by simp, by simp [Cc0], by simp [Cc0], by simp⟩, Cc0_ok kind, Kp.refl _, by simp⟩)
      simp
end Go.Ev
