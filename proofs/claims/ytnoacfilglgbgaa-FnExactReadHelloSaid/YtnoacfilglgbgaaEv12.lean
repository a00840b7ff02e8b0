/- Lemmas of an evaluator of the given code and of what the functions answer; no condition of its own. -/
import Derived.Test.YtnoacfilglgbgaaEv11
import Derived.Test.YtnoacfilglgbgaaEv6
import Derived.Test.YtnoacfilglgbgaaEv8
import Derived.Test.YtnoacfilglgbgaaEv10
/- Hellos: whether they can be, both sides. -/
namespace Go.Ev
open Go Go.Proofs
set_option linter.unusedSimpArgs false
set_option linter.unusedVariables false

def hlC (k v : Int) (no vs ns : AV) (ps : List AV) : List AV := .int .i64 k :: .int .i64 v :: no :: vs :: ns :: ps
def helOK (k v : Int) (nn : Nat) (vs : List Int) (ns : List ByteArray) (F : List Int) (la lb lc : Nat) : Prop :=
  nn = 16 ∧ ((k = 1 ∧ versL vs ∧ namesL ns 4 ∧ v = 0 ∧ prmOK F la lb lc false) ∨ (k = 2 ∧ verIn v ∧ vs.length = 0 ∧ namesL ns 1 ∧ prmOK F la lb lc true))
noncomputable instance (k v : Int) (nn : Nat) (vs : List Int) (ns : List ByteArray) (F : List Int) (la lb lc : Nat) : Decidable (helOK k v nn vs ns F la lb lc) := Classical.propDecidable _
/-- a hello's cells in the heap -/
structure HlA (k v : Int) (no vs ns : AV) (ps : List AV) (p : Nat) (X : AH) : Prop where
  l0 : ldVar Try.prog 3 p 0 X = some (.int .i64 k)
  l1 : ldVar Try.prog 3 p 1 X = some (.int .i64 v)
  l2 : ldVar Try.prog 34 p 2 X = some no
  l3 : ldVar Try.prog 60 p 3 X = some vs
  l4 : ldVar Try.prog 118 p 4 X = some ns
  l5 : ldVar Try.prog 120 p 5 X = some (.agg ps)
theorem hlA_of {k v : Int} {no vs ns : AV} {ps : List AV} {p : Nat} {X : AH} {ro : Bool} (g : X.get p = some (.cells 122 ro (hlC k v no vs ns ps))) (hl : ps.length = 13) : HlA k v no vs ns ps p X := by
  have h1 : (hlC k v no vs ns ps).length = 18 := by simp [hlC, hl]
  constructor
  · simp [ldVar, g, hlC]
  · simp [ldVar, g, hlC]
  · simp [ldVar, g, hlC]
  · simp [ldVar, g, hlC]
  · simp [ldVar, g, hlC]
  · have : ps.take 13 = ps := List.take_of_length_le (by omega)
    simp [ldVar, g, hlC, hl, this]
set_option maxRecDepth 20000 in
theorem helloOKI_ev {H : AH} {k v : Int} {no vs ns : AV} {nn : Nat} {lv : List Int} {ln : List ByteArray} {F : List Int} {nm : Bool} {a b c : AV} {la lb lc : Nat} {rv rn : Bool} {bv bn : List Nat} (hno : ∀ h, lenA Try.prog 34 no h = some (.int .i64 nn)) (ono : no.one = true) (Rv : (Ty.sl 3 (.int .i64)).R rv H [vs] lv bv) (hlv : lv.length ≤ 100000) (Rn : (Ty.sl 9 .str).R rn H [ns] ln bn) (hF : F.length = 9) (ha : ∀ h, lenA Try.prog 34 a h = some (.int .i64 la)) (hb : ∀ h, lenA Try.prog 34 b h = some (.int .i64 lb)) (hc : ∀ h, lenA Try.prog 34 c h = some (.int .i64 lc)) (oa : a.one = true) (ob : b.one = true) (oc : c.one = true) (m : Nat) (hm : 1100 ≤ m) :
    ∃ H', ev Try.prog m 168 [.agg (hlC k v no vs ns (pmC F nm a b c))] H = some (.bool (decide (helOK k v nn lv ln F la lb lc)), H') ∧ Kp H H' := by
  obtain ⟨m, rfl⟩ : ∃ k, m = k + 1 := ⟨m - 1, by omega⟩
  have ops := pmC_one (F := F) (nm := nm) oa ob oc
  have len := (pmC_rest F hF nm a b c).2.2.2.2
  have ovs := Rv.sl_one
  have ons := Rn.sl_one
  have hone : (hlC k v no vs ns (pmC F nm a b c)).all AV.one = true := by simp only [hlC, List.all_cons, ono, ovs, ons, ops]; simp [AV.one]
  obtain ⟨A, hA⟩ : ∃ A : AH, A = H.push (.cells 122 false (hlC k v no vs ns (pmC F nm a b c))) := ⟨_, rfl⟩
  have hA' := hA.symm
  have KA : Kp H A := by rw [hA]; exact (Kp.refl H).push _
  have nA : A.next = H.next + 1 := by rw [hA]; simp
  have gA : A.get H.next = some (.cells 122 false (hlC k v no vs ns (pmC F nm a b c))) := by rw [hA]; simp
  have LA := hlA_of gA len
  have LK : ∀ X, Kp A X → HlA k v no vs ns (pmC F nm a b c) H.next X := fun X K => hlA_of ((K.get _ (by omega)).trans gA) len
  obtain ⟨l0, l1, l2, l3, l4, l5⟩ := LA
  have LV := Rv.lenA (P := Try.prog) (T := 60) (by simp)
  clear hA
  rw [ev_M Try.func168 ok168 [] m _ H (by simp [Try.f168])]
  by_cases c0 : nn = 16
  · subst c0
    by_cases k1 : k = 1
    · subst k1
      obtain ⟨H1, e1, K1⟩ := versionsOK_ev (Rv.kp KA) hlv m (by omega)
      obtain ⟨_, l1', _, _, l4', _⟩ := LK H1 K1
      by_cases d1 : versL lv
      · rw [decide_eq_true d1] at e1
        obtain ⟨H2, e2, K2⟩ := namesOK_ev (Rn.kp (KA.trans K1)) 4 (by omega) m (by omega)
        obtain ⟨_, l1'', _, _, _, l5''⟩ := LK H2 (K1.trans K2)
        by_cases d2 : namesL ln 4
        · rw [decide_eq_true d2] at e2
          by_cases d3 : v = 0
          · subst d3
            obtain ⟨H3, e3, K3⟩ := ParamsOKI_ev (nm := nm) hF ha hb hc oa ob oc false H2 m (by omega)
            have hk : helOK 1 0 16 lv ln F la lb lc ↔ prmOK F la lb lc false := ⟨fun h => by rcases h.2 with h | h; exact h.2.2.2.2; exact absurd h.1 (by omega), fun h => ⟨rfl, .inl ⟨rfl, d1, d2, rfl, h⟩⟩⟩
            refine ⟨H3, ?_, ((KA.trans K1).trans K2).trans K3⟩
            simp only [hk]
            simp [Try.f168, U, tm0, hone, hA', hno, l0, l1, l2, l3, l4, l5, e1, l4', e2, l1'', l5'', e3]
          · have hk : ¬ helOK 1 v 16 lv ln F la lb lc := fun h => by rcases h.2 with h | h; exact d3 h.2.2.2.1; exact absurd h.1 (by omega)
            have d3' : (v == 0) = false := by simpa using d3
            refine ⟨H2, ?_, (KA.trans K1).trans K2⟩
            simp [Try.f168, U, tm0, hone, hA', hno, l0, l1, l2, l3, l4, l5, e1, l4', e2, l1'', l5'', d3', hk]
        · have hk : ¬ helOK 1 v 16 lv ln F la lb lc := fun h => by rcases h.2 with h | h; exact d2 h.2.2.1; exact absurd h.1 (by omega)
          rw [decide_eq_false d2] at e2
          refine ⟨H2, ?_, (KA.trans K1).trans K2⟩
          simp [Try.f168, U, tm0, hone, hA', hno, l0, l1, l2, l3, l4, l5, e1, l4', e2, hk]
      · have hk : ¬ helOK 1 v 16 lv ln F la lb lc := fun h => by rcases h.2 with h | h; exact d1 h.2.1; exact absurd h.1 (by omega)
        rw [decide_eq_false d1] at e1
        refine ⟨H1, ?_, KA.trans K1⟩
        simp [Try.f168, U, tm0, hone, hA', hno, l0, l1, l2, l3, l4, l5, e1, hk]
    · have k1' : (k == 1) = false := by simpa using k1
      by_cases k2 : k = 2
      · subst k2
        have e1 := versionOK_ev v A m (by omega)
        by_cases d1 : verIn v
        · rw [decide_eq_true d1] at e1
          by_cases d2 : lv.length = 0
          · have d2' : ((lv.length : Int) == 0) = true := by rw [d2]; rfl
            have d2n : lv = [] := List.length_eq_zero_iff.1 d2
            obtain ⟨H2, e2, K2⟩ := namesOK_ev (Rn.kp KA) 1 (by omega) m (by omega)
            obtain ⟨_, l1'', _, _, _, l5''⟩ := LK H2 K2
            by_cases d3 : namesL ln 1
            · rw [decide_eq_true d3] at e2
              obtain ⟨H3, e3, K3⟩ := ParamsOKI_ev (nm := nm) hF ha hb hc oa ob oc true H2 m (by omega)
              have hk : helOK 2 v 16 lv ln F la lb lc ↔ prmOK F la lb lc true := ⟨fun h => by rcases h.2 with h | h; exact absurd h.1 (by omega); exact h.2.2.2.2, fun h => ⟨rfl, .inr ⟨rfl, d1, d2, d3, h⟩⟩⟩
              refine ⟨H3, ?_, (KA.trans K2).trans K3⟩
              simp only [hk]
              subst d2n
              simp [Try.f168, U, tm0, hone, hA', hno, l0, l1, l2, l3, l4, l5, LV, e1, e2, l5'', e3]
            · have hk : ¬ helOK 2 v 16 lv ln F la lb lc := fun h => by rcases h.2 with h | h; exact absurd h.1 (by omega); exact d3 h.2.2.2.1
              rw [decide_eq_false d3] at e2
              refine ⟨H2, ?_, KA.trans K2⟩
              subst d2n
              simp [Try.f168, U, tm0, hone, hA', hno, l0, l1, l2, l3, l4, l5, LV, e1, e2, hk]
          · have hk : ¬ helOK 2 v 16 lv ln F la lb lc := fun h => by rcases h.2 with h | h; exact absurd h.1 (by omega); exact d2 h.2.2.1
            have d2' : ((lv.length : Int) == 0) = false := by simp; exact fun e => d2 (by rw [e]; rfl)
            refine ⟨A, ?_, KA⟩
            simp [Try.f168, U, tm0, hone, hA', hno, l0, l1, l2, l3, l4, l5, LV, e1, d2', hk]
        · have hk : ¬ helOK 2 v 16 lv ln F la lb lc := fun h => by rcases h.2 with h | h; exact absurd h.1 (by omega); exact d1 h.2.1
          rw [decide_eq_false d1] at e1
          refine ⟨A, ?_, KA⟩
          simp [Try.f168, U, tm0, hone, hA', hno, l0, l1, l2, l3, l4, l5, e1, hk]
      · have k2' : (k == 2) = false := by simpa using k2
        have hk : ¬ helOK k v 16 lv ln F la lb lc := fun h => by rcases h.2 with h | h; exact k1 h.1; exact k2 h.1
        refine ⟨A, ?_, KA⟩
        simp [Try.f168, U, tm0, hone, hA', hno, l0, l2, k1', k2', hk]
  · have hk : ¬ helOK k v nn lv ln F la lb lc := fun h => c0 h.1
    have c0' : ((nn : Int) != 16) = true := by simp; omega
    refine ⟨A, ?_, KA⟩
    simp [Try.f168, U, tm0, hone, hA', hno, l2, c0', hk]
end Go.Ev

/- Hellos in the reference: whether they can be. -/
namespace Go.Ev
open Go Go.Proofs
set_option linter.unusedSimpArgs false
set_option linter.unusedVariables false

def HvI (p : Nat) (l : List Int) (H : AH) (d : Nat) (τ : Tm) (h : AH) : Prop := h = H ∧ τ 1 = .ptr p 0 ∧ ∃ k : Nat, k + d = l.length ∧ τ 3 = .int .i64 k ∧ (∀ j (hj : j < l.length), j < k → verIn l[j]) ∧ ∀ i j (hi : i < l.length) (hj : j < l.length), j < i → i < k → l[j] ≠ l[i]
set_option maxRecDepth 20000 in
theorem hvLoop {H : AH} {r : AV} {l : List Int} {bs : List Nat} {p : Nat} (hr : (Ty.sl 3 (.int .i64)).R false H [r] l bs) (h3 : ldVar Try.prog 60 p 3 H = some r) (hl : l.length ≤ 8) (m : Nat) (hm : 1050 ≤ m) (τ : Tm) (hI : HvI p l H l.length τ H) :
    ∃ e τ' H', evLoop Try.prog (ev Try.prog m) m (lp Try.prog 161 250) τ H = some (e, τ', H') ∧ H' = H ∧ ((e = .exit 0 ∧ (∀ v ∈ l, verIn v) ∧ l.Nodup) ∨ (e = .ret ∧ τ' 2 = .bool false ∧ ¬ ((∀ v ∈ l, verIn v) ∧ l.Nodup))) := by
  have L1 := hr.lenA (P := Try.prog) (T := 60) (by simp)
  refine loop_rule (d := l.length) (HvI p l H) (fun e τ' H' => H' = H ∧ ((e = .exit 0 ∧ (∀ v ∈ l, verIn v) ∧ l.Nodup) ∨ (e = .ret ∧ τ' 2 = .bool false ∧ ¬ ((∀ v ∈ l, verIn v) ∧ l.Nodup)))) ?_ hI (by omega)
  rintro d τ h ⟨rfl, t1, k, hk, t3, hin, hno⟩
  rw [lp_M Try.func161 250 (by decide) 8 (by decide) (by kernel_rfl) []]
  by_cases hd0 : d = 0
  · subst hd0
    have hkl := eq_false (show ¬ ((k : Int) < l.length) by omega)
    have hkl' := eq_false (show ¬ (k < l.length) by omega)
    simp [Try.f161, t1, t3, h3, L1, hkl, hkl']
    refine ⟨fun v hv => ?_, (nodup_at l).2 fun i j hi hj hij => hno i j hi hj hij (by omega)⟩
    obtain ⟨j, hj, rfl⟩ := List.getElem_of_mem hv
    exact hin j hj (by omega)
  · have hlt : k < l.length := by omega
    have hkl := eq_true (show ((k : Int) < l.length) by omega)
    have hkl' := eq_true hlt
    obtain ⟨b, o, u1, u2, u3⟩ := intAt' hr hlt
    have u3 := u3 h rfl
    have w1 : IntKind.i64.wrap ((k : Int) + 1) = (k : Int) + 1 := wrap_i64 (n := (k : Int) + 1) (by omega) (by omega)
    have a := versionS_ev l[k] h m (by omega)
    by_cases c : verIn l[k]
    · rw [decide_eq_true c] at a
      obtain ⟨s1, b1, q1, q2⟩ := hr.cut (P := Try.prog) (T := 60) (by simp) (by simp [Ty.n]) (i := k) (j := k + 1) (by omega) (by omega) (lo := some (some (.int .i64 k))) (hi := some (some (.int .i64 ((k : Int) + 1)))) (by simp [bndA]) (by simp [bndA])
      obtain ⟨s2, b2, q3, q4⟩ := hr.cut (P := Try.prog) (T := 60) (by simp) (by simp [Ty.n]) (i := 0) (j := k) (by omega) (by omega) (lo := some none) (hi := some (some (.int .i64 k))) (by simp [bndA]) (by simp [bndA])
      have e1 : (l.drop k).take (k + 1 - k) = [l[k]] := by rw [Nat.add_sub_cancel_left, List.drop_eq_getElem_cons hlt]; rfl
      have e2 : (l.drop 0).take (k - 0) = l.take k := by simp
      have q2 : (Ty.sl 3 (.int .i64)).R false h [s1] [l[k]] b1 := by rw [← e1]; exact q2
      have q4 : (Ty.sl 3 (.int .i64)).R false h [s2] (l.take k) b2 := by rw [← e2]; exact q4
      have ch := chooseOne_ev q2 q4 (by rw [List.length_take]; omega) m (by omega)
      by_cases c2 : l[k] ∈ l.take k
      · rw [if_pos c2] at ch
        have nz : (l[k] != (0 : Int)) = true := by have := c.1; simp; omega
        have hx : ¬ ((∀ v ∈ l, verIn v) ∧ l.Nodup) := fun h => by
          obtain ⟨j, hj, e⟩ := List.getElem_of_mem c2
          rw [List.length_take] at hj
          rw [List.getElem_take] at e
          exact (nodup_at l).1 h.2 k j hlt (by omega) (by omega) e
        simp [Try.f161, U, t1, t3, h3, L1, hkl, hkl', u1, u3, a, q1, q3, w1, ch, nz]
        simpa using hx
      · rw [if_neg c2] at ch
        simp [Try.f161, U, t1, t3, h3, L1, hkl, hkl', u1, u3, a, q1, q3, w1, ch]
        refine ⟨d - 1, by omega, rfl, by simp [t1], k + 1, by omega, by simp, fun j hj hjk => ?_, fun i j hi hj hij hik => ?_⟩
        · by_cases e : j = k
          · subst e; exact c
          · exact hin j hj (by omega)
        · by_cases e : i = k
          · subst e
            exact fun he => c2 (by rw [← he]; exact List.mem_take_iff_getElem.2 ⟨j, by omega, rfl⟩)
          · exact hno i j hi hj hij (by omega)
    · rw [decide_eq_false c] at a
      have hx : ¬ ((∀ v ∈ l, verIn v) ∧ l.Nodup) := fun h => c (h.1 _ (List.getElem_mem hlt))
      simp [Try.f161, U, t1, t3, h3, L1, hkl, hkl', u1, u3, a]
      simpa using hx
set_option maxRecDepth 20000 in
theorem helloOKS_ev {H : AH} {k v : Int} {no vs ns : AV} {nn : Nat} {lv : List Int} {ln : List ByteArray} {F : List Int} {nm : Bool} {a b c : AV} {la lb lc : Nat} {rn : Bool} {bv bn : List Nat} (hno : ∀ h, lenA Try.prog 34 no h = some (.int .i64 nn)) (ono : no.one = true) (Rv : (Ty.sl 3 (.int .i64)).R false H [vs] lv bv) (Rn : (Ty.sl 9 .str).R rn H [ns] ln bn) (hF : F.length = 9) (ha : ∀ h, lenA Try.prog 34 a h = some (.int .i64 la)) (hb : ∀ h, lenA Try.prog 34 b h = some (.int .i64 lb)) (hc : ∀ h, lenA Try.prog 34 c h = some (.int .i64 lc)) (oa : a.one = true) (ob : b.one = true) (oc : c.one = true) (m : Nat) (hm : 1100 ≤ m) :
    ∃ H', ev Try.prog m 161 [.agg (hlC k v no vs ns (pmC F nm a b c))] H = some (.bool (decide (helOK k v nn lv ln F la lb lc)), H') ∧ Kp H H' := by
  obtain ⟨m, rfl⟩ : ∃ k, m = k + 1 := ⟨m - 1, by omega⟩
  have ops := pmC_one (F := F) (nm := nm) oa ob oc
  have len := (pmC_rest F hF nm a b c).2.2.2.2
  have ovs := Rv.sl_one
  have ons := Rn.sl_one
  have hone : (hlC k v no vs ns (pmC F nm a b c)).all AV.one = true := by simp only [hlC, List.all_cons, ono, ovs, ons, ops]; simp [AV.one]
  obtain ⟨A, hA⟩ : ∃ A : AH, A = H.push (.cells 122 false (hlC k v no vs ns (pmC F nm a b c))) := ⟨_, rfl⟩
  have hA' := hA.symm
  have KA : Kp H A := by rw [hA]; exact (Kp.refl H).push _
  have nA : A.next = H.next + 1 := by rw [hA]; simp
  have gA : A.get H.next = some (.cells 122 false (hlC k v no vs ns (pmC F nm a b c))) := by rw [hA]; simp
  have LA := hlA_of gA len
  have LK : ∀ X, Kp A X → HlA k v no vs ns (pmC F nm a b c) H.next X := fun X K => hlA_of ((K.get _ (by omega)).trans gA) len
  obtain ⟨l0, l1, l2, l3, l4, l5⟩ := LA
  have LV := Rv.lenA (P := Try.prog) (T := 60) (by simp)
  clear hA
  rw [ev_M Try.func161 ok161 [15] m _ H (by simp [Try.f161])]
  by_cases c0 : nn = 16
  · subst c0
    by_cases k2 : k = 2
    · subst k2
      have e1 := versionS_ev v A m (by omega)
      by_cases d1 : verIn v
      · rw [decide_eq_true d1] at e1
        by_cases d2 : lv.length = 0
        · have d2' : ((lv.length : Int) == 0) = true := by rw [d2]; rfl
          have d2n : lv = [] := List.length_eq_zero_iff.1 d2
          have e2 := namesS_ev (Rn.kp KA) 1 (by omega) m (by omega)
          by_cases d3 : namesL ln 1
          · rw [decide_eq_true d3] at e2
            obtain ⟨H3, e3, K3⟩ := ParamsOKS_ev (nm := nm) hF ha hb hc oa ob oc true A m (by omega)
            have hk : helOK 2 v 16 lv ln F la lb lc ↔ prmOK F la lb lc true := ⟨fun h => by rcases h.2 with h | h; exact absurd h.1 (by omega); exact h.2.2.2.2, fun h => ⟨rfl, .inr ⟨rfl, d1, d2, d3, h⟩⟩⟩
            refine ⟨H3, ?_, KA.trans K3⟩
            simp only [hk]
            subst d2n
            simp [Try.f161, U, tm0, hone, hA', hno, l0, l1, l2, l3, l4, l5, LV, e1, e2, e3]
          · have hk : ¬ helOK 2 v 16 lv ln F la lb lc := fun h => by rcases h.2 with h | h; exact absurd h.1 (by omega); exact d3 h.2.2.2.1
            rw [decide_eq_false d3] at e2
            refine ⟨A, ?_, KA⟩
            subst d2n
            simp [Try.f161, U, tm0, hone, hA', hno, l0, l1, l2, l3, l4, l5, LV, e1, e2, hk]
        · have hk : ¬ helOK 2 v 16 lv ln F la lb lc := fun h => by rcases h.2 with h | h; exact absurd h.1 (by omega); exact d2 h.2.2.1
          have d2' : ((lv.length : Int) == 0) = false := by simp; exact fun e => d2 (by rw [e]; rfl)
          refine ⟨A, ?_, KA⟩
          simp [Try.f161, U, tm0, hone, hA', hno, l0, l1, l2, l3, l4, l5, LV, e1, d2', hk]
      · have hk : ¬ helOK 2 v 16 lv ln F la lb lc := fun h => by rcases h.2 with h | h; exact absurd h.1 (by omega); exact d1 h.2.1
        rw [decide_eq_false d1] at e1
        refine ⟨A, ?_, KA⟩
        simp [Try.f161, U, tm0, hone, hA', hno, l0, l1, l2, l3, l4, l5, e1, hk]
    · have k2' : (k == 2) = false := by simpa using k2
      simp [Try.f161, U, tm0, hone, hA', hno, l0, l2, k2']
      generalize hτ : upd _ 10 _ = τ1
      have t1 : τ1 1 = .ptr H.next 0 := by rw [← hτ]; simp
      clear hτ
      rw [at_M Try.func161 15 (by decide) 4 (by decide) (by kernel_rfl) [31]]
      by_cases k1 : k = 1
      · subst k1
        by_cases d3 : v = 0
        · subst d3
          by_cases d4 : 1 ≤ lv.length
          · have f1 := eq_false (show ¬ ((lv.length : Int) < 1) by omega)
            have f1' := eq_false (show ¬ (lv.length < 1) by omega)
            have f1n := eq_false (show ¬ (lv.length = 0) by omega)
            have f1m := eq_false (show ¬ (lv = []) by intro e; rw [e] at d4; simp at d4)
            by_cases d5 : lv.length ≤ 8
            · have f2 := eq_false (show ¬ ((8 : Int) < lv.length) by omega)
              have f2' := eq_false (show ¬ (8 < lv.length) by omega)
              have e2 := namesS_ev (Rn.kp KA) 4 (by omega) m (by omega)
              by_cases d2 : namesL ln 4
              · rw [decide_eq_true d2] at e2
                obtain ⟨H3, e3, K3⟩ := ParamsOKS_ev (nm := nm) hF ha hb hc oa ob oc false A m (by omega)
                obtain ⟨_, _, _, l3', _, _⟩ := LK H3 K3
                by_cases d6 : prmOK F la lb lc false
                · rw [decide_eq_true d6] at e3
                  simp [Try.f161, U, t1, l0, l1, l3, l4, l5, LV, f1, f1', f1n, f1m, f2, f2', e2, e3]
                  generalize hτ : upd _ 61 _ = τ2
                  have s1 : τ2 1 = .ptr H.next 0 := by rw [← hτ]; simp [t1]
                  clear hτ
                  rw [at_M Try.func161 31 (by decide) 5 (by decide) (by kernel_rfl) []]
                  simp [Try.f161]
                  generalize hLo : evLoop _ _ _ _ _ _ = R
                  obtain ⟨e, τ', H', rfl, rfl, g⟩ := loop_at hLo (hvLoop (Rv.kp (KA.trans K3)) l3' d5 m (by omega) _ ⟨rfl, by simp [s1], 0, by omega, by simp, fun j hj hjk => by omega, fun i j _ _ _ h => by omega⟩)
                  rcases g with ⟨rfl, g1, g2⟩ | ⟨rfl, g1, g2⟩
                  · have hk : helOK 1 0 16 lv ln F la lb lc := ⟨rfl, .inl ⟨rfl, ⟨d4, d5, g1, g2⟩, d2, rfl, d6⟩⟩
                    exact ⟨H', by simp [hk], KA.trans K3⟩
                  · have hk : ¬ helOK 1 0 16 lv ln F la lb lc := fun h => by rcases h.2 with h | h; exact g2 h.2.1.2.2; exact absurd h.1 (by omega)
                    exact ⟨H', by simp [g1, hk], KA.trans K3⟩
                · rw [decide_eq_false d6] at e3
                  have hk : ¬ helOK 1 0 16 lv ln F la lb lc := fun h => by rcases h.2 with h | h; exact d6 h.2.2.2.2; exact absurd h.1 (by omega)
                  exact ⟨H3, by simp [Try.f161, U, t1, l0, l1, l3, l4, l5, LV, f1, f1', f1n, f1m, f2, f2', e2, e3, hk], KA.trans K3⟩
              · have hk : ¬ helOK 1 0 16 lv ln F la lb lc := fun h => by rcases h.2 with h | h; exact d2 h.2.2.1; exact absurd h.1 (by omega)
                rw [decide_eq_false d2] at e2
                exact ⟨A, by simp [Try.f161, U, t1, l0, l1, l3, l4, l5, LV, f1, f1', f1n, f1m, f2, f2', e2, hk], KA⟩
            · have f2 := eq_true (show ((8 : Int) < lv.length) by omega)
              have f2' := eq_true (show (8 < lv.length) by omega)
              have hk : ¬ helOK 1 0 16 lv ln F la lb lc := fun h => by rcases h.2 with h | h; exact d5 h.2.1.2.1; exact absurd h.1 (by omega)
              exact ⟨A, by simp [Try.f161, U, t1, l0, l1, l3, l4, l5, LV, f1, f1', f1n, f1m, f2, f2', hk], KA⟩
          · have c0 : lv = [] := List.length_eq_zero_iff.1 (by omega)
            have hk : ¬ helOK 1 0 16 lv ln F la lb lc := fun h => by rcases h.2 with h | h; exact d4 h.2.1.1; exact absurd h.1 (by omega)
            subst c0
            exact ⟨A, by simp [Try.f161, U, t1, l0, l1, l3, l4, l5, LV, hk], KA⟩
        · have hk : ¬ helOK 1 v 16 lv ln F la lb lc := fun h => by rcases h.2 with h | h; exact d3 h.2.2.2.1; exact absurd h.1 (by omega)
          have d3' : (v != 0) = true := by simpa using d3
          exact ⟨A, by simp [Try.f161, U, t1, l0, l1, d3', hk], KA⟩
      · have k1' : (k != 1) = true := by simpa using k1
        have hk : ¬ helOK k v 16 lv ln F la lb lc := fun h => by rcases h.2 with h | h; exact k1 h.1; exact k2 h.1
        exact ⟨A, by simp [Try.f161, U, t1, l0, k1', hk], KA⟩
  · have hk : ¬ helOK k v nn lv ln F la lb lc := fun h => c0 h.1
    have c0' : ((nn : Int) != 16) = true := by simp; omega
    refine ⟨A, ?_, KA⟩
    simp [Try.f161, U, tm0, hone, hA', hno, l2, c0', hk]
end Go.Ev

/- A hello read, plain; the hello on the way. -/
namespace Go.Ev
open Go Go.Proofs
set_option linter.unusedSimpArgs false
set_option linter.unusedVariables false

/-- so many numbers of four bytes, while there are bytes -/
def vsRun (B : List Int) : Nat → Nat → Bool → List Int → List Int × Nat × Bool
  | 0, a, sh, acc => (acc, a, sh)
  | n + 1, a, sh, acc => if sh = true then (acc, a, sh) else vsRun B n (takeS B a sh 4).2.1 (takeS B a sh 4).2.2 (acc ++ [valP (takeS B a sh 4).1])
/-- so many names -/
def nsRun (B : List Int) : Nat → Nat → Bool → List ByteArray → List ByteArray × Nat × Bool
  | 0, a, sh, acc => (acc, a, sh)
  | n + 1, a, sh, acc => if sh = true then (acc, a, sh) else nsRun B n (countedS B a sh).2.1 (countedS B a sh).2.2 (acc ++ [strOf (countedS B a sh).1])
/-- what a hello of kind k reads after its nonce: the version, the versions, the place -/
def hvP (k : Int) (B : List Int) (a : Nat) (sh : Bool) : Int × List Int × Nat × Bool :=
  if k = 1 then (0, vsRun B (valP (takeS B a sh 1).1).toNat (takeS B a sh 1).2.1 (takeS B a sh 1).2.2 []) else (valP (takeS B a sh 4).1, [], (takeS B a sh 4).2)
structure Hp where
  k : Int
  v : Int
  no : List Int
  vs : List Int
  ns : List ByteArray
  P : Pm
/-- the hello of a body, and whether it can be -/
noncomputable def helP (k : Int) (B : List Int) : Hp × Bool :=
  let no := takeS B 0 false 16
  let hv := hvP k B no.2.1 no.2.2
  let c := takeS B hv.2.2.1 hv.2.2.2 1
  let ns := nsRun B (valP c.1).toNat c.2.1 c.2.2 []
  let rs := restS B ns.2.1 ns.2.2
  let P := rdP rs.1 (decide (k = 2))
  (⟨k, hv.1, no.1, hv.2.1, ns.1, P.1⟩, decide (rs.2.2 = false ∧ P.2 = 0 ∧ helOK k hv.1 no.1.length hv.2.1 ns.1 P.1.F P.1.o.length P.1.t.length P.1.f.length))
/-! the object -/
structure HeS (k v : Int) (lo' : List Int) (lv : List Int) (ln : List ByteArray) (no vs ns : AV) (bo bv bn : List Nat) (p lo : Nat) (h : AH) : Prop where
  g : h.get p = some (.cells 122 false (hlC k v no vs ns zPm))
  Ro : (Ty.sl 5 (.int .u8)).R true h [no] lo' bo
  Rv : (Ty.sl 3 (.int .i64)).R true h [vs] lv bv
  Rn : (Ty.sl 9 .str).R true h [ns] ln bn
  nd : (bo ++ (bv ++ bn)).Nodup
  bl : ∀ b ∈ bo ++ (bv ++ bn), lo ≤ b
  pl : p ∉ bo ++ (bv ++ bn)
  pn : p < h.next
theorem HeS.stay {k v : Int} {lo' lv : List Int} {ln : List ByteArray} {no vs ns : AV} {bo bv bn : List Nat} {p lo : Nat} {h h' : AH} (S : HeS k v lo' lv ln no vs ns bo bv bn p lo h) (hn : h.next ≤ h'.next) (hp : h'.get p = h.get p) (hb : ∀ b ∈ bo ++ (bv ++ bn), h'.get b = h.get b) : HeS k v lo' lv ln no vs ns bo bv bn p lo h' :=
  ⟨hp.trans S.g, S.Ro.stay hn fun b hx => hb b (by simp [hx]), S.Rv.stay hn fun b hx => hb b (by simp [hx]), S.Rn.stay hn fun b hx => hb b (by simp [hx]), S.nd, S.bl, S.pl, by have := S.pn; omega⟩
theorem HeS.mem {k v : Int} {lo' lv : List Int} {ln : List ByteArray} {no vs ns : AV} {bo bv bn : List Nat} {p lo : Nat} {h : AH} (S : HeS k v lo' lv ln no vs ns bo bv bn p lo h) : ∀ b ∈ bo ++ (bv ++ bn), b < h.next := by
  intro b hb
  rcases List.mem_append.1 hb with hb | hb
  · exact S.Ro.mem b hb
  · rcases List.mem_append.1 hb with hb | hb
    · exact S.Rv.mem b hb
    · exact S.Rn.mem b hb
theorem HeS.appV {k v : Int} {lo' lv : List Int} {ln : List ByteArray} {no vs ns : AV} {bo bv bn : List Nat} {p lo : Nat} {h : AH} (S : HeS k v lo' lv ln no vs ns bo bv bn p lo h) (hlo : lo ≤ h.next) {x : Int} (ix : InK .i64 x) (hl : lv.length ≤ 1000) :
    ∃ vs' X' bv' X2, appA Try.prog 60 60 vs (.slice h.next 0 1) (h.push (.cells 3 false [.int .i64 x])) = some (vs', X') ∧ stVar Try.prog 60 p 3 vs' X' = some X2 ∧ HeS k v lo' (lv ++ [x]) ln no vs' ns bo bv' bn p lo X2 ∧ h.next ≤ X2.next ∧ (∀ b, b < lo → b ≠ p → X2.get b = h.get b) := by
  obtain ⟨v', X', bs', h1, h2, h3, h4, h5⟩ := Ty.R.app1 (P := Try.prog) (T := 60) S.Rv (Ty.R.int (rw := true) (H := h) ix) (by have := S.nd; simp only [List.nodup_append, List.mem_append] at this ⊢; exact ⟨this.2.1.1, by simp, by simp⟩) (by simp) (by simp) (by simp [Ty.n]) (by_ := 8) (by simp) (z := [.int .i64 0]) (by simp) (by simp [Ty.n]) (by omega) (by omega)
  have h4 : ∀ b ∈ bs', b ∈ bv ∨ h.next ≤ b := fun b hb => by rcases h4 b hb with h | h | h <;> simp_all
  have nd := S.nd
  simp only [List.nodup_append, List.mem_append] at nd
  have S0 := S
  have hmem := S.mem
  obtain ⟨g, Ro, Rv, Rn, nd0, hlo', hp, n⟩ := S
  have npv : p ∉ bv := fun hx => hp (by simp [hx])
  have g' := (h5.get p n npv).trans g
  have ov := h2.sl_one
  have hbo : ∀ b ∈ bo, X'.get b = h.get b := fun b hb => h5.get b (Ro.mem b hb) (fun hx => nd.2.2 b hb b (.inl hx) rfl)
  have hbn : ∀ b ∈ bn, X'.get b = h.get b := fun b hb => h5.get b (Rn.mem b hb) (fun hx => nd.2.1.2.2 b hx b hb rfl)
  have h5n := h5.next
  refine ⟨v', X', bs', X'.set p (.cells 122 false (hlC k v no v' ns zPm)), h1, ?_, ⟨by simp, ?_, ?_, ?_, ?_, ?_, ?_, by simp; omega⟩, by simpa using h5n, fun b hb hne => ?_⟩
  · simp [stVar, g', hlC, spl, ov, cells_one ov, zPm_len]
  · exact Ro.stay (by simpa using h5n) fun b hb => by rw [AH.set_getN _ _ (fun e => hp (by rw [← e]; simp [hb]))]; exact hbo b hb
  · exact h2.stay (by simp) fun b hb => AH.set_getN _ _ (fun e => by rcases h4 b hb with h | h; exact hp (by rw [← e]; simp [h]); omega)
  · exact Rn.stay (by simpa using h5n) fun b hb => by rw [AH.set_getN _ _ (fun e => hp (by rw [← e]; simp [hb]))]; exact hbn b hb
  · simp only [List.nodup_append, List.mem_append]
    refine ⟨nd.1, ⟨h3, nd.2.1.2.1, fun a ha b hb e => ?_⟩, fun a ha b hb e => ?_⟩
    · subst e; rcases h4 a ha with h | h; exact nd.2.1.2.2 a h a hb rfl; have := Rn.mem a hb; omega
    · subst e; rcases hb with hb | hb; rcases h4 a hb with h | h; exact nd.2.2 a ha a (.inl h) rfl; have := Ro.mem a ha; omega; exact nd.2.2 a ha a (.inr hb) rfl
  · intro b hb; simp only [List.mem_append] at hb
    rcases hb with hb | hb | hb
    · exact hlo' b (by simp [hb])
    · rcases h4 b hb with h | h; exact hlo' b (by simp [h]); omega
    · exact hlo' b (by simp [hb])
  · intro hb; simp only [List.mem_append] at hb
    rcases hb with hb | hb | hb
    · exact hp (by simp [hb])
    · rcases h4 p hb with h | h; exact hp (by simp [h]); omega
    · exact hp (by simp [hb])
  · rw [AH.set_getN _ _ hne]; exact h5.get b (by omega) (fun hx => by have := hlo' b (by simp [hx]); omega)
theorem HeS.appN {k v : Int} {lo' lv : List Int} {ln : List ByteArray} {no vs ns : AV} {bo bv bn : List Nat} {p lo : Nat} {h : AH} (S : HeS k v lo' lv ln no vs ns bo bv bn p lo h) (hlo : lo ≤ h.next) (x : ByteArray) (hl : ln.length ≤ 1000) :
    ∃ ns' X' bn' X2, appA Try.prog 118 118 ns (.slice h.next 0 1) (h.push (.cells 9 false [.str x])) = some (ns', X') ∧ stVar Try.prog 118 p 4 ns' X' = some X2 ∧ HeS k v lo' lv (ln ++ [x]) no vs ns' bo bv bn' p lo X2 ∧ h.next ≤ X2.next ∧ (∀ b, b < lo → b ≠ p → X2.get b = h.get b) := by
  obtain ⟨v', X', bs', h1, h2, h3, h4, h5⟩ := Ty.R.app1 (P := Try.prog) (T := 118) S.Rn (d := x) (c := [.str x]) (b1 := []) ⟨rfl, rfl⟩ (by have := S.nd; simp only [List.nodup_append, List.mem_append] at this ⊢; exact ⟨this.2.1.2.1, by simp, by simp⟩) (by simp) (by simp) (by simp [Ty.n]) (by_ := 16) (by simp) (z := [.str ByteArray.empty]) (by simp) (by simp [Ty.n]) (by omega) (by omega)
  have h4 : ∀ b ∈ bs', b ∈ bn ∨ h.next ≤ b := fun b hb => by rcases h4 b hb with h | h | h <;> simp_all
  have nd := S.nd
  simp only [List.nodup_append, List.mem_append] at nd
  have hmem := S.mem
  obtain ⟨g, Ro, Rv, Rn, nd0, hlo', hp, n⟩ := S
  have npv : p ∉ bn := fun hx => hp (by simp [hx])
  have g' := (h5.get p n npv).trans g
  have ov := h2.sl_one
  have hbo : ∀ b ∈ bo, X'.get b = h.get b := fun b hb => h5.get b (Ro.mem b hb) (fun hx => nd.2.2 b hb b (.inr hx) rfl)
  have hbv : ∀ b ∈ bv, X'.get b = h.get b := fun b hb => h5.get b (Rv.mem b hb) (fun hx => nd.2.1.2.2 b hb b hx rfl)
  have h5n := h5.next
  refine ⟨v', X', bs', X'.set p (.cells 122 false (hlC k v no vs v' zPm)), h1, ?_, ⟨by simp, ?_, ?_, ?_, ?_, ?_, ?_, by simp; omega⟩, by simpa using h5n, fun b hb hne => ?_⟩
  · simp [stVar, g', hlC, spl, ov, cells_one ov, zPm_len]
  · exact Ro.stay (by simpa using h5n) fun b hb => by rw [AH.set_getN _ _ (fun e => hp (by rw [← e]; simp [hb]))]; exact hbo b hb
  · exact Rv.stay (by simpa using h5n) fun b hb => by rw [AH.set_getN _ _ (fun e => hp (by rw [← e]; simp [hb]))]; exact hbv b hb
  · exact h2.stay (by simp) fun b hb => AH.set_getN _ _ (fun e => by rcases h4 b hb with h | h; exact hp (by rw [← e]; simp [h]); omega)
  · simp only [List.nodup_append, List.mem_append]
    refine ⟨nd.1, ⟨nd.2.1.1, h3, fun a ha b hb e => ?_⟩, fun a ha b hb e => ?_⟩
    · subst e; rcases h4 a hb with h | h; exact nd.2.1.2.2 a ha a h rfl; have := Rv.mem a ha; omega
    · subst e; rcases hb with hb | hb; exact nd.2.2 a ha a (.inl hb) rfl; rcases h4 a hb with h | h; exact nd.2.2 a ha a (.inr h) rfl; have := Ro.mem a ha; omega
  · intro b hb; simp only [List.mem_append] at hb
    rcases hb with hb | hb | hb
    · exact hlo' b (by simp [hb])
    · exact hlo' b (by simp [hb])
    · rcases h4 b hb with h | h; exact hlo' b (by simp [h]); omega
  · intro hb; simp only [List.mem_append] at hb
    rcases hb with hb | hb | hb
    · exact hp (by simp [hb])
    · exact hp (by simp [hb])
    · rcases h4 p hb with h | h; exact hp (by simp [h]); omega
  · rw [AH.set_getN _ _ hne]; exact h5.get b (by omega) (fun hx => by have := hlo' b (by simp [hx]); omega)
end Go.Ev

/- A hello read by the reference: its loops. -/
namespace Go.Ev
open Go Go.Proofs
set_option linter.unusedSimpArgs false
set_option linter.unusedVariables false

theorem u8s_L (l : List Int) : u8s (u8L l) = some l := by
  induction l with
  | nil => rfl
  | cons x l ih => simp only [u8L, List.map_cons] at ih ⊢; simp [u8s, ih]
theorem Bs.conv {H : AH} {s : AV} {l : List Int} (h : Bs H s l) : convA Try.prog 34 9 s H = some (.str (strOf l), H) := by
  have hr := h.row
  rcases h.lie with ⟨rfl, h1⟩ | ⟨b, o, ro, xs, rfl, h2, h3, h4⟩
  · simp [convA, hr, u8s_L]
  · simp [convA, hr, u8s_L]
structure HvR (τ : Tm) (r : AV) (p2 p5 q6 q p : Nat) : Prop where
  t0 : τ 0 = r
  t2 : τ 2 = .ptr p2 0
  t5 : τ 5 = .ptr p5 0
  t6 : τ 6 = .ptr q6 0
  t7 : τ 7 = .ptr q 0
  t8 : τ 8 = .ptr p 0
structure HvH (B : List Int) (s : AV) (q p : Nat) (a : Nat) (sh : Bool) (k v : Int) (lo' lv : List Int) (ln : List ByteArray) (no vs ns : AV) (bo bv bn : List Nat) (Hb h0 : AH) (lo : Nat) (h : AH) : Prop where
  gq : h.get q = some (rdB s a sh)
  la : a ≤ B.length
  S : HeS k v lo' lv ln no vs ns bo bv bn p lo h
  K : Kp Hb h
  ln' : lo ≤ h.next
  rest : ∀ b, b < lo → b ≠ p → b ≠ q → h.get b = h0.get b
structure HvN (q p : Nat) (Hb : AH) (lo : Nat) : Prop where
  bq : Hb.next ≤ q ∧ q < lo
  bp : Hb.next ≤ p
  ne : p ≠ q
def HvL (B : List Int) (s r : AV) (p2 p5 q6 q p : Nat) (k v : Int) (lo' : List Int) (ln : List ByteArray) (no ns : AV) (bo bn : List Nat) (Hb h0 : AH) (lo N a0 : Nat) (sh0 : Bool) (d : Nat) (τ : Tm) (h : AH) : Prop :=
  ∃ (n a : Nat) (sh : Bool) (lv : List Int) (vs : AV) (bv : List Nat), n ≤ d ∧ HvR τ r p2 p5 q6 q p ∧ τ 9 = .int .i64 n ∧ lv.length + n ≤ 300 ∧ HvH B s q p a sh k v lo' lv ln no vs ns bo bv bn Hb h0 lo h ∧ vsRun B N a0 sh0 [] = vsRun B n a sh lv
set_option maxRecDepth 20000 in
theorem hvSLoop {B : List Int} {s r : AV} {p2 p5 q6 q p : Nat} {k v : Int} {lo' : List Int} {ln : List ByteArray} {no ns : AV} {bo bn : List Nat} {Hb h0 h1 : AH} {lo N a0 : Nat} {sh0 : Bool} (hs : Bs Hb s B) (hby : By B) (hl : B.length ≤ 65536) (W : HvN q p Hb lo) (m : Nat) (hm : 1000 ≤ m) (τ : Tm) (hI : HvL B s r p2 p5 q6 q p k v lo' ln no ns bo bn Hb h0 lo N a0 sh0 N τ h1) (hN : N ≤ 300) :
    ∃ e τ' H', evLoop Try.prog (ev Try.prog m) m (lp Try.prog 76 32746) τ h1 = some (e, τ', H') ∧ e = .exit 0 ∧ HvR τ' r p2 p5 q6 q p ∧ ∃ vs bv, HvH B s q p (vsRun B N a0 sh0 []).2.1 (vsRun B N a0 sh0 []).2.2 k v lo' (vsRun B N a0 sh0 []).1 ln no vs ns bo bv bn Hb h0 lo H' := by
  refine loop_rule (d := N) (HvL B s r p2 p5 q6 q p k v lo' ln no ns bo bn Hb h0 lo N a0 sh0) (fun e τ' H' => e = .exit 0 ∧ HvR τ' r p2 p5 q6 q p ∧ ∃ vs bv, HvH B s q p (vsRun B N a0 sh0 []).2.1 (vsRun B N a0 sh0 []).2.2 k v lo' (vsRun B N a0 sh0 []).1 ln no vs ns bo bv bn Hb h0 lo H') ?_ hI (by omega)
  rintro d τ h ⟨n, a, sh, lv, vs, bv, hn, ⟨t0, t2, t5, t6, t7, t8⟩, t9, hlen, I, hrun⟩
  obtain ⟨gq, la, S, K, hlo, rest⟩ := I
  have hsc : h.get q = some (.cells 183 false [s, .int .i64 a, .bool sh]) := gq
  have lq : ldVar Try.prog 4 q 2 h = some (.bool sh) := by simp [ldVar, hsc]
  rw [lp_M Try.func76 32746 (by decide) 15 (by decide) (by kernel_rfl) []]
  cases n with
  | zero =>
    simp only [vsRun] at hrun
    rw [hrun]
    simp [Try.f76, U, t9]
    exact ⟨⟨by simp [t0], by simp [t2], by simp [t5], by simp [t6], by simp [t7], by simp [t8]⟩, vs, bv, gq, la, S, K, hlo, rest⟩
  | succ n =>
    have hp := eq_true (show (0 : Int) < ((n + 1 : Nat) : Int) by omega)
    cases sh with
    | true =>
      simp only [vsRun, if_true] at hrun
      rw [hrun]
      simp [Try.f76, U, t7, t9, hp, lq]
      exact ⟨⟨by simp [t0], by simp [t2], by simp [t5], by simp [t6], by simp [t7], by simp [t8]⟩, vs, bv, gq, la, S, K, hlo, rest⟩
    | false =>
      obtain ⟨H1, e1, k1, g1, le1⟩ := fixed_ev hs hby K W.bq.1 (by have := W.bq.2; omega) gq la hl 4 (by omega) (by omega) m (by omega)
      have hx := takeS_len B a false 4
      have hy := takeS_by hby a false 4
      have hv := valP_lt _ hy
      have hpw : (256 : Int) ^ (takeS B a false 4).1.length ≤ 4294967296 := by
        have hl4 : (takeS B a false 4).1.length ≤ 4 := hx.1
        generalize (takeS B a false 4).1.length = j at hl4
        match j, hl4 with
        | 0, _ => decide
        | 1, _ => decide
        | 2, _ => decide
        | 3, _ => decide
        | 4, _ => decide
      simp only [vsRun] at hrun
      rw [if_neg (by simp)] at hrun
      generalize takeS B a false 4 = T at *
      obtain ⟨tl, ta, ts⟩ := T
      simp only at *
      have ix : InK .i64 (valP tl) := InK.i64 (by omega) (by omega)
      generalize valP tl = x at *
      have kn := k1.next
      have S1 : HeS k v lo' lv ln no vs ns bo bv bn p lo H1 := S.stay kn (k1.get p S.pn W.ne) fun b hb => k1.get b (S.mem b hb) (fun e => by have := S.bl b hb; have := W.bq.2; omega)
      obtain ⟨vs', X', bv', X2, q1, q2, q3, q4, q5⟩ := S1.appV (by omega) ix (by omega)
      have l3 := (hlA_of S.g zPm_len).l3
      have l3' := (hlA_of S1.g zPm_len).l3
      have l3'' : ldVar Try.prog 60 p 3 (H1.push (.cells 3 false [.int .i64 x])) = some vs := by have := S1.pn; exact (hlA_of (by rw [AH.push_get, if_neg (by omega)]; exact S1.g) zPm_len).l3
      have w1 : IntKind.i64.wrap (((n + 1 : Nat) : Int) - 1) = (n : Int) := by rw [wrap_i64 (n := ((n + 1 : Nat) : Int) - 1) (by omega) (by omega)]; omega
      have w2 : IntKind.i64.wrap (n : Int) = (n : Int) := wrap_i64 (n := (n : Int)) (by omega) (by omega)
      simp [Try.f76, U, t7, t8, t9, hp, lq, l3, l3', l3'', e1, zerosA, fillA, spl, q1, q2, w1, w2, evHist, ObsOk, ObOk, List.getElem?_cons_zero]
      refine ⟨d - 1, by omega, n, ta, ts, lv ++ [x], vs', bv', by omega, ⟨by simp [t0], by simp [t2], by simp [t5], by simp [t6], by simp [t7], by simp [t8]⟩, by simp, by simp; omega, ⟨?_, le1, q3, ?_, by omega, ?_⟩, hrun⟩
      · rw [q5 q W.bq.2 (fun e => W.ne e.symm)]; exact g1
      · exact ⟨by have := K.next; omega, fun b hb => by rw [q5 b (by have := W.bq.1; have := W.bq.2; omega) (by have := W.bp; omega), k1.get b (by have := K.next; omega) (by have := W.bq.1; omega)]; exact K.get b hb⟩
      · intro b hb hp' hq'; rw [q5 b hb hp', k1.get b (by omega) hq']; exact rest b hb hp' hq'
end Go.Ev

/- A hello read by the reference: its names. -/
namespace Go.Ev
open Go Go.Proofs
set_option linter.unusedSimpArgs false
set_option linter.unusedVariables false

def HnL (B : List Int) (s r : AV) (p2 p5 q6 q p : Nat) (k v : Int) (lo' lv : List Int) (no vs : AV) (bo bv : List Nat) (Hb h0 : AH) (lo N a0 : Nat) (sh0 : Bool) (d : Nat) (τ : Tm) (h : AH) : Prop :=
  ∃ (n a : Nat) (sh : Bool) (ln : List ByteArray) (ns : AV) (bn : List Nat), n ≤ d ∧ HvR τ r p2 p5 q6 q p ∧ τ 10 = .int .i64 n ∧ ln.length + n ≤ 300 ∧ HvH B s q p a sh k v lo' lv ln no vs ns bo bv bn Hb h0 lo h ∧ nsRun B N a0 sh0 [] = nsRun B n a sh ln
set_option maxRecDepth 20000 in
theorem hnSLoop {B : List Int} {s r : AV} {p2 p5 q6 q p : Nat} {k v : Int} {lo' lv : List Int} {no vs : AV} {bo bv : List Nat} {Hb h0 h1 : AH} {lo N a0 : Nat} {sh0 : Bool} (hs : Bs Hb s B) (hby : By B) (hl : B.length ≤ 65536) (W : HvN q p Hb lo) (m : Nat) (hm : 1000 ≤ m) (τ : Tm) (hI : HnL B s r p2 p5 q6 q p k v lo' lv no vs bo bv Hb h0 lo N a0 sh0 N τ h1) (hN : N ≤ 300) :
    ∃ e τ' H', evLoop Try.prog (ev Try.prog m) m (lp Try.prog 76 16378) τ h1 = some (e, τ', H') ∧ e = .exit 2 ∧ HvR τ' r p2 p5 q6 q p ∧ ∃ ns bn, HvH B s q p (nsRun B N a0 sh0 []).2.1 (nsRun B N a0 sh0 []).2.2 k v lo' lv (nsRun B N a0 sh0 []).1 no vs ns bo bv bn Hb h0 lo H' := by
  refine loop_rule (d := N) (HnL B s r p2 p5 q6 q p k v lo' lv no vs bo bv Hb h0 lo N a0 sh0) (fun e τ' H' => e = .exit 2 ∧ HvR τ' r p2 p5 q6 q p ∧ ∃ ns bn, HvH B s q p (nsRun B N a0 sh0 []).2.1 (nsRun B N a0 sh0 []).2.2 k v lo' lv (nsRun B N a0 sh0 []).1 no vs ns bo bv bn Hb h0 lo H') ?_ hI (by omega)
  rintro d τ h ⟨n, a, sh, ln, ns, bn, hn, ⟨t0, t2, t5, t6, t7, t8⟩, t10, hlen, I, hrun⟩
  obtain ⟨gq, la, S, K, hlo, rest⟩ := I
  have hsc : h.get q = some (.cells 183 false [s, .int .i64 a, .bool sh]) := gq
  have lq : ldVar Try.prog 4 q 2 h = some (.bool sh) := by simp [ldVar, hsc]
  rw [lp_M Try.func76 16378 (by decide) 14 (by decide) (by kernel_rfl) []]
  cases n with
  | zero =>
    simp only [nsRun] at hrun
    rw [hrun]
    simp [Try.f76, U, t10]
    exact ⟨⟨by simp [t0], by simp [t2], by simp [t5], by simp [t6], by simp [t7], by simp [t8]⟩, ns, bn, gq, la, S, K, hlo, rest⟩
  | succ n =>
    have hp := eq_true (show (0 : Int) < ((n + 1 : Nat) : Int) by omega)
    cases sh with
    | true =>
      simp only [nsRun, if_true] at hrun
      rw [hrun]
      simp [Try.f76, U, t7, t10, hp, lq]
      exact ⟨⟨by simp [t0], by simp [t2], by simp [t5], by simp [t6], by simp [t7], by simp [t8]⟩, ns, bn, gq, la, S, K, hlo, rest⟩
    | false =>
      obtain ⟨vv, H1, e1, k1, o1, g1, le1⟩ := countedS_ev hs hby K W.bq.1 (by have := W.bq.2; omega) gq la hl m (by omega)
      simp only [nsRun] at hrun
      rw [if_neg (by simp)] at hrun
      have cv := o1.bs.conv
      generalize countedS B a false = T at *
      obtain ⟨tl, ta, ts⟩ := T
      simp only at *
      generalize strOf tl = x at *
      have kn := k1.next
      have S1 : HeS k v lo' lv ln no vs ns bo bv bn p lo H1 := S.stay kn (k1.get p S.pn W.ne) fun b hb => k1.get b (S.mem b hb) (fun e => by have := S.bl b hb; have := W.bq.2; omega)
      obtain ⟨ns', X', bn', X2, q1, q2, q3, q4, q5⟩ := S1.appN (by omega) x (by omega)
      have l4 := (hlA_of S.g zPm_len).l4
      have l4' := (hlA_of S1.g zPm_len).l4
      have l4'' : ldVar Try.prog 118 p 4 (H1.push (.cells 9 false [.str x])) = some ns := by have := S1.pn; exact (hlA_of (by rw [AH.push_get, if_neg (by omega)]; exact S1.g) zPm_len).l4
      have w1 : IntKind.i64.wrap (((n + 1 : Nat) : Int) - 1) = (n : Int) := by rw [wrap_i64 (n := ((n + 1 : Nat) : Int) - 1) (by omega) (by omega)]; omega
      have w2 : IntKind.i64.wrap (n : Int) = (n : Int) := wrap_i64 (n := (n : Int)) (by omega) (by omega)
      simp [Try.f76, U, t7, t8, t10, hp, lq, l4, l4', l4'', e1, cv, zerosA, fillA, spl, q1, q2, w1, w2, evHist, ObsOk, ObOk, List.getElem?_cons_zero]
      refine ⟨d - 1, by omega, n, ta, ts, ln ++ [x], ns', bn', by omega, ⟨by simp [t0], by simp [t2], by simp [t5], by simp [t6], by simp [t7], by simp [t8]⟩, by simp, by simp; omega, ⟨?_, le1, q3, ?_, by omega, ?_⟩, hrun⟩
      · rw [q5 q W.bq.2 (fun e => W.ne e.symm)]; exact g1
      · exact ⟨by have := K.next; omega, fun b hb => by rw [q5 b (by have := W.bq.1; have := W.bq.2; omega) (by have := W.bp; omega), k1.get b (by have := K.next; omega) (by have := W.bq.1; omega)]; exact K.get b hb⟩
      · intro b hb hp' hq'; rw [q5 b hb hp', k1.get b (by omega) hq']; exact rest b hb hp' hq'
end Go.Ev

/- A hello read by the program: places shifted; its loops. -/
namespace Go.Ev
open Go Go.Proofs
set_option linter.unusedSimpArgs false
set_option linter.unusedVariables false

section
variable {pre B : List Int} (hp : pre.length = 3)
include hp
theorem sh_len : (pre ++ B).length = 3 + B.length := by simp [hp]
theorem sh_drop (a : Nat) : (pre ++ B).drop (3 + a) = B.drop a := by rw [← hp, List.drop_append]; simp
theorem sh_getD (a : Nat) : (pre ++ B).getD (3 + a) 0 = B.getD a 0 := by
  simp only [List.getD_eq_getElem?_getD]
  rw [List.getElem?_append_right (by omega), hp, Nat.add_sub_cancel_left]
theorem takeS_sh (a : Nat) (sh : Bool) (n : Int) : takeS (pre ++ B) (3 + a) sh n = ((takeS B a sh n).1, 3 + (takeS B a sh n).2.1, (takeS B a sh n).2.2) := by
  unfold takeS
  rw [sh_len hp, sh_drop hp]
  have e : ((3 + B.length : Nat) : Int) - ((3 + a : Nat) : Int) = (B.length : Int) - a := by omega
  rw [e]
  split <;> simp [Nat.add_assoc]
theorem getVarP_sh (a : Nat) : getVarP (pre ++ B) (3 + a) = ((getVarP B a).1, if (getVarP B a).2.2 = 0 then 3 + (getVarP B a).2.1 else 0, (getVarP B a).2.2) := by
  unfold getVarP
  rw [sh_len hp, sh_drop hp, sh_getD hp]
  have e : ((3 + B.length : Nat) : Int) - ((3 + a : Nat) : Int) = (B.length : Int) - a := by omega
  rw [e]
  have e2 : (3 + a = 3 + B.length) ↔ (a = B.length) := by omega
  simp only [e2]
  split
  · simp
  · split
    · simp
    · simp; omega
theorem varS_shift (a : Nat) (sh : Bool) : varS (pre ++ B) (3 + a) sh = ((varS B a sh).1, 3 + (varS B a sh).2.1, (varS B a sh).2.2) := by
  unfold varS
  rw [getVarP_sh hp]
  cases sh with
  | true => simp
  | false =>
    by_cases c : (getVarP B a).2.2 = 0
    · obtain ⟨e, h1, h2, h3⟩ := getVarP_end c
      simp only [c]
      simp [h1]
      omega
    · simp [c]
theorem countedS_sh (a : Nat) (sh : Bool) : countedS (pre ++ B) (3 + a) sh = ((countedS B a sh).1, 3 + (countedS B a sh).2.1, (countedS B a sh).2.2) := by
  unfold countedS
  rw [varS_shift hp, takeS_sh hp]
theorem restS_sh (a : Nat) (sh : Bool) : restS (pre ++ B) (3 + a) sh = ((restS B a sh).1, 3 + (restS B a sh).2.1, (restS B a sh).2.2) := by
  unfold restS
  have e : (((pre ++ B).length : Nat) : Int) - ((3 + a : Nat) : Int) = (B.length : Int) - a := by rw [sh_len hp]; omega
  rw [e, takeS_sh hp]
end
structure HiR (τ : Tm) (r : AV) (p2 : Nat) (n5 : Int) (q p : Nat) : Prop where
  t0 : τ 0 = r
  t2 : τ 2 = .ptr p2 0
  t5 : τ 5 = .int .i64 n5
  t6 : τ 6 = .ptr q 0
  t7 : τ 7 = .ptr p 0
structure HiH (B : List Int) (s : AV) (q p : Nat) (a : Nat) (sh : Bool) (k v : Int) (lo' lv : List Int) (ln : List ByteArray) (no vs ns : AV) (bo bv bn : List Nat) (Hb h0 : AH) (lo : Nat) (h : AH) : Prop where
  gq : h.get q = some (scB s (3 + a) (cd sh))
  la : a ≤ B.length
  S : HeS k v lo' lv ln no vs ns bo bv bn p lo h
  K : Kp Hb h
  ln' : lo ≤ h.next
  rest : ∀ b, b < lo → b ≠ p → b ≠ q → h.get b = h0.get b
def HivL (B : List Int) (s r : AV) (p2 : Nat) (n5 : Int) (q p : Nat) (k v : Int) (lo' : List Int) (ln : List ByteArray) (no ns : AV) (bo bn : List Nat) (Hb h0 : AH) (lo N a0 : Nat) (sh0 : Bool) (d : Nat) (τ : Tm) (h : AH) : Prop :=
  ∃ (n a : Nat) (sh : Bool) (lv : List Int) (vs : AV) (bv : List Nat), n ≤ d ∧ HiR τ r p2 n5 q p ∧ τ 8 = .int .i64 n ∧ lv.length + n ≤ 300 ∧ HiH B s q p a sh k v lo' lv ln no vs ns bo bv bn Hb h0 lo h ∧ vsRun B N a0 sh0 [] = vsRun B n a sh lv
theorem four_lt {l : List Int} (h : l.length ≤ 4) : (256 : Int) ^ l.length ≤ 4294967296 := by
  generalize l.length = j at h
  match j, h with
  | 0, _ => decide
  | 1, _ => decide
  | 2, _ => decide
  | 3, _ => decide
  | 4, _ => decide
set_option maxRecDepth 20000 in
theorem hvILoop {pre B : List Int} {s r : AV} {p2 : Nat} {n5 : Int} {q p : Nat} {k v : Int} {lo' : List Int} {ln : List ByteArray} {no ns : AV} {bo bn : List Nat} {Hb h0 h1 : AH} {lo N a0 : Nat} {sh0 : Bool} (hp3 : pre.length = 3) (hs : Bs Hb s (pre ++ B)) (hby : By (pre ++ B)) (hl : (pre ++ B).length ≤ 65536) (W : HvN q p Hb lo) (m : Nat) (hm : 1000 ≤ m) (τ : Tm) (hI : HivL B s r p2 n5 q p k v lo' ln no ns bo bn Hb h0 lo N a0 sh0 N τ h1) (hN : N ≤ 300) :
    ∃ e τ' H', evLoop Try.prog (ev Try.prog m) m (lp Try.prog 77 16362) τ h1 = some (e, τ', H') ∧ e = .exit 0 ∧ HiR τ' r p2 n5 q p ∧ ∃ vs bv, HiH B s q p (vsRun B N a0 sh0 []).2.1 (vsRun B N a0 sh0 []).2.2 k v lo' (vsRun B N a0 sh0 []).1 ln no vs ns bo bv bn Hb h0 lo H' := by
  refine loop_rule (d := N) (HivL B s r p2 n5 q p k v lo' ln no ns bo bn Hb h0 lo N a0 sh0) (fun e τ' H' => e = .exit 0 ∧ HiR τ' r p2 n5 q p ∧ ∃ vs bv, HiH B s q p (vsRun B N a0 sh0 []).2.1 (vsRun B N a0 sh0 []).2.2 k v lo' (vsRun B N a0 sh0 []).1 ln no vs ns bo bv bn Hb h0 lo H') ?_ hI (by omega)
  rintro d τ h ⟨n, a, sh, lv, vs, bv, hn, ⟨t0, t2, t5, t6, t7⟩, t8, hlen, I, hrun⟩
  obtain ⟨gq, la, S, K, hlo, rest⟩ := I
  have hsc : h.get q = some (.cells 188 false [s, .int .i64 ((3 + a : Nat) : Int), .int .i64 (cd sh)]) := gq
  have lq : ldVar Try.prog 3 q 2 h = some (.int .i64 (cd sh)) := by simp [ldVar, hsc]
  have hLb := sh_len hp3 (B := B)
  rw [lp_M Try.func77 16362 (by decide) 14 (by decide) (by kernel_rfl) []]
  cases n with
  | zero =>
    simp only [vsRun] at hrun
    rw [hrun]
    simp [Try.f77, U, t8]
    exact ⟨⟨by simp [t0], by simp [t2], by simp [t5], by simp [t6], by simp [t7]⟩, vs, bv, gq, la, S, K, hlo, rest⟩
  | succ n =>
    have hp := eq_true (show (0 : Int) < ((n + 1 : Nat) : Int) by omega)
    cases sh with
    | true =>
      simp only [vsRun, if_true] at hrun
      rw [hrun]
      simp [Try.f77, U, t6, t8, hp, lq]
      exact ⟨⟨by simp [t0], by simp [t2], by simp [t5], by simp [t6], by simp [t7]⟩, vs, bv, gq, la, S, K, hlo, rest⟩
    | false =>
      obtain ⟨rr, H1, e1, k1, n1, b1, g1, le1⟩ := take_ev hs K W.bq.1 gq (by omega) hl 4 (by omega) m (by omega)
      rw [takeI_cd _ _ _ _ (by omega), takeS_sh hp3] at b1 g1 le1
      simp only at b1 g1 le1
      have hx := takeS_len B a false 4
      have hy := takeS_by (l := B) (fun x hx => hby x (by simp [hx])) a false 4
      have hv := valP_lt _ hy
      have hpw := four_lt (l := (takeS B a false 4).1) hx.1
      simp only [vsRun] at hrun
      rw [if_neg (by simp)] at hrun
      generalize takeS B a false 4 = T at *
      obtain ⟨tl, ta, ts⟩ := T
      simp only at *
      have K1 : Kp Hb H1 := k1.kp K W.bq.1
      have e2 := unfixed_ev b1 K1 hy (by have := hx.1; omega) m (by omega)
      have ix : InK .i64 (valP tl) := InK.i64 (by omega) (by omega)
      have wv : IntKind.i64.wrap (valP tl) = valP tl := wrap_i64 (by omega) (by omega)
      rw [wv] at e2
      generalize valP tl = x at *
      have kn := k1.next
      have S1 : HeS k v lo' lv ln no vs ns bo bv bn p lo H1 := S.stay kn (k1.get p S.pn W.ne) fun b hb => k1.get b (S.mem b hb) (fun e => by have := S.bl b hb; have := W.bq.2; omega)
      obtain ⟨vs', X', bv', X2, q1, q2, q3, q4, q5⟩ := S1.appV (by omega) ix (by omega)
      have l3 := (hlA_of S.g zPm_len).l3
      have l3' := (hlA_of S1.g zPm_len).l3
      have l3'' : ldVar Try.prog 60 p 3 (H1.push (.cells 3 false [.int .i64 x])) = some vs := by have := S1.pn; exact (hlA_of (by rw [AH.push_get, if_neg (by omega)]; exact S1.g) zPm_len).l3
      have w1 : IntKind.i64.wrap (((n + 1 : Nat) : Int) - 1) = (n : Int) := by rw [wrap_i64 (n := ((n + 1 : Nat) : Int) - 1) (by omega) (by omega)]; omega
      have w2 : IntKind.i64.wrap (n : Int) = (n : Int) := wrap_i64 (n := (n : Int)) (by omega) (by omega)
      simp [Try.f77, U, t6, t7, t8, hp, lq, l3, l3', l3'', e1, e2, zerosA, fillA, spl, q1, q2, w1, w2, evHist, ObsOk, ObOk, List.getElem?_cons_zero]
      refine ⟨d - 1, by omega, n, ta, ts, lv ++ [x], vs', bv', by omega, ⟨by simp [t0], by simp [t2], by simp [t5], by simp [t6], by simp [t7]⟩, by simp, by simp; omega, ⟨?_, by omega, q3, ?_, by omega, ?_⟩, hrun⟩
      · rw [q5 q W.bq.2 (fun e => W.ne e.symm)]; exact g1
      · exact ⟨by have := K.next; omega, fun b hb => by rw [q5 b (by have := W.bq.1; have := W.bq.2; omega) (by have := W.bp; omega), k1.get b (by have := K.next; omega) (by have := W.bq.1; omega)]; exact K.get b hb⟩
      · intro b hb hp' hq'; rw [q5 b hb hp', k1.get b (by omega) hq']; exact rest b hb hp' hq'
def HinL (B : List Int) (s r : AV) (p2 : Nat) (n5 : Int) (q p : Nat) (k v : Int) (lo' lv : List Int) (no vs : AV) (bo bv : List Nat) (Hb h0 : AH) (lo N a0 : Nat) (sh0 : Bool) (d : Nat) (τ : Tm) (h : AH) : Prop :=
  ∃ (n a : Nat) (sh : Bool) (ln : List ByteArray) (ns : AV) (bn : List Nat), n ≤ d ∧ HiR τ r p2 n5 q p ∧ τ 9 = .int .i64 n ∧ ln.length + n ≤ 300 ∧ HiH B s q p a sh k v lo' lv ln no vs ns bo bv bn Hb h0 lo h ∧ nsRun B N a0 sh0 [] = nsRun B n a sh ln
set_option maxRecDepth 20000 in
theorem hnILoop {pre B : List Int} {s r : AV} {p2 : Nat} {n5 : Int} {q p : Nat} {k v : Int} {lo' lv : List Int} {no vs : AV} {bo bv : List Nat} {Hb h0 h1 : AH} {lo N a0 : Nat} {sh0 : Bool} (hp3 : pre.length = 3) (hs : Bs Hb s (pre ++ B)) (hby : By (pre ++ B)) (hl : (pre ++ B).length ≤ 65536) (W : HvN q p Hb lo) (m : Nat) (hm : 1000 ≤ m) (τ : Tm) (hI : HinL B s r p2 n5 q p k v lo' lv no vs bo bv Hb h0 lo N a0 sh0 N τ h1) (hN : N ≤ 300) :
    ∃ e τ' H', evLoop Try.prog (ev Try.prog m) m (lp Try.prog 77 8186) τ h1 = some (e, τ', H') ∧ e = .exit 2 ∧ HiR τ' r p2 n5 q p ∧ ∃ ns bn, HiH B s q p (nsRun B N a0 sh0 []).2.1 (nsRun B N a0 sh0 []).2.2 k v lo' lv (nsRun B N a0 sh0 []).1 no vs ns bo bv bn Hb h0 lo H' := by
  refine loop_rule (d := N) (HinL B s r p2 n5 q p k v lo' lv no vs bo bv Hb h0 lo N a0 sh0) (fun e τ' H' => e = .exit 2 ∧ HiR τ' r p2 n5 q p ∧ ∃ ns bn, HiH B s q p (nsRun B N a0 sh0 []).2.1 (nsRun B N a0 sh0 []).2.2 k v lo' lv (nsRun B N a0 sh0 []).1 no vs ns bo bv bn Hb h0 lo H') ?_ hI (by omega)
  rintro d τ h ⟨n, a, sh, ln, ns, bn, hn, ⟨t0, t2, t5, t6, t7⟩, t9, hlen, I, hrun⟩
  obtain ⟨gq, la, S, K, hlo, rest⟩ := I
  have hsc : h.get q = some (.cells 188 false [s, .int .i64 ((3 + a : Nat) : Int), .int .i64 (cd sh)]) := gq
  have lq : ldVar Try.prog 3 q 2 h = some (.int .i64 (cd sh)) := by simp [ldVar, hsc]
  have hLb := sh_len hp3 (B := B)
  rw [lp_M Try.func77 8186 (by decide) 13 (by decide) (by kernel_rfl) []]
  cases n with
  | zero =>
    simp only [nsRun] at hrun
    rw [hrun]
    simp [Try.f77, U, t9]
    exact ⟨⟨by simp [t0], by simp [t2], by simp [t5], by simp [t6], by simp [t7]⟩, ns, bn, gq, la, S, K, hlo, rest⟩
  | succ n =>
    have hp := eq_true (show (0 : Int) < ((n + 1 : Nat) : Int) by omega)
    cases sh with
    | true =>
      simp only [nsRun, if_true] at hrun
      rw [hrun]
      simp [Try.f77, U, t6, t9, hp, lq]
      exact ⟨⟨by simp [t0], by simp [t2], by simp [t5], by simp [t6], by simp [t7]⟩, ns, bn, gq, la, S, K, hlo, rest⟩
    | false =>
      obtain ⟨rr, H1, e1, k1, n1, b1, g1, le1⟩ := counted_ev hs hby K W.bq.1 gq (by omega) hl m (by omega)
      rw [countedI_cd hby, countedS_sh hp3] at b1 g1 le1
      simp only at b1 g1 le1
      simp only [nsRun] at hrun
      rw [if_neg (by simp)] at hrun
      have K1 : Kp Hb H1 := k1.kp K W.bq.1
      have cv := (b1.kp K1).conv
      generalize countedS B a false = T at *
      obtain ⟨tl, ta, ts⟩ := T
      simp only at *
      generalize strOf tl = x at *
      have kn := k1.next
      have S1 : HeS k v lo' lv ln no vs ns bo bv bn p lo H1 := S.stay kn (k1.get p S.pn W.ne) fun b hb => k1.get b (S.mem b hb) (fun e => by have := S.bl b hb; have := W.bq.2; omega)
      obtain ⟨ns', X', bn', X2, q1, q2, q3, q4, q5⟩ := S1.appN (by omega) x (by omega)
      have l4 := (hlA_of S.g zPm_len).l4
      have l4' := (hlA_of S1.g zPm_len).l4
      have l4'' : ldVar Try.prog 118 p 4 (H1.push (.cells 9 false [.str x])) = some ns := by have := S1.pn; exact (hlA_of (by rw [AH.push_get, if_neg (by omega)]; exact S1.g) zPm_len).l4
      have w1 : IntKind.i64.wrap (((n + 1 : Nat) : Int) - 1) = (n : Int) := by rw [wrap_i64 (n := ((n + 1 : Nat) : Int) - 1) (by omega) (by omega)]; omega
      have w2 : IntKind.i64.wrap (n : Int) = (n : Int) := wrap_i64 (n := (n : Int)) (by omega) (by omega)
      simp [Try.f77, U, t6, t7, t9, hp, lq, l4, l4', l4'', e1, cv, zerosA, fillA, spl, q1, q2, w1, w2, evHist, ObsOk, ObOk, List.getElem?_cons_zero]
      refine ⟨d - 1, by omega, n, ta, ts, ln ++ [x], ns', bn', by omega, ⟨by simp [t0], by simp [t2], by simp [t5], by simp [t6], by simp [t7]⟩, by simp, by simp; omega, ⟨?_, by omega, q3, ?_, by omega, ?_⟩, hrun⟩
      · rw [q5 q W.bq.2 (fun e => W.ne e.symm)]; exact g1
      · exact ⟨by have := K.next; omega, fun b hb => by rw [q5 b (by have := W.bq.1; have := W.bq.2; omega) (by have := W.bp; omega), k1.get b (by have := K.next; omega) (by have := W.bq.1; omega)]; exact K.get b hb⟩
      · intro b hb hp' hq'; rw [q5 b hb hp', k1.get b (by omega) hq']; exact rest b hb hp' hq'
end Go.Ev

/- A hello read by the reference: behind the nonce. -/
namespace Go.Ev
open Go Go.Proofs
set_option linter.unusedSimpArgs false
set_option linter.unusedVariables false

theorem one_lt {l : List Int} (h : l.length ≤ 1) : (256 : Int) ^ l.length ≤ 256 := by
  generalize l.length = j at h
  match j, h with
  | 0, _ => decide
  | 1, _ => decide
theorem HeS.setV {k v : Int} {lo' lv : List Int} {ln : List ByteArray} {no vs ns : AV} {bo bv bn : List Nat} {p lo : Nat} {h : AH} (S : HeS k v lo' lv ln no vs ns bo bv bn p lo h) (x : Int) :
    stVar Try.prog 3 p 1 (.int .i64 x) h = some (h.set p (.cells 122 false (hlC k x no vs ns zPm))) ∧ HeS k x lo' lv ln no vs ns bo bv bn p lo (h.set p (.cells 122 false (hlC k x no vs ns zPm))) := by
  obtain ⟨g, Ro, Rv, Rn, nd, bl, hp, n⟩ := S
  refine ⟨by simp [stVar, g, hlC, spl, zPm_len], by simp, ?_, ?_, ?_, nd, bl, hp, by simpa using n⟩
  · exact Ro.stay (by simp) fun b hb => AH.set_getN _ _ (fun e => hp (by rw [← e]; simp [hb]))
  · exact Rv.stay (by simp) fun b hb => AH.set_getN _ _ (fun e => hp (by rw [← e]; simp [hb]))
  · exact Rn.stay (by simp) fun b hb => AH.set_getN _ _ (fun e => hp (by rw [← e]; simp [hb]))
/-- the place moves on, the hello stays -/
theorem HvH.move {B : List Int} {s : AV} {q p : Nat} {a : Nat} {sh : Bool} {k v : Int} {lo' lv : List Int} {ln : List ByteArray} {no vs ns : AV} {bo bv bn : List Nat} {Hb h0 : AH} {lo : Nat} {h H1 : AH} (W : HvN q p Hb lo) (I : HvH B s q p a sh k v lo' lv ln no vs ns bo bv bn Hb h0 lo h) (k1 : Kx q h H1) {a' : Nat} {sh' : Bool} (g1 : H1.get q = some (rdB s a' sh')) (le1 : a' ≤ B.length) :
    HvH B s q p a' sh' k v lo' lv ln no vs ns bo bv bn Hb h0 lo H1 := by
  obtain ⟨gq, la, S, K, hlo, rest⟩ := I
  have kn := k1.next
  exact ⟨g1, le1, S.stay kn (k1.get p S.pn W.ne) fun b hb => k1.get b (S.mem b hb) (fun e => by have := S.bl b hb; have := W.bq.2; omega), k1.kp K W.bq.1, by omega, fun b hb hp' hq' => by rw [k1.get b (by omega) hq']; exact rest b hb hp' hq'⟩
set_option maxRecDepth 20000 in
theorem rhS_1 {B : List Int} {s r : AV} {p2 p5 q6 q p : Nat} {k : Int} {lo' : List Int} {no : AV} {bo : List Nat} {Hb h0 h : AH} {lo a0 : Nat} {sh0 : Bool} (hs : Bs Hb s B) (hby : By B) (hl : B.length ≤ 65536) (W : HvN q p Hb lo) (m : Nat) (hm : 1000 ≤ m) (τ : Tm) (T : HvR τ r p2 p5 q6 q p)
    (I : HvH B s q p a0 sh0 k 0 lo' [] [] no .nilSlice .nilSlice bo [] [] Hb h0 lo h) :
    ∃ τ' h', evAt Try.prog (ev Try.prog m) m 76 1023 τ h = evAt Try.prog (ev Try.prog m) m 76 2047 τ' h' ∧ HvR τ' r p2 p5 q6 q p ∧ ∃ vs bv, HvH B s q p (hvP k B a0 sh0).2.2.1 (hvP k B a0 sh0).2.2.2 k (hvP k B a0 sh0).1 lo' (hvP k B a0 sh0).2.1 [] no vs .nilSlice bo bv [] Hb h0 lo h' := by
  obtain ⟨t0, t2, t5, t6, t7, t8⟩ := T
  have l0 := (hlA_of I.S.g zPm_len).l0
  rw [at_M Try.func76 1023 (by decide) 10 (by decide) (by kernel_rfl) [2047]]
  by_cases c : k = 1
  · subst c
    obtain ⟨H1, e1, k1, g1, le1⟩ := fixed_ev hs hby I.K W.bq.1 (by have := W.bq.2; have := I.ln'; omega) I.gq I.la hl 1 (by omega) (by omega) m (by omega)
    have I1 := I.move W k1 g1 le1
    have hx := takeS_len B a0 sh0 1
    have hv := valP_lt _ (takeS_by hby a0 sh0 1)
    have hpw := one_lt (l := (takeS B a0 sh0 1).1) hx.1
    have e : hvP 1 B a0 sh0 = (0, vsRun B (valP (takeS B a0 sh0 1).1).toNat (takeS B a0 sh0 1).2.1 (takeS B a0 sh0 1).2.2 []) := by unfold hvP; rw [if_pos rfl]
    rw [e]
    simp only
    generalize takeS B a0 sh0 1 = X at *
    obtain ⟨tl, ta, ts⟩ := X
    simp only at *
    obtain ⟨N, hN⟩ : ∃ N : Nat, valP tl = (N : Int) := ⟨(valP tl).toNat, by omega⟩
    rw [hN] at e1 hv ⊢
    simp [Try.f76, t7, t8, l0, e1]
    generalize hLo : evLoop _ _ _ _ _ _ = R
    obtain ⟨e', τ', H', rfl, rfl, T', vs, bv, I'⟩ := loop_at hLo (hvSLoop (r := r) (p2 := p2) (p5 := p5) (q6 := q6) (N := N) (a0 := ta) (sh0 := ts) hs hby hl W m hm _ ⟨N, ta, ts, [], .nilSlice, [], Nat.le_refl _, ⟨by simp [t0], by simp [t2], by simp [t5], by simp [t6], by simp [t7], by simp [t8]⟩, by simp, by simp; omega, I1, rfl⟩ (by omega))
    exact ⟨_, _, by simp, T', vs, bv, I'⟩
  · have c' : (k == 1) = false := by simpa using c
    obtain ⟨H1, e1, k1, g1, le1⟩ := fixed_ev hs hby I.K W.bq.1 (by have := W.bq.2; have := I.ln'; omega) I.gq I.la hl 4 (by omega) (by omega) m (by omega)
    have I1 := I.move W k1 g1 le1
    have e : hvP k B a0 sh0 = (valP (takeS B a0 sh0 4).1, [], (takeS B a0 sh0 4).2) := by unfold hvP; rw [if_neg c]
    rw [e]
    simp only
    generalize takeS B a0 sh0 4 = X at *
    obtain ⟨tl, ta, ts⟩ := X
    simp only at *
    obtain ⟨gq, la, S, K, hlo, rest⟩ := I1
    obtain ⟨st, S2⟩ := S.setV (valP tl)
    refine ⟨_, _, by simp [Try.f76, t7, t8, l0, c', e1, st]; rfl, ⟨by simp [t0], by simp [t2], by simp [t5], by simp [t6], by simp [t7], by simp [t8]⟩, .nilSlice, [], ?_, la, S2, ?_, by simpa using hlo, fun b hb hp' hq' => by rw [AH.set_getN _ _ hp']; exact rest b hb hp' hq'⟩
    · rw [AH.set_getN _ _ (fun e => W.ne e.symm)]; exact gq
    · exact ⟨by simpa using K.next, fun b hb => by rw [AH.set_getN _ _ (by have := W.bp; omega)]; exact K.get b hb⟩
set_option maxRecDepth 20000 in
theorem rhS_2 {B : List Int} {s r : AV} {p2 p5 q6 q p : Nat} {k v : Int} {lo' lv : List Int} {no vs : AV} {bo bv : List Nat} {Hb h0 h : AH} {lo a0 : Nat} {sh0 : Bool} (hs : Bs Hb s B) (hby : By B) (hl : B.length ≤ 65536) (W : HvN q p Hb lo) (m : Nat) (hm : 1000 ≤ m) (τ : Tm) (T : HvR τ r p2 p5 q6 q p)
    (I : HvH B s q p a0 sh0 k v lo' lv [] no vs .nilSlice bo bv [] Hb h0 lo h) :
    ∃ τ' h', evAt Try.prog (ev Try.prog m) m 76 2047 τ h = evAt Try.prog (ev Try.prog m) m 76 4095 τ' h' ∧ HvR τ' r p2 p5 q6 q p ∧ ∃ ns bn, HvH B s q p (nsRun B (valP (takeS B a0 sh0 1).1).toNat (takeS B a0 sh0 1).2.1 (takeS B a0 sh0 1).2.2 []).2.1 (nsRun B (valP (takeS B a0 sh0 1).1).toNat (takeS B a0 sh0 1).2.1 (takeS B a0 sh0 1).2.2 []).2.2 k v lo' lv (nsRun B (valP (takeS B a0 sh0 1).1).toNat (takeS B a0 sh0 1).2.1 (takeS B a0 sh0 1).2.2 []).1 no vs ns bo bv bn Hb h0 lo h' := by
  obtain ⟨t0, t2, t5, t6, t7, t8⟩ := T
  rw [at_M Try.func76 2047 (by decide) 11 (by decide) (by kernel_rfl) [4095]]
  obtain ⟨H1, e1, k1, g1, le1⟩ := fixed_ev hs hby I.K W.bq.1 (by have := W.bq.2; have := I.ln'; omega) I.gq I.la hl 1 (by omega) (by omega) m (by omega)
  have I1 := I.move W k1 g1 le1
  have hx := takeS_len B a0 sh0 1
  have hv := valP_lt _ (takeS_by hby a0 sh0 1)
  have hpw := one_lt (l := (takeS B a0 sh0 1).1) hx.1
  generalize takeS B a0 sh0 1 = X at *
  obtain ⟨tl, ta, ts⟩ := X
  simp only at *
  obtain ⟨N, hN⟩ : ∃ N : Nat, valP tl = (N : Int) := ⟨(valP tl).toNat, by omega⟩
  rw [hN] at e1 hv ⊢
  simp [Try.f76, t7, t8, e1]
  generalize hLo : evLoop _ _ _ _ _ _ = R
  obtain ⟨e', τ', H', rfl, rfl, T', ns, bn, I'⟩ := loop_at hLo (hnSLoop (r := r) (p2 := p2) (p5 := p5) (q6 := q6) (N := N) (a0 := ta) (sh0 := ts) hs hby hl W m hm _ ⟨N, ta, ts, [], .nilSlice, [], Nat.le_refl _, ⟨by simp [t0], by simp [t2], by simp [t5], by simp [t6], by simp [t7], by simp [t8]⟩, by simp, by simp; omega, I1, rfl⟩ (by omega))
  exact ⟨_, _, by simp, T', ns, bn, I'⟩
end Go.Ev

/- A hello read by the reference: its end. -/
namespace Go.Ev
open Go Go.Proofs
set_option linter.unusedSimpArgs false
set_option linter.unusedVariables false

def zHl : List AV := hlC 0 0 .nilSlice .nilSlice .nilSlice zPm
theorem zHl_len : zHl.length = 18 := rfl
theorem zHl_one : zHl.all AV.one = true := rfl
theorem ld122 {X : AH} {p : Nat} {ro : Bool} {cs : List AV} (g : X.get p = some (.cells 122 ro cs)) (hl : cs.length = 18) : ldVar Try.prog 122 p 0 X = some (.agg cs) := by
  have : cs.take 18 = cs := List.take_of_length_le (by omega)
  simp [ldVar, g, hl, this]
theorem st122 {X : AH} {p : Nat} {c0 cs : List AV} (g : X.get p = some (.cells 122 false c0)) (h0 : c0.length = 18) (hl : cs.length = 18) (h1 : cs.all AV.one = true) : stVar Try.prog 122 p 0 (.agg cs) X = some (X.set p (.cells 122 false cs)) := by
  have := spl_mid cs [] c0 [] (by omega)
  simp only [List.nil_append, List.append_nil, List.length_nil] at this
  simp only [List.all_eq_true] at h1
  simp [stVar, g, h0, hl, this, List.all_eq_true]
  exact h1
theorem hlC_len {k v : Int} {no vs ns : AV} {ps : List AV} (h : ps.length = 13) : (hlC k v no vs ns ps).length = 18 := by simp [hlC, h]
theorem hlC_one {k v : Int} {no vs ns : AV} {ps : List AV} (h1 : no.one = true) (h2 : vs.one = true) (h3 : ns.one = true) (h : ps.all AV.one = true) : (hlC k v no vs ns ps).all AV.one = true := by
  simp only [hlC, List.all_cons, h1, h2, h3, h]; simp [AV.one]
theorem st5 {X : AH} {p : Nat} {k v : Int} {no vs ns : AV} {ps : List AV} (g : X.get p = some (.cells 122 false (hlC k v no vs ns zPm))) (hl : ps.length = 13) (h1 : ps.all AV.one = true) : stVar Try.prog 120 p 5 (.agg ps) X = some (X.set p (.cells 122 false (hlC k v no vs ns ps))) := by
  have e : spl (hlC k v no vs ns zPm) 5 ps = hlC k v no vs ns ps := by
    have := spl_mid ps [.int .i64 k, .int .i64 v, no, vs, ns] zPm [] (by rw [hl, zPm_len])
    simp only [List.append_nil] at this
    exact this
  simp only [List.all_eq_true] at h1
  simp [stVar, g, hlC_len zPm_len, hl, e, List.all_eq_true]
  exact h1
end Go.Ev

/- A hello read by the reference: its last stage. -/
namespace Go.Ev
open Go Go.Proofs
set_option linter.unusedSimpArgs false
set_option linter.unusedVariables false

/-- whether the hello is taken -/
def hOK (B : List Int) (a : Nat) (sh : Bool) (k v : Int) (lo' lv : List Int) (ln : List ByteArray) (P : Pm × Int) : Prop :=
  (restS B a sh).2.2 = false ∧ P.2 = 0 ∧ helOK k v lo'.length lv ln P.1.F P.1.o.length P.1.t.length P.1.f.length
/-- the whole hello in the heap -/
structure HeW (k v : Int) (lo' lv : List Int) (ln : List ByteArray) (P : Pm) (p : Nat) (lo : Nat) (cs : List AV) (h : AH) : Prop where
  ex : ∃ no vs ns vo vt vf bo bv bn b1 b2 b3 mid, cs = hlC k v no vs ns (pmC P.F P.nm vo vt vf) ∧ (Ty.sl 5 (.int .u8)).R true h [no] lo' bo ∧ (Ty.sl 3 (.int .i64)).R true h [vs] lv bv ∧ (Ty.sl 9 .str).R true h [ns] ln bn ∧ (bo ++ (bv ++ bn)).Nodup ∧ (∀ b ∈ bo ++ (bv ++ bn), lo ≤ b ∧ b < mid) ∧ lo ≤ mid ∧ PmR P vo vt vf b1 b2 b3 mid h
set_option maxRecDepth 20000 in
theorem rhS_3 {B : List Int} {s r : AV} {p2 p5 q6 q p : Nat} {k v : Int} {lo' lv : List Int} {ln : List ByteArray} {no vs ns : AV} {bo bv bn : List Nat} {Hb h0 h : AH} {lo a0 A6 : Nat} {sh0 : Bool} {sd : AV} (hs : Bs Hb s B) (hby : By B) (hl : B.length ≤ 65536) (W : HvN q p Hb lo) (m : Nat) (hm : 70100 ≤ m) (τ : Tm) (T : HvR τ r p2 p5 q6 q p)
    (I : HvH B s q p a0 sh0 k v lo' lv ln no vs ns bo bv bn Hb h0 lo h) (hlv : lv.length ≤ 100000) (g2 : Hb.get p2 = some (.cells 122 false zHl)) (g5 : Hb.get p5 = some (.cells 122 false zHl)) (g6 : Hb.get q6 = some (rdB sd A6 false)) (n2 : p2 < Hb.next) (n5 : p5 < Hb.next) (n6 : q6 < Hb.next) (n25 : p2 ≠ p5) (n26 : p2 ≠ q6) :
    ∃ τ' h', evAt Try.prog (ev Try.prog m) m 76 4095 τ h = some (.ret, τ', h') ∧ τ' 2 = .ptr p2 0 ∧ (∀ b, b < Hb.next → b ≠ p2 → h'.get b = Hb.get b) ∧ Hb.next ≤ h'.next ∧
      ((hOK B a0 sh0 k v lo' lv ln (rdP (restS B a0 sh0).1 (k == 2)) ∧ τ' 3 = .int .i64 A6 ∧ τ' 4 = .int .i64 0 ∧ ∃ cs, h'.get p2 = some (.cells 122 false cs) ∧ HeW k v lo' lv ln (rdP (restS B a0 sh0).1 (k == 2)).1 p lo cs h') ∨
       (¬ hOK B a0 sh0 k v lo' lv ln (rdP (restS B a0 sh0).1 (k == 2)) ∧ τ' 3 = .int .i64 0 ∧ τ' 4 = .int .i64 3 ∧ h'.get p2 = some (.cells 122 false zHl))) := by
  obtain ⟨t0, t2, t5, t6, t7, t8⟩ := T
  have hz : zHl = [.int .i64 0, .int .i64 0, .nilSlice, .nilSlice, .nilSlice, .int .i64 0, .int .i64 0, .int .i64 0, .int .i64 0, .int .i64 0, .int .i64 0, .int .i64 0, .int .i64 0, .int .i64 0, .bool false, .nilSlice, .nilSlice, .nilSlice] := rfl
  obtain ⟨vv, H1, e1, k1, o1, g1, le1⟩ := restS_ev hs I.K W.bq.1 (by have := W.bq.2; have := I.ln'; omega) I.gq I.la hl m (by omega)
  have I1 := I.move W k1 g1 le1
  have hcb : By (restS B a0 sh0).1 := takeS_by hby _ _ _
  have hcl : (restS B a0 sh0).1.length ≤ 65536 := Nat.le_trans (takeS_len B _ _ _).2 hl
  unfold hOK
  generalize restS B a0 sh0 = X at *
  obtain ⟨tl, ta, ts⟩ := X
  simp only at *
  have hsc : H1.get q = some (.cells 183 false [s, .int .i64 ta, .bool ts]) := g1
  have lq : ldVar Try.prog 4 q 2 H1 = some (.bool ts) := by simp [ldVar, hsc]
  rw [at_M Try.func76 4095 (by decide) 12 (by decide) (by kernel_rfl) [16383]]
  have bad : ∀ Y : AH, Kp Hb Y → ldVar Try.prog 122 p5 0 Y = some (.agg zHl) ∧ stVar Try.prog 122 p2 0 (.agg zHl) Y = some (Y.set p2 (.cells 122 false zHl)) := fun Y K =>
    ⟨ld122 ((K.get _ n5).trans g5) zHl_len, st122 ((K.get _ n2).trans g2) zHl_len zHl_len zHl_one⟩
  have badK : ∀ (Y : AH) (y : Blk), Kp Hb Y → (∀ b, b < Hb.next → b ≠ p2 → (Y.set p2 y).get b = Hb.get b) ∧ Hb.next ≤ (Y.set p2 y).next := fun Y y K =>
    ⟨fun b hb hne => by rw [AH.set_getN _ _ hne]; exact K.get b hb, by simpa using K.next⟩
  cases ts with
  | true =>
    obtain ⟨b1, b2⟩ := bad H1 I1.K
    obtain ⟨c1, c2⟩ := badK H1 (.cells 122 false zHl) I1.K
    exact ⟨_, H1.set p2 (.cells 122 false zHl), by simp [Try.f76, t2, t5, t7, e1, lq, b1, b2]; rfl, by simp [t2], c1, c2, .inr ⟨by simp, by simp, by simp, by simp⟩⟩
  | false =>
    have l0 := (hlA_of I1.S.g zPm_len).l0
    obtain ⟨vo, vt, vf, H2, b1, b2, b3, e2, R2, K2⟩ := ReadParamsS_ev o1.bs hcb hcl (k == 2) m (by omega)
    generalize rdP tl (k == 2) = PP at *
    obtain ⟨P, cdv⟩ := PP
    simp only at *
    have oo := R2.Ro.sl_one
    have ot := R2.Rt.sl_one
    have of_ := R2.Rf.sl_one
    have len := (pmC_rest P.F R2.hF P.nm vo vt vf).2.2.2.2
    have one := pmC_one (F := P.F) (nm := P.nm) oo ot of_
    simp [Try.f76, t7, t8, e1, lq]
    generalize hτ : upd _ 107 _ = τ1
    have s2 : τ1 2 = .ptr p2 0 := by rw [← hτ]; simp [t2]
    have s5 : τ1 5 = .ptr p5 0 := by rw [← hτ]; simp [t5]
    have s6 : τ1 6 = .ptr q6 0 := by rw [← hτ]; simp [t6]
    have s8 : τ1 8 = .ptr p 0 := by rw [← hτ]; simp [t8]
    have s11 : τ1 11 = vv := by rw [← hτ]; simp
    clear hτ
    have H1n := I1.K.next
    have K2n := K2.next
    have S1p := I1.S.pn
    obtain ⟨Z, hZ⟩ : ∃ Z : AH, Z = H2.push (.cells 120 false zPm) := ⟨_, rfl⟩
    have nZ : Z.next = H2.next + 1 := by rw [hZ]; simp
    have gZ : Z.get H2.next = some (.cells 120 false zPm) := by rw [hZ]; simp
    have KZ : Kp H1 Z := by rw [hZ]; exact K2.push _
    have stZ := st120 gZ zPm_len len one
    obtain ⟨Z1, hZ1⟩ : ∃ Y : AH, Y = Z.set H2.next (.cells 120 false (pmC P.F P.nm vo vt vf)) := ⟨_, rfl⟩
    rw [← hZ1] at stZ
    have nZ1 : Z1.next = Z.next := by rw [hZ1]; simp
    have ldZ := ld120 (X := Z1) (p := H2.next) (by rw [hZ1]; exact AH.set_getS _ _ _) len
    have KZ1 : Kp H1 Z1 := ⟨by have := KZ.next; omega, fun b hb => by rw [hZ1, AH.set_getN _ _ (by omega)]; exact KZ.get b hb⟩
    have S2 : HeS k v lo' lv ln no vs ns bo bv bn p lo Z1 := I1.S.stay KZ1.next (KZ1.get p S1p) fun b hb => KZ1.get b (I1.S.mem b hb)
    have stP := st5 S2.g len one
    obtain ⟨Z2, hZ2⟩ : ∃ Y : AH, Y = Z1.set p (.cells 122 false (hlC k v no vs ns (pmC P.F P.nm vo vt vf))) := ⟨_, rfl⟩
    rw [← hZ2] at stP
    have nZ2 : Z2.next = Z1.next := by rw [hZ2]; simp
    have gZ2 : Z2.get p = some (.cells 122 false (hlC k v no vs ns (pmC P.F P.nm vo vt vf))) := by rw [hZ2]; exact AH.set_getS _ _ _
    have oZ2 : ∀ b, b ≠ p → Z2.get b = Z1.get b := fun b hb => by rw [hZ2]; exact AH.set_getN _ _ hb
    have KB2 : Kp Hb Z2 := ⟨by have := KZ1.next; omega, fun b hb => by rw [oZ2 b (by have := W.bp; omega), KZ1.get b (by omega)]; exact I1.K.get b hb⟩
    have hpm := S2.pl
    have Ro2 : (Ty.sl 5 (.int .u8)).R true Z2 [no] lo' bo := S2.Ro.stay (by omega) fun b hb => oZ2 b (fun e => hpm (by rw [← e]; simp [hb]))
    have Rv2 : (Ty.sl 3 (.int .i64)).R true Z2 [vs] lv bv := S2.Rv.stay (by omega) fun b hb => oZ2 b (fun e => hpm (by rw [← e]; simp [hb]))
    have Rn2 : (Ty.sl 9 .str).R true Z2 [ns] ln bn := S2.Rn.stay (by omega) fun b hb => oZ2 b (fun e => hpm (by rw [← e]; simp [hb]))
    have hmid : ∀ b, H1.next ≤ b → b < H2.next → Z2.get b = H2.get b := fun b hb hb' => by
      rw [oZ2 b (by omega), hZ1, AH.set_getN _ _ (by omega), hZ, AH.push_get, if_neg (by omega)]
    have R3 : PmR P vo vt vf b1 b2 b3 H1.next Z2 := ⟨R2.hF, R2.iF, R2.Ro.stay (by omega) fun b hb => hmid b (R2.lo b (by simp [hb])) (R2.Ro.mem b hb), R2.Rt.stay (by omega) fun b hb => hmid b (R2.lo b (by simp [hb])) (R2.Rt.mem b hb), R2.Rf.stay (by omega) fun b hb => hmid b (R2.lo b (by simp [hb])) (R2.Rf.mem b hb), R2.nd, R2.lo⟩
    have hZ' := hZ.symm
    rw [zPm_eq] at hZ'
    clear hZ hZ1 hZ2
    rw [at_M Try.func76 16383 (by decide) 14 (by decide) (by kernel_rfl) []]
    by_cases cc : cdv = 0
    · subst cc
      obtain ⟨H3, e3, K3⟩ := helloOKS_ev (k := k) (v := v) (nm := P.nm) (Ro2.lenA (P := Try.prog) (T := 34) (by simp)) Ro2.sl_one Rv2.weak Rn2 R3.hF (R3.Ro.lenA (P := Try.prog) (T := 34) (by simp)) (R3.Rt.lenA (P := Try.prog) (T := 34) (by simp)) (R3.Rf.lenA (P := Try.prog) (T := 34) (by simp)) oo ot of_ m (by omega)
      have lp2 := ld122 gZ2 (hlC_len len)
      have KB3 := KB2.trans K3
      by_cases ok : helOK k v lo'.length lv ln P.F P.o.length P.t.length P.f.length
      · rw [decide_eq_true ok] at e3
        have pZ2 : p < Z2.next := by omega
        have gp3 := (K3.get p pZ2).trans gZ2
        have lp3 := ld122 gp3 (hlC_len len)
        have g63 := (KB3.get q6 n6).trans g6
        have h1' := hlC_one (k := k) (v := v) Ro2.sl_one Rv2.sl_one Rn2.sl_one one
        have st := st122 ((KB3.get p2 n2).trans g2) zHl_len (hlC_len (k := k) (v := v) (no := no) (vs := vs) (ns := ns) len) h1'
        have l6 : ldVar Try.prog 3 q6 1 H3 = some (.int .i64 A6) := by unfold rdB at g63; simp [ldVar, g63]
        have l6' : ldVar Try.prog 3 q6 1 (H3.set p2 (.cells 122 false (hlC k v no vs ns (pmC P.F P.nm vo vt vf)))) = some (.int .i64 A6) := by unfold rdB at g63; unfold ldVar; rw [AH.set_getN _ _ (fun e => n26 e.symm), g63]; simp
        have lp3' : ldVar Try.prog 122 p 0 (H3.set p2 (.cells 122 false (hlC k v no vs ns (pmC P.F P.nm vo vt vf)))) = some (.agg (hlC k v no vs ns (pmC P.F P.nm vo vt vf))) := ld122 (by rw [AH.set_getN _ _ (by have := W.bp; omega)]; exact gp3) (hlC_len len)
        obtain ⟨c1, c2⟩ := badK H3 (.cells 122 false (hlC k v no vs ns (pmC P.F P.nm vo vt vf))) KB3
        refine ⟨_, H3.set p2 (.cells 122 false (hlC k v no vs ns (pmC P.F P.nm vo vt vf))), by simp [Try.f76, U, s2, s5, s6, s8, s11, l0, e2, hZ', fillA, stZ, ldZ, stP, lp2, e3, lp3, l6, l6', lp3', st, evHist, ObsOk, ObOk, List.getElem?_cons_zero]; rfl, by simp [s2], c1, c2, .inl ⟨⟨rfl, ok⟩, by simp, by simp, hlC k v no vs ns (pmC P.F P.nm vo vt vf), by simp, ⟨no, vs, ns, vo, vt, vf, bo, bv, bn, b1, b2, b3, H1.next, rfl, ?_, ?_, ?_, S2.nd, fun b hb => ⟨S2.bl b hb, I1.S.mem b hb⟩, I1.ln', R3.hF, R3.iF, ?_, ?_, ?_, R3.nd, R3.lo⟩⟩⟩
        · exact (Ro2.kp K3).stay (by simp) fun b hb => AH.set_getN _ _ (by have := S2.bl b (by simp [hb]); have := W.bq; omega)
        · exact (Rv2.kp K3).stay (by simp) fun b hb => AH.set_getN _ _ (by have := S2.bl b (by simp [hb]); have := W.bq; omega)
        · exact (Rn2.kp K3).stay (by simp) fun b hb => AH.set_getN _ _ (by have := S2.bl b (by simp [hb]); have := W.bq; omega)
        · exact (R3.Ro.kp K3).stay (by simp) fun b hb => AH.set_getN _ _ (by have := R3.lo b (by simp [hb]); omega)
        · exact (R3.Rt.kp K3).stay (by simp) fun b hb => AH.set_getN _ _ (by have := R3.lo b (by simp [hb]); omega)
        · exact (R3.Rf.kp K3).stay (by simp) fun b hb => AH.set_getN _ _ (by have := R3.lo b (by simp [hb]); omega)
      · rw [decide_eq_false ok] at e3
        obtain ⟨b1', b2'⟩ := bad H3 KB3
        obtain ⟨c1, c2⟩ := badK H3 (.cells 122 false zHl) KB3
        exact ⟨_, H3.set p2 (.cells 122 false zHl), by simp [Try.f76, U, s2, s5, s6, s8, s11, l0, e2, hZ', fillA, stZ, ldZ, stP, lp2, e3, b1', b2']; rfl, by simp [s2], c1, c2, .inr ⟨fun _ => ok, by simp, by simp, by simp⟩⟩
    · have cc' : (cdv != 0) = true := by simpa using cc
      obtain ⟨b1', b2'⟩ := bad Z2 KB2
      obtain ⟨c1, c2⟩ := badK Z2 (.cells 122 false zHl) KB2
      exact ⟨_, Z2.set p2 (.cells 122 false zHl), by simp [Try.f76, U, s2, s5, s6, s8, s11, l0, e2, hZ', fillA, stZ, ldZ, stP, cc', b1', b2']; rfl, by simp [s2], c1, c2, .inr ⟨fun h => absurd h cc, by simp, by simp, by simp⟩⟩
end Go.Ev

/- A hello read by the reference: its head. -/
namespace Go.Ev
open Go Go.Proofs
set_option linter.unusedSimpArgs false
set_option linter.unusedVariables false

/-- the heap behind the first three objects -/
structure HdS (H : AH) (r : AV) (Z : AH) : Prop where
  n : Z.next = H.next + 3
  g2 : Z.get H.next = some (.cells 122 false zHl)
  g5 : Z.get (H.next + 1) = some (.cells 122 false zHl)
  g6 : Z.get (H.next + 2) = some (rdB r 1 false)
  K : Kp H Z
set_option maxRecDepth 20000 in
theorem rhS_0 {H : AH} {r : AV} {l : List Int} (hs : Bs H r l) (hby : By l) (hl : l.length ≤ 65536) (m : Nat) (hm : 1000 ≤ m) :
    (∃ cdv : Int, (l.length = 0 ∧ cdv = 2 ∨ l.length ≠ 0 ∧ l.getD 0 0 ≠ 1 ∧ l.getD 0 0 ≠ 2 ∧ cdv = 3) ∧ ∃ Z, ev Try.prog (m + 1) 76 [r] H = some (.tuple [.agg zHl, .int .i64 0, .int .i64 cdv], Z) ∧ Kp H Z) ∨
    (l.length ≠ 0 ∧ (l.getD 0 0 = 1 ∨ l.getD 0 0 = 2) ∧ ∃ τ Z, ev Try.prog (m + 1) 76 [r] H = resM Try.prog [ResultVar.cell 2 122, ResultVar.tmp 3, ResultVar.tmp 4] (evAt Try.prog (ev Try.prog m) m 76 127 τ Z) ∧ HdS H r Z ∧ τ 0 = r ∧ τ 2 = .ptr H.next 0 ∧ τ 5 = .ptr (H.next + 1) 0 ∧ τ 6 = .ptr (H.next + 2) 0) := by
  have hL := hs.len
  have hro := hs.one
  obtain ⟨Z1, hZ1⟩ : ∃ Z : AH, Z = H.push (.cells 122 false zHl) := ⟨_, rfl⟩
  have n1 : Z1.next = H.next + 1 := by rw [hZ1]; simp
  have g1 : Z1.get H.next = some (.cells 122 false zHl) := by rw [hZ1]; simp
  have k1 : Kp H Z1 := by rw [hZ1]; exact (Kp.refl H).push _
  obtain ⟨Z2, hZ2⟩ : ∃ Z : AH, Z = Z1.push (.cells 122 false zHl) := ⟨_, rfl⟩
  have n2 : Z2.next = Z1.next + 1 := by rw [hZ2]; simp
  have g2 : Z2.get Z1.next = some (.cells 122 false zHl) := by rw [hZ2]; simp
  have k2 : Kp Z1 Z2 := by rw [hZ2]; exact (Kp.refl Z1).push _
  have st2 : stVar Try.prog 122 Z1.next 0 (.agg zHl) Z2 = some Z2 := by
    rw [st122 g2 zHl_len zHl_len zHl_one, hZ2, push_set _ _ rfl]
  have z1' := hZ1.symm
  have z2' := hZ2.symm
  have hz : zHl = [.int .i64 0, .int .i64 0, .nilSlice, .nilSlice, .nilSlice, .int .i64 0, .int .i64 0, .int .i64 0, .int .i64 0, .int .i64 0, .int .i64 0, .int .i64 0, .int .i64 0, .int .i64 0, .bool false, .nilSlice, .nilSlice, .nilSlice] := rfl
  have ld5 := ld122 g2 zHl_len
  have stf := st122 ((k2.get H.next (by omega)).trans g1) zHl_len zHl_len zHl_one
  have ldf := ld122 (X := Z2.set H.next (.cells 122 false zHl)) (AH.set_getS _ _ _) zHl_len
  have kf : Kp H (Z2.set H.next (.cells 122 false zHl)) := ⟨by simp; omega, fun b hb => by rw [AH.set_getN _ _ (by omega), k2.get b (by omega)]; exact k1.get b hb⟩
  rw [hz] at z1' z2' st2 ld5 stf ldf kf
  rw [hz]
  clear hZ1 hZ2
  have tl1 := eq_false (show ¬ (65536 < (l.length : Int)) by omega)
  have tl2 := eq_false (show ¬ (65536 < l.length) by omega)
  rw [ev_M Try.func76 ok76 [127] m _ H (by simp [Try.f76])]
  by_cases c0 : l.length = 0
  · refine .inl ⟨2, .inl ⟨c0, rfl⟩, _, ?_, kf⟩
    have c0' : l = [] := List.length_eq_zero_iff.1 c0
    subst c0'
    simp [Try.f76, U, tm0, z1', z2', fillA, st2, hL, ld5, stf, ldf]
  · have hlt : 0 < l.length := by omega
    obtain ⟨b, o, u0, u1, u2⟩ := hs.at_
    have u1 := u1 0 hlt
    have ix : idxA Try.prog 34 r (.int .i64 0) = some (.ptr b (o + 0)) := u1
    have lv := u2 Z2 ((k1.trans k2).get b (u0 hlt)) 0 hlt
    simp only [Nat.add_zero] at ix lv
    have hd : l.getD 0 0 = l[0] := by simp [List.getD_eq_getElem?_getD, hlt]
    rw [hd]
    have c0' : ((l.length : Int) == 0) = false := by simp; exact fun e => c0 (by rw [e]; rfl)
    have c0'' : (l = []) = False := eq_false (fun e => c0 (by rw [e]; rfl))
    generalize l[0] = x at *
    obtain ⟨Z3, hZ3⟩ : ∃ Z : AH, Z = Z2.push (.cells 183 false [r, .int .i64 1, .bool false]) := ⟨_, rfl⟩
    have n3 : Z3.next = Z2.next + 1 := by rw [hZ3]; simp
    have g3 : Z3.get Z2.next = some (rdB r 1 false) := by rw [hZ3]; simp [rdB]
    have k3 : Kp Z2 Z3 := by rw [hZ3]; exact (Kp.refl Z2).push _
    have z3' := hZ3.symm
    have hd3 : HdS H r Z3 := ⟨by omega, ((k2.trans k3).get _ (by omega)).trans g1, by rw [← n1]; exact (k3.get _ (by omega)).trans g2, by rw [show H.next + 2 = Z2.next by omega]; exact g3, (k1.trans k2).trans k3⟩
    clear hZ3
    by_cases c1 : x = 1
    · subst c1
      right
      exact ⟨c0, .inl rfl, _, Z3, by simp [Try.f76, U, tm0, z1', z2', fillA, st2, hL, tl1, tl2, c0', c0'', ix, lv, z3', hro, cells_one hro, spl]; rfl, hd3, by simp, by simp, by simp [n1], by simp [n2, n1]⟩
    · by_cases c2 : x = 2
      · subst c2
        right
        exact ⟨c0, .inr rfl, _, Z3, by simp [Try.f76, U, tm0, z1', z2', fillA, st2, hL, tl1, tl2, c0', c0'', ix, lv, z3', hro, cells_one hro, spl]; rfl, hd3, by simp, by simp, by simp [n1], by simp [n2, n1]⟩
      · have f1 : (x != 1) = true := by simpa using c1
        have f2 : (x != 2) = true := by simpa using c2
        refine .inl ⟨3, .inr ⟨c0, c1, c2, rfl⟩, _, ?_, kf⟩
        simp [Try.f76, U, tm0, z1', z2', fillA, st2, hL, ld5, stf, ldf, tl1, tl2, c0', c0'', ix, lv, f1, f2]
end Go.Ev

/- A hello read by the reference: its body taken. -/
namespace Go.Ev
open Go Go.Proofs
set_option linter.unusedSimpArgs false
set_option linter.unusedVariables false

theorem two_lt {l : List Int} (h : l.length ≤ 2) : (256 : Int) ^ l.length ≤ 65536 := by
  generalize l.length = j at h
  match j, h with
  | 0, _ => decide
  | 1, _ => decide
  | 2, _ => decide
/-- the body's length and the body -/
def bdP (l : List Int) : List Int × Nat × Bool := takeS l (takeS l 1 false 2).2.1 (takeS l 1 false 2).2.2 (valP (takeS l 1 false 2).1)
set_option maxRecDepth 20000 in
theorem rhS_00 {H Z : AH} {r : AV} {l : List Int} (hs : Bs H r l) (hby : By l) (hl : l.length ≤ 65536) (h0 : l.length ≠ 0) (D : HdS H r Z) (m : Nat) (hm : 1000 ≤ m) (τ : Tm) (t0 : τ 0 = r) (t2 : τ 2 = .ptr H.next 0) (t5 : τ 5 = .ptr (H.next + 1) 0) (t6 : τ 6 = .ptr (H.next + 2) 0) :
    ((bdP l).2.2 = true ∧ ∃ τ' Y, evAt Try.prog (ev Try.prog m) m 76 127 τ Z = some (.ret, τ', Y.set H.next (.cells 122 false zHl)) ∧ Kp H Y ∧ H.next < Y.next ∧ τ' 2 = .ptr H.next 0 ∧ τ' 3 = .int .i64 0 ∧ τ' 4 = .int .i64 2) ∨
    ((bdP l).2.2 = false ∧ ∃ τ' H2 s, evAt Try.prog (ev Try.prog m) m 76 127 τ Z = evAt Try.prog (ev Try.prog m) m 76 511 τ' (H2.push (rdB s 0 false)) ∧ Bs H2 s (bdP l).1 ∧ Kp H H2 ∧ H.next + 3 ≤ H2.next ∧ H2.get H.next = some (.cells 122 false zHl) ∧ H2.get (H.next + 1) = some (.cells 122 false zHl) ∧ H2.get (H.next + 2) = some (rdB r (bdP l).2.1 false) ∧ τ' 0 = r ∧ τ' 2 = .ptr H.next 0 ∧ τ' 5 = .ptr (H.next + 1) 0 ∧ τ' 6 = .ptr (H.next + 2) 0 ∧ τ' 7 = .ptr H2.next 0) := by
  have hL := hs.len
  have hn := D.n
  obtain ⟨H1, e1, k1, g1, le1⟩ := fixed_ev hs hby D.K (by omega) (by omega) D.g6 (by omega) hl 2 (by omega) (by omega) m (by omega)
  have hx := takeS_len l 1 false 2
  have hv := valP_lt _ (takeS_by hby 1 false 2)
  have hpw := two_lt (l := (takeS l 1 false 2).1) hx.1
  have K1 : Kp H H1 := k1.kp D.K (by omega)
  obtain ⟨s, H2, e2, k2, o2, g2, le2⟩ := takeR_ev hs K1 (by omega) (by have := k1.next; omega) g1 le1 hl (valP (takeS l 1 false 2).1) hv.1 (by omega) m (by omega)
  have K2 : Kp H H2 := k2.kp K1 (by omega)
  unfold bdP
  generalize takeS l 1 false 2 = X at *
  obtain ⟨tl, ta, ts⟩ := X
  simp only at *
  generalize takeS l ta ts (valP tl) = V at *
  obtain ⟨vl, va, vs⟩ := V
  simp only at *
  have k1n := k1.next
  have k2n := k2.next
  have a2 : H2.get H.next = some (.cells 122 false zHl) := by rw [k2.get _ (by omega) (by omega), k1.get _ (by omega) (by omega)]; exact D.g2
  have a5 : H2.get (H.next + 1) = some (.cells 122 false zHl) := by rw [k2.get _ (by omega) (by omega), k1.get _ (by omega) (by omega)]; exact D.g5
  obtain ⟨Y, hY⟩ : ∃ Y : AH, Y = H2.push (.cells 183 false [s, .int .i64 0, .bool false]) := ⟨_, rfl⟩
  have nY : Y.next = H2.next + 1 := by rw [hY]; simp
  have KY : Kp H2 Y := by rw [hY]; exact (Kp.refl H2).push _
  have hY' := hY.symm
  have so := o2.bs.one
  have gq : Y.get (H.next + 2) = some (rdB r va vs) := by rw [KY.get _ (by omega)]; exact g2
  have lq : ldVar Try.prog 4 (H.next + 2) 2 Y = some (.bool vs) := by unfold rdB at gq; simp [ldVar, gq]
  have l5 := ld122 ((KY.get (H.next + 1) (by omega)).trans a5) zHl_len
  have st := st122 ((KY.get H.next (by omega)).trans a2) zHl_len zHl_len zHl_one
  rw [at_M Try.func76 127 (by decide) 7 (by decide) (by kernel_rfl) [511]]
  cases vs with
  | true =>
    exact .inl ⟨rfl, _, Y, by simp [Try.f76, t2, t5, t6, e1, e2, hY', so, cells_one so, spl, lq, l5, st]; rfl, K2.trans KY, by omega, by simp [t2], by simp, by simp⟩
  | false =>
    refine .inr ⟨rfl, _, H2, s, by simp [Try.f76, t2, t5, t6, e1, e2, hY', so, cells_one so, spl, lq]; rw [hY]; rfl, o2.bs, K2, by omega, a2, a5, g2, by simp [t0], by simp [t2], by simp [t5], by simp [t6], by simp⟩
end Go.Ev

/- A hello read by the reference: the object with its nonce. -/
namespace Go.Ev
open Go Go.Proofs
set_option linter.unusedSimpArgs false
set_option linter.unusedVariables false

set_option maxRecDepth 20000 in
theorem rhS_01 {H H2 : AH} {r s : AV} {l B : List Int} (hs : Bs H r l) (h0 : 0 < l.length) (hsB : Bs H2 s B) (hbB : By B) (hlB : B.length ≤ 65536) (K : Kp H H2) (m : Nat) (hm : 1000 ≤ m) (τ : Tm) {p2 p5 q6 : Nat} (t0 : τ 0 = r) (t2 : τ 2 = .ptr p2 0) (t5 : τ 5 = .ptr p5 0) (t6 : τ 6 = .ptr q6 0) (t7 : τ 7 = .ptr H2.next 0) (hk : 0 ≤ l[0] ∧ l[0] < 256) :
    ∃ τ' p h no bo, evAt Try.prog (ev Try.prog m) m 76 511 τ (H2.push (rdB s 0 false)) = evAt Try.prog (ev Try.prog m) m 76 1023 τ' h ∧ HvR τ' r p2 p5 q6 H2.next p ∧ HvN H2.next p H2 (H2.next + 1) ∧ HvH B s H2.next p (takeS B 0 false 16).2.1 (takeS B 0 false 16).2.2 l[0] 0 (takeS B 0 false 16).1 [] [] no .nilSlice .nilSlice bo [] [] H2 H2 (H2.next + 1) h := by
  obtain ⟨Y, hY⟩ : ∃ Y : AH, Y = H2.push (rdB s 0 false) := ⟨_, rfl⟩
  have nY : Y.next = H2.next + 1 := by rw [hY]; simp
  have gY : Y.get H2.next = some (rdB s 0 false) := by rw [hY]; simp
  have KY : Kp H2 Y := by rw [hY]; exact (Kp.refl H2).push _
  rw [← hY]
  obtain ⟨R1, hR⟩ : ∃ R : AH, R = Y.res 1 := ⟨_, rfl⟩
  have nR : R1.next = Y.next + 1 := by rw [hR]; rfl
  have oR : ∀ c, c < Y.next → R1.get c = Y.get c := fun c hc => by rw [hR, res_get, if_neg (by omega)]
  have KR : Kp H2 R1 := ⟨by omega, fun c hc => by rw [oR c (by omega)]; exact KY.get c hc⟩
  obtain ⟨no, H3, e3, k3, o3, g3, le3⟩ := takeR_ev hsB KR (Nat.le_refl _) (by omega) ((oR _ (by omega)).trans gY) (by omega) hlB 16 (by omega) (by omega) m (by omega)
  have hb3 := takeS_by hbB 0 false 16
  obtain ⟨bo, Ro, ndo, bob⟩ := ow_tB o3 hb3
  obtain ⟨b, o, u0, u1, u2⟩ := hs.at_
  have ix : idxA Try.prog 34 r (.int .i64 0) = some (.ptr b (o + 0)) := u1 0 h0
  have kb : b < H2.next := by have := u0 h0; have := K.next; omega
  have lvA : ∀ X : AH, X.get b = H2.get b → ldVar Try.prog 5 b o X = some (.int .u8 l[0]) := fun X hX => u2 X (hX.trans (K.get b (u0 h0))) 0 h0
  have lv := lvA R1 (KR.get b kb)
  have k3n := k3.next
  have g3b : H3.get b = H2.get b := by rw [k3.get b (by omega) (by omega)]; exact KR.get b kb
  have lv3 := lvA H3 g3b
  simp only [Nat.add_zero] at ix
  have ov := Ro.sl_one
  have hR' := hR.symm
  have wk : IntKind.i64.wrap l[0] = l[0] := wrap_i64 (by omega) (by omega)
  generalize l[0] = x at *
  obtain ⟨W, hW⟩ : ∃ W : AH, W = (H3.set Y.next (.cells 122 false zHl)).set Y.next (.cells 122 false (hlC x 0 no .nilSlice .nilSlice zPm)) := ⟨_, rfl⟩
  have oW : ∀ c, c ≠ Y.next → W.get c = H3.get c := fun c hc => by rw [hW, AH.set_getN _ _ hc, AH.set_getN _ _ hc]
  have nW : W.next = H3.next := by rw [hW]; simp
  have gW : W.get Y.next = some (.cells 122 false (hlC x 0 no .nilSlice .nilSlice zPm)) := by rw [hW]; simp
  have key : HvN H2.next Y.next H2 (H2.next + 1) := ⟨⟨Nat.le_refl _, by omega⟩, by omega, by omega⟩
  have key2 : HvH B s H2.next Y.next (takeS B 0 false 16).2.1 (takeS B 0 false 16).2.2 x 0 (takeS B 0 false 16).1 [] [] no .nilSlice .nilSlice bo [] [] H2 H2 (H2.next + 1) W := by
    refine ⟨by rw [oW _ (by omega)]; exact g3, le3, ⟨gW, Ro.stay (by omega) fun c hc => oW c (by have := bob c hc; omega), .inl ⟨rfl, rfl, rfl⟩, .inl ⟨rfl, rfl, rfl⟩, by simpa using ndo, fun c hc => by have := bob c (by simpa using hc); omega, fun hc => by have := bob _ (by simpa using hc); omega, by omega⟩, ⟨by omega, fun c hc => by rw [oW c (by omega), k3.get c (by omega) (by omega)]; exact KR.get c hc⟩, by omega, fun c hc h1 h2 => by rw [oW c (by omega), k3.get c (by omega) h2]; exact KR.get c (by omega)⟩
  have st := st122 (X := H3.set Y.next (.cells 122 false zHl)) (AH.set_getS _ _ _) zHl_len (hlC_len (k := x) (v := 0) (no := no) (vs := .nilSlice) (ns := .nilSlice) zPm_len) (hlC_one ov rfl rfl zPm_one)
  rw [← hW] at st
  simp only [zHl, hlC, zPm_eq] at st
  rw [at_M Try.func76 511 (by decide) 9 (by decide) (by kernel_rfl) [1023]]
  exact ⟨_, Y.next, W, no, bo, by simp [Try.f76, U, t0, t7, ix, hR', lv, lv3, wk, convA, e3, fillA, spl, ov, cells_one ov, st, evHist, ObsOk, ObOk, List.getElem?_cons_zero]; rfl, ⟨by simp [t0], by simp [t2], by simp [t5], by simp [t6], by simp [t7], by simp⟩, key, key2⟩
end Go.Ev

/- A hello read by the reference: the whole function. -/
namespace Go.Ev
open Go Go.Proofs
set_option linter.unusedSimpArgs false
set_option linter.unusedVariables false

def hpZ : Hp := ⟨0, 0, [], [], [], pmZ⟩
/-- a hello read: the hello, what it takes, the code -/
noncomputable def rhP (l : List Int) : Hp × Int × Int :=
  if l.length = 0 then (hpZ, 0, 2)
  else if l.getD 0 0 ≠ 1 ∧ l.getD 0 0 ≠ 2 then (hpZ, 0, 3)
  else if (bdP l).2.2 = true then (hpZ, 0, 2)
  else if (helP (l.getD 0 0) (bdP l).1).2 = true then ((helP (l.getD 0 0) (bdP l).1).1, (bdP l).2.1, 0) else (hpZ, 0, 3)
theorem heW_zero (p lo : Nat) (h : AH) : HeW 0 0 [] [] [] pmZ p lo zHl h :=
  ⟨.nilSlice, .nilSlice, .nilSlice, .nilSlice, .nilSlice, .nilSlice, [], [], [], [], [], [], lo, rfl, .inl ⟨rfl, rfl, rfl⟩, .inl ⟨rfl, rfl, rfl⟩, .inl ⟨rfl, rfl, rfl⟩, by simp, by simp, Nat.le_refl _, pmZ_R _ _⟩
theorem HeW.low {k v : Int} {lo' lv : List Int} {ln : List ByteArray} {P : Pm} {p lo lo2 : Nat} {cs : List AV} {h : AH} (X : HeW k v lo' lv ln P p lo cs h) (hlo : lo2 ≤ lo) (q : Nat) : HeW k v lo' lv ln P q lo2 cs h := by
  obtain ⟨no, vs, ns, vo, vt, vf, bo, bv, bn, b1, b2, b3, mid, h1, h2, h3, h4, h5, h6, h8, h7⟩ := X.ex
  exact ⟨no, vs, ns, vo, vt, vf, bo, bv, bn, b1, b2, b3, mid, h1, h2, h3, h4, h5, fun b hb => ⟨by have := (h6 b hb).1; omega, (h6 b hb).2⟩, by omega, h7⟩
theorem HeW.len {k v : Int} {lo' lv : List Int} {ln : List ByteArray} {P : Pm} {p lo : Nat} {cs : List AV} {h : AH} (X : HeW k v lo' lv ln P p lo cs h) : cs.length = 18 := by
  obtain ⟨no, vs, ns, vo, vt, vf, bo, bv, bn, b1, b2, b3, mid, rfl, h2, h3, h4, h5, h6, h8, h7⟩ := X.ex
  exact hlC_len (pmC_rest P.F h7.hF P.nm vo vt vf).2.2.2.2
theorem vsRun_len (B : List Int) : ∀ (n a : Nat) (sh : Bool) (acc : List Int), (vsRun B n a sh acc).1.length ≤ acc.length + n
  | 0, a, sh, acc => by simp [vsRun]
  | n + 1, a, sh, acc => by
    simp only [vsRun]
    split
    · simp
    · have := vsRun_len B n (takeS B a sh 4).2.1 (takeS B a sh 4).2.2 (acc ++ [valP (takeS B a sh 4).1])
      simp at this ⊢; omega
theorem hvP_len {B : List Int} (hb : By B) (k : Int) (a : Nat) (sh : Bool) : (hvP k B a sh).2.1.length ≤ 100000 := by
  unfold hvP
  split
  · have h1 := vsRun_len B (valP (takeS B a sh 1).1).toNat (takeS B a sh 1).2.1 (takeS B a sh 1).2.2 []
    have h2 := valP_lt _ (takeS_by hb a sh 1)
    have h3 := one_lt (takeS_len B a sh 1).1
    simp at h1 ⊢; omega
  · simp
set_option maxRecDepth 20000 in
theorem ReadHelloS_ev {H : AH} {r : AV} {l : List Int} (hs : Bs H r l) (hby : By l) (hl : l.length ≤ 65536) (m : Nat) (hm : 71000 ≤ m) :
    ∃ cs H', ev Try.prog m 76 [r] H = some (.tuple [.agg cs, .int .i64 (rhP l).2.1, .int .i64 (rhP l).2.2], H') ∧ HeW (rhP l).1.k (rhP l).1.v (rhP l).1.no (rhP l).1.vs (rhP l).1.ns (rhP l).1.P 0 H.next cs H' ∧ Kp H H' := by
  obtain ⟨m, rfl⟩ : ∃ k, m = k + 1 := ⟨m - 1, by omega⟩
  rcases rhS_0 hs hby hl m (by omega) with ⟨cdv, hc, Z, e, K⟩ | ⟨h0, h12, τ, Z, e, D, t0, t2, t5, t6⟩
  · have hr : rhP l = (hpZ, 0, cdv) := by
      unfold rhP
      rcases hc with ⟨c1, rfl⟩ | ⟨c1, c2, c3, rfl⟩
      · rw [if_pos c1]
      · rw [if_neg c1, if_pos ⟨c2, c3⟩]
    rw [hr]
    exact ⟨zHl, Z, e, heW_zero _ _ _, K⟩
  · have hn12 : ¬ (l.getD 0 0 ≠ 1 ∧ l.getD 0 0 ≠ 2) := by omega
    rcases rhS_00 hs hby hl h0 D m (by omega) τ t0 t2 t5 t6 with ⟨hb, τ1, Y, e1, K1, n1, u2, u3, u4⟩ | ⟨hb, τ1, H2, s, e1, bs2, K2, n2, g2, g5, g6, u0, u2, u5, u6, u7⟩
    · have hr : rhP l = (hpZ, 0, 2) := by unfold rhP; rw [if_neg h0, if_neg hn12, if_pos hb]
      rw [hr]
      have lr := ld122 (X := Y.set H.next (.cells 122 false zHl)) (p := H.next) (AH.set_getS _ _ _) zHl_len
      refine ⟨zHl, Y.set H.next (.cells 122 false zHl), ?_, heW_zero _ _ _, ⟨by simpa using K1.next, fun b hb' => by rw [AH.set_getN _ _ (by omega)]; exact K1.get b hb'⟩⟩
      rw [e, e1]
      simp [resM, u2, u3, u4, lr]
    · have hd : l.getD 0 0 = l[0]'(by omega) := by simp [List.getD_eq_getElem?_getD, show 0 < l.length by omega]
      have hB : By (bdP l).1 := takeS_by hby _ _ _
      have hBl : (bdP l).1.length ≤ 65536 := Nat.le_trans (takeS_len l _ _ _).2 hl
      obtain ⟨τ2, p, h2, no, bo, e2, T2, W, I2⟩ := rhS_01 hs (by omega) bs2 hB hBl K2 m (by omega) τ1 u0 u2 u5 u6 u7 (hby.at_ 0 (by omega))
      rw [← hd] at I2
      obtain ⟨τ3, h3, e3, T3, vs, bv, I3⟩ := rhS_1 bs2 hB hBl W m (by omega) τ2 T2 I2
      obtain ⟨τ4, h4, e4, T4, ns, bn, I4⟩ := rhS_2 bs2 hB hBl W m (by omega) τ3 T3 I3
      obtain ⟨τ5, h5, e5, v2, v3, v4, v5⟩ := rhS_3 bs2 hB hBl W m (by omega) τ4 T4 I4 (hvP_len hB _ _ _) g2 g5 g6 (by omega) (by omega) (by omega) (by omega) (by omega)
      have K5 : Kp H h5 := ⟨by omega, fun b hb' => by rw [v3 b (by omega) (by omega)]; exact K2.get b hb'⟩
      rw [e, e1, e2, e3, e4, e5]
      rcases v5 with ⟨ok, w3, w4, cs, w5, w6⟩ | ⟨nok, w3, w4, w5⟩
      · have hr : rhP l = ((helP (l.getD 0 0) (bdP l).1).1, ((bdP l).2.1 : Int), 0) := by
          unfold rhP
          rw [if_neg h0, if_neg hn12, if_neg (by simp [hb]), if_pos (by unfold helP; simp only [decide_eq_true_eq]; exact ok)]
        rw [hr]
        exact ⟨cs, h5, by simp [resM, v2, w3, w4, ld122 w5 w6.len], w6.low (by omega) _, K5⟩
      · have hr : rhP l = (hpZ, 0, 3) := by
          unfold rhP
          rw [if_neg h0, if_neg hn12, if_neg (by simp [hb]), if_neg (fun h => by unfold helP at h; simp only [decide_eq_true_eq] at h; exact nok h)]
        rw [hr]
        exact ⟨zHl, h5, by simp [resM, v2, w3, w4, ld122 w5 zHl_len], heW_zero _ _ _, K5⟩
end Go.Ev

/- A hello read by the program: behind the nonce. -/
namespace Go.Ev
open Go Go.Proofs
set_option linter.unusedSimpArgs false
set_option linter.unusedVariables false

theorem HiH.move {B : List Int} {s : AV} {q p : Nat} {a : Nat} {sh : Bool} {k v : Int} {lo' lv : List Int} {ln : List ByteArray} {no vs ns : AV} {bo bv bn : List Nat} {Hb h0 : AH} {lo : Nat} {h H1 : AH} (W : HvN q p Hb lo) (I : HiH B s q p a sh k v lo' lv ln no vs ns bo bv bn Hb h0 lo h) (k1 : Kx q h H1) {a' : Nat} {sh' : Bool} (g1 : H1.get q = some (scB s (3 + a') (cd sh'))) (le1 : a' ≤ B.length) :
    HiH B s q p a' sh' k v lo' lv ln no vs ns bo bv bn Hb h0 lo H1 := by
  obtain ⟨gq, la, S, K, hlo, rest⟩ := I
  have kn := k1.next
  exact ⟨g1, le1, S.stay kn (k1.get p S.pn W.ne) fun b hb => k1.get b (S.mem b hb) (fun e => by have := S.bl b hb; have := W.bq.2; omega), k1.kp K W.bq.1, by omega, fun b hb hp' hq' => by rw [k1.get b (by omega) hq']; exact rest b hb hp' hq'⟩
set_option maxRecDepth 20000 in
theorem rhI_1 {pre B : List Int} {s r : AV} {p2 q p : Nat} {n5 : Int} {k : Int} {lo' : List Int} {no : AV} {bo : List Nat} {Hb h0 h : AH} {lo a0 : Nat} {sh0 : Bool} (hp3 : pre.length = 3) (hs : Bs Hb s (pre ++ B)) (hby : By (pre ++ B)) (hl : (pre ++ B).length ≤ 65536) (W : HvN q p Hb lo) (m : Nat) (hm : 1000 ≤ m) (τ : Tm) (T : HiR τ r p2 n5 q p)
    (I : HiH B s q p a0 sh0 k 0 lo' [] [] no .nilSlice .nilSlice bo [] [] Hb h0 lo h) :
    ∃ τ' h', evAt Try.prog (ev Try.prog m) m 77 511 τ h = evAt Try.prog (ev Try.prog m) m 77 1023 τ' h' ∧ HiR τ' r p2 n5 q p ∧ ∃ vs bv, HiH B s q p (hvP k B a0 sh0).2.2.1 (hvP k B a0 sh0).2.2.2 k (hvP k B a0 sh0).1 lo' (hvP k B a0 sh0).2.1 [] no vs .nilSlice bo bv [] Hb h0 lo h' := by
  obtain ⟨t0, t2, t5, t6, t7⟩ := T
  have l0 := (hlA_of I.S.g zPm_len).l0
  have hLb := sh_len hp3 (B := B)
  have hbB : By B := fun x hx => hby x (by simp [hx])
  have hla := I.la
  rw [at_M Try.func77 511 (by decide) 9 (by decide) (by kernel_rfl) [1023]]
  by_cases c : k = 1
  · subst c
    obtain ⟨H1, e1, k1, n1, g1, le1⟩ := octet_ev hs hby I.K W.bq.1 I.gq (by omega) hl m (by omega)
    rw [octetI_cd, takeS_sh hp3] at e1 g1 le1
    simp only at e1 g1 le1
    have I1 := I.move W k1 g1 (by omega)
    have hx := takeS_len B a0 sh0 1
    have hv := valP_lt _ (takeS_by hbB a0 sh0 1)
    have hpw := one_lt (l := (takeS B a0 sh0 1).1) hx.1
    have e : hvP 1 B a0 sh0 = (0, vsRun B (valP (takeS B a0 sh0 1).1).toNat (takeS B a0 sh0 1).2.1 (takeS B a0 sh0 1).2.2 []) := by unfold hvP; rw [if_pos rfl]
    rw [e]
    simp only
    generalize takeS B a0 sh0 1 = X at *
    obtain ⟨tl, ta, ts⟩ := X
    simp only at *
    obtain ⟨N, hN⟩ : ∃ N : Nat, valP tl = (N : Int) := ⟨(valP tl).toNat, by omega⟩
    rw [hN] at e1 hv ⊢
    simp [Try.f77, t6, t7, l0, e1]
    generalize hLo : evLoop _ _ _ _ _ _ = R
    obtain ⟨e', τ', H', rfl, rfl, T', vs, bv, I'⟩ := loop_at hLo (hvILoop (r := r) (p2 := p2) (n5 := n5) (N := N) (a0 := ta) (sh0 := ts) hp3 hs hby hl W m hm _ ⟨N, ta, ts, [], .nilSlice, [], Nat.le_refl _, ⟨by simp [t0], by simp [t2], by simp [t5], by simp [t6], by simp [t7]⟩, by simp, by simp; omega, I1, rfl⟩ (by omega))
    exact ⟨_, _, by simp, T', vs, bv, I'⟩
  · have c' : (k == 1) = false := by simpa using c
    obtain ⟨rr, H1, e1, k1, n1, b1, g1, le1⟩ := take_ev hs I.K W.bq.1 I.gq (by omega) hl 4 (by omega) m (by omega)
    rw [takeI_cd _ _ _ _ (by omega), takeS_sh hp3] at b1 g1 le1
    simp only at b1 g1 le1
    have I1 := I.move W k1 g1 (by omega)
    have hx := takeS_len B a0 sh0 4
    have hy := takeS_by hbB a0 sh0 4
    have hv := valP_lt _ hy
    have hpw := four_lt (l := (takeS B a0 sh0 4).1) hx.1
    have e : hvP k B a0 sh0 = (valP (takeS B a0 sh0 4).1, [], (takeS B a0 sh0 4).2) := by unfold hvP; rw [if_neg c]
    rw [e]
    simp only
    have e2 := unfixed_ev b1 I1.K hy (by have := hx.1; omega) m (by omega)
    generalize takeS B a0 sh0 4 = X at *
    obtain ⟨tl, ta, ts⟩ := X
    simp only at *
    have wv : IntKind.i64.wrap (valP tl) = valP tl := wrap_i64 (by omega) (by omega)
    rw [wv] at e2
    obtain ⟨gq, la, S, K, hlo, rest⟩ := I1
    obtain ⟨st, S2⟩ := S.setV (valP tl)
    refine ⟨_, _, by simp [Try.f77, t6, t7, l0, c', e1, e2, st]; rfl, ⟨by simp [t0], by simp [t2], by simp [t5], by simp [t6], by simp [t7]⟩, .nilSlice, [], ?_, la, S2, ?_, by simpa using hlo, fun b hb hp' hq' => by rw [AH.set_getN _ _ hp']; exact rest b hb hp' hq'⟩
    · rw [AH.set_getN _ _ (fun e => W.ne e.symm)]; exact gq
    · exact ⟨by simpa using K.next, fun b hb => by rw [AH.set_getN _ _ (by have := W.bp; omega)]; exact K.get b hb⟩
set_option maxRecDepth 20000 in
theorem rhI_2 {pre B : List Int} {s r : AV} {p2 q p : Nat} {n5 : Int} {k v : Int} {lo' lv : List Int} {no vs : AV} {bo bv : List Nat} {Hb h0 h : AH} {lo a0 : Nat} {sh0 : Bool} (hp3 : pre.length = 3) (hs : Bs Hb s (pre ++ B)) (hby : By (pre ++ B)) (hl : (pre ++ B).length ≤ 65536) (W : HvN q p Hb lo) (m : Nat) (hm : 1000 ≤ m) (τ : Tm) (T : HiR τ r p2 n5 q p)
    (I : HiH B s q p a0 sh0 k v lo' lv [] no vs .nilSlice bo bv [] Hb h0 lo h) :
    ∃ τ' h', evAt Try.prog (ev Try.prog m) m 77 1023 τ h = evAt Try.prog (ev Try.prog m) m 77 2047 τ' h' ∧ HiR τ' r p2 n5 q p ∧ ∃ ns bn, HiH B s q p (nsRun B (valP (takeS B a0 sh0 1).1).toNat (takeS B a0 sh0 1).2.1 (takeS B a0 sh0 1).2.2 []).2.1 (nsRun B (valP (takeS B a0 sh0 1).1).toNat (takeS B a0 sh0 1).2.1 (takeS B a0 sh0 1).2.2 []).2.2 k v lo' lv (nsRun B (valP (takeS B a0 sh0 1).1).toNat (takeS B a0 sh0 1).2.1 (takeS B a0 sh0 1).2.2 []).1 no vs ns bo bv bn Hb h0 lo h' := by
  obtain ⟨t0, t2, t5, t6, t7⟩ := T
  have hLb := sh_len hp3 (B := B)
  have hbB : By B := fun x hx => hby x (by simp [hx])
  have hla := I.la
  rw [at_M Try.func77 1023 (by decide) 10 (by decide) (by kernel_rfl) [2047]]
  obtain ⟨H1, e1, k1, n1, g1, le1⟩ := octet_ev hs hby I.K W.bq.1 I.gq (by omega) hl m (by omega)
  rw [octetI_cd, takeS_sh hp3] at e1 g1 le1
  simp only at e1 g1 le1
  have I1 := I.move W k1 g1 (by omega)
  have hx := takeS_len B a0 sh0 1
  have hv := valP_lt _ (takeS_by hbB a0 sh0 1)
  have hpw := one_lt (l := (takeS B a0 sh0 1).1) hx.1
  generalize takeS B a0 sh0 1 = X at *
  obtain ⟨tl, ta, ts⟩ := X
  simp only at *
  obtain ⟨N, hN⟩ : ∃ N : Nat, valP tl = (N : Int) := ⟨(valP tl).toNat, by omega⟩
  rw [hN] at e1 hv ⊢
  simp [Try.f77, t6, t7, e1]
  generalize hLo : evLoop _ _ _ _ _ _ = R
  obtain ⟨e', τ', H', rfl, rfl, T', ns, bn, I'⟩ := loop_at hLo (hnILoop (r := r) (p2 := p2) (n5 := n5) (N := N) (a0 := ta) (sh0 := ts) hp3 hs hby hl W m hm _ ⟨N, ta, ts, [], .nilSlice, [], Nat.le_refl _, ⟨by simp [t0], by simp [t2], by simp [t5], by simp [t6], by simp [t7]⟩, by simp, by simp; omega, I1, rfl⟩ (by omega))
  exact ⟨_, _, by simp, T', ns, bn, I'⟩
end Go.Ev

/- A hello read by the program: its last stage. -/
namespace Go.Ev
open Go Go.Proofs
set_option linter.unusedSimpArgs false
set_option linter.unusedVariables false

theorem HiH.kp {B : List Int} {s : AV} {q p : Nat} {a : Nat} {sh : Bool} {k v : Int} {lo' lv : List Int} {ln : List ByteArray} {no vs ns : AV} {bo bv bn : List Nat} {Hb h0 : AH} {lo : Nat} {h H1 : AH} (W : HvN q p Hb lo) (I : HiH B s q p a sh k v lo' lv ln no vs ns bo bv bn Hb h0 lo h) (k1 : Kp h H1) : HiH B s q p a sh k v lo' lv ln no vs ns bo bv bn Hb h0 lo H1 := by
  have := I.ln'; have := W.bq
  exact I.move W (Kx.of k1) ((k1.get q (by omega)).trans I.gq) I.la
set_option maxRecDepth 20000 in
theorem rhI_3 {pre B : List Int} {s r : AV} {p2 q p : Nat} {n5 : Int} {k v : Int} {lo' lv : List Int} {ln : List ByteArray} {no vs ns : AV} {bo bv bn : List Nat} {Hb h0 h : AH} {lo a0 : Nat} {sh0 : Bool} (hp3 : pre.length = 3) (hs : Bs Hb s (pre ++ B)) (hby : By (pre ++ B)) (hl : (pre ++ B).length ≤ 65536) (W : HvN q p Hb lo) (m : Nat) (hm : 70100 ≤ m) (τ : Tm) (T : HiR τ r p2 n5 q p)
    (I : HiH B s q p a0 sh0 k v lo' lv ln no vs ns bo bv bn Hb h0 lo h) (hlv : lv.length ≤ 100000) (g2 : Hb.get p2 = some (.cells 122 false zHl)) (n2 : p2 < Hb.next) :
    ∃ τ' h', evAt Try.prog (ev Try.prog m) m 77 2047 τ h = some (.ret, τ', h') ∧ τ' 2 = .ptr p2 0 ∧ (∀ b, b < Hb.next → b ≠ p2 → h'.get b = Hb.get b) ∧ Hb.next ≤ h'.next ∧
      ((hOK B a0 sh0 k v lo' lv ln (rdP (restS B a0 sh0).1 (k == 2)) ∧ τ' 3 = .int .i64 n5 ∧ τ' 4 = .int .i64 0 ∧ ∃ cs, h'.get p2 = some (.cells 122 false cs) ∧ HeW k v lo' lv ln (rdP (restS B a0 sh0).1 (k == 2)).1 p lo cs h') ∨
       (¬ hOK B a0 sh0 k v lo' lv ln (rdP (restS B a0 sh0).1 (k == 2)) ∧ τ' 3 = .int .i64 0 ∧ τ' 4 = .int .i64 3 ∧ h'.get p2 = some (.cells 122 false zHl))) := by
  obtain ⟨t0, t2, t5, t6, t7⟩ := T
  have hz : zHl = [.int .i64 0, .int .i64 0, .nilSlice, .nilSlice, .nilSlice, .int .i64 0, .int .i64 0, .int .i64 0, .int .i64 0, .int .i64 0, .int .i64 0, .int .i64 0, .int .i64 0, .int .i64 0, .bool false, .nilSlice, .nilSlice, .nilSlice] := rfl
  have hLb := sh_len hp3 (B := B)
  have hbB : By B := fun x hx => hby x (by simp [hx])
  have hla := I.la
  obtain ⟨v1, H0, e0, k0, n0, b0, g0, le0⟩ := rest_ev hs I.K W.bq.1 I.gq (by omega) hl m (by omega)
  rw [restI_cd (by omega), restS_sh hp3] at b0 g0 le0
  simp only at b0 g0 le0
  have I0 := I.move W k0 g0 (by omega)
  have hcb : By (restS B a0 sh0).1 := takeS_by hbB _ _ _
  have hcl : (restS B a0 sh0).1.length ≤ 65536 := Nat.le_trans (takeS_len B _ _ _).2 (by omega)
  obtain ⟨vv, H1, e1, k1, o1⟩ := copied_ev b0 I0.K (by omega) m (by omega)
  have I1 := I0.kp W k1
  have g1 := I1.gq
  unfold hOK
  generalize restS B a0 sh0 = X at *
  obtain ⟨tl, ta, ts⟩ := X
  simp only at *
  have hsc : H1.get q = some (.cells 188 false [s, .int .i64 ((3 + ta : Nat) : Int), .int .i64 (cd ts)]) := g1
  have lq : ldVar Try.prog 3 q 2 H1 = some (.int .i64 (cd ts)) := by simp [ldVar, hsc]
  rw [at_M Try.func77 2047 (by decide) 11 (by decide) (by kernel_rfl) [8191]]
  have bad : ∀ Y : AH, Kp Hb Y → stVar Try.prog 122 p2 0 (.agg zHl) Y = some (Y.set p2 (.cells 122 false zHl)) := fun Y K =>
    st122 ((K.get _ n2).trans g2) zHl_len zHl_len zHl_one
  have badK : ∀ (Y : AH) (y : Blk), Kp Hb Y → (∀ b, b < Hb.next → b ≠ p2 → (Y.set p2 y).get b = Hb.get b) ∧ Hb.next ≤ (Y.set p2 y).next := fun Y y K =>
    ⟨fun b hb hne => by rw [AH.set_getN _ _ hne]; exact K.get b hb, by simpa using K.next⟩
  cases ts with
  | true =>
    have b2 := bad H1 I1.K
    obtain ⟨c1, c2⟩ := badK H1 (.cells 122 false zHl) I1.K
    exact ⟨_, H1.set p2 (.cells 122 false zHl), by simp [Try.f77, t2, t5, t6, e0, e1, lq, fillA, b2, ← hz]; rfl, by simp [t2], c1, c2, .inr ⟨by simp, by simp, by simp, by simp⟩⟩
  | false =>
    have l0 := (hlA_of I1.S.g zPm_len).l0
    obtain ⟨vo, vt, vf, H2, b1, b2, b3, e2, R2, K2⟩ := ReadParamsI_ev o1.bs hcb hcl (k == 2) m (by omega)
    generalize rdP tl (k == 2) = PP at *
    obtain ⟨P, cdv⟩ := PP
    simp only at *
    have oo := R2.Ro.sl_one
    have ot := R2.Rt.sl_one
    have of_ := R2.Rf.sl_one
    have len := (pmC_rest P.F R2.hF P.nm vo vt vf).2.2.2.2
    have one := pmC_one (F := P.F) (nm := P.nm) oo ot of_
    simp [Try.f77, t6, t7, e0, e1, lq]
    generalize hτ : upd _ 119 _ = τ1
    have s2 : τ1 2 = .ptr p2 0 := by rw [← hτ]; simp [t2]
    have s5 : τ1 5 = .int .i64 n5 := by rw [← hτ]; simp [t5]
    have s7 : τ1 7 = .ptr p 0 := by rw [← hτ]; simp [t7]
    have s10 : τ1 10 = vv := by rw [← hτ]; simp
    clear hτ
    have H1n := I1.K.next
    have K2n := K2.next
    have S1p := I1.S.pn
    obtain ⟨Z, hZ⟩ : ∃ Z : AH, Z = H2.push (.cells 120 false zPm) := ⟨_, rfl⟩
    have nZ : Z.next = H2.next + 1 := by rw [hZ]; simp
    have gZ : Z.get H2.next = some (.cells 120 false zPm) := by rw [hZ]; simp
    have KZ : Kp H1 Z := by rw [hZ]; exact K2.push _
    have stZ := st120 gZ zPm_len len one
    obtain ⟨Z1, hZ1⟩ : ∃ Y : AH, Y = Z.set H2.next (.cells 120 false (pmC P.F P.nm vo vt vf)) := ⟨_, rfl⟩
    rw [← hZ1] at stZ
    have nZ1 : Z1.next = Z.next := by rw [hZ1]; simp
    have ldZ := ld120 (X := Z1) (p := H2.next) (by rw [hZ1]; exact AH.set_getS _ _ _) len
    have KZ1 : Kp H1 Z1 := ⟨by have := KZ.next; omega, fun b hb => by rw [hZ1, AH.set_getN _ _ (by omega)]; exact KZ.get b hb⟩
    have S2 : HeS k v lo' lv ln no vs ns bo bv bn p lo Z1 := I1.S.stay KZ1.next (KZ1.get p S1p) fun b hb => KZ1.get b (I1.S.mem b hb)
    have stP := st5 S2.g len one
    obtain ⟨Z2, hZ2⟩ : ∃ Y : AH, Y = Z1.set p (.cells 122 false (hlC k v no vs ns (pmC P.F P.nm vo vt vf))) := ⟨_, rfl⟩
    rw [← hZ2] at stP
    have nZ2 : Z2.next = Z1.next := by rw [hZ2]; simp
    have gZ2 : Z2.get p = some (.cells 122 false (hlC k v no vs ns (pmC P.F P.nm vo vt vf))) := by rw [hZ2]; exact AH.set_getS _ _ _
    have oZ2 : ∀ b, b ≠ p → Z2.get b = Z1.get b := fun b hb => by rw [hZ2]; exact AH.set_getN _ _ hb
    have KB2 : Kp Hb Z2 := ⟨by have := KZ1.next; omega, fun b hb => by rw [oZ2 b (by have := W.bp; omega), KZ1.get b (by omega)]; exact I1.K.get b hb⟩
    have hpm := S2.pl
    have Ro2 : (Ty.sl 5 (.int .u8)).R true Z2 [no] lo' bo := S2.Ro.stay (by omega) fun b hb => oZ2 b (fun e => hpm (by rw [← e]; simp [hb]))
    have Rv2 : (Ty.sl 3 (.int .i64)).R true Z2 [vs] lv bv := S2.Rv.stay (by omega) fun b hb => oZ2 b (fun e => hpm (by rw [← e]; simp [hb]))
    have Rn2 : (Ty.sl 9 .str).R true Z2 [ns] ln bn := S2.Rn.stay (by omega) fun b hb => oZ2 b (fun e => hpm (by rw [← e]; simp [hb]))
    have hmid : ∀ b, H1.next ≤ b → b < H2.next → Z2.get b = H2.get b := fun b hb hb' => by
      rw [oZ2 b (by omega), hZ1, AH.set_getN _ _ (by omega), hZ, AH.push_get, if_neg (by omega)]
    have R3 : PmR P vo vt vf b1 b2 b3 H1.next Z2 := ⟨R2.hF, R2.iF, R2.Ro.stay (by omega) fun b hb => hmid b (R2.lo b (by simp [hb])) (R2.Ro.mem b hb), R2.Rt.stay (by omega) fun b hb => hmid b (R2.lo b (by simp [hb])) (R2.Rt.mem b hb), R2.Rf.stay (by omega) fun b hb => hmid b (R2.lo b (by simp [hb])) (R2.Rf.mem b hb), R2.nd, R2.lo⟩
    have hZ' := hZ.symm
    rw [zPm_eq] at hZ'
    clear hZ hZ1 hZ2
    rw [at_M Try.func77 8191 (by decide) 13 (by decide) (by kernel_rfl) []]
    by_cases cc : cdv = 0
    · subst cc
      obtain ⟨H3, e3, K3⟩ := helloOKI_ev (k := k) (v := v) (nm := P.nm) (Ro2.lenA (P := Try.prog) (T := 34) (by simp)) Ro2.sl_one Rv2 hlv Rn2 R3.hF (R3.Ro.lenA (P := Try.prog) (T := 34) (by simp)) (R3.Rt.lenA (P := Try.prog) (T := 34) (by simp)) (R3.Rf.lenA (P := Try.prog) (T := 34) (by simp)) oo ot of_ m (by omega)
      have lp2 := ld122 gZ2 (hlC_len len)
      have KB3 := KB2.trans K3
      by_cases ok : helOK k v lo'.length lv ln P.F P.o.length P.t.length P.f.length
      · rw [decide_eq_true ok] at e3
        have pZ2 : p < Z2.next := by omega
        have gp3 := (K3.get p pZ2).trans gZ2
        have lp3 := ld122 gp3 (hlC_len len)
        have h1' := hlC_one (k := k) (v := v) Ro2.sl_one Rv2.sl_one Rn2.sl_one one
        have st := st122 ((KB3.get p2 n2).trans g2) zHl_len (hlC_len (k := k) (v := v) (no := no) (vs := vs) (ns := ns) len) h1'
        obtain ⟨c1, c2⟩ := badK H3 (.cells 122 false (hlC k v no vs ns (pmC P.F P.nm vo vt vf))) KB3
        refine ⟨_, H3.set p2 (.cells 122 false (hlC k v no vs ns (pmC P.F P.nm vo vt vf))), by simp [Try.f77, U, s2, s5, s7, s10, l0, e2, hZ', fillA, stZ, ldZ, stP, lp2, e3, lp3, st, evHist, ObsOk, ObOk, List.getElem?_cons_zero]; rfl, by simp [s2], c1, c2, .inl ⟨⟨rfl, ok⟩, by simp, by simp, hlC k v no vs ns (pmC P.F P.nm vo vt vf), by simp, ⟨no, vs, ns, vo, vt, vf, bo, bv, bn, b1, b2, b3, H1.next, rfl, ?_, ?_, ?_, S2.nd, fun b hb => ⟨S2.bl b hb, I1.S.mem b hb⟩, I1.ln', R3.hF, R3.iF, ?_, ?_, ?_, R3.nd, R3.lo⟩⟩⟩
        · exact (Ro2.kp K3).stay (by simp) fun b hb => AH.set_getN _ _ (by have := S2.bl b (by simp [hb]); have := W.bq; omega)
        · exact (Rv2.kp K3).stay (by simp) fun b hb => AH.set_getN _ _ (by have := S2.bl b (by simp [hb]); have := W.bq; omega)
        · exact (Rn2.kp K3).stay (by simp) fun b hb => AH.set_getN _ _ (by have := S2.bl b (by simp [hb]); have := W.bq; omega)
        · exact (R3.Ro.kp K3).stay (by simp) fun b hb => AH.set_getN _ _ (by have := R3.lo b (by simp [hb]); omega)
        · exact (R3.Rt.kp K3).stay (by simp) fun b hb => AH.set_getN _ _ (by have := R3.lo b (by simp [hb]); omega)
        · exact (R3.Rf.kp K3).stay (by simp) fun b hb => AH.set_getN _ _ (by have := R3.lo b (by simp [hb]); omega)
      · rw [decide_eq_false ok] at e3
        have b2' := bad H3 KB3
        obtain ⟨c1, c2⟩ := badK H3 (.cells 122 false zHl) KB3
        exact ⟨_, H3.set p2 (.cells 122 false zHl), by simp [Try.f77, U, s2, s5, s7, s10, l0, e2, hZ', fillA, stZ, ldZ, stP, lp2, e3, b2', ← hz]; rfl, by simp [s2], c1, c2, .inr ⟨fun _ => ok, by simp, by simp, by simp⟩⟩
    · have cc' : (cdv != 0) = true := by simpa using cc
      have b2' := bad Z2 KB2
      obtain ⟨c1, c2⟩ := badK Z2 (.cells 122 false zHl) KB2
      exact ⟨_, Z2.set p2 (.cells 122 false zHl), by simp [Try.f77, U, s2, s5, s7, s10, l0, e2, hZ', fillA, stZ, ldZ, stP, cc', b2', ← hz]; rfl, by simp [s2], c1, c2, .inr ⟨fun h => absurd h cc, by simp, by simp, by simp⟩⟩
end Go.Ev

/- A hello read by the program: its head. -/
namespace Go.Ev
open Go Go.Proofs
set_option linter.unusedSimpArgs false
set_option linter.unusedVariables false

theorem bdP_s {l : List Int} (h : l.length < 3) : (bdP l).2.2 = true := by
  unfold bdP
  rw [show takeS l 1 false 2 = ([], 1, true) from by unfold takeS; rw [if_pos (.inr (by omega))]]
  simp [takeS]
theorem bdP_3 {l : List Int} (h : 3 ≤ l.length) : bdP l = takeS l 3 false (valP ((l.drop 1).take 2)) := by
  unfold bdP
  rw [show takeS l 1 false 2 = ((l.drop 1).take 2, 3, false) from by unfold takeS; rw [if_neg (by simp; omega)]; rfl]
set_option maxRecDepth 20000 in
theorem rhI_0 {H : AH} {r : AV} {l : List Int} (hs : Bs H r l) (hby : By l) (hl : l.length ≤ 65536) (m : Nat) (hm : 1000 ≤ m) :
    (∃ cdv : Int, rhP l = (hpZ, 0, cdv) ∧ ∃ Z, ev Try.prog (m + 1) 77 [r] H = some (.tuple [.agg zHl, .int .i64 0, .int .i64 cdv], Z) ∧ Kp H Z) ∨
    (3 ≤ l.length ∧ (l.getD 0 0 = 1 ∨ l.getD 0 0 = 2) ∧ valP ((l.drop 1).take 2) + 3 ≤ l.length ∧ ∃ τ Z, ev Try.prog (m + 1) 77 [r] H = resM Try.prog [ResultVar.cell 2 122, ResultVar.tmp 3, ResultVar.tmp 4] (evAt Try.prog (ev Try.prog m) m 77 31 τ Z) ∧ Z = H.push (.cells 122 false zHl) ∧ τ 0 = r ∧ τ 2 = .ptr H.next 0) := by
  have hL := hs.len
  have hz : zHl = [.int .i64 0, .int .i64 0, .nilSlice, .nilSlice, .nilSlice, .int .i64 0, .int .i64 0, .int .i64 0, .int .i64 0, .int .i64 0, .int .i64 0, .int .i64 0, .int .i64 0, .int .i64 0, .bool false, .nilSlice, .nilSlice, .nilSlice] := rfl
  obtain ⟨Z, hZ⟩ : ∃ Z : AH, Z = H.push (.cells 122 false zHl) := ⟨_, rfl⟩
  have n1 : Z.next = H.next + 1 := by rw [hZ]; simp
  have g1 : Z.get H.next = some (.cells 122 false zHl) := by rw [hZ]; simp
  have k1 : Kp H Z := by rw [hZ]; exact (Kp.refl H).push _
  have stf : stVar Try.prog 122 H.next 0 (.agg zHl) Z = some Z := by
    rw [st122 g1 zHl_len zHl_len zHl_one, hZ, push_set _ _ rfl]
  have ldf := ld122 (X := Z) g1 zHl_len
  have tl := tooLong_ev hs Z m (by omega)
  rw [show (decide (65536 < (l.length : Int))) = false from decide_eq_false (by omega)] at tl
  have z1' := hZ.symm
  rw [hz] at z1' stf ldf
  rw [hz]
  rw [ev_M Try.func77 ok77 [31] m _ H (by simp [Try.f77])]
  by_cases c0 : l.length = 0
  · have c0' : l = [] := List.length_eq_zero_iff.1 c0
    have hr : rhP l = (hpZ, 0, 2) := by unfold rhP; rw [if_pos c0]
    refine .inl ⟨2, hr, Z, ?_, k1⟩
    subst c0'
    simp [Try.f77, U, tm0, z1', tl, fillA, stf, hL, ldf]
  · have hlt : 0 < l.length := by omega
    obtain ⟨b, o, u0, u1, u2⟩ := hs.at_
    have u1 := u1 0 hlt
    have ix : idxA Try.prog 34 r (.int .i64 0) = some (.ptr b (o + 0)) := u1
    have lv := u2 Z (k1.get b (u0 hlt)) 0 hlt
    simp only [Nat.add_zero] at ix lv
    have hd : l.getD 0 0 = l[0] := by simp [List.getD_eq_getElem?_getD, hlt]
    have hx := hby.at_ 0 hlt
    have p0 : (0 < (l.length : Int)) = True := eq_true (by omega)
    have p0' : (0 < l.length) = True := eq_true hlt
    have c0'' : (l = []) = False := eq_false (fun e => c0 (by rw [e]; rfl))
    by_cases hk : l.getD 0 0 ≠ 1 ∧ l.getD 0 0 ≠ 2
    · have hr : rhP l = (hpZ, 0, 3) := by unfold rhP; rw [if_neg c0, if_pos hk]
      rw [hd] at hk
      generalize l[0] = x at *
      have f1 : (x != 1) = true := by simpa using hk.1
      have f2 : (x != 2) = true := by simpa using hk.2
      refine .inl ⟨3, hr, Z, ?_, k1⟩
      simp [Try.f77, U, tm0, z1', tl, fillA, stf, hL, ldf, p0, p0', c0'', ix, lv, f1, f2]
    · have hr0 := hk
      rw [hd] at hk
      have wl : IntKind.i64.wrap ((l.length : Int) - 3) = (l.length : Int) - 3 := wrap_i64 (by omega) (by omega)
      by_cases c3 : l.length < 3
      · have hr : rhP l = (hpZ, 0, 2) := by unfold rhP; rw [if_neg c0, if_neg hr0, if_pos (bdP_s c3)]
        have p3 : ((l.length : Int) < 3) = True := eq_true (by omega)
        have p3' : (l.length < 3) = True := eq_true c3
        refine .inl ⟨2, hr, Z, ?_, k1⟩
        generalize l[0] = x at *
        by_cases c1 : x = 1
        · subst c1
          simp [Try.f77, U, tm0, z1', tl, fillA, stf, hL, ldf, p0, p0', c0'', ix, lv, p3, p3']
        · have c2 : x = 2 := by omega
          subst c2
          simp [Try.f77, U, tm0, z1', tl, fillA, stf, hL, ldf, p0, p0', c0'', ix, lv, p3, p3']
      · have p3 : ((l.length : Int) < 3) = False := eq_false (by omega)
        have p3' : (l.length < 3) = False := eq_false c3
        obtain ⟨s2, q1, q2⟩ := cutBs hs 1 2 (by omega) (A := 1) (N := 3) rfl rfl
        have hb2 : By ((l.drop 1).take 2) := (hby.drop 1).take 2
        have un := unfixed_ev (q2.kp k1) (Kp.refl Z) hb2 (by simp; omega) m (by omega)
        have q1 := q1 Z k1
        have hv := valP_lt _ hb2
        have hw := two_lt (l := (l.drop 1).take 2) (by simp; omega)
        rw [wrap_i64 (by omega) (by omega)] at un
        have hb3 := bdP_3 (l := l) (by omega)
        generalize valP ((l.drop 1).take 2) = N at *
        by_cases c4 : (l.length : Int) - 3 < N
        · have hr : rhP l = (hpZ, 0, 2) := by
            unfold rhP; rw [if_neg c0, if_neg hr0, if_pos]
            rw [hb3]; unfold takeS; rw [if_pos (.inr (by omega))]
          have p4 : ((l.length : Int) - 3 < N) = True := eq_true c4
          refine .inl ⟨2, hr, Z, ?_, k1⟩
          generalize l[0] = x at *
          by_cases c1 : x = 1
          · subst c1
            simp [Try.f77, U, tm0, z1', tl, fillA, stf, hL, ldf, p0, p0', c0'', ix, lv, p3, p3', q1, un, wl, p4]
          · have c2 : x = 2 := by omega
            subst c2
            simp [Try.f77, U, tm0, z1', tl, fillA, stf, hL, ldf, p0, p0', c0'', ix, lv, p3, p3', q1, un, wl, p4]
        · have p4 : ((l.length : Int) - 3 < N) = False := eq_false c4
          right
          rw [hd]
          generalize l[0] = x at *
          by_cases c1 : x = 1
          · subst c1
            exact ⟨by omega, .inl rfl, by omega, _, Z, by simp [Try.f77, U, tm0, z1', tl, fillA, stf, hL, ldf, p0, p0', c0'', ix, lv, p3, p3', q1, un, wl, p4]; rfl, z1'.symm, by simp, by simp⟩
          · have c2 : x = 2 := by omega
            subst c2
            exact ⟨by omega, .inr rfl, by omega, _, Z, by simp [Try.f77, U, tm0, z1', tl, fillA, stf, hL, ldf, p0, p0', c0'', ix, lv, p3, p3', q1, un, wl, p4]; rfl, z1'.symm, by simp, by simp⟩
end Go.Ev

/- A hello read by the program: its scanner, the object with its nonce. -/
namespace Go.Ev
open Go Go.Proofs
set_option linter.unusedSimpArgs false
set_option linter.unusedVariables false

set_option maxRecDepth 20000 in
theorem rhI_01 {H : AH} {r : AV} {l : List Int} (hs : Bs H r l) (hby : By l) (hl : l.length ≤ 65536) (h3 : 3 ≤ l.length) (hN : valP ((l.drop 1).take 2) + 3 ≤ l.length) (m : Nat) (hm : 1000 ≤ m) (τ : Tm) (t0 : τ 0 = r) (t2 : τ 2 = .ptr H.next 0) :
    ∃ τ' h s no bo Hb, Hb = H.push (.cells 122 false zHl) ∧ evAt Try.prog (ev Try.prog m) m 77 31 τ Hb = evAt Try.prog (ev Try.prog m) m 77 511 τ' h ∧ (bdP l).2.2 = false ∧ Bs Hb s (l.take 3 ++ (bdP l).1) ∧ (l.take 3 ++ (bdP l).1).length ≤ 65536 ∧ By (l.take 3 ++ (bdP l).1) ∧ HiR τ' r H.next (((bdP l).2.1 : Nat) : Int) (H.next + 1) (H.next + 2) ∧ HvN (H.next + 1) (H.next + 2) Hb (H.next + 2) ∧
      HiH (bdP l).1 s (H.next + 1) (H.next + 2) (takeS (bdP l).1 0 false 16).2.1 (takeS (bdP l).1 0 false 16).2.2 (l.getD 0 0) 0 (takeS (bdP l).1 0 false 16).1 [] [] no .nilSlice .nilSlice bo [] [] Hb Hb (H.next + 2) h := by
  obtain ⟨Hb, hZ⟩ : ∃ Z : AH, Z = H.push (.cells 122 false zHl) := ⟨_, rfl⟩
  have n1 : Hb.next = H.next + 1 := by rw [hZ]; simp
  have k1 : Kp H Hb := by rw [hZ]; exact (Kp.refl H).push _
  have hsb := hs.kp k1
  have hb2 : By ((l.drop 1).take 2) := (hby.drop 1).take 2
  obtain ⟨s2, q1, q2⟩ := cutBs hs 1 2 (by omega) (A := 1) (N := 3) rfl rfl
  have un := unfixed_ev (q2.kp k1) (Kp.refl Hb) hb2 (by simp; omega) m (by omega)
  have q1 := q1 Hb k1
  have hv := valP_lt _ hb2
  have hw := two_lt (l := (l.drop 1).take 2) (by simp; omega)
  rw [wrap_i64 (by omega) (by omega)] at un
  have hb3 := bdP_3 (l := l) (by omega)
  generalize valP ((l.drop 1).take 2) = N at *
  obtain ⟨N, rfl⟩ : ∃ n : Nat, N = n := ⟨N.toNat, by omega⟩
  obtain ⟨M, hM⟩ : ∃ M : Nat, M = 3 + N := ⟨_, rfl⟩
  have hb4 : bdP l = ((l.drop 3).take N, M, false) := by rw [hb3]; unfold takeS; rw [if_neg (by simp; omega)]; simp [hM]
  have happ : l.take 3 ++ (l.drop 3).take N = l.take (3 + N) := by rw [List.take_add]
  rw [hb4]
  simp only
  have hp3 : (l.take 3).length = 3 := by simp; omega
  obtain ⟨s, cu, bs0⟩ := hsb.cut 0 M (by omega) (by rw [u8L_len]; omega) (lo := some none) (hi := some (some (.int .i64 (M : Int)))) (by simp) (by simp)
  have e1 : (List.take M (u8L l)).drop 0 = u8L (l.take 3 ++ (l.drop 3).take N) := by rw [happ, hM]; simp [u8L]
  rw [e1] at bs0
  have bs : Bs Hb s (l.take 3 ++ (l.drop 3).take N) := bs0
  have hbB : By (l.take 3 ++ (l.drop 3).take N) := by rw [happ]; exact hby.take _
  have hlB : (l.take 3 ++ (l.drop 3).take N).length ≤ 65536 := by rw [happ]; simp; omega
  have hbB' : By ((l.drop 3).take N) := (hby.drop 3).take N
  have hd : l.getD 0 0 = l[0] := by simp [List.getD_eq_getElem?_getD, show 0 < l.length by omega]
  rw [hd]
  generalize (l.drop 3).take N = B at *
  generalize l.take 3 = pre at *
  obtain ⟨b, o, u0, u1, u2⟩ := hsb.at_
  have h0 : 0 < l.length := by omega
  have ix : idxA Try.prog 34 r (.int .i64 0) = some (.ptr b (o + 0)) := u1 0 h0
  have hx := hby.at_ 0 h0
  -- the scanner
  obtain ⟨Y, hY⟩ : ∃ Y : AH, Y = Hb.push (scB s (3 + 0) (cd false)) := ⟨_, rfl⟩
  have nY : Y.next = Hb.next + 1 := by rw [hY]; simp
  have gY : Y.get Hb.next = some (scB s (3 + 0) (cd false)) := by rw [hY]; simp
  have KY : Kp Hb Y := by rw [hY]; exact (Kp.refl Hb).push _
  have lv := u2 Y (KY.get b (u0 h0)) 0 h0
  simp only [Nat.add_zero] at ix lv
  generalize l[0] = x at *
  have wk : IntKind.i64.wrap x = x := wrap_i64 (by omega) (by omega)
  have cx : ∀ h', convA Try.prog 5 3 (.int .u8 x) h' = some (.int .i64 x, h') := fun h' => (conv_int (ds := .int .u8) (k := .i64) (by simp) (by simp)).trans (by rw [wk])
  -- the object
  obtain ⟨Z, hZ0⟩ : ∃ Z : AH, Z = Y.push (.cells 122 false zHl) := ⟨_, rfl⟩
  obtain ⟨X, hX⟩ : ∃ X : AH, X = Z.set Y.next (.cells 122 false (hlC x 0 .nilSlice .nilSlice .nilSlice zPm)) := ⟨_, rfl⟩
  have nZ : Z.next = Y.next + 1 := by rw [hZ0]; simp
  have gZ : Z.get Y.next = some (.cells 122 false zHl) := by rw [hZ0]; simp
  have oZ : ∀ c, c < Y.next → Z.get c = Y.get c := fun c hc => by rw [hZ0, AH.push_get, if_neg (by omega)]
  have nX : X.next = Y.next + 1 := by rw [hX]; simpa using nZ
  have gX : X.get Y.next = some (.cells 122 false (hlC x 0 .nilSlice .nilSlice .nilSlice zPm)) := by rw [hX]; simp
  have oX : ∀ c, c < Y.next → X.get c = Y.get c := fun c hc => by rw [hX, AH.set_getN _ _ (by omega)]; exact oZ c hc
  have KX : Kp Hb X := ⟨by omega, fun c hc => by rw [oX c (by omega)]; exact KY.get c hc⟩
  have stZ := st122 (p := Y.next) gZ zHl_len (hlC_len (k := x) (v := 0) (no := .nilSlice) (vs := .nilSlice) (ns := .nilSlice) zPm_len) (hlC_one rfl rfl rfl zPm_one)
  rw [← hX] at stZ
  obtain ⟨rr, H1, ea, ka, na, ba, ga, lea⟩ := take_ev bs KX (Nat.le_refl _) ((oX _ (by omega)).trans gY) (by simp [hp3]) hlB 16 (by omega) m (by omega)
  rw [takeI_cd _ _ _ _ (by omega), takeS_sh hp3] at ba ga lea
  have hlt : (takeS B 0 false 16).2.1 ≤ B.length := by simp only [List.length_append, hp3] at lea; omega
  have hba := takeS_by hbB' 0 false 16
  have hln := (takeS_len B 0 false 16).2
  simp only [List.length_append, hp3] at hlB
  generalize takeS B 0 false 16 = V at *
  obtain ⟨tl, ta, ts⟩ := V
  simp only at *
  have K1 : Kp Hb H1 := ka.kp KX (Nat.le_refl _)
  obtain ⟨no, H2, eb, kb, ob⟩ := copied_ev ba K1 (by omega) m (by omega)
  have h1n := ka.next; have h2n := kb.next
  have g2p : H2.get Y.next = some (.cells 122 false (hlC x 0 .nilSlice .nilSlice .nilSlice zPm)) := by
    rw [kb.get _ (by omega), ka.get _ (by omega) (by omega)]; exact gX
  have ov := ob.bs.one
  have st2 : stVar Try.prog 34 Y.next 2 no H2 = some (H2.set Y.next (.cells 122 false (hlC x 0 no .nilSlice .nilSlice zPm))) := by
    simp [stVar, g2p, hlC, zPm, cells_one ov, ov, spl]
  obtain ⟨bo, Ro, ndo, bob⟩ := ow_tB ob hba
  obtain ⟨W, hW⟩ : ∃ W : AH, W = H2.set Y.next (.cells 122 false (hlC x 0 no .nilSlice .nilSlice zPm)) := ⟨_, rfl⟩
  rw [← hW] at st2
  have oW : ∀ c, c ≠ Y.next → W.get c = H2.get c := fun c hc => by rw [hW, AH.set_getN _ _ hc]
  have nW : W.next = H2.next := by rw [hW]; simp
  have gW : W.get Y.next = some (.cells 122 false (hlC x 0 no .nilSlice .nilSlice zPm)) := by rw [hW]; simp
  have w5 : IntKind.i64.wrap (3 + (N : Int)) = (M : Int) := by rw [wrap_i64 (by omega) (by omega)]; omega
  have so := bs.one
  have y0 : Y.next = H.next + 2 := by omega
  have hb0 : Hb.next = H.next + 1 := n1
  rw [← hZ, ← y0, ← hb0]
  have hY' : Hb.push (.cells 188 false [s, .int .i64 3, .int .i64 0]) = Y := by rw [hY]; rfl
  have hZ' := hZ0.symm
  simp only [zHl, hlC, zPm_eq] at stZ hZ'
  have key : HiH B s Hb.next Y.next ta ts x 0 tl [] [] no .nilSlice .nilSlice bo [] [] Hb Hb Y.next W := by
    refine ⟨by rw [oW _ (by omega), kb.get _ (by omega)]; exact ga, hlt, ⟨gW, Ro.stay (by omega) fun c hc => oW c (by have := bob c hc; omega), .inl ⟨rfl, rfl, rfl⟩, .inl ⟨rfl, rfl, rfl⟩, by simpa using ndo, fun c hc => by have := bob c (by simpa using hc); omega, fun hc => by have := bob _ (by simpa using hc); omega, by omega⟩, ⟨by omega, fun c hc => by rw [oW c (by omega), kb.get c (by have := K1.next; omega)]; exact K1.get c hc⟩, by omega, fun c hc h1 h2 => by rw [oW c (by omega), kb.get c (by omega), ka.get c (by omega) (by omega), oX c (by omega)]; exact KY.get c (by omega)⟩
  refine ⟨?_, W, s, no, bo, Hb, rfl, ?_⟩
  rotate_left
  rw [at_M Try.func77 31 (by decide) 5 (by decide) (by kernel_rfl) [511]]
  exact ⟨by simp [Try.f77, U, t0, t2, q1, un, w5, cu, hY', hZ', ix, lv, cx, stZ, ea, eb, st2, fillA, spl, so, cells_one so]; rfl, trivial, bs, by simp [hp3]; omega, hbB, ⟨by simp [t0], by simp [t2], by simp, by simp, by simp⟩, ⟨⟨Nat.le_refl _, by omega⟩, by omega, by omega⟩, key⟩
end Go.Ev

/- A hello read by the program: the whole function. -/
namespace Go.Ev
open Go Go.Proofs
set_option linter.unusedSimpArgs false
set_option linter.unusedVariables false

set_option maxRecDepth 20000 in
theorem ReadHelloI_ev {H : AH} {r : AV} {l : List Int} (hs : Bs H r l) (hby : By l) (hl : l.length ≤ 65536) (m : Nat) (hm : 71000 ≤ m) :
    ∃ cs H', ev Try.prog m 77 [r] H = some (.tuple [.agg cs, .int .i64 (rhP l).2.1, .int .i64 (rhP l).2.2], H') ∧ HeW (rhP l).1.k (rhP l).1.v (rhP l).1.no (rhP l).1.vs (rhP l).1.ns (rhP l).1.P 0 H.next cs H' ∧ Kp H H' := by
  obtain ⟨m, rfl⟩ : ∃ k, m = k + 1 := ⟨m - 1, by omega⟩
  rcases rhI_0 hs hby hl m (by omega) with ⟨cdv, hr, Z, e, K⟩ | ⟨h3, h12, hN, τ, Z, e, rfl, t0, t2⟩
  · rw [hr]
    exact ⟨zHl, Z, e, heW_zero _ _ _, K⟩
  · have hn12 : ¬ (l.getD 0 0 ≠ 1 ∧ l.getD 0 0 ≠ 2) := by omega
    have h0 : ¬ l.length = 0 := by omega
    obtain ⟨τ2, h2, s, no, bo, Hb, hHb, e2, hb, bs2, hl2, hby2, T2, W, I2⟩ := rhI_01 hs hby hl h3 hN m (by omega) τ t0 t2
    have hp3 : (l.take 3).length = 3 := by simp; omega
    have nb : Hb.next = H.next + 1 := by rw [hHb]; simp
    have gb : Hb.get H.next = some (.cells 122 false zHl) := by rw [hHb]; simp
    have kb : Kp H Hb := by rw [hHb]; exact (Kp.refl H).push _
    have hB : By (bdP l).1 := takeS_by hby _ _ _
    obtain ⟨τ3, h3, e3, T3, vs, bv, I3⟩ := rhI_1 hp3 bs2 hby2 hl2 W m (by omega) τ2 T2 I2
    obtain ⟨τ4, h4, e4, T4, ns, bn, I4⟩ := rhI_2 hp3 bs2 hby2 hl2 W m (by omega) τ3 T3 I3
    obtain ⟨τ5, h5, e5, v2, v3, v4, v5⟩ := rhI_3 hp3 bs2 hby2 hl2 W m (by omega) τ4 T4 I4 (hvP_len hB _ _ _) gb (by omega)
    have K5 : Kp H h5 := ⟨by omega, fun b hb' => by rw [v3 b (by omega) (by omega)]; exact kb.get b hb'⟩
    rw [hHb] at e2
    rw [e, e2, e3, e4, e5]
    rcases v5 with ⟨ok, w3, w4, cs, w5, w6⟩ | ⟨nok, w3, w4, w5⟩
    · have hr : rhP l = ((helP (l.getD 0 0) (bdP l).1).1, ((bdP l).2.1 : Int), 0) := by
        unfold rhP
        rw [if_neg h0, if_neg hn12, if_neg (by simp [hb]), if_pos (by unfold helP; simp only [decide_eq_true_eq]; exact ok)]
      rw [hr]
      exact ⟨cs, h5, by simp [resM, v2, w3, w4, ld122 w5 w6.len], w6.low (by omega) _, K5⟩
    · have hr : rhP l = (hpZ, 0, 3) := by
        unfold rhP
        rw [if_neg h0, if_neg hn12, if_neg (by simp [hb]), if_neg (fun h => by unfold helP at h; simp only [decide_eq_true_eq] at h; exact nok h)]
      rw [hr]
      exact ⟨zHl, h5, by simp [resM, v2, w3, w4, ld122 w5 zHl_len], heW_zero _ _ _, K5⟩
end Go.Ev

/- The name that the laws' mark lays into a string; marks of rows of strings. -/
namespace Go.Ev
open Go Go.Proofs
set_option linter.unusedSimpArgs false
set_option linter.unusedVariables false

theorem size_app (a b : ByteArray) : (a ++ b).size = a.size + b.size := by simp
theorem strOf_one (x : Int) : strOf [x] = ByteArray.mk #[UInt8.ofNat x.toNat] := rfl
theorem mtDig_zero (acc : ByteArray) : mtDig 0 acc = acc := by rw [mtDig]; simp
theorem mtDig_pos {n : Nat} (h : n ≠ 0) (acc : ByteArray) : mtDig n acc = mtDig (n / 10) (ByteArray.mk #[UInt8.ofNat (48 + n % 10)] ++ acc) := by rw [mtDig]; simp [h]
theorem sz1 (x : UInt8) : (ByteArray.mk #[x]).size = 1 := rfl
def MtI (k0 : Nat) (H : AH) (d : Nat) (τ : Tm) (h : AH) : Prop :=
  ∃ (n : Nat) (acc : ByteArray), n < 10 ^ d ∧ acc.size + d ≤ 40 ∧ τ 0 = .int .i64 n ∧ n ≤ k0 ∧ τ 3 = .str acc ∧ mtDig n acc = mtDig k0 ByteArray.empty ∧ Kp H h
set_option maxRecDepth 20000 in
theorem markText_ev {H : AH} {k : Int} (h0 : 0 ≤ k) (h1 : k ≤ 2147483648) (m : Nat) (hm : 100 ≤ m) :
    ∃ H', ev Try.prog m 244 [.int .i64 k] H = some (.str (markTextD k), H') ∧ Kp H H' := by
  obtain ⟨m, rfl⟩ : ∃ k, m = k + 1 := ⟨m - 1, by omega⟩
  obtain ⟨k0, rfl⟩ : ∃ n : Nat, k = n := ⟨k.toNat, by omega⟩
  rw [ev_M Try.func244 ok244 [] m _ H (by simp [Try.f244])]
  by_cases c : k0 = 0
  · subst c
    exact ⟨H, by simp [Try.f244, U, tm0]; rfl, Kp.refl H⟩
  · have hp : ((k0 : Int) ≤ 0) = False := eq_false (by omega)
    simp [Try.f244, U, tm0, hp, c]
    generalize hLo : evLoop _ _ _ _ _ _ = R
    obtain ⟨e, τ', H', rfl, rfl, g1, g2⟩ := loop_at hLo (loop_rule (d := 20) (MtI k0 H)
      (fun e τ h => e = .exit 0 ∧ τ 3 = .str (mtDig k0 ByteArray.empty) ∧ Kp H h ∧ (mtDig k0 ByteArray.empty).size ≤ 40)
      (by
        rintro d τ h ⟨n, acc, hd, hs, t0, hn, t3, hm', K⟩
        rw [lp_M Try.func244 60 (by decide) 6 (by decide) (by kernel_rfl) []]
        by_cases c : n = 0
        · subst c
          rw [mtDig_zero] at hm'
          simp [Try.f244, U, t0, t3]
          exact ⟨by rw [hm'], K, by rw [← hm']; omega⟩
        · have hp : ((0:Int) < (n : Int)) = True := eq_true (by omega)
          obtain ⟨t, ht⟩ : ∃ t : Int, t = ((n % 10 : Nat) : Int) := ⟨_, rfl⟩
          obtain ⟨q, hq⟩ : ∃ q : Nat, q = 48 + n % 10 := ⟨_, rfl⟩
          obtain ⟨u, hu⟩ : ∃ u : Nat, u = n / 10 := ⟨_, rfl⟩
          have e1 : ((n : Int)).tmod 10 = t := by rw [Int.tmod_eq_emod_of_nonneg (by omega)]; omega
          have e2 : ((n : Int)).tdiv 10 = (u : Int) := by rw [Int.tdiv_eq_ediv_of_nonneg (by omega)]; omega
          have w1 : IntKind.i64.wrap (48 + t) = (q : Int) := by rw [wrap_i64 (by omega) (by omega)]; omega
          have w2 : IntKind.u8.wrap (q : Int) = (q : Int) := by rw [IntKind.wrap_u8]; omega
          have w3 : IntKind.i64.wrap (u : Int) = (u : Int) := wrap_i64 (by omega) (by omega)
          obtain ⟨d, rfl⟩ : ∃ j, d = j + 1 := ⟨d - 1, by
            rcases Nat.eq_zero_or_pos d with rfl | hh
            · simp at hd; omega
            · omega⟩
          have hd' : u < 10 ^ d := by rw [Nat.pow_succ] at hd; rw [hu]; exact Nat.div_lt_of_lt_mul (by omega)
          have hpn : (0 < n) = True := eq_true (by omega)
          have cv1 : convA Try.prog 3 5 (.int .i64 (q : Int)) h = some (.int .u8 (q : Int), h) := (conv_int (ds := .int .i64) (k := .u8) (by simp) (by simp)).trans (by rw [w2])
          obtain ⟨Z, hZ⟩ : ∃ Z : AH, Z = h.push (.cells 5 false [.int .u8 (q : Int)]) := ⟨_, rfl⟩
          have hZ' := hZ.symm
          have KZ : Kp H Z := by rw [hZ]; exact K.push _
          have cv2 : convA Try.prog 34 9 (.slice h.next 0 1) Z = some (.str (ByteArray.mk #[UInt8.ofNat q]), Z) := by
            rw [hZ]; simp [convA, rowOf, u8s]; rfl
          have sa : (ByteArray.mk #[UInt8.ofNat q]).size + acc.size ≤ 4611686018427387904 := by rw [sz1]; omega
          clear hZ
          simp [Try.f244, U, t0, t3, hp, hpn, c, e1, e2, w1, w3, cv1, cv2, sa, fillA, zerosA, spl, hZ']
          refine ⟨d, by omega, u, ByteArray.mk #[UInt8.ofNat q] ++ acc, hd', by rw [size_app, sz1]; omega, by simp, by omega, by simp, ?_, KZ⟩
          rw [← hm', mtDig_pos c, hq, hu])
      ⟨k0, ByteArray.empty, by omega, by simp, by simp [tm0], Nat.le_refl _, by simp; rfl, rfl, Kp.refl H⟩ (by omega))
    have sa : (ByteArray.mk #[109]).size + (mtDig k0 ByteArray.empty).size ≤ 4611686018427387904 := by rw [sz1]; have := g2.2; omega
    have hk : markTextD (k0 : Int) = ByteArray.mk #[109] ++ mtDig k0 ByteArray.empty := by
      unfold markTextD; rw [if_neg (by omega)]; rfl
    rw [hk]
    exact ⟨H', by simp [g1, sa], g2.1⟩
end Go.Ev
