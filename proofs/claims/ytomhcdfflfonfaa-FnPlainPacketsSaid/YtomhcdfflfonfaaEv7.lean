/- Lemmas of an evaluator of the given code and of what the functions answer; no condition of its own. -/
import Derived.Test.YtomhcdfflfonfaaEv5
import Derived.KernelRfl
/- Long functions in pieces: code that is left by name at chosen places. -/
namespace Go.Ev
open Go Go.RowKit
set_option linter.unusedSimpArgs false
set_option linter.unusedVariables false

/-- the code at a place, not opened -/
@[irreducible] noncomputable def evAt (P : Program) (call : CallF) (n : Nat) (f : FuncId) (p : Nat) (τ : Tm) (H : AH) : Out := evCode P call n (at_ P f p) τ H
section
variable (P : Program) (call : CallF) (n : Nat) (f : FuncId) (st : List Nat)
/-- as evN, but at the places st -/
noncomputable def evK : Nat → Code → Tm → AH → Out
  | p, .skip, τ, H => some (.normal, τ, H)
  | p, .label _, τ, H => some (.normal, τ, H)
  | p, .region i ops draw, τ, H => if p ∈ st then evAt P call n f p τ H else match (if draw then evD P call (dr P f p) ops τ H else evOps P call ops ops.toList τ H) with
    | some (τ', H') => some (.normal, τ', H')
    | none => none
  | p, .seq a b, τ, H => if p ∈ st then evAt P call n f p τ H else match evK (2 * p) a τ H with
    | some (.normal, τ', H') => evK (2 * p + 1) b τ' H'
    | r => r
  | p, .cond c a b, τ, H => if p ∈ st then evAt P call n f p τ H else match opnd τ c with
    | some (.bool q) => if q then evK (2 * p) a τ H else evK (2 * p + 1) b τ H
    | _ => none
  | p, .block id a, τ, H => if p ∈ st then evAt P call n f p τ H else match evK (2 * p) a τ H with
    | some (.exit id', τ', H') => if id' = id then some (.normal, τ', H') else some (.exit id', τ', H')
    | r => r
  | p, .loop _, τ, H => evLoop P call n (lp P f p) τ H
  | p, .exit id, τ, H => some (.exit id, τ, H)
  | p, .scope a, τ, H => if p ∈ st then evAt P call n f p τ H else evK (2 * p) a τ H
  | p, .ret, τ, H => some (.ret, τ, H)
  | p, _, _, _ => none
end
theorem evK_eq {P : Program} {call : CallF} {n : Nat} {f : FuncId} {st : List Nat} : ∀ (c : Code) (k p : Nat), at_ P f p = c → 1 ≤ p → p < 2 ^ k → k + depth c ≤ 198 → ∀ τ H, evK P call n f st p c τ H = evCode P call n c τ H
  | .skip, k, p, _, _, _, _, τ, H => rfl
  | .label _, k, p, _, _, _, _, τ, H => rfl
  | .region id ops draw, k, p, hc, _, _, _, τ, H => by
    have : dr P f p = drInfo P ops := by unfold dr; rw [hc]; rfl
    simp only [evK]
    split
    · unfold evAt; rw [hc]
    · simp only [evCode, this, evD_eq]
      cases draw <;> rfl
  | .seq a b, k, p, hc, h1, hp, hd, τ, H => by
    simp only [depth] at hd
    have hlt : p < 2 ^ 198 := Nat.lt_of_lt_of_le hp (Nat.pow_le_pow_right (by omega) (by omega))
    have ha : at_ P f (2 * p) = a := by rw [at_child h1 hlt (2 * p) (by omega), hc]; simp
    have hb : at_ P f (2 * p + 1) = b := by
      rw [at_child h1 hlt (2 * p + 1) (by omega), hc]
      have : (2 * p + 1) % 2 ≠ 0 := by omega
      simp [this]
    have e1 := evK_eq (call := call) (n := n) (st := st) a (k + 1) (2 * p) ha (by omega) (by rw [Nat.pow_succ]; omega) (by omega)
    have e2 := evK_eq (call := call) (n := n) (st := st) b (k + 1) (2 * p + 1) hb (by omega) (by rw [Nat.pow_succ]; omega) (by omega)
    simp only [evK]
    split
    · unfold evAt; rw [hc]
    · simp only [evCode, e1, e2]
      cases evCode P call n a τ H with
      | none => rfl
      | some r => obtain ⟨e, τ', H'⟩ := r; cases e <;> rfl
  | .cond c a b, k, p, hc, h1, hp, hd, τ, H => by
    simp only [depth] at hd
    have hlt : p < 2 ^ 198 := Nat.lt_of_lt_of_le hp (Nat.pow_le_pow_right (by omega) (by omega))
    have ha : at_ P f (2 * p) = a := by rw [at_child h1 hlt (2 * p) (by omega), hc]; simp
    have hb : at_ P f (2 * p + 1) = b := by
      rw [at_child h1 hlt (2 * p + 1) (by omega), hc]
      have : (2 * p + 1) % 2 ≠ 0 := by omega
      simp [this]
    have e1 := evK_eq (call := call) (n := n) (st := st) a (k + 1) (2 * p) ha (by omega) (by rw [Nat.pow_succ]; omega) (by omega)
    have e2 := evK_eq (call := call) (n := n) (st := st) b (k + 1) (2 * p + 1) hb (by omega) (by rw [Nat.pow_succ]; omega) (by omega)
    simp only [evK]
    split
    · unfold evAt; rw [hc]
    · simp only [evCode, e1, e2]
      cases opnd τ c with
      | none => rfl
      | some v => cases v <;> rfl
  | .block id a, k, p, hc, h1, hp, hd, τ, H => by
    simp only [depth] at hd
    have hlt : p < 2 ^ 198 := Nat.lt_of_lt_of_le hp (Nat.pow_le_pow_right (by omega) (by omega))
    have ha : at_ P f (2 * p) = a := by rw [at_child h1 hlt (2 * p) (by omega), hc]
    have e1 := evK_eq (call := call) (n := n) (st := st) a (k + 1) (2 * p) ha (by omega) (by rw [Nat.pow_succ]; omega) (by omega)
    simp only [evK]
    split
    · unfold evAt; rw [hc]
    · simp only [evCode, e1]
      cases evCode P call n a τ H with
      | none => rfl
      | some r => obtain ⟨e, τ', H'⟩ := r; cases e <;> rfl
  | .scope a, k, p, hc, h1, hp, hd, τ, H => by
    simp only [depth] at hd
    have hlt : p < 2 ^ 198 := Nat.lt_of_lt_of_le hp (Nat.pow_le_pow_right (by omega) (by omega))
    have ha : at_ P f (2 * p) = a := by rw [at_child h1 hlt (2 * p) (by omega), hc]
    have e1 := evK_eq (call := call) (n := n) (st := st) a (k + 1) (2 * p) ha (by omega) (by rw [Nat.pow_succ]; omega) (by omega)
    simp only [evK]
    split
    · unfold evAt; rw [hc]
    · simp only [evCode, e1]
  | .loop a, k, p, hc, h1, hp, hd, τ, H => by
    have hlt : p < 2 ^ 198 := Nat.lt_of_lt_of_le hp (Nat.pow_le_pow_right (by omega) (by omega))
    have ha : at_ P f (2 * p) = a := by rw [at_child h1 hlt (2 * p) (by omega), hc]
    have : lp P f p = a := by unfold lp; exact ha
    simp only [evK, evCode, evLoop, this]
  | .exit _, k, p, _, _, _, _, τ, H => rfl
  | .ret, k, p, _, _, _, _, τ, H => rfl
  | .rangeFunc .., k, p, _, _, _, _, τ, H => rfl
  | .goto .., k, p, _, _, _, _, τ, H => rfl
  | .refuse .., k, p, _, _, _, _, τ, H => rfl
/-- a function, cut at the places st -/
noncomputable def evFK (P : Program) (call : CallF) (n : Nat) (f : FuncId) (st : List Nat) (fn : Func) (args : List AV) (H : AH) : Option (AV × AH) := match fn.body with
  | some c => match evK P call n f st 1 c (tm0 args) H with
    | some (.normal, τ, H') => (resA P fn.results.toList τ H').map fun r => (r, H')
    | some (.ret, τ, H') => (resA P fn.results.toList τ H').map fun r => (r, H')
    | _ => none
  | none => none
theorem ev_cut {P : Program} {f : FuncId} {fn : Func} (hf : P.funcs[f]? = some fn) (hok : goodFn fn = true) (st : List Nat) (n : Nat) (args : List AV) (H : AH) (hl : args.length ≤ fn.ntmps) : ev P (n + 1) f args H = evFK P (ev P n) n f st fn args H := by
  unfold goodFn at hok
  rw [Bool.and_eq_true] at hok
  simp only [ev, hf, hok.1, hl, and_self, if_true, evFn, evFK]
  cases hb : fn.body with
  | none => rfl
  | some c =>
    have hd := hok.2
    unfold depthOk at hd
    rw [hb] at hd
    simp only [decide_eq_true_eq] at hd
    simp only
    rw [evK_eq c 1 1 (at_root hf hb) (Nat.le_refl _) (by decide) (by omega)]
    cases evCode P (ev P n) n c (tm0 args) H with
    | none => rfl
    | some r => obtain ⟨e, τ', H'⟩ := r; cases e <;> rfl
theorem at_cut {P : Program} {f : FuncId} {fn : Func} (hf : P.funcs[f]? = some fn) (p : Nat) (h1 : 1 ≤ p) (k : Nat) (hk : p < 2 ^ k) (hd : decide (k + depth (sub (fn.body.getD .skip) 200 p) ≤ 198) = true) (st : List Nat) (call : CallF) (n : Nat) (τ : Tm) (H : AH) :
    evAt P call n f p τ H = evK P call n f st p (sub (fn.body.getD .skip) 200 p) τ H := by
  unfold evAt
  rw [evK_eq (sub (fn.body.getD .skip) 200 p) k p (at_eq hf p) h1 hk (of_decide_eq_true hd), at_eq hf p]
theorem lp_cut {P : Program} {f : FuncId} {fn : Func} (hf : P.funcs[f]? = some fn) (p : Nat) (h1 : 1 ≤ p) (k : Nat) (hk : p < 2 ^ k) (hd : decide (k + 1 + depth (sub (fn.body.getD .skip) 200 (2 * p)) ≤ 198) = true) (st : List Nat) (call : CallF) (n : Nat) (τ : Tm) (H : AH) :
    evCode P call n (lp P f p) τ H = evK P call n f st (2 * p) (sub (fn.body.getD .skip) 200 (2 * p)) τ H := by
  have : lp P f p = at_ P f (2 * p) := by unfold lp; rfl
  rw [this, evK_eq (sub (fn.body.getD .skip) 200 (2 * p)) (k + 1) (2 * p) (at_eq hf (2 * p)) (by omega) (by rw [Nat.pow_succ]; omega) (of_decide_eq_true hd), at_eq hf (2 * p)]
end Go.Ev
attribute [simp] Go.Ev.evFK Go.Ev.evK
