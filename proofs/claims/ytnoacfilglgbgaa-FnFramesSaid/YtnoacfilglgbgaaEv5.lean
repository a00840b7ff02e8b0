/- Lemmas of an evaluator of the given code and of what the functions answer; no condition of its own. -/
import Derived.Test.YtnoacfilglgbgaaEv4
/- The evaluator with names for loops and open orders, so that a function's text is never written out. -/
namespace Go.Ev
open Go Go.RowKit
set_option linter.unusedSimpArgs false
set_option linter.unusedVariables false

/-- the code at a place: 1 the whole; 2p and 2p+1 the two parts of what stands at p -/
def sub (c : Code) : Nat → Nat → Code
  | 0, _ => c
  | fuel + 1, p => if p ≤ 1 then c else match sub c fuel (p / 2) with
    | .seq a b => if p % 2 = 0 then a else b
    | .cond _ a b => if p % 2 = 0 then a else b
    | .block _ a => a
    | .scope a => a
    | .loop a => a
    | x => x
/-- the body of a function -/
def bodyOf (P : Program) (f : FuncId) : Code := match P.funcs[f]? with
  | some fn => fn.body.getD .skip
  | none => .skip
/-- the code at a place of a function's body -/
def at_ (P : Program) (f : FuncId) (p : Nat) : Code := sub (bodyOf P f) 200 p
/-- a loop's body, by name -/
@[irreducible] def lp (P : Program) (f : FuncId) (p : Nat) : Code := at_ P f (2 * p)
/-- what is known of a region whose order is open: none: not ordered enough; the reads that float -/
inductive DrI where
  | bad
  | seq (l : List (Nat × Nat))
  | flt (I : FI)
def drInfo (P : Program) (ops : Array Oper) : DrI := if drawOk P ops = true then .seq (looseOf P ops) else match infoOf P ops with
  | some I => .flt I
  | none => .bad
def drCode (P : Program) : Code → DrI
  | .region _ ops _ => drInfo P ops
  | _ => .bad
@[irreducible] def dr (P : Program) (f : FuncId) (p : Nat) : DrI := drCode P (at_ P f p)

def ObsOk (P : Program) (call : CallF) (ops : Array Oper) (hs : List (Tm × AH)) : List (Nat × Nat) → Prop
  | [] => True
  | q :: l => ObOk P call ops hs q ∧ ObsOk P call ops hs l
theorem ObsOk_iff {P : Program} {call : CallF} {ops : Array Oper} {hs : List (Tm × AH)} : ∀ {l : List (Nat × Nat)}, ObsOk P call ops hs l ↔ ∀ q ∈ l, ObOk P call ops hs q
  | [] => by simp [ObsOk]
  | q :: l => by simp [ObsOk, ObsOk_iff (l := l)]
open Classical in
noncomputable def evD (P : Program) (call : CallF) (i : DrI) (ops : Array Oper) (τ : Tm) (H : AH) : Option (Tm × AH) := match i with
  | .bad => none
  | .seq [] => evOps P call ops ops.toList τ H
  | .seq (q :: l) => match evHist P call ops ops.toList τ H with
    | some hs => if ObsOk P call ops hs (q :: l) then hs.getLast? else none
    | none => none
  | .flt I => evFlt P call ops I τ H
theorem evD_eq {P : Program} {call : CallF} {ops : Array Oper} {τ : Tm} {H : AH} : evD P call (drInfo P ops) ops τ H = evDraw P call ops τ H := by
  unfold drInfo evDraw
  by_cases hd : drawOk P ops = true
  · rw [if_pos hd, if_pos hd]
    unfold evDraw1
    rw [if_pos hd]
    cases hl : looseOf P ops with
    | nil => simp [evD]
    | cons q l =>
      rw [if_neg (by simp)]
      simp only [evD]
      cases evHist P call ops ops.toList τ H with
      | none => rfl
      | some hs =>
        simp only
        by_cases h : ObsOk P call ops hs (q :: l)
        · rw [if_pos h, if_pos (ObsOk_iff.1 h)]
        · rw [if_neg h, if_neg (fun e => h (ObsOk_iff.2 e))]
  · rw [if_neg hd, if_neg hd]
    cases infoOf P ops with
    | none => rfl
    | some I => rfl

/-- a loop, by name -/
noncomputable def evLoop (P : Program) (call : CallF) (n : Nat) (c : Code) (τ : Tm) (H : AH) : Out := iter (evCode P call n c) n τ H

section
variable (P : Program) (call : CallF) (n : Nat) (f : FuncId)
/-- code at place p of function f -/
noncomputable def evN : Nat → Code → Tm → AH → Out
  | p, .skip, τ, H => some (.normal, τ, H)
  | p, .label _, τ, H => some (.normal, τ, H)
  | p, .region _ ops draw, τ, H => match (if draw then evD P call (dr P f p) ops τ H else evOps P call ops ops.toList τ H) with
    | some (τ', H') => some (.normal, τ', H')
    | none => none
  | p, .seq a b, τ, H => match evN (2 * p) a τ H with
    | some (.normal, τ', H') => evN (2 * p + 1) b τ' H'
    | r => r
  | p, .cond c a b, τ, H => match opnd τ c with
    | some (.bool q) => if q then evN (2 * p) a τ H else evN (2 * p + 1) b τ H
    | _ => none
  | p, .block id a, τ, H => match evN (2 * p) a τ H with
    | some (.exit id', τ', H') => if id' = id then some (.normal, τ', H') else some (.exit id', τ', H')
    | r => r
  | p, .loop _, τ, H => evLoop P call n (lp P f p) τ H
  | p, .exit id, τ, H => some (.exit id, τ, H)
  | p, .scope a, τ, H => evN (2 * p) a τ H
  | p, .ret, τ, H => some (.ret, τ, H)
  | p, _, _, _ => none
end

theorem sub_step (c : Code) : ∀ {k p : Nat}, p < 2 ^ k → 1 ≤ p → ∀ m, k ≤ m → sub c m p = sub c k p
  | 0, p, h, h1, m, _ => by
    have : p = 0 := by simpa using h
    omega
  | k + 1, p, h, h1, 0, hm => by omega
  | k + 1, p, h, h1, m + 1, hm => by
    simp only [sub]
    by_cases hp : p ≤ 1
    · rw [if_pos hp, if_pos hp]
    · rw [if_neg hp, if_neg hp]
      rw [sub_step c (k := k) (p := p / 2) (by rw [Nat.pow_succ] at h; omega) (by omega) m (by omega)]
theorem at_root {P : Program} {f : FuncId} {fn : Func} (hf : P.funcs[f]? = some fn) {c : Code} (hb : fn.body = some c) : at_ P f 1 = c := by
  simp [at_, sub, bodyOf, hf, hb]
theorem at_child {P : Program} {f : FuncId} {p : Nat} (h1 : 1 ≤ p) (h : p < 2 ^ 198) (q : Nat) (hq : q / 2 = p) : at_ P f q = match at_ P f p with
    | .seq a b => if q % 2 = 0 then a else b
    | .cond _ a b => if q % 2 = 0 then a else b
    | .block _ a => a
    | .scope a => a
    | .loop a => a
    | x => x := by
  unfold at_
  have hne : ¬ q ≤ 1 := by omega
  rw [show (200 : Nat) = 199 + 1 from rfl]
  rw [sub, if_neg hne, hq, sub_step _ (k := 198) h h1 199 (by omega), ← sub_step _ (k := 198) h h1 (199 + 1) (by omega)]

def depth : Code → Nat
  | .seq a b => max (depth a) (depth b) + 1
  | .cond _ a b => max (depth a) (depth b) + 1
  | .block _ a => depth a + 1
  | .scope a => depth a + 1
  | .loop a => 1
  | _ => 0
theorem evN_eq {P : Program} {call : CallF} {n : Nat} {f : FuncId} : ∀ (c : Code) (k p : Nat), at_ P f p = c → 1 ≤ p → p < 2 ^ k → k + depth c ≤ 198 → ∀ τ H, evN P call n f p c τ H = evCode P call n c τ H
  | .skip, k, p, _, _, _, _, τ, H => rfl
  | .label _, k, p, _, _, _, _, τ, H => rfl
  | .region id ops draw, k, p, hc, _, _, _, τ, H => by
    have : dr P f p = drInfo P ops := by unfold dr; rw [hc]; rfl
    simp only [evN, evCode, this, evD_eq]
    cases draw <;> rfl
  | .seq a b, k, p, hc, h1, hp, hd, τ, H => by
    simp only [depth] at hd
    have hlt : p < 2 ^ 198 := Nat.lt_of_lt_of_le hp (Nat.pow_le_pow_right (by omega) (by omega))
    have ha : at_ P f (2 * p) = a := by rw [at_child h1 hlt (2 * p) (by omega), hc]; simp
    have hb : at_ P f (2 * p + 1) = b := by
      rw [at_child h1 hlt (2 * p + 1) (by omega), hc]
      have : (2 * p + 1) % 2 ≠ 0 := by omega
      simp [this]
    have e1 := evN_eq (call := call) (n := n) a (k + 1) (2 * p) ha (by omega) (by rw [Nat.pow_succ]; omega) (by omega)
    have e2 := evN_eq (call := call) (n := n) b (k + 1) (2 * p + 1) hb (by omega) (by rw [Nat.pow_succ]; omega) (by omega)
    simp only [evN, evCode, e1, e2]
    cases evCode P call n a τ H with
    | none => rfl
    | some r => obtain ⟨e, τ', H'⟩ := r; cases e <;> rfl
  | .cond c a b, k, p, hc, h1, hp, hd, τ, H => by
    simp only [depth] at hd
    have hlt : p < 2 ^ 198 := Nat.lt_of_lt_of_le hp (Nat.pow_le_pow_right (by omega) (by omega))
    have ha : at_ P f (2 * p) = a := by rw [at_child h1 hlt (2 * p) (by omega), hc]; simp
    have hb : at_ P f (2 * p + 1) = b := by
      rw [at_child h1 hlt (2 * p + 1) (by omega), hc]
      have : (2 * p + 1) % 2 ≠ 0 := by omega
      simp [this]
    have e1 := evN_eq (call := call) (n := n) a (k + 1) (2 * p) ha (by omega) (by rw [Nat.pow_succ]; omega) (by omega)
    have e2 := evN_eq (call := call) (n := n) b (k + 1) (2 * p + 1) hb (by omega) (by rw [Nat.pow_succ]; omega) (by omega)
    simp only [evN, evCode, e1, e2]
    cases opnd τ c with
    | none => rfl
    | some v => cases v <;> rfl
  | .block id a, k, p, hc, h1, hp, hd, τ, H => by
    simp only [depth] at hd
    have hlt : p < 2 ^ 198 := Nat.lt_of_lt_of_le hp (Nat.pow_le_pow_right (by omega) (by omega))
    have ha : at_ P f (2 * p) = a := by rw [at_child h1 hlt (2 * p) (by omega), hc]
    have e1 := evN_eq (call := call) (n := n) a (k + 1) (2 * p) ha (by omega) (by rw [Nat.pow_succ]; omega) (by omega)
    simp only [evN, evCode, e1]
    cases evCode P call n a τ H with
    | none => rfl
    | some r => obtain ⟨e, τ', H'⟩ := r; cases e <;> rfl
  | .scope a, k, p, hc, h1, hp, hd, τ, H => by
    simp only [depth] at hd
    have hlt : p < 2 ^ 198 := Nat.lt_of_lt_of_le hp (Nat.pow_le_pow_right (by omega) (by omega))
    have ha : at_ P f (2 * p) = a := by rw [at_child h1 hlt (2 * p) (by omega), hc]
    have e1 := evN_eq (call := call) (n := n) a (k + 1) (2 * p) ha (by omega) (by rw [Nat.pow_succ]; omega) (by omega)
    simp only [evN, evCode, e1]
  | .loop a, k, p, hc, h1, hp, hd, τ, H => by
    have hlt : p < 2 ^ 198 := Nat.lt_of_lt_of_le hp (Nat.pow_le_pow_right (by omega) (by omega))
    have ha : at_ P f (2 * p) = a := by rw [at_child h1 hlt (2 * p) (by omega), hc]
    have : lp P f p = a := by unfold lp; exact ha
    simp only [evN, evCode, evLoop, this]
  | .exit _, k, p, _, _, _, _, τ, H => rfl
  | .ret, k, p, _, _, _, _, τ, H => rfl
  | .rangeFunc .., k, p, _, _, _, _, τ, H => rfl
  | .goto .., k, p, _, _, _, _, τ, H => rfl
  | .refuse .., k, p, _, _, _, _, τ, H => rfl

/-- a function, with names -/
noncomputable def evF (P : Program) (call : CallF) (n : Nat) (f : FuncId) (fn : Func) (args : List AV) (H : AH) : Option (AV × AH) := match fn.body with
  | some c => match evN P call n f 1 c (tm0 args) H with
    | some (.normal, τ, H') => (resA P fn.results.toList τ H').map fun r => (r, H')
    | some (.ret, τ, H') => (resA P fn.results.toList τ H').map fun r => (r, H')
    | _ => none
  | none => none
def depthOk (fn : Func) : Bool := match fn.body with | some c => decide (depth c ≤ 190) | none => false
def goodFn (fn : Func) : Bool := fnOk fn && depthOk fn
theorem ev_eq {P : Program} {f : FuncId} {fn : Func} (hf : P.funcs[f]? = some fn) (hok : goodFn fn = true) (n : Nat) (args : List AV) (H : AH) (hl : args.length ≤ fn.ntmps) : ev P (n + 1) f args H = evF P (ev P n) n f fn args H := by
  unfold goodFn at hok
  rw [Bool.and_eq_true] at hok
  simp only [ev, hf, hok.1, hl, and_self, if_true, evFn, evF]
  cases hb : fn.body with
  | none => rfl
  | some c =>
    have hd := hok.2
    unfold depthOk at hd
    rw [hb] at hd
    simp only [decide_eq_true_eq] at hd
    simp only
    rw [evN_eq c 1 1 (at_root hf hb) (Nat.le_refl _) (by decide) (by omega)]
    cases evCode P (ev P n) n c (tm0 args) H with
    | none => rfl
    | some r => obtain ⟨e, τ', H'⟩ := r; cases e <;> rfl
/-- a loop's round -/
theorem lp_eq {P : Program} {f : FuncId} {call : CallF} {n p k : Nat} {a : Code} (ha : at_ P f (2 * p) = a) (h1 : 1 ≤ p) (hk : p < 2 ^ k) (hd : k + 1 + depth a ≤ 198) (τ : Tm) (H : AH) : evCode P call n (lp P f p) τ H = evN P call n f (2 * p) a τ H := by
  have : lp P f p = a := by unfold lp; exact ha
  rw [this, evN_eq a (k + 1) (2 * p) ha (by omega) (by rw [Nat.pow_succ]; omega) hd]
end Go.Ev

/- Rules for loops; what stays of the memory. -/
namespace Go.Ev
open Go Go.RowKit
set_option linter.unusedSimpArgs false
set_option linter.unusedVariables false

theorem at_eq {P : Program} {f : FuncId} {fn : Func} (hf : P.funcs[f]? = some fn) (p : Nat) : at_ P f p = sub (fn.body.getD .skip) 200 p := by
  simp [at_, bodyOf, hf]
theorem dr_eq {P : Program} {f : FuncId} {fn : Func} (hf : P.funcs[f]? = some fn) (p : Nat) : dr P f p = drCode P (sub (fn.body.getD .skip) 200 p) := by
  unfold dr; rw [at_eq hf]
theorem lp_at {P : Program} {f : FuncId} {fn : Func} (hf : P.funcs[f]? = some fn) (p : Nat) (h1 : 1 ≤ p) (k : Nat) (hk : p < 2 ^ k) (hd : decide (k + 1 + depth (sub (fn.body.getD .skip) 200 (2 * p)) ≤ 198) = true) (call : CallF) (n : Nat) (τ : Tm) (H : AH) :
    evCode P call n (lp P f p) τ H = evN P call n f (2 * p) (sub (fn.body.getD .skip) 200 (2 * p)) τ H :=
  lp_eq (at_eq hf (2 * p)) h1 hk (by simpa using hd) τ H

/-- what a round comes to: it ends the loop, or lowers what is left -/
def Round (I : Nat → Tm → AH → Prop) (Post : Ex → Tm → AH → Prop) (d : Nat) : Out → Prop
  | some (.normal, τ, H) => ∃ d', d' < d ∧ I d' τ H
  | some (.exit id, τ, H) => Post (.exit id) τ H
  | some (.ret, τ, H) => Post .ret τ H
  | none => False
/-- A loop: each round ends it, or lowers what is left. -/
theorem loop_rule {P : Program} {call : CallF} {n : Nat} {c : Code} (I : Nat → Tm → AH → Prop) (Post : Ex → Tm → AH → Prop)
    (hstep : ∀ d τ H, I d τ H → Round I Post d (evCode P call n c τ H))
    {d : Nat} {τ : Tm} {H : AH} (hI : I d τ H) (hd : d < n) : ∃ e τ' H', evLoop P call n c τ H = some (e, τ', H') ∧ Post e τ' H' := by
  unfold evLoop
  have key : ∀ (m d : Nat) (τ : Tm) (H : AH), I d τ H → d < m → ∃ e τ' H', iter (evCode P call n c) m τ H = some (e, τ', H') ∧ Post e τ' H' := by
    intro m
    induction m with
    | zero => intro d τ H _ h; omega
    | succ m ih =>
      intro d τ H hI hd
      have h := hstep d τ H hI
      simp only [iter]
      cases hr : evCode P call n c τ H with
      | none => rw [hr] at h; exact h.elim
      | some r =>
        obtain ⟨e, τ', H'⟩ := r
        rw [hr] at h
        cases e with
        | normal => obtain ⟨d', hlt, hI'⟩ := h; exact ih d' τ' H' hI' (by omega)
        | exit id => exact ⟨_, _, _, rfl, h⟩
        | ret => exact ⟨_, _, _, rfl, h⟩
  exact key n d τ H hI hd
theorem loop_at {P : Program} {call : CallF} {n : Nat} {c : Code} {τ : Tm} {H : AH} {R : Out} (hR : evLoop P call n c τ H = R) {Post : Ex → Tm → AH → Prop}
    (h : ∃ e τ' H', evLoop P call n c τ H = some (e, τ', H') ∧ Post e τ' H') : ∃ e τ' H', R = some (e, τ', H') ∧ Post e τ' H' := by
  rw [hR] at h; exact h

/-- All that was there is as it was. -/
structure Kp (H H' : AH) : Prop where
  next : H.next ≤ H'.next
  get : ∀ b, b < H.next → H'.get b = H.get b
theorem Kp.refl (H : AH) : Kp H H := ⟨Nat.le_refl _, fun _ _ => rfl⟩
theorem Kp.trans {A B C : AH} (h : Kp A B) (k : Kp B C) : Kp A C := ⟨Nat.le_trans h.next k.next, fun b hb => (k.get b (Nat.lt_of_lt_of_le hb h.next)).trans (h.get b hb)⟩
theorem Kp.push {A B : AH} (h : Kp A B) (x : Blk) : Kp A (B.push x) := ⟨by simp only [AH.push_next]; have := h.next; omega, fun b hb => by
  rw [AH.push_get, if_neg (by have := h.next; omega)]; exact h.get b hb⟩
theorem Kp.set {A B : AH} (h : Kp A B) {b : Nat} (hb : A.next ≤ b) (x : Blk) : Kp A (B.set b x) := ⟨h.next, fun c hc => by
  rw [AH.set_get, if_neg (by omega)]; exact h.get c hc⟩
theorem Kp.kill {A B : AH} (h : Kp A B) {b : Nat} (hb : A.next ≤ b) : Kp A (B.kill b) := ⟨h.next, fun c hc => by
  rw [AH.kill_get, if_neg (by omega)]; exact h.get c hc⟩

/-- bytes and numbers as cells -/
def u8L (l : List Int) : List AV := l.map (.int .u8)
def i64L (l : List Int) : List AV := l.map (.int .i64)
theorem u8L_get (l : List Int) (i : Nat) : (u8L l)[i]? = l[i]?.map (AV.int .u8) := by simp [u8L]
theorem u8L_len (l : List Int) : (u8L l).length = l.length := by simp [u8L]
end Go.Ev

/- The evaluator's text as rules for simp; slices of one-cell elements. -/
namespace Go.Ev
open Go Go.RowKit
set_option linter.unusedSimpArgs false
set_option linter.unusedVariables false
theorem wrap_i64 {n : Int} (h0 : -9223372036854775808 ≤ n) (h1 : n ≤ 9223372036854775807) : IntKind.i64.wrap n = n := by
  rw [IntKind.wrap_i64]; omega
@[simp] theorem one_bool (b : Bool) : AV.one (AV.bool b) = true := rfl
@[simp] theorem cells_bool (b : Bool) : AV.cells (AV.bool b) = [(AV.bool b)] := rfl
@[simp] theorem one_int (k : IntKind) (n : Int) : AV.one (AV.int k n) = true := rfl
@[simp] theorem cells_int (k : IntKind) (n : Int) : AV.cells (AV.int k n) = [(AV.int k n)] := rfl
@[simp] theorem one_str (s : ByteArray) : AV.one (AV.str s) = true := rfl
@[simp] theorem cells_str (s : ByteArray) : AV.cells (AV.str s) = [(AV.str s)] := rfl
@[simp] theorem one_nilPtr  : AV.one AV.nilPtr = true := rfl
@[simp] theorem cells_nilPtr  : AV.cells AV.nilPtr = [AV.nilPtr] := rfl
@[simp] theorem one_ptr (b o : Nat) : AV.one (AV.ptr b o) = true := rfl
@[simp] theorem cells_ptr (b o : Nat) : AV.cells (AV.ptr b o) = [(AV.ptr b o)] := rfl
@[simp] theorem one_nilSlice  : AV.one AV.nilSlice = true := rfl
@[simp] theorem cells_nilSlice  : AV.cells AV.nilSlice = [AV.nilSlice] := rfl
@[simp] theorem one_slice (b o n : Nat) : AV.one (AV.slice b o n) = true := rfl
@[simp] theorem cells_slice (b o n : Nat) : AV.cells (AV.slice b o n) = [(AV.slice b o n)] := rfl
@[simp] theorem one_nilMap  : AV.one AV.nilMap = true := rfl
@[simp] theorem cells_nilMap  : AV.cells AV.nilMap = [AV.nilMap] := rfl
@[simp] theorem one_map (b : Nat) : AV.one (AV.map b) = true := rfl
@[simp] theorem cells_map (b : Nat) : AV.cells (AV.map b) = [(AV.map b)] := rfl
@[simp] theorem one_nilFunc  : AV.one AV.nilFunc = true := rfl
@[simp] theorem cells_nilFunc  : AV.cells AV.nilFunc = [AV.nilFunc] := rfl
@[simp] theorem one_func (f : FuncId) (fs l : List AV) : AV.one (AV.func f fs l) = true := rfl
@[simp] theorem cells_func (f : FuncId) (fs l : List AV) : AV.cells (AV.func f fs l) = [(AV.func f fs l)] := rfl
@[simp] theorem one_nilIface  : AV.one AV.nilIface = true := rfl
@[simp] theorem cells_nilIface  : AV.cells AV.nilIface = [AV.nilIface] := rfl
@[simp] theorem one_iface (t : TypeId) (v : AV) : AV.one (AV.iface t v) = true := rfl
@[simp] theorem cells_iface (t : TypeId) (v : AV) : AV.cells (AV.iface t v) = [(AV.iface t v)] := rfl
@[simp] theorem one_agg (l : List AV) : AV.one (.agg l) = false := rfl
@[simp] theorem one_tuple (l : List AV) : AV.one (.tuple l) = false := rfl
@[simp] theorem cells_agg (l : List AV) : AV.cells (.agg l) = l := rfl
@[simp] theorem cells_tuple (l : List AV) : AV.cells (.tuple l) = [.tuple l] := rfl
theorem cells_one {v : AV} (h : v.one = true) : v.cells = [v] := by cases v <;> first | rfl | (simp at h)
@[simp] theorem nat_nn (n : Nat) : ((n : Int) < 0) = False := by simp
theorem AH.eq_of {A B : AH} (h1 : A.get = B.get) (h2 : A.next = B.next) : A = B := by cases A; cases B; simp at h1 h2; subst h1; subst h2; rfl
@[simp] theorem push_set {H : AH} {b : Nat} (x y : Blk) (h : b = H.next) : (H.push x).set b y = H.push y := by
  subst h
  refine AH.eq_of (funext fun c => ?_) (by simp only [AH.set_next, AH.push_next])
  simp only [AH.set_get, AH.push_get]
  split <;> rfl
@[simp] theorem set_set (H : AH) (b : Nat) (x y : Blk) : (H.set b x).set b y = H.set b y := by
  refine AH.eq_of (funext fun c => ?_) (by simp only [AH.set_next])
  simp only [AH.set_get]
  split <;> rfl
theorem zerosA_one_eq (a : AV) (n : Nat) : zerosA [a] n = List.replicate n a := by
  induction n with
  | zero => rfl
  | succ n ih => simp [zerosA, ih, List.replicate_succ]
@[simp] theorem zerosA_0 (z : List AV) : zerosA z 0 = [] := rfl

section
variable {P : Program}
theorem lenA_str {t : TypeId} (h : P.underlying t = some .string) (s : ByteArray) (H : AH) : lenA P t (.str s) H = some (.int .i64 s.size) := by simp [lenA, h]
@[simp] theorem lenA_slice {t e : TypeId} (h : P.underlying t = some (.slice e)) (b o n : Nat) (H : AH) : lenA P t (.slice b o n) H = some (.int .i64 n) := by simp [lenA, h]
@[simp] theorem lenA_nil {t e : TypeId} (h : P.underlying t = some (.slice e)) (H : AH) : lenA P t .nilSlice H = some (.int .i64 0) := by simp [lenA, h]
theorem ld_one {t e : TypeId} {b o : Nat} {H : AH} {ro : Bool} {xs : List AV} (h : H.get b = some (.cells e ro xs)) (ha : aggT P t = some false) : ldVar P t b o H = xs[o]? := by simp [ldVar, h, ha]
theorem ld_agg {t e : TypeId} {b o n : Nat} {H : AH} {ro : Bool} {xs : List AV} (h : H.get b = some (.cells e ro xs)) (ha : aggT P t = some true) (hs : sizeT P t = some n) (hle : o + n ≤ xs.length) : ldVar P t b o H = some (.agg ((xs.drop o).take n)) := by simp [ldVar, h, ha, hs, hle]
theorem st_one {t e : TypeId} {b o : Nat} {H : AH} {xs : List AV} {v : AV} (h : H.get b = some (.cells e false xs)) (hs : sizeT P t = some 1) (h1 : v.one = true) (hlt : o < xs.length) : stVar P t b o v H = some (H.set b (.cells e false (xs.set o v))) := by
  have hc : v.cells = [v] := by cases v <;> first | rfl | (simp at h1)
  have hle : o + 1 ≤ xs.length := hlt
  simp only [stVar, h, hs, hc]
  simp [h1, hle, spl]

/-- A slice of one-cell elements: what it shows. -/
structure Sl (P : Program) (t e : TypeId) (H : AH) (s : AV) (cs : List AV) : Prop where
  ty : P.underlying t = some (.slice e)
  sz : sizeT P e = some 1
  ag : aggT P e = some false
  lie : (s = .nilSlice ∧ cs = []) ∨ ∃ b o ro xs, s = .slice b o cs.length ∧ b < H.next ∧ H.get b = some (.cells e ro xs) ∧ o + cs.length ≤ xs.length ∧ (xs.drop o).take cs.length = cs
theorem Sl.len {t e : TypeId} {H : AH} {s : AV} {cs : List AV} (h : Sl P t e H s cs) (h' : AH) : lenA P t s h' = some (.int .i64 cs.length) := by
  rcases h.lie with ⟨rfl, rfl⟩ | ⟨b, o, ro, xs, rfl, _⟩
  · simp [lenA, h.ty]
  · simp [lenA, h.ty]
theorem Sl.row {t e : TypeId} {H : AH} {s : AV} {cs : List AV} (h : Sl P t e H s cs) : rowOf 1 H s = some cs := by
  rcases h.lie with ⟨rfl, rfl⟩ | ⟨b, o, ro, xs, rfl, hn, hb, hl, hx⟩
  · rfl
  · simp [rowOf, hb, hl, hx]
theorem Sl.news {t e : TypeId} {H : AH} {s : AV} {cs : List AV} (h : Sl P t e H s cs) : newsA P 1 t s H = some (cs.length, cs) := by
  have hr := h.row
  rcases h.lie with ⟨rfl, rfl⟩ | ⟨b, o, ro, xs, rfl, hn, hb, hl, hx⟩
  · simp [newsA, h.ty]
  · simp only [newsA, h.ty, hr]; simp
theorem Sl.one {t e : TypeId} {H : AH} {s : AV} {cs : List AV} (h : Sl P t e H s cs) : s.one = true := by
  rcases h.lie with ⟨rfl, rfl⟩ | ⟨b, o, ro, xs, rfl, _⟩ <;> rfl
/-- where it lies -/
theorem Sl.at_ {t e : TypeId} {H : AH} {s : AV} {cs : List AV} (h : Sl P t e H s cs) : ∃ b o, (0 < cs.length → b < H.next) ∧ (∀ i : Nat, i < cs.length → idxA P t s (.int .i64 i) = some (.ptr b (o + i))) ∧
    ∀ h' : AH, h'.get b = H.get b → ∀ i (hi : i < cs.length), ldVar P e b (o + i) h' = some cs[i] := by
  rcases h.lie with ⟨rfl, rfl⟩ | ⟨b, o, ro, xs, rfl, hn, hb, hl, hx⟩
  · exact ⟨0, 0, by simp, by simp, by simp⟩
  · refine ⟨b, o, fun _ => hn, fun i hi => ?_, fun h' hh i hi => ?_⟩
    · simp [idxA, h.ty, h.sz, hi]
    · rw [hb] at hh
      rw [ld_one hh h.ag]
      have : cs[i]? = some cs[i] := by simp [hi]
      rw [← this, ← hx, List.getElem?_take, if_pos hi, List.getElem?_drop]
theorem Sl.kp {t e : TypeId} {H H' : AH} {s : AV} {cs : List AV} (h : Sl P t e H s cs) (hK : Kp H H') : Sl P t e H' s cs := by
  refine ⟨h.ty, h.sz, h.ag, ?_⟩
  rcases h.lie with h | ⟨b, o, ro, xs, hs, hn, hb, hl⟩
  · exact .inl h
  · exact .inr ⟨b, o, ro, xs, hs, Nat.lt_of_lt_of_le hn hK.next, by rw [hK.get b hn]; exact hb, hl⟩
/-- a block of its own, shown whole -/
theorem Sl.whole {t e : TypeId} {H : AH} {b : Nat} {ro : Bool} {cs : List AV} (hu : P.underlying t = some (.slice e)) (hs : sizeT P e = some 1) (ha : aggT P e = some false) (hb : H.get b = some (.cells e ro cs)) (hn : b < H.next) : Sl P t e H (.slice b 0 cs.length) cs :=
  ⟨hu, hs, ha, .inr ⟨b, 0, ro, cs, rfl, hn, hb, by simp, by simp⟩⟩
/-- a piece -/
theorem Sl.cut {t e : TypeId} {H : AH} {s : AV} {cs : List AV} (h : Sl P t e H s cs) (i j : Nat) (hij : i ≤ j) (hj : j ≤ cs.length) {lo hi : Option (Option AV)} (hlo : bndA 0 lo = some (i : Int)) (hhi : bndA cs.length hi = some (j : Int)) :
    ∃ s', cutA P t s lo hi H = some s' ∧ Sl P t e H s' ((cs.take j).drop i) := by
  rcases h.lie with ⟨rfl, rfl⟩ | ⟨b, o, ro, xs, rfl, hn, hb, hl, hx⟩
  · simp at hj
    subst hj
    have : i = 0 := by omega
    subst this
    simp at hhi hlo
    refine ⟨.nilSlice, by simp only [cutA, h.ty, h.sz, hlo, hhi]; simp, ⟨h.ty, h.sz, h.ag, .inl ⟨rfl, by simp⟩⟩⟩
  · refine ⟨.slice b (o + i) (j - i), ?_, ⟨h.ty, h.sz, h.ag, .inr ⟨b, o + i, ro, xs, ?_, hn, hb, ?_, ?_⟩⟩⟩
    · simp only [cutA, h.ty, h.sz, hlo, hhi, hb]
      have c : (0 : Int) ≤ (i : Int) ∧ (i : Int) ≤ (j : Int) ∧ (j : Int) ≤ (cs.length : Int) ∧ True := ⟨by omega, by omega, by omega, trivial⟩
      simp [c.2.1, c.2.2.1, hij, hj]
    · simp; omega
    · simp; omega
    · have hlen : ((cs.take j).drop i).length = j - i := by simp; omega
      rw [hlen, ← hx]
      apply List.ext_getElem?
      intro k
      simp only [List.getElem?_take, List.getElem?_drop, List.length_take, List.length_drop]
      by_cases hk : k < j - i
      · rw [if_pos hk, if_pos (by omega), if_pos (by omega)]
        congr 1; omega
      · rw [if_neg hk]
        rw [if_neg (by omega)]
end
attribute [simp] evF evN evOps stepA wantA evO evOp builtA isIntT opndL opndP opndO opnd binA intA shiftA strA put upd tm0 cv cvS cvL resA resL resR isC indexA partA spl sub eqlA eqlD eqlS eqlK unA bndA fillA foldA mx2 mn2 evD
attribute [simp] AH.push_get AH.set_get AH.kill_get AH.push_next AH.set_next AH.kill_next Round
end Go.Ev
