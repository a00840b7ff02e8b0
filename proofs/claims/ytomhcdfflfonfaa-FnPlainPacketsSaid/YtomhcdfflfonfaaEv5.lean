/- Lemmas of an evaluator of the given code and of what the functions answer; no condition of its own. -/
import Derived.Test.YtomhcdfflfonfaaEv4
import Derived.Test.YtomhcdfflfonfaaProg
import Derived.KernelRfl
/- The evaluator with names for loops and open orders, so that a function's text is never written out. -/
namespace Go.Ev
open Go Go.RowKit
set_option linter.unusedSimpArgs false
set_option linter.unusedVariables false

/-- the code at a place: 1 the whole; 2p and 2p+1 the two parts of what stands at p -/
def sub (c : Code) : Nat → Nat → Code
  | 0, _ => c
  | fuel + 1, p => if p ≤ 1 then c else match sub c fuel (p / 2) with
    | .seq a b => if p % 2 = 0 then a else b
    | .cond _ a b => if p % 2 = 0 then a else b
    | .block _ a => a
    | .scope a => a
    | .loop a => a
    | x => x
/-- the body of a function -/
def bodyOf (P : Program) (f : FuncId) : Code := match P.funcs[f]? with
  | some fn => fn.body.getD .skip
  | none => .skip
/-- the code at a place of a function's body -/
def at_ (P : Program) (f : FuncId) (p : Nat) : Code := sub (bodyOf P f) 200 p
/-- a loop's body, by name -/
@[irreducible] def lp (P : Program) (f : FuncId) (p : Nat) : Code := at_ P f (2 * p)
/-- what is known of a region whose order is open: none: not ordered enough; the reads that float -/
inductive DrI where
  | bad
  | seq (l : List (Nat × Nat))
  | flt (I : FI)
def drInfo (P : Program) (ops : Array Oper) : DrI := if drawOk P ops = true then .seq (looseOf P ops) else match infoOf P ops with
  | some I => .flt I
  | none => .bad
def drCode (P : Program) : Code → DrI
  | .region _ ops _ => drInfo P ops
  | _ => .bad
@[irreducible] def dr (P : Program) (f : FuncId) (p : Nat) : DrI := drCode P (at_ P f p)

def ObsOk (P : Program) (call : CallF) (ops : Array Oper) (hs : List (Tm × AH)) : List (Nat × Nat) → Prop
  | [] => True
  | q :: l => ObOk P call ops hs q ∧ ObsOk P call ops hs l
theorem ObsOk_iff {P : Program} {call : CallF} {ops : Array Oper} {hs : List (Tm × AH)} : ∀ {l : List (Nat × Nat)}, ObsOk P call ops hs l ↔ ∀ q ∈ l, ObOk P call ops hs q
  | [] => by simp [ObsOk]
  | q :: l => by simp [ObsOk, ObsOk_iff (l := l)]
open Classical in
noncomputable def evD (P : Program) (call : CallF) (i : DrI) (ops : Array Oper) (τ : Tm) (H : AH) : Option (Tm × AH) := match i with
  | .bad => none
  | .seq [] => evOps P call ops ops.toList τ H
  | .seq (q :: l) => match evHist P call ops ops.toList τ H with
    | some hs => if ObsOk P call ops hs (q :: l) then hs.getLast? else none
    | none => none
  | .flt I => evFlt P call ops I τ H
theorem evD_eq {P : Program} {call : CallF} {ops : Array Oper} {τ : Tm} {H : AH} : evD P call (drInfo P ops) ops τ H = evDraw P call ops τ H := by
  unfold drInfo evDraw
  by_cases hd : drawOk P ops = true
  · rw [if_pos hd, if_pos hd]
    unfold evDraw1
    rw [if_pos hd]
    cases hl : looseOf P ops with
    | nil => simp [evD]
    | cons q l =>
      rw [if_neg (by simp)]
      simp only [evD]
      cases evHist P call ops ops.toList τ H with
      | none => rfl
      | some hs =>
        simp only
        by_cases h : ObsOk P call ops hs (q :: l)
        · rw [if_pos h, if_pos (ObsOk_iff.1 h)]
        · rw [if_neg h, if_neg (fun e => h (ObsOk_iff.2 e))]
  · rw [if_neg hd, if_neg hd]
    cases infoOf P ops with
    | none => rfl
    | some I => rfl

/-- a loop, by name -/
noncomputable def evLoop (P : Program) (call : CallF) (n : Nat) (c : Code) (τ : Tm) (H : AH) : Out := iter (evCode P call n c) n τ H

section
variable (P : Program) (call : CallF) (n : Nat) (f : FuncId)
/-- code at place p of function f -/
noncomputable def evN : Nat → Code → Tm → AH → Out
  | p, .skip, τ, H => some (.normal, τ, H)
  | p, .label _, τ, H => some (.normal, τ, H)
  | p, .region _ ops draw, τ, H => match (if draw then evD P call (dr P f p) ops τ H else evOps P call ops ops.toList τ H) with
    | some (τ', H') => some (.normal, τ', H')
    | none => none
  | p, .seq a b, τ, H => match evN (2 * p) a τ H with
    | some (.normal, τ', H') => evN (2 * p + 1) b τ' H'
    | r => r
  | p, .cond c a b, τ, H => match opnd τ c with
    | some (.bool q) => if q then evN (2 * p) a τ H else evN (2 * p + 1) b τ H
    | _ => none
  | p, .block id a, τ, H => match evN (2 * p) a τ H with
    | some (.exit id', τ', H') => if id' = id then some (.normal, τ', H') else some (.exit id', τ', H')
    | r => r
  | p, .loop _, τ, H => evLoop P call n (lp P f p) τ H
  | p, .exit id, τ, H => some (.exit id, τ, H)
  | p, .scope a, τ, H => evN (2 * p) a τ H
  | p, .ret, τ, H => some (.ret, τ, H)
  | p, _, _, _ => none
end

theorem sub_step (c : Code) : ∀ {k p : Nat}, p < 2 ^ k → 1 ≤ p → ∀ m, k ≤ m → sub c m p = sub c k p
  | 0, p, h, h1, m, _ => by
    have : p = 0 := by simpa using h
    omega
  | k + 1, p, h, h1, 0, hm => by omega
  | k + 1, p, h, h1, m + 1, hm => by
    simp only [sub]
    by_cases hp : p ≤ 1
    · rw [if_pos hp, if_pos hp]
    · rw [if_neg hp, if_neg hp]
      rw [sub_step c (k := k) (p := p / 2) (by rw [Nat.pow_succ] at h; omega) (by omega) m (by omega)]
theorem at_root {P : Program} {f : FuncId} {fn : Func} (hf : P.funcs[f]? = some fn) {c : Code} (hb : fn.body = some c) : at_ P f 1 = c := by
  simp [at_, sub, bodyOf, hf, hb]
theorem at_child {P : Program} {f : FuncId} {p : Nat} (h1 : 1 ≤ p) (h : p < 2 ^ 198) (q : Nat) (hq : q / 2 = p) : at_ P f q = match at_ P f p with
    | .seq a b => if q % 2 = 0 then a else b
    | .cond _ a b => if q % 2 = 0 then a else b
    | .block _ a => a
    | .scope a => a
    | .loop a => a
    | x => x := by
  unfold at_
  have hne : ¬ q ≤ 1 := by omega
  rw [show (200 : Nat) = 199 + 1 from rfl]
  rw [sub, if_neg hne, hq, sub_step _ (k := 198) h h1 199 (by omega), ← sub_step _ (k := 198) h h1 (199 + 1) (by omega)]

def depth : Code → Nat
  | .seq a b => max (depth a) (depth b) + 1
  | .cond _ a b => max (depth a) (depth b) + 1
  | .block _ a => depth a + 1
  | .scope a => depth a + 1
  | .loop a => 1
  | _ => 0
theorem evN_eq {P : Program} {call : CallF} {n : Nat} {f : FuncId} : ∀ (c : Code) (k p : Nat), at_ P f p = c → 1 ≤ p → p < 2 ^ k → k + depth c ≤ 198 → ∀ τ H, evN P call n f p c τ H = evCode P call n c τ H
  | .skip, k, p, _, _, _, _, τ, H => rfl
  | .label _, k, p, _, _, _, _, τ, H => rfl
  | .region id ops draw, k, p, hc, _, _, _, τ, H => by
    have : dr P f p = drInfo P ops := by unfold dr; rw [hc]; rfl
    simp only [evN, evCode, this, evD_eq]
    cases draw <;> rfl
  | .seq a b, k, p, hc, h1, hp, hd, τ, H => by
    simp only [depth] at hd
    have hlt : p < 2 ^ 198 := Nat.lt_of_lt_of_le hp (Nat.pow_le_pow_right (by omega) (by omega))
    have ha : at_ P f (2 * p) = a := by rw [at_child h1 hlt (2 * p) (by omega), hc]; simp
    have hb : at_ P f (2 * p + 1) = b := by
      rw [at_child h1 hlt (2 * p + 1) (by omega), hc]
      have : (2 * p + 1) % 2 ≠ 0 := by omega
      simp [this]
    have e1 := evN_eq (call := call) (n := n) a (k + 1) (2 * p) ha (by omega) (by rw [Nat.pow_succ]; omega) (by omega)
    have e2 := evN_eq (call := call) (n := n) b (k + 1) (2 * p + 1) hb (by omega) (by rw [Nat.pow_succ]; omega) (by omega)
    simp only [evN, evCode, e1, e2]
    cases evCode P call n a τ H with
    | none => rfl
    | some r => obtain ⟨e, τ', H'⟩ := r; cases e <;> rfl
  | .cond c a b, k, p, hc, h1, hp, hd, τ, H => by
    simp only [depth] at hd
    have hlt : p < 2 ^ 198 := Nat.lt_of_lt_of_le hp (Nat.pow_le_pow_right (by omega) (by omega))
    have ha : at_ P f (2 * p) = a := by rw [at_child h1 hlt (2 * p) (by omega), hc]; simp
    have hb : at_ P f (2 * p + 1) = b := by
      rw [at_child h1 hlt (2 * p + 1) (by omega), hc]
      have : (2 * p + 1) % 2 ≠ 0 := by omega
      simp [this]
    have e1 := evN_eq (call := call) (n := n) a (k + 1) (2 * p) ha (by omega) (by rw [Nat.pow_succ]; omega) (by omega)
    have e2 := evN_eq (call := call) (n := n) b (k + 1) (2 * p + 1) hb (by omega) (by rw [Nat.pow_succ]; omega) (by omega)
    simp only [evN, evCode, e1, e2]
    cases opnd τ c with
    | none => rfl
    | some v => cases v <;> rfl
  | .block id a, k, p, hc, h1, hp, hd, τ, H => by
    simp only [depth] at hd
    have hlt : p < 2 ^ 198 := Nat.lt_of_lt_of_le hp (Nat.pow_le_pow_right (by omega) (by omega))
    have ha : at_ P f (2 * p) = a := by rw [at_child h1 hlt (2 * p) (by omega), hc]
    have e1 := evN_eq (call := call) (n := n) a (k + 1) (2 * p) ha (by omega) (by rw [Nat.pow_succ]; omega) (by omega)
    simp only [evN, evCode, e1]
    cases evCode P call n a τ H with
    | none => rfl
    | some r => obtain ⟨e, τ', H'⟩ := r; cases e <;> rfl
  | .scope a, k, p, hc, h1, hp, hd, τ, H => by
    simp only [depth] at hd
    have hlt : p < 2 ^ 198 := Nat.lt_of_lt_of_le hp (Nat.pow_le_pow_right (by omega) (by omega))
    have ha : at_ P f (2 * p) = a := by rw [at_child h1 hlt (2 * p) (by omega), hc]
    have e1 := evN_eq (call := call) (n := n) a (k + 1) (2 * p) ha (by omega) (by rw [Nat.pow_succ]; omega) (by omega)
    simp only [evN, evCode, e1]
  | .loop a, k, p, hc, h1, hp, hd, τ, H => by
    have hlt : p < 2 ^ 198 := Nat.lt_of_lt_of_le hp (Nat.pow_le_pow_right (by omega) (by omega))
    have ha : at_ P f (2 * p) = a := by rw [at_child h1 hlt (2 * p) (by omega), hc]
    have : lp P f p = a := by unfold lp; exact ha
    simp only [evN, evCode, evLoop, this]
  | .exit _, k, p, _, _, _, _, τ, H => rfl
  | .ret, k, p, _, _, _, _, τ, H => rfl
  | .rangeFunc .., k, p, _, _, _, _, τ, H => rfl
  | .goto .., k, p, _, _, _, _, τ, H => rfl
  | .refuse .., k, p, _, _, _, _, τ, H => rfl

/-- a function, with names -/
noncomputable def evF (P : Program) (call : CallF) (n : Nat) (f : FuncId) (fn : Func) (args : List AV) (H : AH) : Option (AV × AH) := match fn.body with
  | some c => match evN P call n f 1 c (tm0 args) H with
    | some (.normal, τ, H') => (resA P fn.results.toList τ H').map fun r => (r, H')
    | some (.ret, τ, H') => (resA P fn.results.toList τ H').map fun r => (r, H')
    | _ => none
  | none => none
def depthOk (fn : Func) : Bool := match fn.body with | some c => decide (depth c ≤ 190) | none => false
def goodFn (fn : Func) : Bool := fnOk fn && depthOk fn
theorem ev_eq {P : Program} {f : FuncId} {fn : Func} (hf : P.funcs[f]? = some fn) (hok : goodFn fn = true) (n : Nat) (args : List AV) (H : AH) (hl : args.length ≤ fn.ntmps) : ev P (n + 1) f args H = evF P (ev P n) n f fn args H := by
  unfold goodFn at hok
  rw [Bool.and_eq_true] at hok
  simp only [ev, hf, hok.1, hl, and_self, if_true, evFn, evF]
  cases hb : fn.body with
  | none => rfl
  | some c =>
    have hd := hok.2
    unfold depthOk at hd
    rw [hb] at hd
    simp only [decide_eq_true_eq] at hd
    simp only
    rw [evN_eq c 1 1 (at_root hf hb) (Nat.le_refl _) (by decide) (by omega)]
    cases evCode P (ev P n) n c (tm0 args) H with
    | none => rfl
    | some r => obtain ⟨e, τ', H'⟩ := r; cases e <;> rfl
/-- a loop's round -/
theorem lp_eq {P : Program} {f : FuncId} {call : CallF} {n p k : Nat} {a : Code} (ha : at_ P f (2 * p) = a) (h1 : 1 ≤ p) (hk : p < 2 ^ k) (hd : k + 1 + depth a ≤ 198) (τ : Tm) (H : AH) : evCode P call n (lp P f p) τ H = evN P call n f (2 * p) a τ H := by
  have : lp P f p = a := by unfold lp; exact ha
  rw [this, evN_eq a (k + 1) (2 * p) ha (by omega) (by rw [Nat.pow_succ]; omega) hd]
end Go.Ev

/- Rules for loops; what stays of the memory. -/
namespace Go.Ev
open Go Go.RowKit
set_option linter.unusedSimpArgs false
set_option linter.unusedVariables false

theorem at_eq {P : Program} {f : FuncId} {fn : Func} (hf : P.funcs[f]? = some fn) (p : Nat) : at_ P f p = sub (fn.body.getD .skip) 200 p := by
  simp [at_, bodyOf, hf]
theorem dr_eq {P : Program} {f : FuncId} {fn : Func} (hf : P.funcs[f]? = some fn) (p : Nat) : dr P f p = drCode P (sub (fn.body.getD .skip) 200 p) := by
  unfold dr; rw [at_eq hf]
theorem lp_at {P : Program} {f : FuncId} {fn : Func} (hf : P.funcs[f]? = some fn) (p : Nat) (h1 : 1 ≤ p) (k : Nat) (hk : p < 2 ^ k) (hd : decide (k + 1 + depth (sub (fn.body.getD .skip) 200 (2 * p)) ≤ 198) = true) (call : CallF) (n : Nat) (τ : Tm) (H : AH) :
    evCode P call n (lp P f p) τ H = evN P call n f (2 * p) (sub (fn.body.getD .skip) 200 (2 * p)) τ H :=
  lp_eq (at_eq hf (2 * p)) h1 hk (by simpa using hd) τ H

/-- what a round comes to: it ends the loop, or lowers what is left -/
def Round (I : Nat → Tm → AH → Prop) (Post : Ex → Tm → AH → Prop) (d : Nat) : Out → Prop
  | some (.normal, τ, H) => ∃ d', d' < d ∧ I d' τ H
  | some (.exit id, τ, H) => Post (.exit id) τ H
  | some (.ret, τ, H) => Post .ret τ H
  | none => False
/-- A loop: each round ends it, or lowers what is left. -/
theorem loop_rule {P : Program} {call : CallF} {n : Nat} {c : Code} (I : Nat → Tm → AH → Prop) (Post : Ex → Tm → AH → Prop)
    (hstep : ∀ d τ H, I d τ H → Round I Post d (evCode P call n c τ H))
    {d : Nat} {τ : Tm} {H : AH} (hI : I d τ H) (hd : d < n) : ∃ e τ' H', evLoop P call n c τ H = some (e, τ', H') ∧ Post e τ' H' := by
  unfold evLoop
  have key : ∀ (m d : Nat) (τ : Tm) (H : AH), I d τ H → d < m → ∃ e τ' H', iter (evCode P call n c) m τ H = some (e, τ', H') ∧ Post e τ' H' := by
    intro m
    induction m with
    | zero => intro d τ H _ h; omega
    | succ m ih =>
      intro d τ H hI hd
      have h := hstep d τ H hI
      simp only [iter]
      cases hr : evCode P call n c τ H with
      | none => rw [hr] at h; exact h.elim
      | some r =>
        obtain ⟨e, τ', H'⟩ := r
        rw [hr] at h
        cases e with
        | normal => obtain ⟨d', hlt, hI'⟩ := h; exact ih d' τ' H' hI' (by omega)
        | exit id => exact ⟨_, _, _, rfl, h⟩
        | ret => exact ⟨_, _, _, rfl, h⟩
  exact key n d τ H hI hd
theorem loop_at {P : Program} {call : CallF} {n : Nat} {c : Code} {τ : Tm} {H : AH} {R : Out} (hR : evLoop P call n c τ H = R) {Post : Ex → Tm → AH → Prop}
    (h : ∃ e τ' H', evLoop P call n c τ H = some (e, τ', H') ∧ Post e τ' H') : ∃ e τ' H', R = some (e, τ', H') ∧ Post e τ' H' := by
  rw [hR] at h; exact h

/-- All that was there is as it was. -/
structure Kp (H H' : AH) : Prop where
  next : H.next ≤ H'.next
  get : ∀ b, b < H.next → H'.get b = H.get b
theorem Kp.refl (H : AH) : Kp H H := ⟨Nat.le_refl _, fun _ _ => rfl⟩
theorem Kp.trans {A B C : AH} (h : Kp A B) (k : Kp B C) : Kp A C := ⟨Nat.le_trans h.next k.next, fun b hb => (k.get b (Nat.lt_of_lt_of_le hb h.next)).trans (h.get b hb)⟩
theorem Kp.push {A B : AH} (h : Kp A B) (x : Blk) : Kp A (B.push x) := ⟨by simp only [AH.push_next]; have := h.next; omega, fun b hb => by
  rw [AH.push_get, if_neg (by have := h.next; omega)]; exact h.get b hb⟩
theorem Kp.set {A B : AH} (h : Kp A B) {b : Nat} (hb : A.next ≤ b) (x : Blk) : Kp A (B.set b x) := ⟨h.next, fun c hc => by
  rw [AH.set_get, if_neg (by omega)]; exact h.get c hc⟩
theorem Kp.kill {A B : AH} (h : Kp A B) {b : Nat} (hb : A.next ≤ b) : Kp A (B.kill b) := ⟨h.next, fun c hc => by
  rw [AH.kill_get, if_neg (by omega)]; exact h.get c hc⟩

/-- bytes and numbers as cells -/
def u8L (l : List Int) : List AV := l.map (.int .u8)
def i64L (l : List Int) : List AV := l.map (.int .i64)
theorem u8L_get (l : List Int) (i : Nat) : (u8L l)[i]? = l[i]?.map (AV.int .u8) := by simp [u8L]
theorem u8L_len (l : List Int) : (u8L l).length = l.length := by simp [u8L]
end Go.Ev

/- The evaluator's text as rules for simp; slices of one-cell elements. -/
namespace Go.Ev
open Go Go.RowKit
set_option linter.unusedSimpArgs false
set_option linter.unusedVariables false
theorem wrap_i64 {n : Int} (h0 : -9223372036854775808 ≤ n) (h1 : n ≤ 9223372036854775807) : IntKind.i64.wrap n = n := by
  rw [IntKind.wrap_i64]; omega
@[simp] theorem one_bool (b : Bool) : AV.one (AV.bool b) = true := rfl
@[simp] theorem cells_bool (b : Bool) : AV.cells (AV.bool b) = [(AV.bool b)] := rfl
@[simp] theorem one_int (k : IntKind) (n : Int) : AV.one (AV.int k n) = true := rfl
@[simp] theorem cells_int (k : IntKind) (n : Int) : AV.cells (AV.int k n) = [(AV.int k n)] := rfl
@[simp] theorem one_str (s : ByteArray) : AV.one (AV.str s) = true := rfl
@[simp] theorem cells_str (s : ByteArray) : AV.cells (AV.str s) = [(AV.str s)] := rfl
@[simp] theorem one_nilPtr  : AV.one AV.nilPtr = true := rfl
@[simp] theorem cells_nilPtr  : AV.cells AV.nilPtr = [AV.nilPtr] := rfl
@[simp] theorem one_ptr (b o : Nat) : AV.one (AV.ptr b o) = true := rfl
@[simp] theorem cells_ptr (b o : Nat) : AV.cells (AV.ptr b o) = [(AV.ptr b o)] := rfl
@[simp] theorem one_nilSlice  : AV.one AV.nilSlice = true := rfl
@[simp] theorem cells_nilSlice  : AV.cells AV.nilSlice = [AV.nilSlice] := rfl
@[simp] theorem one_slice (b o n : Nat) : AV.one (AV.slice b o n) = true := rfl
@[simp] theorem cells_slice (b o n : Nat) : AV.cells (AV.slice b o n) = [(AV.slice b o n)] := rfl
@[simp] theorem one_nilMap  : AV.one AV.nilMap = true := rfl
@[simp] theorem cells_nilMap  : AV.cells AV.nilMap = [AV.nilMap] := rfl
@[simp] theorem one_map (b : Nat) : AV.one (AV.map b) = true := rfl
@[simp] theorem cells_map (b : Nat) : AV.cells (AV.map b) = [(AV.map b)] := rfl
@[simp] theorem one_nilFunc  : AV.one AV.nilFunc = true := rfl
@[simp] theorem cells_nilFunc  : AV.cells AV.nilFunc = [AV.nilFunc] := rfl
@[simp] theorem one_func (f : FuncId) (fs l : List AV) : AV.one (AV.func f fs l) = true := rfl
@[simp] theorem cells_func (f : FuncId) (fs l : List AV) : AV.cells (AV.func f fs l) = [(AV.func f fs l)] := rfl
@[simp] theorem one_nilIface  : AV.one AV.nilIface = true := rfl
@[simp] theorem cells_nilIface  : AV.cells AV.nilIface = [AV.nilIface] := rfl
@[simp] theorem one_iface (t : TypeId) (v : AV) : AV.one (AV.iface t v) = true := rfl
@[simp] theorem cells_iface (t : TypeId) (v : AV) : AV.cells (AV.iface t v) = [(AV.iface t v)] := rfl
@[simp] theorem one_agg (l : List AV) : AV.one (.agg l) = false := rfl
@[simp] theorem one_tuple (l : List AV) : AV.one (.tuple l) = false := rfl
@[simp] theorem cells_agg (l : List AV) : AV.cells (.agg l) = l := rfl
@[simp] theorem cells_tuple (l : List AV) : AV.cells (.tuple l) = [.tuple l] := rfl
theorem cells_one {v : AV} (h : v.one = true) : v.cells = [v] := by cases v <;> first | rfl | (simp at h)
@[simp] theorem nat_nn (n : Nat) : ((n : Int) < 0) = False := by simp
theorem AH.eq_of {A B : AH} (h1 : A.get = B.get) (h2 : A.next = B.next) : A = B := by cases A; cases B; simp at h1 h2; subst h1; subst h2; rfl
@[simp] theorem push_set {H : AH} {b : Nat} (x y : Blk) (h : b = H.next) : (H.push x).set b y = H.push y := by
  subst h
  refine AH.eq_of (funext fun c => ?_) (by simp only [AH.set_next, AH.push_next])
  simp only [AH.set_get, AH.push_get]
  split <;> rfl
@[simp] theorem set_set (H : AH) (b : Nat) (x y : Blk) : (H.set b x).set b y = H.set b y := by
  refine AH.eq_of (funext fun c => ?_) (by simp only [AH.set_next])
  simp only [AH.set_get]
  split <;> rfl
theorem zerosA_one_eq (a : AV) (n : Nat) : zerosA [a] n = List.replicate n a := by
  induction n with
  | zero => rfl
  | succ n ih => simp [zerosA, ih, List.replicate_succ]
@[simp] theorem zerosA_0 (z : List AV) : zerosA z 0 = [] := rfl

section
variable {P : Program}
theorem lenA_str {t : TypeId} (h : P.underlying t = some .string) (s : ByteArray) (H : AH) : lenA P t (.str s) H = some (.int .i64 s.size) := by simp [lenA, h]
@[simp] theorem lenA_slice {t e : TypeId} (h : P.underlying t = some (.slice e)) (b o n : Nat) (H : AH) : lenA P t (.slice b o n) H = some (.int .i64 n) := by simp [lenA, h]
@[simp] theorem lenA_nil {t e : TypeId} (h : P.underlying t = some (.slice e)) (H : AH) : lenA P t .nilSlice H = some (.int .i64 0) := by simp [lenA, h]
theorem ld_one {t e : TypeId} {b o : Nat} {H : AH} {ro : Bool} {xs : List AV} (h : H.get b = some (.cells e ro xs)) (ha : aggT P t = some false) : ldVar P t b o H = xs[o]? := by simp [ldVar, h, ha]
theorem ld_agg {t e : TypeId} {b o n : Nat} {H : AH} {ro : Bool} {xs : List AV} (h : H.get b = some (.cells e ro xs)) (ha : aggT P t = some true) (hs : sizeT P t = some n) (hle : o + n ≤ xs.length) : ldVar P t b o H = some (.agg ((xs.drop o).take n)) := by simp [ldVar, h, ha, hs, hle]
theorem st_one {t e : TypeId} {b o : Nat} {H : AH} {xs : List AV} {v : AV} (h : H.get b = some (.cells e false xs)) (hs : sizeT P t = some 1) (h1 : v.one = true) (hlt : o < xs.length) : stVar P t b o v H = some (H.set b (.cells e false (xs.set o v))) := by
  have hc : v.cells = [v] := by cases v <;> first | rfl | (simp at h1)
  have hle : o + 1 ≤ xs.length := hlt
  simp only [stVar, h, hs, hc]
  simp [h1, hle, spl]

/-- A slice of one-cell elements: what it shows. -/
structure Sl (P : Program) (t e : TypeId) (H : AH) (s : AV) (cs : List AV) : Prop where
  ty : P.underlying t = some (.slice e)
  sz : sizeT P e = some 1
  ag : aggT P e = some false
  lie : (s = .nilSlice ∧ cs = []) ∨ ∃ b o ro xs, s = .slice b o cs.length ∧ b < H.next ∧ H.get b = some (.cells e ro xs) ∧ o + cs.length ≤ xs.length ∧ (xs.drop o).take cs.length = cs
theorem Sl.len {t e : TypeId} {H : AH} {s : AV} {cs : List AV} (h : Sl P t e H s cs) (h' : AH) : lenA P t s h' = some (.int .i64 cs.length) := by
  rcases h.lie with ⟨rfl, rfl⟩ | ⟨b, o, ro, xs, rfl, _⟩
  · simp [lenA, h.ty]
  · simp [lenA, h.ty]
theorem Sl.row {t e : TypeId} {H : AH} {s : AV} {cs : List AV} (h : Sl P t e H s cs) : rowOf 1 H s = some cs := by
  rcases h.lie with ⟨rfl, rfl⟩ | ⟨b, o, ro, xs, rfl, hn, hb, hl, hx⟩
  · rfl
  · simp [rowOf, hb, hl, hx]
theorem Sl.news {t e : TypeId} {H : AH} {s : AV} {cs : List AV} (h : Sl P t e H s cs) : newsA P 1 t s H = some (cs.length, cs) := by
  have hr := h.row
  rcases h.lie with ⟨rfl, rfl⟩ | ⟨b, o, ro, xs, rfl, hn, hb, hl, hx⟩
  · simp [newsA, h.ty]
  · simp only [newsA, h.ty, hr]; simp
theorem Sl.one {t e : TypeId} {H : AH} {s : AV} {cs : List AV} (h : Sl P t e H s cs) : s.one = true := by
  rcases h.lie with ⟨rfl, rfl⟩ | ⟨b, o, ro, xs, rfl, _⟩ <;> rfl
/-- where it lies -/
theorem Sl.at_ {t e : TypeId} {H : AH} {s : AV} {cs : List AV} (h : Sl P t e H s cs) : ∃ b o, (0 < cs.length → b < H.next) ∧ (∀ i : Nat, i < cs.length → idxA P t s (.int .i64 i) = some (.ptr b (o + i))) ∧
    ∀ h' : AH, h'.get b = H.get b → ∀ i (hi : i < cs.length), ldVar P e b (o + i) h' = some cs[i] := by
  rcases h.lie with ⟨rfl, rfl⟩ | ⟨b, o, ro, xs, rfl, hn, hb, hl, hx⟩
  · exact ⟨0, 0, by simp, by simp, by simp⟩
  · refine ⟨b, o, fun _ => hn, fun i hi => ?_, fun h' hh i hi => ?_⟩
    · simp [idxA, h.ty, h.sz, hi]
    · rw [hb] at hh
      rw [ld_one hh h.ag]
      have : cs[i]? = some cs[i] := by simp [hi]
      rw [← this, ← hx, List.getElem?_take, if_pos hi, List.getElem?_drop]
theorem Sl.kp {t e : TypeId} {H H' : AH} {s : AV} {cs : List AV} (h : Sl P t e H s cs) (hK : Kp H H') : Sl P t e H' s cs := by
  refine ⟨h.ty, h.sz, h.ag, ?_⟩
  rcases h.lie with h | ⟨b, o, ro, xs, hs, hn, hb, hl⟩
  · exact .inl h
  · exact .inr ⟨b, o, ro, xs, hs, Nat.lt_of_lt_of_le hn hK.next, by rw [hK.get b hn]; exact hb, hl⟩
/-- a block of its own, shown whole -/
theorem Sl.whole {t e : TypeId} {H : AH} {b : Nat} {ro : Bool} {cs : List AV} (hu : P.underlying t = some (.slice e)) (hs : sizeT P e = some 1) (ha : aggT P e = some false) (hb : H.get b = some (.cells e ro cs)) (hn : b < H.next) : Sl P t e H (.slice b 0 cs.length) cs :=
  ⟨hu, hs, ha, .inr ⟨b, 0, ro, cs, rfl, hn, hb, by simp, by simp⟩⟩
/-- a piece -/
theorem Sl.cut {t e : TypeId} {H : AH} {s : AV} {cs : List AV} (h : Sl P t e H s cs) (i j : Nat) (hij : i ≤ j) (hj : j ≤ cs.length) {lo hi : Option (Option AV)} (hlo : bndA 0 lo = some (i : Int)) (hhi : bndA cs.length hi = some (j : Int)) :
    ∃ s', cutA P t s lo hi H = some s' ∧ Sl P t e H s' ((cs.take j).drop i) := by
  rcases h.lie with ⟨rfl, rfl⟩ | ⟨b, o, ro, xs, rfl, hn, hb, hl, hx⟩
  · simp at hj
    subst hj
    have : i = 0 := by omega
    subst this
    simp at hhi hlo
    refine ⟨.nilSlice, by simp only [cutA, h.ty, h.sz, hlo, hhi]; simp, ⟨h.ty, h.sz, h.ag, .inl ⟨rfl, by simp⟩⟩⟩
  · refine ⟨.slice b (o + i) (j - i), ?_, ⟨h.ty, h.sz, h.ag, .inr ⟨b, o + i, ro, xs, ?_, hn, hb, ?_, ?_⟩⟩⟩
    · simp only [cutA, h.ty, h.sz, hlo, hhi, hb]
      have c : (0 : Int) ≤ (i : Int) ∧ (i : Int) ≤ (j : Int) ∧ (j : Int) ≤ (cs.length : Int) ∧ True := ⟨by omega, by omega, by omega, trivial⟩
      simp [c.2.1, c.2.2.1, hij, hj]
    · simp; omega
    · simp; omega
    · have hlen : ((cs.take j).drop i).length = j - i := by simp; omega
      rw [hlen, ← hx]
      apply List.ext_getElem?
      intro k
      simp only [List.getElem?_take, List.getElem?_drop, List.length_take, List.length_drop]
      by_cases hk : k < j - i
      · rw [if_pos hk, if_pos (by omega), if_pos (by omega)]
        congr 1; omega
      · rw [if_neg hk]
        rw [if_neg (by omega)]
end
attribute [simp] evF evN evOps stepA wantA evO evOp builtA isIntT opndL opndP opndO opnd binA intA shiftA strA put upd tm0 cv cvS cvL resA resL resR isC indexA partA spl sub eqlA eqlD eqlS eqlK unA bndA fillA foldA mx2 mn2 evD
attribute [simp] AH.push_get AH.set_get AH.kill_get AH.push_next AH.set_next AH.kill_next Round
end Go.Ev

/- Facts of the translation, for the evaluator: written by a program of this session (facts.py). -/
namespace Go.Ev
open Go Go.Proofs
set_option linter.unusedVariables false
@[simp] theorem tyS1 : sizeT Try.prog 1 = some 1 := by kernel_rfl
@[simp] theorem tyB1 : bytesT Try.prog 1 = some 8 := by kernel_rfl
@[simp] theorem tyA1 : aggT Try.prog 1 = some false := by kernel_rfl
@[simp] theorem tyZ1 : zeroT Try.prog 1 = some [.nilFunc] := by kernel_rfl
@[simp] theorem tyV1 : zeroV Try.prog 1 = some (.nilFunc) := by kernel_rfl
@[simp] theorem tyP1 : placesT Try.prog 1 = none := by kernel_rfl
@[simp] theorem tyU2 : Try.prog.underlying 2 = some (.int .i64) := by kernel_rfl
@[simp] theorem tyS2 : sizeT Try.prog 2 = some 1 := by kernel_rfl
@[simp] theorem tyB2 : bytesT Try.prog 2 = some 8 := by kernel_rfl
@[simp] theorem tyA2 : aggT Try.prog 2 = some false := by kernel_rfl
@[simp] theorem tyZ2 : zeroT Try.prog 2 = some [.int .i64 0] := by kernel_rfl
@[simp] theorem tyV2 : zeroV Try.prog 2 = some (.int .i64 0) := by kernel_rfl
@[simp] theorem tyP2 : placesT Try.prog 2 = none := by kernel_rfl
@[simp] theorem tyU3 : Try.prog.underlying 3 = some (.int .i64) := by kernel_rfl
@[simp] theorem tyS3 : sizeT Try.prog 3 = some 1 := by kernel_rfl
@[simp] theorem tyB3 : bytesT Try.prog 3 = some 8 := by kernel_rfl
@[simp] theorem tyA3 : aggT Try.prog 3 = some false := by kernel_rfl
@[simp] theorem tyZ3 : zeroT Try.prog 3 = some [.int .i64 0] := by kernel_rfl
@[simp] theorem tyV3 : zeroV Try.prog 3 = some (.int .i64 0) := by kernel_rfl
@[simp] theorem tyP3 : placesT Try.prog 3 = none := by kernel_rfl
@[simp] theorem tyU4 : Try.prog.underlying 4 = some (.bool) := by kernel_rfl
@[simp] theorem tyS4 : sizeT Try.prog 4 = some 1 := by kernel_rfl
@[simp] theorem tyB4 : bytesT Try.prog 4 = some 1 := by kernel_rfl
@[simp] theorem tyA4 : aggT Try.prog 4 = some false := by kernel_rfl
@[simp] theorem tyZ4 : zeroT Try.prog 4 = some [.bool false] := by kernel_rfl
@[simp] theorem tyV4 : zeroV Try.prog 4 = some (.bool false) := by kernel_rfl
@[simp] theorem tyP4 : placesT Try.prog 4 = none := by kernel_rfl
@[simp] theorem tyU5 : Try.prog.underlying 5 = some (.int .u8) := by kernel_rfl
@[simp] theorem tyS5 : sizeT Try.prog 5 = some 1 := by kernel_rfl
@[simp] theorem tyB5 : bytesT Try.prog 5 = some 1 := by kernel_rfl
@[simp] theorem tyA5 : aggT Try.prog 5 = some false := by kernel_rfl
@[simp] theorem tyZ5 : zeroT Try.prog 5 = some [.int .u8 0] := by kernel_rfl
@[simp] theorem tyV5 : zeroV Try.prog 5 = some (.int .u8 0) := by kernel_rfl
@[simp] theorem tyP5 : placesT Try.prog 5 = none := by kernel_rfl
@[simp] theorem tyU6 : Try.prog.underlying 6 = some (.int .u8) := by kernel_rfl
@[simp] theorem tyS6 : sizeT Try.prog 6 = some 1 := by kernel_rfl
@[simp] theorem tyB6 : bytesT Try.prog 6 = some 1 := by kernel_rfl
@[simp] theorem tyA6 : aggT Try.prog 6 = some false := by kernel_rfl
@[simp] theorem tyZ6 : zeroT Try.prog 6 = some [.int .u8 0] := by kernel_rfl
@[simp] theorem tyV6 : zeroV Try.prog 6 = some (.int .u8 0) := by kernel_rfl
@[simp] theorem tyP6 : placesT Try.prog 6 = none := by kernel_rfl
@[simp] theorem tyS7 : sizeT Try.prog 7 = some 4 := by kernel_rfl
@[simp] theorem tyB7 : bytesT Try.prog 7 = some 24 := by kernel_rfl
@[simp] theorem tyA7 : aggT Try.prog 7 = some true := by kernel_rfl
@[simp] theorem tyZ7 : zeroT Try.prog 7 = some [.int .i64 0, .int .i64 0, .bool false, .int .u8 0] := by kernel_rfl
@[simp] theorem tyV7 : zeroV Try.prog 7 = some (.agg [.int .i64 0, .int .i64 0, .bool false, .int .u8 0]) := by kernel_rfl
@[simp] theorem tyP7 : placesT Try.prog 7 = some [(0, 1), (1, 1), (2, 1), (3, 1)] := by kernel_rfl
@[simp] theorem tyF7_0 : fieldT Try.prog 7 0 = some (0, 2) := by kernel_rfl
@[simp] theorem tyF7_1 : fieldT Try.prog 7 1 = some (1, 3) := by kernel_rfl
@[simp] theorem tyF7_2 : fieldT Try.prog 7 2 = some (2, 4) := by kernel_rfl
@[simp] theorem tyF7_3 : fieldT Try.prog 7 3 = some (3, 6) := by kernel_rfl
@[simp] theorem tyU9 : Try.prog.underlying 9 = some (.string) := by kernel_rfl
@[simp] theorem tyS9 : sizeT Try.prog 9 = some 1 := by kernel_rfl
@[simp] theorem tyB9 : bytesT Try.prog 9 = some 16 := by kernel_rfl
@[simp] theorem tyA9 : aggT Try.prog 9 = some false := by kernel_rfl
@[simp] theorem tyZ9 : zeroT Try.prog 9 = some [.str ByteArray.empty] := by kernel_rfl
@[simp] theorem tyV9 : zeroV Try.prog 9 = some (.str ByteArray.empty) := by kernel_rfl
@[simp] theorem tyP9 : placesT Try.prog 9 = none := by kernel_rfl
@[simp] theorem tyU22 : Try.prog.underlying 22 = some (.slice 5) := by kernel_rfl
@[simp] theorem tyS22 : sizeT Try.prog 22 = some 1 := by kernel_rfl
@[simp] theorem tyB22 : bytesT Try.prog 22 = some 24 := by kernel_rfl
@[simp] theorem tyA22 : aggT Try.prog 22 = some false := by kernel_rfl
@[simp] theorem tyZ22 : zeroT Try.prog 22 = some [.nilSlice] := by kernel_rfl
@[simp] theorem tyV22 : zeroV Try.prog 22 = some (.nilSlice) := by kernel_rfl
@[simp] theorem tyE22 : sliceT Try.prog 22 = some 5 := by kernel_rfl
@[simp] theorem tyP22 : placesT Try.prog 22 = none := by kernel_rfl
@[simp] theorem tyS23 : sizeT Try.prog 23 = some 8 := by kernel_rfl
@[simp] theorem tyB23 : bytesT Try.prog 23 = some 112 := by kernel_rfl
@[simp] theorem tyA23 : aggT Try.prog 23 = some true := by kernel_rfl
@[simp] theorem tyZ23 : zeroT Try.prog 23 = some [.int .i64 0, .int .i64 0, .nilSlice, .nilSlice, .nilSlice, .int .i64 0, .int .i64 0, .int .i64 0] := by kernel_rfl
@[simp] theorem tyV23 : zeroV Try.prog 23 = some (.agg [.int .i64 0, .int .i64 0, .nilSlice, .nilSlice, .nilSlice, .int .i64 0, .int .i64 0, .int .i64 0]) := by kernel_rfl
@[simp] theorem tyP23 : placesT Try.prog 23 = some [(0, 1), (1, 1), (2, 1), (3, 1), (4, 1), (5, 1), (6, 1), (7, 1)] := by kernel_rfl
@[simp] theorem tyF23_0 : fieldT Try.prog 23 0 = some (0, 3) := by kernel_rfl
@[simp] theorem tyF23_1 : fieldT Try.prog 23 1 = some (1, 3) := by kernel_rfl
@[simp] theorem tyF23_2 : fieldT Try.prog 23 2 = some (2, 22) := by kernel_rfl
@[simp] theorem tyF23_3 : fieldT Try.prog 23 3 = some (3, 22) := by kernel_rfl
@[simp] theorem tyF23_4 : fieldT Try.prog 23 4 = some (4, 22) := by kernel_rfl
@[simp] theorem tyF23_5 : fieldT Try.prog 23 5 = some (5, 3) := by kernel_rfl
@[simp] theorem tyF23_6 : fieldT Try.prog 23 6 = some (6, 3) := by kernel_rfl
@[simp] theorem tyF23_7 : fieldT Try.prog 23 7 = some (7, 3) := by kernel_rfl
@[simp] theorem tyS24 : sizeT Try.prog 24 = some 8 := by kernel_rfl
@[simp] theorem tyB24 : bytesT Try.prog 24 = some 112 := by kernel_rfl
@[simp] theorem tyA24 : aggT Try.prog 24 = some true := by kernel_rfl
@[simp] theorem tyZ24 : zeroT Try.prog 24 = some [.int .i64 0, .int .i64 0, .nilSlice, .nilSlice, .nilSlice, .int .i64 0, .int .i64 0, .int .i64 0] := by kernel_rfl
@[simp] theorem tyV24 : zeroV Try.prog 24 = some (.agg [.int .i64 0, .int .i64 0, .nilSlice, .nilSlice, .nilSlice, .int .i64 0, .int .i64 0, .int .i64 0]) := by kernel_rfl
@[simp] theorem tyP24 : placesT Try.prog 24 = some [(0, 1), (1, 1), (2, 1), (3, 1), (4, 1), (5, 1), (6, 1), (7, 1)] := by kernel_rfl
@[simp] theorem tyF24_0 : fieldT Try.prog 24 0 = some (0, 3) := by kernel_rfl
@[simp] theorem tyF24_1 : fieldT Try.prog 24 1 = some (1, 3) := by kernel_rfl
@[simp] theorem tyF24_2 : fieldT Try.prog 24 2 = some (2, 22) := by kernel_rfl
@[simp] theorem tyF24_3 : fieldT Try.prog 24 3 = some (3, 22) := by kernel_rfl
@[simp] theorem tyF24_4 : fieldT Try.prog 24 4 = some (4, 22) := by kernel_rfl
@[simp] theorem tyF24_5 : fieldT Try.prog 24 5 = some (5, 3) := by kernel_rfl
@[simp] theorem tyF24_6 : fieldT Try.prog 24 6 = some (6, 3) := by kernel_rfl
@[simp] theorem tyF24_7 : fieldT Try.prog 24 7 = some (7, 3) := by kernel_rfl
@[simp] theorem tyU33 : Try.prog.underlying 33 = some (.slice 3) := by kernel_rfl
@[simp] theorem tyS33 : sizeT Try.prog 33 = some 1 := by kernel_rfl
@[simp] theorem tyB33 : bytesT Try.prog 33 = some 24 := by kernel_rfl
@[simp] theorem tyA33 : aggT Try.prog 33 = some false := by kernel_rfl
@[simp] theorem tyZ33 : zeroT Try.prog 33 = some [.nilSlice] := by kernel_rfl
@[simp] theorem tyV33 : zeroV Try.prog 33 = some (.nilSlice) := by kernel_rfl
@[simp] theorem tyE33 : sliceT Try.prog 33 = some 3 := by kernel_rfl
@[simp] theorem tyP33 : placesT Try.prog 33 = none := by kernel_rfl
@[simp] theorem tyU46 : Try.prog.underlying 46 = some (.slice 22) := by kernel_rfl
@[simp] theorem tyS46 : sizeT Try.prog 46 = some 1 := by kernel_rfl
@[simp] theorem tyB46 : bytesT Try.prog 46 = some 24 := by kernel_rfl
@[simp] theorem tyA46 : aggT Try.prog 46 = some false := by kernel_rfl
@[simp] theorem tyZ46 : zeroT Try.prog 46 = some [.nilSlice] := by kernel_rfl
@[simp] theorem tyV46 : zeroV Try.prog 46 = some (.nilSlice) := by kernel_rfl
@[simp] theorem tyE46 : sliceT Try.prog 46 = some 22 := by kernel_rfl
@[simp] theorem tyP46 : placesT Try.prog 46 = none := by kernel_rfl
@[simp] theorem tyU67 : Try.prog.underlying 67 = some (.pointer 102) := by kernel_rfl
@[simp] theorem tyS67 : sizeT Try.prog 67 = some 1 := by kernel_rfl
@[simp] theorem tyB67 : bytesT Try.prog 67 = some 8 := by kernel_rfl
@[simp] theorem tyA67 : aggT Try.prog 67 = some false := by kernel_rfl
@[simp] theorem tyZ67 : zeroT Try.prog 67 = some [.nilPtr] := by kernel_rfl
@[simp] theorem tyV67 : zeroV Try.prog 67 = some (.nilPtr) := by kernel_rfl
@[simp] theorem tyP67 : placesT Try.prog 67 = none := by kernel_rfl
@[simp] theorem tyU98 : Try.prog.underlying 98 = some (.int .u64) := by kernel_rfl
@[simp] theorem tyS98 : sizeT Try.prog 98 = some 1 := by kernel_rfl
@[simp] theorem tyB98 : bytesT Try.prog 98 = some 8 := by kernel_rfl
@[simp] theorem tyA98 : aggT Try.prog 98 = some false := by kernel_rfl
@[simp] theorem tyZ98 : zeroT Try.prog 98 = some [.int .u64 0] := by kernel_rfl
@[simp] theorem tyV98 : zeroV Try.prog 98 = some (.int .u64 0) := by kernel_rfl
@[simp] theorem tyP98 : placesT Try.prog 98 = none := by kernel_rfl
@[simp] theorem tyS101 : sizeT Try.prog 101 = some 3 := by kernel_rfl
@[simp] theorem tyB101 : bytesT Try.prog 101 = some 40 := by kernel_rfl
@[simp] theorem tyA101 : aggT Try.prog 101 = some true := by kernel_rfl
@[simp] theorem tyZ101 : zeroT Try.prog 101 = some [.nilSlice, .int .i64 0, .int .i64 0] := by kernel_rfl
@[simp] theorem tyV101 : zeroV Try.prog 101 = some (.agg [.nilSlice, .int .i64 0, .int .i64 0]) := by kernel_rfl
@[simp] theorem tyP101 : placesT Try.prog 101 = some [(0, 1), (1, 1), (2, 1)] := by kernel_rfl
@[simp] theorem tyF101_0 : fieldT Try.prog 101 0 = some (0, 22) := by kernel_rfl
@[simp] theorem tyF101_1 : fieldT Try.prog 101 1 = some (1, 3) := by kernel_rfl
@[simp] theorem tyF101_2 : fieldT Try.prog 101 2 = some (2, 3) := by kernel_rfl
@[simp] theorem tyS102 : sizeT Try.prog 102 = some 3 := by kernel_rfl
@[simp] theorem tyB102 : bytesT Try.prog 102 = some 40 := by kernel_rfl
@[simp] theorem tyA102 : aggT Try.prog 102 = some true := by kernel_rfl
@[simp] theorem tyZ102 : zeroT Try.prog 102 = some [.nilSlice, .int .i64 0, .int .i64 0] := by kernel_rfl
@[simp] theorem tyV102 : zeroV Try.prog 102 = some (.agg [.nilSlice, .int .i64 0, .int .i64 0]) := by kernel_rfl
@[simp] theorem tyP102 : placesT Try.prog 102 = some [(0, 1), (1, 1), (2, 1)] := by kernel_rfl
@[simp] theorem tyF102_0 : fieldT Try.prog 102 0 = some (0, 22) := by kernel_rfl
@[simp] theorem tyF102_1 : fieldT Try.prog 102 1 = some (1, 3) := by kernel_rfl
@[simp] theorem tyF102_2 : fieldT Try.prog 102 2 = some (2, 3) := by kernel_rfl
@[simp] theorem tyU104 : Try.prog.underlying 104 = some (.pointer 106) := by kernel_rfl
@[simp] theorem tyS104 : sizeT Try.prog 104 = some 1 := by kernel_rfl
@[simp] theorem tyB104 : bytesT Try.prog 104 = some 8 := by kernel_rfl
@[simp] theorem tyA104 : aggT Try.prog 104 = some false := by kernel_rfl
@[simp] theorem tyZ104 : zeroT Try.prog 104 = some [.nilPtr] := by kernel_rfl
@[simp] theorem tyV104 : zeroV Try.prog 104 = some (.nilPtr) := by kernel_rfl
@[simp] theorem tyP104 : placesT Try.prog 104 = none := by kernel_rfl
@[simp] theorem tyS105 : sizeT Try.prog 105 = some 3 := by kernel_rfl
@[simp] theorem tyB105 : bytesT Try.prog 105 = some 40 := by kernel_rfl
@[simp] theorem tyA105 : aggT Try.prog 105 = some true := by kernel_rfl
@[simp] theorem tyZ105 : zeroT Try.prog 105 = some [.nilSlice, .int .i64 0, .bool false] := by kernel_rfl
@[simp] theorem tyV105 : zeroV Try.prog 105 = some (.agg [.nilSlice, .int .i64 0, .bool false]) := by kernel_rfl
@[simp] theorem tyP105 : placesT Try.prog 105 = some [(0, 1), (1, 1), (2, 1)] := by kernel_rfl
@[simp] theorem tyF105_0 : fieldT Try.prog 105 0 = some (0, 22) := by kernel_rfl
@[simp] theorem tyF105_1 : fieldT Try.prog 105 1 = some (1, 3) := by kernel_rfl
@[simp] theorem tyF105_2 : fieldT Try.prog 105 2 = some (2, 4) := by kernel_rfl
@[simp] theorem tyS106 : sizeT Try.prog 106 = some 3 := by kernel_rfl
@[simp] theorem tyB106 : bytesT Try.prog 106 = some 40 := by kernel_rfl
@[simp] theorem tyA106 : aggT Try.prog 106 = some true := by kernel_rfl
@[simp] theorem tyZ106 : zeroT Try.prog 106 = some [.nilSlice, .int .i64 0, .bool false] := by kernel_rfl
@[simp] theorem tyV106 : zeroV Try.prog 106 = some (.agg [.nilSlice, .int .i64 0, .bool false]) := by kernel_rfl
@[simp] theorem tyP106 : placesT Try.prog 106 = some [(0, 1), (1, 1), (2, 1)] := by kernel_rfl
@[simp] theorem tyF106_0 : fieldT Try.prog 106 0 = some (0, 22) := by kernel_rfl
@[simp] theorem tyF106_1 : fieldT Try.prog 106 1 = some (1, 3) := by kernel_rfl
@[simp] theorem tyF106_2 : fieldT Try.prog 106 2 = some (2, 4) := by kernel_rfl
@[simp] theorem tyU110 : Try.prog.underlying 110 = some (.int .u64) := by kernel_rfl
@[simp] theorem tyS110 : sizeT Try.prog 110 = some 1 := by kernel_rfl
@[simp] theorem tyB110 : bytesT Try.prog 110 = some 8 := by kernel_rfl
@[simp] theorem tyA110 : aggT Try.prog 110 = some false := by kernel_rfl
@[simp] theorem tyZ110 : zeroT Try.prog 110 = some [.int .u64 0] := by kernel_rfl
@[simp] theorem tyV110 : zeroV Try.prog 110 = some (.int .u64 0) := by kernel_rfl
@[simp] theorem tyP110 : placesT Try.prog 110 = none := by kernel_rfl
@[simp] theorem tyU111 : Try.prog.underlying 111 = some (.pointer 114) := by kernel_rfl
@[simp] theorem tyS111 : sizeT Try.prog 111 = some 1 := by kernel_rfl
@[simp] theorem tyB111 : bytesT Try.prog 111 = some 8 := by kernel_rfl
@[simp] theorem tyA111 : aggT Try.prog 111 = some false := by kernel_rfl
@[simp] theorem tyZ111 : zeroT Try.prog 111 = some [.nilPtr] := by kernel_rfl
@[simp] theorem tyV111 : zeroV Try.prog 111 = some (.nilPtr) := by kernel_rfl
@[simp] theorem tyP111 : placesT Try.prog 111 = none := by kernel_rfl
@[simp] theorem tyU112 : Try.prog.underlying 112 = some (.int .u32) := by kernel_rfl
@[simp] theorem tyS112 : sizeT Try.prog 112 = some 1 := by kernel_rfl
@[simp] theorem tyB112 : bytesT Try.prog 112 = some 4 := by kernel_rfl
@[simp] theorem tyA112 : aggT Try.prog 112 = some false := by kernel_rfl
@[simp] theorem tyZ112 : zeroT Try.prog 112 = some [.int .u32 0] := by kernel_rfl
@[simp] theorem tyV112 : zeroV Try.prog 112 = some (.int .u32 0) := by kernel_rfl
@[simp] theorem tyP112 : placesT Try.prog 112 = none := by kernel_rfl
@[simp] theorem tyS113 : sizeT Try.prog 113 = some 4 := by kernel_rfl
@[simp] theorem tyB113 : bytesT Try.prog 113 = some 16 := by kernel_rfl
@[simp] theorem tyA113 : aggT Try.prog 113 = some true := by kernel_rfl
@[simp] theorem tyZ113 : zeroT Try.prog 113 = some [.int .u32 0, .int .u32 0, .int .u32 0, .int .u32 0] := by kernel_rfl
@[simp] theorem tyV113 : zeroV Try.prog 113 = some (.agg [.int .u32 0, .int .u32 0, .int .u32 0, .int .u32 0]) := by kernel_rfl
@[simp] theorem tyP113 : placesT Try.prog 113 = some [(0, 1), (1, 1), (2, 1), (3, 1)] := by kernel_rfl
@[simp] theorem tyF113_0 : fieldT Try.prog 113 0 = some (0, 112) := by kernel_rfl
@[simp] theorem tyF113_1 : fieldT Try.prog 113 1 = some (1, 112) := by kernel_rfl
@[simp] theorem tyF113_2 : fieldT Try.prog 113 2 = some (2, 112) := by kernel_rfl
@[simp] theorem tyF113_3 : fieldT Try.prog 113 3 = some (3, 112) := by kernel_rfl
@[simp] theorem tyS114 : sizeT Try.prog 114 = some 4 := by kernel_rfl
@[simp] theorem tyB114 : bytesT Try.prog 114 = some 16 := by kernel_rfl
@[simp] theorem tyA114 : aggT Try.prog 114 = some true := by kernel_rfl
@[simp] theorem tyZ114 : zeroT Try.prog 114 = some [.int .u32 0, .int .u32 0, .int .u32 0, .int .u32 0] := by kernel_rfl
@[simp] theorem tyV114 : zeroV Try.prog 114 = some (.agg [.int .u32 0, .int .u32 0, .int .u32 0, .int .u32 0]) := by kernel_rfl
@[simp] theorem tyP114 : placesT Try.prog 114 = some [(0, 1), (1, 1), (2, 1), (3, 1)] := by kernel_rfl
@[simp] theorem tyF114_0 : fieldT Try.prog 114 0 = some (0, 112) := by kernel_rfl
@[simp] theorem tyF114_1 : fieldT Try.prog 114 1 = some (1, 112) := by kernel_rfl
@[simp] theorem tyF114_2 : fieldT Try.prog 114 2 = some (2, 112) := by kernel_rfl
@[simp] theorem tyF114_3 : fieldT Try.prog 114 3 = some (3, 112) := by kernel_rfl
@[simp] theorem tyU116 : Try.prog.underlying 116 = some (.array 4 112) := by kernel_rfl
@[simp] theorem tyS116 : sizeT Try.prog 116 = some 4 := by kernel_rfl
@[simp] theorem tyB116 : bytesT Try.prog 116 = some 16 := by kernel_rfl
@[simp] theorem tyA116 : aggT Try.prog 116 = some true := by kernel_rfl
@[simp] theorem tyZ116 : zeroT Try.prog 116 = some [.int .u32 0, .int .u32 0, .int .u32 0, .int .u32 0] := by kernel_rfl
@[simp] theorem tyV116 : zeroV Try.prog 116 = some (.agg [.int .u32 0, .int .u32 0, .int .u32 0, .int .u32 0]) := by kernel_rfl
@[simp] theorem tyP116 : placesT Try.prog 116 = none := by kernel_rfl
@[simp] theorem tyR116 : arrT Try.prog 116 = some (4, 112) := by kernel_rfl
@[simp] theorem tyS117 : sizeT Try.prog 117 = some 4 := by kernel_rfl
@[simp] theorem tyB117 : bytesT Try.prog 117 = some 16 := by kernel_rfl
@[simp] theorem tyA117 : aggT Try.prog 117 = some true := by kernel_rfl
@[simp] theorem tyZ117 : zeroT Try.prog 117 = some [.int .u32 0, .int .u32 0, .int .u32 0, .int .u32 0] := by kernel_rfl
@[simp] theorem tyV117 : zeroV Try.prog 117 = some (.agg [.int .u32 0, .int .u32 0, .int .u32 0, .int .u32 0]) := by kernel_rfl
@[simp] theorem tyP117 : placesT Try.prog 117 = some [(0, 1), (1, 1), (2, 1), (3, 1)] := by kernel_rfl
@[simp] theorem tyF117_0 : fieldT Try.prog 117 0 = some (0, 112) := by kernel_rfl
@[simp] theorem tyF117_1 : fieldT Try.prog 117 1 = some (1, 112) := by kernel_rfl
@[simp] theorem tyF117_2 : fieldT Try.prog 117 2 = some (2, 112) := by kernel_rfl
@[simp] theorem tyF117_3 : fieldT Try.prog 117 3 = some (3, 112) := by kernel_rfl
@[simp] theorem tyS118 : sizeT Try.prog 118 = some 4 := by kernel_rfl
@[simp] theorem tyB118 : bytesT Try.prog 118 = some 16 := by kernel_rfl
@[simp] theorem tyA118 : aggT Try.prog 118 = some true := by kernel_rfl
@[simp] theorem tyZ118 : zeroT Try.prog 118 = some [.int .u32 0, .int .u32 0, .int .u32 0, .int .u32 0] := by kernel_rfl
@[simp] theorem tyV118 : zeroV Try.prog 118 = some (.agg [.int .u32 0, .int .u32 0, .int .u32 0, .int .u32 0]) := by kernel_rfl
@[simp] theorem tyP118 : placesT Try.prog 118 = some [(0, 1), (1, 1), (2, 1), (3, 1)] := by kernel_rfl
@[simp] theorem tyF118_0 : fieldT Try.prog 118 0 = some (0, 112) := by kernel_rfl
@[simp] theorem tyF118_1 : fieldT Try.prog 118 1 = some (1, 112) := by kernel_rfl
@[simp] theorem tyF118_2 : fieldT Try.prog 118 2 = some (2, 112) := by kernel_rfl
@[simp] theorem tyF118_3 : fieldT Try.prog 118 3 = some (3, 112) := by kernel_rfl
@[simp] theorem tyU128 : Try.prog.underlying 128 = some (.pointer 130) := by kernel_rfl
@[simp] theorem tyS128 : sizeT Try.prog 128 = some 1 := by kernel_rfl
@[simp] theorem tyB128 : bytesT Try.prog 128 = some 8 := by kernel_rfl
@[simp] theorem tyA128 : aggT Try.prog 128 = some false := by kernel_rfl
@[simp] theorem tyZ128 : zeroT Try.prog 128 = some [.nilPtr] := by kernel_rfl
@[simp] theorem tyV128 : zeroV Try.prog 128 = some (.nilPtr) := by kernel_rfl
@[simp] theorem tyP128 : placesT Try.prog 128 = none := by kernel_rfl
@[simp] theorem tyS129 : sizeT Try.prog 129 = some 3 := by kernel_rfl
@[simp] theorem tyB129 : bytesT Try.prog 129 = some 40 := by kernel_rfl
@[simp] theorem tyA129 : aggT Try.prog 129 = some true := by kernel_rfl
@[simp] theorem tyZ129 : zeroT Try.prog 129 = some [.nilSlice, .int .i64 0, .int .i64 0] := by kernel_rfl
@[simp] theorem tyV129 : zeroV Try.prog 129 = some (.agg [.nilSlice, .int .i64 0, .int .i64 0]) := by kernel_rfl
@[simp] theorem tyP129 : placesT Try.prog 129 = some [(0, 1), (1, 1), (2, 1)] := by kernel_rfl
@[simp] theorem tyF129_0 : fieldT Try.prog 129 0 = some (0, 22) := by kernel_rfl
@[simp] theorem tyF129_1 : fieldT Try.prog 129 1 = some (1, 3) := by kernel_rfl
@[simp] theorem tyF129_2 : fieldT Try.prog 129 2 = some (2, 3) := by kernel_rfl
@[simp] theorem tyS130 : sizeT Try.prog 130 = some 3 := by kernel_rfl
@[simp] theorem tyB130 : bytesT Try.prog 130 = some 40 := by kernel_rfl
@[simp] theorem tyA130 : aggT Try.prog 130 = some true := by kernel_rfl
@[simp] theorem tyZ130 : zeroT Try.prog 130 = some [.nilSlice, .int .i64 0, .int .i64 0] := by kernel_rfl
@[simp] theorem tyV130 : zeroV Try.prog 130 = some (.agg [.nilSlice, .int .i64 0, .int .i64 0]) := by kernel_rfl
@[simp] theorem tyP130 : placesT Try.prog 130 = some [(0, 1), (1, 1), (2, 1)] := by kernel_rfl
@[simp] theorem tyF130_0 : fieldT Try.prog 130 0 = some (0, 22) := by kernel_rfl
@[simp] theorem tyF130_1 : fieldT Try.prog 130 1 = some (1, 3) := by kernel_rfl
@[simp] theorem tyF130_2 : fieldT Try.prog 130 2 = some (2, 3) := by kernel_rfl
/-! 3: laws.FnPlainPackets -/
theorem ok3 : goodFn Try.f3 = true := by kernel_rfl
/-! 7: spec.DrawRetryPacket -/
theorem ok7 : goodFn Try.f7 = true := by kernel_rfl
@[simp] theorem dr7_62 : dr Try.prog 7 62 = .seq [(0, 5), (0, 8), (0, 9)] := (dr_eq Try.func7 62).trans (by kernel_rfl)
/-! 8: impl.RetryPacket -/
theorem ok8 : goodFn Try.f8 = true := by kernel_rfl
@[simp] theorem dr8_14 : dr Try.prog 8 14 = .seq [(8, 0)] := (dr_eq Try.func8 14).trans (by kernel_rfl)
/-! 9: spec.RetryPacket -/
theorem ok9 : goodFn Try.f9 = true := by kernel_rfl
/-! 10: impl.RetryOK -/
theorem ok10 : goodFn Try.f10 = true := by kernel_rfl
@[simp] theorem dr10_1020 : dr Try.prog 10 1020 = .seq [(8, 0), (9, 0)] := (dr_eq Try.func10 1020).trans (by kernel_rfl)
/-! 11: laws.copied -/
theorem ok11 : goodFn Try.f11 = true := by kernel_rfl
/-! 12: laws.same -/
theorem ok12 : goodFn Try.f12 = true := by kernel_rfl
/-! 13: spec.RetryOK -/
theorem ok13 : goodFn Try.f13 = true := by kernel_rfl
@[simp] theorem dr13_1020 : dr Try.prog 13 1020 = .seq [(8, 0), (9, 0)] := (dr_eq Try.func13 1020).trans (by kernel_rfl)
/-! 14: spec.DrawVersionsPacket -/
theorem ok14 : goodFn Try.f14 = true := by kernel_rfl
/-! 15: impl.VersionsPacket -/
theorem ok15 : goodFn Try.f15 = true := by kernel_rfl
theorem lp15_122 (call : CallF) (n : Nat) (τ : Tm) (H : AH) : evCode Try.prog call n (lp Try.prog 15 122) τ H = evN Try.prog call n 15 244 (sub (Try.f15.body.getD .skip) 200 244) τ H := lp_at Try.func15 122 (by decide) 7 (by decide) (by kernel_rfl) call n τ H
/-! 16: spec.VersionsPacket -/
theorem ok16 : goodFn Try.f16 = true := by kernel_rfl
theorem lp16_122 (call : CallF) (n : Nat) (τ : Tm) (H : AH) : evCode Try.prog call n (lp Try.prog 16 122) τ H = evN Try.prog call n 16 244 (sub (Try.f16.body.getD .skip) 200 244) τ H := lp_at Try.func16 122 (by decide) 7 (by decide) (by kernel_rfl) call n τ H
/-! 17: impl.ReadVersions -/
theorem ok17 : goodFn Try.f17 = true := by kernel_rfl
/-! 18: laws.sameInts -/
theorem ok18 : goodFn Try.f18 = true := by kernel_rfl
theorem lp18_58 (call : CallF) (n : Nat) (τ : Tm) (H : AH) : evCode Try.prog call n (lp Try.prog 18 58) τ H = evN Try.prog call n 18 116 (sub (Try.f18.body.getD .skip) 200 116) τ H := lp_at Try.func18 58 (by decide) 6 (by decide) (by kernel_rfl) call n τ H
@[simp] theorem dr18_1864 : dr Try.prog 18 1864 = .seq [] := (dr_eq Try.func18 1864).trans (by kernel_rfl)
/-! 19: spec.DrawResetToken -/
theorem ok19 : goodFn Try.f19 = true := by kernel_rfl
/-! 20: impl.ResetToken -/
theorem ok20 : goodFn Try.f20 = true := by kernel_rfl
/-! 21: spec.ResetToken -/
theorem ok21 : goodFn Try.f21 = true := by kernel_rfl
/-! 22: impl.ResetPacket -/
theorem ok22 : goodFn Try.f22 = true := by kernel_rfl
/-! 23: laws.at -/
theorem ok23 : goodFn Try.f23 = true := by kernel_rfl
@[simp] theorem dr23_30 : dr Try.prog 23 30 = .seq [] := (dr_eq Try.func23 30).trans (by kernel_rfl)
/-! 24: impl.IsReset -/
theorem ok24 : goodFn Try.f24 = true := by kernel_rfl
theorem lp24_58 (call : CallF) (n : Nat) (τ : Tm) (H : AH) : evCode Try.prog call n (lp Try.prog 24 58) τ H = evN Try.prog call n 24 116 (sub (Try.f24.body.getD .skip) 200 116) τ H := lp_at Try.func24 58 (by decide) 6 (by decide) (by kernel_rfl) call n τ H
@[simp] theorem dr24_7474 : dr Try.prog 24 7474 = .seq [] := (dr_eq Try.func24 7474).trans (by kernel_rfl)
/-! 32: laws.toByteS -/
theorem ok32 : goodFn Try.f32 = true := by kernel_rfl
theorem lp32_58 (call : CallF) (n : Nat) (τ : Tm) (H : AH) : evCode Try.prog call n (lp Try.prog 32 58) τ H = evN Try.prog call n 32 116 (sub (Try.f32.body.getD .skip) 200 116) τ H := lp_at Try.func32 58 (by decide) 6 (by decide) (by kernel_rfl) call n τ H
/-! 35: laws.eqByteS -/
theorem ok35 : goodFn Try.f35 = true := by kernel_rfl
theorem lp35_58 (call : CallF) (n : Nat) (τ : Tm) (H : AH) : evCode Try.prog call n (lp Try.prog 35 58) τ H = evN Try.prog call n 35 116 (sub (Try.f35.body.getD .skip) 200 116) τ H := lp_at Try.func35 58 (by decide) 6 (by decide) (by kernel_rfl) call n τ H
@[simp] theorem dr35_1864 : dr Try.prog 35 1864 = .seq [] := (dr_eq Try.func35 1864).trans (by kernel_rfl)
/-! 38: laws.markByteS -/
theorem ok38 : goodFn Try.f38 = true := by kernel_rfl
theorem lp38_26 (call : CallF) (n : Nat) (τ : Tm) (H : AH) : evCode Try.prog call n (lp Try.prog 38 26) τ H = evN Try.prog call n 38 52 (sub (Try.f38.body.getD .skip) 200 52) τ H := lp_at Try.func38 26 (by decide) 5 (by decide) (by kernel_rfl) call n τ H
/-! 41: laws.heldByteS -/
theorem ok41 : goodFn Try.f41 = true := by kernel_rfl
theorem lp41_26 (call : CallF) (n : Nat) (τ : Tm) (H : AH) : evCode Try.prog call n (lp Try.prog 41 26) τ H = evN Try.prog call n 41 52 (sub (Try.f41.body.getD .skip) 200 52) τ H := lp_at Try.func41 26 (by decide) 5 (by decide) (by kernel_rfl) call n τ H
/-! 42: impl.Peek -/
theorem ok42 : goodFn Try.f42 = true := by kernel_rfl
/-! 45: spec.l01Source -/
theorem ok45 : goodFn Try.f45 = true := by kernel_rfl
/-! 46: spec.l04Bent -/
theorem ok46 : goodFn Try.f46 = true := by kernel_rfl
/-! 47: spec.l04DrawRetry -/
theorem ok47 : goodFn Try.f47 = true := by kernel_rfl
/-! 48: spec.l01Src).chance -/
theorem ok48 : goodFn Try.f48 = true := by kernel_rfl
/-! 49: spec.l01Src).bytes -/
theorem ok49 : goodFn Try.f49 = true := by kernel_rfl
theorem lp49_58 (call : CallF) (n : Nat) (τ : Tm) (H : AH) : evCode Try.prog call n (lp Try.prog 49 58) τ H = evN Try.prog call n 49 116 (sub (Try.f49.body.getD .skip) 200 116) τ H := lp_at Try.func49 58 (by decide) 6 (by decide) (by kernel_rfl) call n τ H
/-! 50: spec.l01Src).next -/
theorem ok50 : goodFn Try.f50 = true := by kernel_rfl
/-! 51: impl.versionOK -/
theorem ok51 : goodFn Try.f51 = true := by kernel_rfl
/-! 52: impl.longBegin -/
theorem ok52 : goodFn Try.f52 = true := by kernel_rfl
/-! 53: impl.retryTag -/
theorem ok53 : goodFn Try.f53 = true := by kernel_rfl
/-! 54: spec.l04VersionOK -/
theorem ok54 : goodFn Try.f54 = true := by kernel_rfl
/-! 55: spec.l04Ids -/
theorem ok55 : goodFn Try.f55 = true := by kernel_rfl
/-! 56: spec.l04RetryTag -/
theorem ok56 : goodFn Try.f56 = true := by kernel_rfl
/-! 57: impl.tooLong -/
theorem ok57 : goodFn Try.f57 = true := by kernel_rfl
/-! 58: spec.l04Peek -/
theorem ok58 : goodFn Try.f58 = true := by kernel_rfl
@[simp] theorem dr58_16372 : dr Try.prog 58 16372 = .seq [(0, 3)] := (dr_eq Try.func58 16372).trans (by kernel_rfl)
@[simp] theorem dr58_131060 : dr Try.prog 58 131060 = .seq [(0, 3)] := (dr_eq Try.func58 131060).trans (by kernel_rfl)
@[simp] theorem dr58_1073741492 : dr Try.prog 58 1073741492 = .seq [(0, 3)] := (dr_eq Try.func58 1073741492).trans (by kernel_rfl)
@[simp] theorem dr58_134217716 : dr Try.prog 58 134217716 = .seq [(0, 3)] := (dr_eq Try.func58 134217716).trans (by kernel_rfl)
@[simp] theorem dr58_134217726 : dr Try.prog 58 134217726 = .seq [(4, 6)] := (dr_eq Try.func58 134217726).trans (by kernel_rfl)
/-! 59: spec.l01Src).cid -/
theorem ok59 : goodFn Try.f59 = true := by kernel_rfl
/-! 60: spec.l04DrawVersions -/
theorem ok60 : goodFn Try.f60 = true := by kernel_rfl
theorem lp60_58 (call : CallF) (n : Nat) (τ : Tm) (H : AH) : evCode Try.prog call n (lp Try.prog 60 58) τ H = evN Try.prog call n 60 116 (sub (Try.f60.body.getD .skip) 200 116) τ H := lp_at Try.func60 58 (by decide) 6 (by decide) (by kernel_rfl) call n τ H
/-! 61: impl.fixed -/
theorem ok61 : goodFn Try.f61 = true := by kernel_rfl
theorem lp61_26 (call : CallF) (n : Nat) (τ : Tm) (H : AH) : evCode Try.prog call n (lp Try.prog 61 26) τ H = evN Try.prog call n 61 52 (sub (Try.f61.body.getD .skip) 200 52) τ H := lp_at Try.func61 26 (by decide) 5 (by decide) (by kernel_rfl) call n τ H
/-! 62: spec.l01Digits -/
theorem ok62 : goodFn Try.f62 = true := by kernel_rfl
/-! 63: impl.versionsOf -/
theorem ok63 : goodFn Try.f63 = true := by kernel_rfl
theorem lp63_122 (call : CallF) (n : Nat) (τ : Tm) (H : AH) : evCode Try.prog call n (lp Try.prog 63 122) τ H = evN Try.prog call n 63 244 (sub (Try.f63.body.getD .skip) 200 244) τ H := lp_at Try.func63 122 (by decide) 7 (by decide) (by kernel_rfl) call n τ H
/-! 64: impl.copied -/
theorem ok64 : goodFn Try.f64 = true := by kernel_rfl
/-! 65: impl.digest -/
theorem ok65 : goodFn Try.f65 = true := by kernel_rfl
theorem lp65_1018 (call : CallF) (n : Nat) (τ : Tm) (H : AH) : evCode Try.prog call n (lp Try.prog 65 1018) τ H = evN Try.prog call n 65 2036 (sub (Try.f65.body.getD .skip) 200 2036) τ H := lp_at Try.func65 1018 (by decide) 10 (by decide) (by kernel_rfl) call n τ H
@[simp] theorem dr65_2044 : dr Try.prog 65 2044 = .seq [] := (dr_eq Try.func65 2044).trans (by kernel_rfl)
theorem lp65_4090 (call : CallF) (n : Nat) (τ : Tm) (H : AH) : evCode Try.prog call n (lp Try.prog 65 4090) τ H = evN Try.prog call n 65 8180 (sub (Try.f65.body.getD .skip) 200 8180) τ H := lp_at Try.func65 4090 (by decide) 12 (by decide) (by kernel_rfl) call n τ H
/-! 66: spec.l03Copy -/
theorem ok66 : goodFn Try.f66 = true := by kernel_rfl
/-! 67: spec.l03Digest -/
theorem ok67 : goodFn Try.f67 = true := by kernel_rfl
@[simp] theorem dr67_14 : dr Try.prog 67 14 = .seq [(0, 4)] := (dr_eq Try.func67 14).trans (by kernel_rfl)
@[simp] theorem dr67_126 : dr Try.prog 67 126 = .seq [(0, 4)] := (dr_eq Try.func67 126).trans (by kernel_rfl)
theorem lp67_1018 (call : CallF) (n : Nat) (τ : Tm) (H : AH) : evCode Try.prog call n (lp Try.prog 67 1018) τ H = evN Try.prog call n 67 2036 (sub (Try.f67.body.getD .skip) 200 2036) τ H := lp_at Try.func67 1018 (by decide) 10 (by decide) (by kernel_rfl) call n τ H
/-! 86: spec.l01Value -/
theorem ok86 : goodFn Try.f86 = true := by kernel_rfl
theorem lp86_58 (call : CallF) (n : Nat) (τ : Tm) (H : AH) : evCode Try.prog call n (lp Try.prog 86 58) τ H = evN Try.prog call n 86 116 (sub (Try.f86.body.getD .skip) 200 116) τ H := lp_at Try.func86 58 (by decide) 6 (by decide) (by kernel_rfl) call n τ H
/-! 88: impl.peek -/
theorem ok88 : goodFn Try.f88 = true := by kernel_rfl
@[simp] theorem dr88_511934 : dr Try.prog 88 511934 = .seq [(2, 9), (7, 9)] := (dr_eq Try.func88 511934).trans (by kernel_rfl)
@[simp] theorem dr88_8180 : dr Try.prog 88 8180 = .seq [(4, 6)] := (dr_eq Try.func88 8180).trans (by kernel_rfl)
@[simp] theorem dr88_1048574 : dr Try.prog 88 1048574 = .seq [(4, 11), (9, 11)] := (dr_eq Try.func88 1048574).trans (by kernel_rfl)
/-! 90: impl.unfixed -/
theorem ok90 : goodFn Try.f90 = true := by kernel_rfl
theorem lp90_58 (call : CallF) (n : Nat) (τ : Tm) (H : AH) : evCode Try.prog call n (lp Try.prog 90 58) τ H = evN Try.prog call n 90 116 (sub (Try.f90.body.getD .skip) 200 116) τ H := lp_at Try.func90 58 (by decide) 6 (by decide) (by kernel_rfl) call n τ H
/-! 96: spec.l01Src).number -/
theorem ok96 : goodFn Try.f96 = true := by kernel_rfl
/-! 97: spec.l01Src).byte -/
theorem ok97 : goodFn Try.f97 = true := by kernel_rfl
@[simp] theorem dr97_28 : dr Try.prog 97 28 = .seq [] := (dr_eq Try.func97 28).trans (by kernel_rfl)
@[simp] theorem dr97_116 : dr Try.prog 97 116 = .seq [] := (dr_eq Try.func97 116).trans (by kernel_rfl)
@[simp] theorem dr97_234 : dr Try.prog 97 234 = .seq [] := (dr_eq Try.func97 234).trans (by kernel_rfl)
@[simp] theorem dr97_60 : dr Try.prog 97 60 = .seq [] := (dr_eq Try.func97 60).trans (by kernel_rfl)
/-! 98: spec.l04Reader).fixed -/
theorem ok98 : goodFn Try.f98 = true := by kernel_rfl
/-! 99: spec.l04Reader).take -/
theorem ok99 : goodFn Try.f99 = true := by kernel_rfl
@[simp] theorem dr99_12 : dr Try.prog 99 12 = .seq [] := (dr_eq Try.func99 12).trans (by kernel_rfl)
@[simp] theorem dr99_30 : dr Try.prog 99 30 = .seq [] := (dr_eq Try.func99 30).trans (by kernel_rfl)
/-! 100: spec.l04Fault -/
theorem ok100 : goodFn Try.f100 = true := by kernel_rfl
/-! 101: spec.l04ReadVersions -/
theorem ok101 : goodFn Try.f101 = true := by kernel_rfl
@[simp] theorem dr101_14 : dr Try.prog 101 14 = .seq [] := (dr_eq Try.func101 14).trans (by kernel_rfl)
theorem lp101_124 (call : CallF) (n : Nat) (τ : Tm) (H : AH) : evCode Try.prog call n (lp Try.prog 101 124) τ H = evN Try.prog call n 101 248 (sub (Try.f101.body.getD .skip) 200 248) τ H := lp_at Try.func101 124 (by decide) 7 (by decide) (by kernel_rfl) call n τ H
@[simp] theorem dr101_992 : dr Try.prog 101 992 = .seq [] := (dr_eq Try.func101 992).trans (by kernel_rfl)
/-! 102: spec.l04Retry -/
theorem ok102 : goodFn Try.f102 = true := by kernel_rfl
@[simp] theorem dr102_6 : dr Try.prog 102 6 = .seq [] := (dr_eq Try.func102 6).trans (by kernel_rfl)
@[simp] theorem dr102_254 : dr Try.prog 102 254 = .seq [(4, 7), (5, 7)] := (dr_eq Try.func102 254).trans (by kernel_rfl)
/-! 103: spec.l04Reader).variable -/
theorem ok103 : goodFn Try.f103 = true := by kernel_rfl
@[simp] theorem dr103_14 : dr Try.prog 103 14 = .seq [] := (dr_eq Try.func103 14).trans (by kernel_rfl)
/-! 104: impl.stirrer).stir -/
theorem ok104 : goodFn Try.f104 = true := by kernel_rfl
theorem lp104_6 (call : CallF) (n : Nat) (τ : Tm) (H : AH) : evCode Try.prog call n (lp Try.prog 104 6) τ H = evN Try.prog call n 104 12 (sub (Try.f104.body.getD .skip) 200 12) τ H := lp_at Try.func104 6 (by decide) 3 (by decide) (by kernel_rfl) call n τ H
@[simp] theorem dr104_1638 : dr Try.prog 104 1638 = .seq [] := (dr_eq Try.func104 1638).trans (by kernel_rfl)
@[simp] theorem dr104_3278 : dr Try.prog 104 3278 = .seq [] := (dr_eq Try.func104 3278).trans (by kernel_rfl)
@[simp] theorem dr104_6558 : dr Try.prog 104 6558 = .seq [] := (dr_eq Try.func104 6558).trans (by kernel_rfl)
@[simp] theorem dr104_6559 : dr Try.prog 104 6559 = .seq [] := (dr_eq Try.func104 6559).trans (by kernel_rfl)
/-! 105: spec.l03Stir -/
theorem ok105 : goodFn Try.f105 = true := by kernel_rfl
theorem lp105_26 (call : CallF) (n : Nat) (τ : Tm) (H : AH) : evCode Try.prog call n (lp Try.prog 105 26) τ H = evN Try.prog call n 105 52 (sub (Try.f105.body.getD .skip) 200 52) τ H := lp_at Try.func105 26 (by decide) 5 (by decide) (by kernel_rfl) call n τ H
@[simp] theorem dr105_840 : dr Try.prog 105 840 = .seq [] := (dr_eq Try.func105 840).trans (by kernel_rfl)
/-! 108: spec.l01Src).size -/
theorem ok108 : goodFn Try.f108 = true := by kernel_rfl
/-! 120: spec.GetVar -/
theorem ok120 : goodFn Try.f120 = true := by kernel_rfl
theorem lp120_506 (call : CallF) (n : Nat) (τ : Tm) (H : AH) : evCode Try.prog call n (lp Try.prog 120 506) τ H = evN Try.prog call n 120 1012 (sub (Try.f120.body.getD .skip) 200 1012) τ H := lp_at Try.func120 506 (by decide) 9 (by decide) (by kernel_rfl) call n τ H
theorem lp120_4090 (call : CallF) (n : Nat) (τ : Tm) (H : AH) : evCode Try.prog call n (lp Try.prog 120 4090) τ H = evN Try.prog call n 120 8180 (sub (Try.f120.body.getD .skip) 200 8180) τ H := lp_at Try.func120 4090 (by decide) 12 (by decide) (by kernel_rfl) call n τ H
/-! 122: impl.scanner).octet -/
theorem ok122 : goodFn Try.f122 = true := by kernel_rfl
/-! 123: impl.scanner).fail -/
theorem ok123 : goodFn Try.f123 = true := by kernel_rfl
/-! 124: impl.scanner).take -/
theorem ok124 : goodFn Try.f124 = true := by kernel_rfl
@[simp] theorem dr124_28 : dr Try.prog 124 28 = .seq [] := (dr_eq Try.func124 28).trans (by kernel_rfl)
@[simp] theorem dr124_30 : dr Try.prog 124 30 = .seq [] := (dr_eq Try.func124 30).trans (by kernel_rfl)
/-! 125: impl.scanner).cid -/
theorem ok125 : goodFn Try.f125 = true := by kernel_rfl
/-! 126: impl.scanner).number -/
theorem ok126 : goodFn Try.f126 = true := by kernel_rfl
@[simp] theorem dr126_14 : dr Try.prog 126 14 = .seq [] := (dr_eq Try.func126 14).trans (by kernel_rfl)
/-! 127: bits.RotateLeft32 -/
theorem ok127 : goodFn Try.f127 = true := by kernel_rfl
/-! 128: spec.l03Rot -/
theorem ok128 : goodFn Try.f128 = true := by kernel_rfl
/-! 132: impl.GetVar -/
theorem ok132 : goodFn Try.f132 = true := by kernel_rfl
@[simp] theorem dr132_254 : dr Try.prog 132 254 = .seq [] := (dr_eq Try.func132 254).trans (by kernel_rfl)
end Go.Ev
