/- Lemmas of an evaluator of the given code and of what the functions answer; no condition of its own. -/
import Derived.Test.YtomhcdfflfonfaaEv1
/- Regions where what is made anew stands in no order with the effects beside it: what they come to. -/
namespace Go.Ev
open Go Go.RowKit
set_option linter.unusedSimpArgs false
set_option linter.unusedVariables false

/-- the first cells of a block, as a value -/
inductive Sh where
  | ptr
  | sl (n : Nat)
def Sh.av : Sh → Nat → AV
  | .ptr, b => .ptr b 0
  | .sl n, b => .slice b 0 n
section
variable (P : Program)
/-- what only makes a block anew -/
def isFlt (o : Oper) : Bool := o.guard.isNone && (match o.op with
  | .alloc _ => true
  | .buildSlice .. => true
  | .convert s d _ => (match P.underlying s, P.underlying d with | some .string, some (.slice _) => true | _, _ => false)
  | _ => false)
def fltO (op : Op) (τ : Tm) : Option (Sh × Blk) := match op with
  | .alloc e => match zeroT P e, sizeT P e with
    | some z, some _ => some (.ptr, .cells e false z)
    | _, _ => none
  | .buildSlice t len parts => match opndP τ parts.toList, sliceT P t with
    | some ps, some e => match sizeT P e, zeroT P e with
      | some sz, some z => if z.length = sz ∧ len * sz ≤ 16777216 then match fillA (fun i => some (i * sz, sz)) (zerosA z len) ps with
          | some r => if r.all AV.one then some (.sl len, .cells e false r) else none
          | none => none
        else none
      | _, _ => none
    | _, _ => none
  | .convert s d x => match opnd τ x with
    | some (.str u) => match P.underlying s, P.underlying d with
      | some .string, some (.slice e) => match P.underlying e, sizeT P e with
        | some (.int .u8), some 1 => some (.sl u.size, .cells e false (bytesC u))
        | _, _ => none
      | _, _ => none
    | _ => none
  | _ => none
variable (ops : Array Oper)
/-- operation i is made anew, and some effect stands in no order with it -/
def fltAt (i : Nat) : Bool := (match ops[i]? with | some o => isFlt P o | none => false) && ((List.range ops.size).any fun j => j != i && effAt P ops j && !bef ops i j && !bef ops j i)
def effF (j : Nat) : Bool := effAt P ops j && !fltAt P ops j
def joinedB (p f : Nat) : Bool := (List.range p).any fun j => effF P ops j && bef ops f j
/-- the floating ones, what each operation wants of them, what is left at the end, what reads at other places -/
structure FI where
  fl : List Nat
  ad : List (List Nat)
  fin : List Nat
  ls : List (Nat × Nat × List Nat)
def okF : Bool := edgesOk ops && (ops.toList.zipIdx.all fun (y, j) => ops.toList.zipIdx.all fun (x, i) => !decide (i < j) || (!(clash ops x y) && !(effF P ops i && effF P ops j)) || bef ops i j)
def flOf : List Nat := (List.range ops.size).filter (fltAt P ops)
def adOf (k p : Nat) : List Nat := (flOf P ops).filter fun f => bef ops f k && !joinedB P ops p f
def looseF (i p : Nat) : Bool :=
  rdAt P ops i && (p == 0 || effF P ops (p - 1)) &&
  ((List.range ops.size).all fun j => !effF P ops j || (if j < p then !bef ops i j else !bef ops j i)) &&
  ((List.range ops.size).any fun j => effF P ops j && ((decide (p ≤ j) && decide (j < i)) || (decide (i ≤ j) && decide (j < p))))
def infoOf : Option FI := if okF P ops then some {
    fl := flOf P ops
    ad := (List.range ops.size).map fun k => adOf P ops k k
    fin := (flOf P ops).filter fun f => !joinedB P ops ops.size f
    ls := (List.range ops.size).flatMap fun i => (List.range (ops.size + 1)).filterMap fun p => if looseF P ops i p then some (i, p, adOf P ops i p) else none } else none
end
def AH.res (H : AH) (n : Nat) : AH := { get := fun b => if H.next ≤ b ∧ b < H.next + n then some .res else H.get b, next := H.next + n }
abbrev Tab := List (Nat × Nat × Blk)
def plusT (tab : Tab) : List Nat → AH → AH
  | [], X => X
  | f :: l, X => match tab.lookup f with
    | some (b, x) => (plusT tab l X).set b x
    | none => plusT tab l X
section
variable (P : Program) (call : CallF) (n0 : Nat) (ops : Array Oper) (I : FI)
def evHistF : Nat → List Oper → Tm → AH → Tab → Option (List (Tm × AH × Tab))
  | _, [], τ, X, tab => some [(τ, X, tab)]
  | k, o :: l, τ, X, tab => if I.fl.contains k then match fltO P o.op τ with
      | some (s, x) => match evHistF (k + 1) l (put τ o.dst (s.av (n0 + I.fl.idxOf k))) X (tab ++ [(k, n0 + I.fl.idxOf k, x)]) with
        | some r => some ((τ, X, tab) :: r)
        | none => none
      | none => none
    else if wantA ops τ o then match evO P call o τ (plusT tab (I.ad.getD k []) X) with
      | some (v, X') => match evHistF (k + 1) l (put τ o.dst v) (if isEff P o.op then X' else X) tab with
        | some r => some ((τ, X, tab) :: r)
        | none => none
      | none => none
    else match evHistF (k + 1) l (put τ o.dst U) (if isEff P o.op then plusT tab (I.ad.getD k []) X else X) tab with
      | some r => some ((τ, X, tab) :: r)
      | none => none
/-- what reads elsewhere reads the same -/
def ObF (hs : List (Tm × AH × Tab)) (tab : Tab) (q : Nat × Nat × List Nat) : Prop :=
  match hs[q.1]?, hs[q.2.1]?, ops[q.1]? with
  | some (τ, X, t), some (_, Xp, _), some o => wantA ops τ o = true → ∃ v A B, evO P call o τ (plusT tab q.2.2 Xp) = some (v, A) ∧ evO P call o τ (plusT t (I.ad.getD q.1 []) X) = some (v, B)
  | _, _, _ => False
def ObsF (hs : List (Tm × AH × Tab)) (tab : Tab) : List (Nat × Nat × List Nat) → Prop
  | [] => True
  | q :: l => ObF P call ops I hs tab q ∧ ObsF hs tab l
theorem ObsF_iff {hs : List (Tm × AH × Tab)} {tab : Tab} : ∀ {l : List (Nat × Nat × List Nat)}, ObsF P call ops I hs tab l ↔ ∀ q ∈ l, ObF P call ops I hs tab q
  | [] => by simp [ObsF]
  | q :: l => by simp [ObsF, ObsF_iff (l := l)]
open Classical in
noncomputable def evFlt (τ : Tm) (H : AH) : Option (Tm × AH) := match evHistF P call H.next ops I 0 ops.toList τ (H.res I.fl.length) [] with
  | some hs => match hs.getLast? with
    | some (τ', X, tab) => if ObsF P call ops I hs tab I.ls then some (τ', plusT tab I.fin X) else none
    | none => none
  | none => none
noncomputable def evDraw (τ : Tm) (H : AH) : Option (Tm × AH) := if drawOk P ops = true then evDraw1 P call ops τ H else match infoOf P ops with
  | some I => evFlt P call ops I τ H
  | none => none
end
end Go.Ev

/- The evaluator of code and calls. -/
namespace Go.Ev
open Go Go.RowKit
set_option linter.unusedSimpArgs false
set_option linter.unusedVariables false

inductive Ex where
  | normal
  | exit (id : Nat)
  | ret
def Ex.toExit : Ex → Exit
  | .normal => .normal
  | .exit id => .exit id
  | .ret => .ret

abbrev Out := Option (Ex × Tm × AH)
def iter (f : Tm → AH → Out) : Nat → Tm → AH → Out
  | 0, _, _ => none
  | n + 1, τ, H => match f τ H with
    | some (.normal, τ', H') => iter f n τ' H'
    | r => r

section
variable (P : Program) (call : CallF)
noncomputable def evCode (n : Nat) : Code → Tm → AH → Out
  | .skip, τ, H => some (.normal, τ, H)
  | .label _, τ, H => some (.normal, τ, H)
  | .region _ ops draw, τ, H => match (if draw then evDraw P call ops τ H else evOps P call ops ops.toList τ H) with
    | some (τ', H') => some (.normal, τ', H')
    | none => none
  | .seq a b, τ, H => match evCode n a τ H with
    | some (.normal, τ', H') => evCode n b τ' H'
    | r => r
  | .cond c a b, τ, H => match opnd τ c with
    | some (.bool q) => if q then evCode n a τ H else evCode n b τ H
    | _ => none
  | .block id a, τ, H => match evCode n a τ H with
    | some (.exit id', τ', H') => if id' = id then some (.normal, τ', H') else some (.exit id', τ', H')
    | r => r
  | .loop a, τ, H => iter (evCode n a) n τ H
  | .exit id, τ, H => some (.exit id, τ, H)
  | .scope a, τ, H => evCode n a τ H
  | .ret, τ, H => some (.ret, τ, H)
  | _, _, _ => none
end

/-- the slots that code names are there -/
def okCode (n : Nat) : Code → Bool
  | .region _ ops _ => okOps n ops
  | .seq a b => okCode n a && okCode n b
  | .cond c a b => okO n c && okCode n a && okCode n b
  | .block _ a | .loop a | .scope a => okCode n a
  | _ => true

/-- the slots ahead of a call's first statement -/
def tm0 (args : List AV) : Tm := fun i => args.getD i U
def resR (P : Program) (τ : Tm) (H : AH) : ResultVar → Option AV
  | .tmp t => some (τ t)
  | .cell a t => match τ a with
    | .ptr b o => ldVar P t b o H
    | _ => none
def resL (P : Program) (τ : Tm) (H : AH) : List ResultVar → Option (List AV)
  | [] => some []
  | r :: l => match resR P τ H r, resL P τ H l with | some a, some b => some (a :: b) | _, _ => none
def resA (P : Program) (rs : List ResultVar) (τ : Tm) (H : AH) : Option AV := match resL P τ H rs with
  | some [a] => some a
  | some l => some (.tuple l)
  | none => none
def okRes (n : Nat) (rs : Array ResultVar) : Bool := rs.toList.all fun | .tmp t => decide (t < n) | .cell a _ => decide (a < n)
/-- a function that the evaluator takes -/
def fnOk (fn : Func) : Bool := match fn.body with
  | some c => okCode fn.ntmps c && okRes fn.ntmps fn.results && !(fn.name == "runtime.NumGoroutine")
  | none => false

section
variable (P : Program)
noncomputable def evFn (call : CallF) (n : Nat) (fn : Func) (args : List AV) (H : AH) : Option (AV × AH) := match fn.body with
  | some c => match evCode P call n c (tm0 args) H with
    | some (.normal, τ, H') => (resA P fn.results.toList τ H').map fun r => (r, H')
    | some (.ret, τ, H') => (resA P fn.results.toList τ H').map fun r => (r, H')
    | _ => none
  | none => none
noncomputable def ev : Nat → CallF
  | 0, _, _, _ => none
  | n + 1, f, args, H => match P.funcs[f]? with
    | some fn => if fnOk fn = true ∧ args.length ≤ fn.ntmps then evFn P (ev n) n fn args H else none
    | none => none
end

end Go.Ev

/- More blocks, out of reach: the evaluator answers the same, and leaves them. -/
namespace Go.Ev
open Go Go.RowKit
set_option linter.unusedSimpArgs false
set_option linter.unusedVariables false

def AH.plus (X : AH) (E : Nat → Option Blk) : AH := { get := fun b => match E b with | some x => some x | none => X.get b, next := X.next }
/-- E's blocks are kept free in X -/
def Off (X : AH) (E : Nat → Option Blk) : Prop := ∀ b x, E b = some x → X.get b = some .res ∧ b < X.next
def live : Option Blk → Bool
  | some (.cells ..) => true
  | some (.map _) => true
  | _ => false
theorem live_or (y : Option Blk) : live y = true ∨ y = none ∨ y = some .res := by
  cases y with
  | none => exact .inr (.inl rfl)
  | some y => cases y <;> simp [live]
theorem AH.ext' {A B : AH} (h1 : ∀ b, A.get b = B.get b) (h2 : A.next = B.next) : A = B := by
  cases A; cases B; simp at h2; subst h2
  congr; exact funext h1
section
variable {X : AH} {E : Nat → Option Blk}
theorem plus_next (X : AH) (E : Nat → Option Blk) : (X.plus E).next = X.next := rfl
theorem plus_get (X : AH) (E : Nat → Option Blk) (b : Nat) : (X.plus E).get b = match E b with | some x => some x | none => X.get b := rfl
theorem Off.none (h : Off X E) {b : Nat} (hb : live (X.get b) = true) : E b = none := by
  cases he : E b with
  | none => rfl
  | some x => have := (h b x he).1; rw [this] at hb; simp [live] at hb
theorem getP (h : Off X E) {b : Nat} (hb : live (X.get b) = true) : (X.plus E).get b = X.get b := by
  rw [plus_get, h.none hb]
theorem Off.push (h : Off X E) (y : Blk) : Off (X.push y) E := fun b x hb => by
  have := h b x hb
  exact ⟨by rw [AH.push_get, if_neg (by omega)]; exact this.1, by rw [AH.push_next]; omega⟩
theorem push_plus (h : Off X E) (y : Blk) : (X.push y).plus E = (X.plus E).push y := by
  refine AH.ext' (fun b => ?_) rfl
  rw [plus_get, AH.push_get, AH.push_get, plus_get, plus_next]
  cases he : E b with
  | none => rfl
  | some x => have := (h b x he).2; simp only; rw [if_neg (by omega)]
theorem Off.set (h : Off X E) {b : Nat} (hb : live (X.get b) = true) (y : Blk) : Off (X.set b y) E := fun c x hc => by
  have := h c x hc
  have hne : c ≠ b := fun e => by subst e; rw [this.1] at hb; simp [live] at hb
  exact ⟨by rw [AH.set_get, if_neg hne]; exact this.1, this.2⟩
theorem set_plus (h : Off X E) {b : Nat} (hb : live (X.get b) = true) (y : Blk) : (X.set b y).plus E = (X.plus E).set b y := by
  refine AH.ext' (fun c => ?_) rfl
  rw [plus_get, AH.set_get, AH.set_get, plus_get]
  by_cases hc : c = b
  · subst hc; rw [h.none hb]
  · rw [if_neg hc, if_neg hc]
theorem Off.kill (h : Off X E) {b : Nat} (hb : live (X.get b) = true) : Off (X.kill b) E := fun c x hc => by
  have := h c x hc
  have hne : c ≠ b := fun e => by subst e; rw [this.1] at hb; simp [live] at hb
  exact ⟨by rw [AH.kill_get, if_neg hne]; exact this.1, this.2⟩
theorem kill_plus (h : Off X E) {b : Nat} (hb : live (X.get b) = true) : (X.kill b).plus E = (X.plus E).kill b := by
  refine AH.ext' (fun c => ?_) rfl
  rw [plus_get, AH.kill_get, AH.kill_get, plus_get]
  by_cases hc : c = b
  · subst hc; rw [h.none hb]
  · rw [if_neg hc, if_neg hc]

variable {P : Program}
theorem ldVar_fr (hO : Off X E) {t : TypeId} {b o : Nat} {r : AV} (h : ldVar P t b o X = some r) : ldVar P t b o (X.plus E) = some r := by
  unfold ldVar at h ⊢
  rcases live_or (X.get b) with hb | hb | hb
  · rw [getP hO hb]; exact h
  · simp [hb] at h
  · simp [hb] at h
theorem stVar_fr (hO : Off X E) {t : TypeId} {b o : Nat} {v : AV} {X' : AH} (h : stVar P t b o v X = some X') : stVar P t b o v (X.plus E) = some (X'.plus E) ∧ Off X' E := by
  unfold stVar at h ⊢
  rcases live_or (X.get b) with hb | hb | hb
  · have hs : live (X.get b) = true := hb
    rw [getP hO hs]
    generalize hy : X.get b = yb at h ⊢
    rcases yb with _ | y
    · simp at h
    cases y with
    | res => simp at h
    | map l => simp at h
    | cells e ro xs =>
      cases ro with
      | true => simp at h
      | false =>
        simp only at h ⊢
        split at h
        · rename_i hc
          simp only [Option.some.injEq] at h; subst h
          rw [if_pos hc, set_plus hO hs]
          exact ⟨rfl, hO.set hs _⟩
        · simp at h
  · simp [hb] at h
  · simp [hb] at h
theorem rowOf_fr (hO : Off X E) {sz : Nat} {x : AV} {r : List AV} (h : rowOf sz X x = some r) : rowOf sz (X.plus E) x = some r := by
  unfold rowOf at h ⊢
  split at h
  · exact h
  · rename_i b o n
    rcases live_or (X.get b) with hb | hb | hb
    · rw [getP hO hb]; exact h
    · simp [hb] at h
    · simp [hb] at h
  · simp at h
theorem lenA_fr (hO : Off X E) {t : TypeId} {x r : AV} (h : lenA P t x X = some r) : lenA P t x (X.plus E) = some r := by
  unfold lenA at h ⊢
  generalize P.underlying t = d at h ⊢
  split at h
  all_goals first
    | exact h
    | (simp at h; done)
    | skip
  rename_i b
  rcases live_or (X.get b) with hb | hb | hb
  · rw [getP hO hb]; exact h
  · simp [hb] at h
  · simp [hb] at h
theorem newsA_fr (hO : Off X E) {sz : Nat} {tx : TypeId} {x : AV} {r : Nat × List AV} (h : newsA P sz tx x X = some r) : newsA P sz tx x (X.plus E) = some r := by
  unfold newsA at h ⊢
  generalize P.underlying tx = d at h ⊢
  split at h
  all_goals first
    | exact h
    | (simp at h; done)
    | skip
  simp only [Option.map_eq_some_iff] at h ⊢
  obtain ⟨l, h1, h2⟩ := h
  exact ⟨l, rowOf_fr hO h1, h2⟩
theorem cutA_fr (hO : Off X E) {t : TypeId} {x r : AV} {lo hi : Option (Option AV)} (h : cutA P t x lo hi X = some r) : cutA P t x lo hi (X.plus E) = some r := by
  unfold cutA at h ⊢
  generalize P.underlying t = d at h ⊢
  split at h
  · exact h
  · rename_i e b o n
    rcases live_or (X.get b) with hb | hb | hb
    · rw [getP hO hb]; exact h
    · simp only [hb] at h; split at h <;> simp_all
    · simp only [hb] at h; split at h <;> simp_all
  · exact h
  · rename_i len e b o
    rcases live_or (X.get b) with hb | hb | hb
    · rw [getP hO hb]; exact h
    · simp only [hb] at h; split at h <;> simp_all
    · simp only [hb] at h; split at h <;> simp_all
  · simp at h
theorem convA_fr (hO : Off X E) {s d : TypeId} {x r : AV} {X' : AH} (h : convA P s d x X = some (r, X')) : convA P s d x (X.plus E) = some (r, X'.plus E) ∧ Off X' E := by
  unfold convA at h ⊢
  generalize P.underlying s = us at h ⊢
  generalize P.underlying d = ud at h ⊢
  split at h
  · simp only [Option.some.injEq, Prod.mk.injEq] at h; obtain ⟨rfl, rfl⟩ := h; exact ⟨rfl, hO⟩
  · simp only [Option.some.injEq, Prod.mk.injEq] at h; obtain ⟨rfl, rfl⟩ := h; exact ⟨rfl, hO⟩
  · try simp only at h ⊢
    split at h
    · split at h
      · rename_i cs hcs
        split at h
        · rename_i ns hns
          simp only [Option.some.injEq, Prod.mk.injEq] at h; obtain ⟨rfl, rfl⟩ := h
          simp only [rowOf_fr hO hcs, hns]
          exact ⟨trivial, hO⟩
        · simp at h
      · simp at h
    · simp at h
  · try simp only at h ⊢
    split at h
    · simp only [Option.some.injEq, Prod.mk.injEq] at h; obtain ⟨rfl, rfl⟩ := h
      rw [push_plus hO]
      exact ⟨rfl, hO.push _⟩
    · simp at h
  · rename_i e b o n
    try simp only at h ⊢
    rcases live_or (X.get b) with hb | hb | hb
    · rw [getP hO hb]
      split at h
      · rename_i hy
        split at h
        · rename_i hc
          simp only [Option.some.injEq, Prod.mk.injEq] at h; obtain ⟨rfl, rfl⟩ := h
          rw [if_pos hc]
          exact ⟨rfl, hO⟩
        · simp at h
      · simp at h
    · simp only [hb] at h; split at h <;> simp_all
    · simp only [hb] at h; split at h <;> simp_all
  · simp at h
theorem appA_fr (hO : Off X E) {t tx : TypeId} {s x r : AV} {X' : AH} (h : appA P t tx s x X = some (r, X')) : appA P t tx s x (X.plus E) = some (r, X'.plus E) ∧ Off X' E := by
  unfold appA at h ⊢
  split at h
  · rename_i e he
    split at h
    · rename_i sz by_ z h1 h2 h3
      split at h
      · rename_i hz
        split at h
        · rename_i m news hn
          simp only [newsA_fr hO hn, hz, if_true]
          split at h
          · rename_i hm
            rw [if_pos hm]
            split at h
            · simp only [Option.some.injEq, Prod.mk.injEq] at h; obtain ⟨rfl, rfl⟩ := h; exact ⟨rfl, hO⟩
            · simp only [Option.some.injEq, Prod.mk.injEq] at h; obtain ⟨rfl, rfl⟩ := h; exact ⟨rfl, hO⟩
            · simp at h
          · rename_i hm
            rw [if_neg hm]
            split at h
            · split at h
              · rename_i hc
                simp only [Option.some.injEq, Prod.mk.injEq] at h; obtain ⟨rfl, rfl⟩ := h
                rw [if_pos hc, push_plus hO]
                exact ⟨rfl, hO.push _⟩
              · simp at h
            · rename_i b o n
              rcases live_or (X.get b) with hb | hb | hb
              · have hs : live (X.get b) = true := hb
                simp only [getP hO hs]
                generalize hy : X.get b = yb at h ⊢
                rcases yb with _ | (⟨e', ro, xs⟩ | l | _)
                · simp at h
                · cases ro with
                  | true => simp at h
                  | false =>
                    simp only at h ⊢
                    split at h
                    · rename_i hc
                      simp only [Option.some.injEq, Prod.mk.injEq] at h; obtain ⟨rfl, rfl⟩ := h
                      simp only [if_pos hc]
                      rw [push_plus (hO.kill hs), kill_plus hO hs]
                      exact ⟨rfl, (hO.kill hs).push _⟩
                    · simp at h
                · simp at h
                · simp at h
              · simp [hb] at h
              · simp [hb] at h
            · simp at h
        · simp at h
      · simp at h
    · simp at h
  · simp at h
theorem appZ_fr (hO : Off X E) {t : TypeId} {s x r : AV} {X' : AH} (h : appZ P t s x X = some (r, X')) : appZ P t s x (X.plus E) = some (r, X'.plus E) ∧ Off X' E := by
  unfold appZ at h ⊢
  split at h
  · rename_i e kd k he
    split at h
    · rename_i sz by_ z h1 h2 h3
      split at h
      · rename_i hz
        simp only [hz, and_self, if_true]
        split at h
        · rename_i hm
          rw [if_pos hm]
          split at h
          · simp only [Option.some.injEq, Prod.mk.injEq] at h; obtain ⟨rfl, rfl⟩ := h; exact ⟨rfl, hO⟩
          · simp only [Option.some.injEq, Prod.mk.injEq] at h; obtain ⟨rfl, rfl⟩ := h; exact ⟨rfl, hO⟩
          · simp at h
        · rename_i hm
          rw [if_neg hm]
          split at h
          · split at h
            · rename_i hc
              simp only [Option.some.injEq, Prod.mk.injEq] at h; obtain ⟨rfl, rfl⟩ := h
              rw [if_pos hc, push_plus hO]
              exact ⟨rfl, hO.push _⟩
            · simp at h
          · rename_i b o n
            rcases live_or (X.get b) with hb | hb | hb
            · have hs : live (X.get b) = true := hb
              simp only [getP hO hs]
              generalize hy : X.get b = yb at h ⊢
              rcases yb with _ | (⟨e', ro, xs⟩ | l | _)
              · simp at h
              · cases ro with
                | true => simp at h
                | false =>
                  simp only at h ⊢
                  split at h
                  · rename_i hc
                    simp only [Option.some.injEq, Prod.mk.injEq] at h; obtain ⟨rfl, rfl⟩ := h
                    simp only [if_pos hc]
                    rw [push_plus (hO.kill hs), kill_plus hO hs]
                    exact ⟨rfl, (hO.kill hs).push _⟩
                  · simp at h
              · simp at h
              · simp at h
            · simp [hb] at h
            · simp [hb] at h
          · simp at h
      · simp at h
    · simp at h
  · simp at h
theorem lookA_fr (hO : Off X E) {t : TypeId} {m k r : AV} {ok : Bool} (h : lookA P t m k X ok = some r) : lookA P t m k (X.plus E) ok = some r := by
  unfold lookA at h ⊢
  generalize mapT P t k = d at h ⊢
  cases d with
  | none => simp at h
  | some q =>
    obtain ⟨kt, et⟩ := q
    cases m with
    | nilMap => exact h
    | map b =>
      rcases live_or (X.get b) with hb | hb | hb
      · simp only [getP hO hb]; exact h
      · simp [hb] at h
      · simp [hb] at h
    | _ => simp at h
theorem updA_fr (hO : Off X E) {t : TypeId} {m k v : AV} {X' : AH} (h : updA P t m k v X = some X') : updA P t m k v (X.plus E) = some (X'.plus E) ∧ Off X' E := by
  unfold updA at h ⊢
  generalize mapT P t k = d at h ⊢
  split at h
  · rename_i kt et b
    rcases live_or (X.get b) with hb | hb | hb
    · have hs : live (X.get b) = true := hb
      simp only [getP hO hs]
      generalize hy : X.get b = yb at h ⊢
      rcases yb with _ | y
      · simp at h
      cases y with
      | res => simp at h
      | cells => simp at h
      | map l =>
        simp only [Option.map_eq_some_iff] at h ⊢
        obtain ⟨l', h1, rfl⟩ := h
        rw [set_plus hO hs]
        exact ⟨⟨l', h1, rfl⟩, hO.set hs _⟩
    · simp [hb] at h
    · simp [hb] at h
  · simp at h
theorem delA_fr (hO : Off X E) {t : TypeId} {m k : AV} {X' : AH} (h : delA P t m k X = some X') : delA P t m k (X.plus E) = some (X'.plus E) ∧ Off X' E := by
  unfold delA at h ⊢
  generalize mapT P t k = d at h ⊢
  split at h
  · simp only [Option.some.injEq] at h; subst h; exact ⟨rfl, hO⟩
  · rename_i b
    rcases live_or (X.get b) with hb | hb | hb
    · have hs : live (X.get b) = true := hb
      simp only [getP hO hs]
      generalize hy : X.get b = yb at h ⊢
      rcases yb with _ | y
      · simp at h
      cases y with
      | res => simp at h
      | cells => simp at h
      | map l =>
        simp only at h ⊢
        split at h
        · simp only [Option.some.injEq] at h; subst h
          rw [set_plus hO hs]; exact ⟨rfl, hO.set hs _⟩
        · simp only [Option.some.injEq] at h; subst h; exact ⟨rfl, hO⟩
        · simp at h
    · simp [hb] at h
    · simp [hb] at h
  · simp at h
end
end Go.Ev

/- More blocks, out of reach: operations, regions, code and calls. -/
namespace Go.Ev
open Go Go.RowKit
set_option linter.unusedSimpArgs false
set_option linter.unusedVariables false

/-- with more blocks the same, and they stay -/
def CallFr (call : CallF) : Prop := ∀ f args X v X', call f args X = some (v, X') → ∀ E, Off X E → call f args (X.plus E) = some (v, X'.plus E) ∧ Off X' E
section
variable {P : Program} {call : CallF} {X : AH} {E : Nat → Option Blk}
theorem builtA_fr (hO : Off X E) {b : Builtin} {ats : List TypeId} {xs : List AV} {r : AV} {X' : AH} (h : builtA P b ats xs X = some (r, X')) : builtA P b ats xs (X.plus E) = some (r, X'.plus E) ∧ Off X' E := by
  unfold builtA at h ⊢
  split at h
  · simp only [Option.map_eq_some_iff, Prod.mk.injEq] at h ⊢
    obtain ⟨a, h1, rfl, rfl⟩ := h
    exact ⟨⟨a, lenA_fr hO h1, rfl, rfl⟩, hO⟩
  · split at h
    · rename_i hi
      simp only [hi, if_true]
      exact appZ_fr hO h
    · rename_i hi
      simp only [hi, if_false]
      exact appA_fr hO h
  · simp only [Option.map_eq_some_iff, Prod.mk.injEq] at h ⊢
    obtain ⟨a, h1, rfl, rfl⟩ := h
    exact ⟨⟨a, h1, rfl, rfl⟩, hO⟩
  · simp only [Option.map_eq_some_iff, Prod.mk.injEq] at h ⊢
    obtain ⟨a, h1, rfl, rfl⟩ := h
    exact ⟨⟨a, h1, rfl, rfl⟩, hO⟩
  · simp only [Option.map_eq_some_iff, Prod.mk.injEq] at h ⊢
    obtain ⟨a, h1, rfl, rfl⟩ := h
    obtain ⟨g1, g2⟩ := delA_fr hO h1
    exact ⟨⟨_, g1, rfl, rfl⟩, g2⟩
  · simp at h
theorem evOp_fr (hO : Off X E) {op : Op} {τ : Tm} {r : AV} {X' : AH} (h : evOp P op τ X = some (r, X')) : evOp P op τ (X.plus E) = some (r, X'.plus E) ∧ Off X' E := by
  have same : ∀ {z : Option AV}, (z.map fun r => (r, X)) = some (r, X') → (z.map fun r => (r, X.plus E)) = some (r, X'.plus E) ∧ Off X' E := fun {z} hz => by
    simp only [Option.map_eq_some_iff, Prod.mk.injEq] at hz ⊢
    obtain ⟨a, h1, rfl, rfl⟩ := hz
    exact ⟨⟨a, h1, rfl, rfl⟩, hO⟩
  have read : ∀ {z z' : Option AV}, (∀ a, z = some a → z' = some a) → (z.map fun r => (r, X)) = some (r, X') → (z'.map fun r => (r, X.plus E)) = some (r, X'.plus E) ∧ Off X' E := fun {z z'} hz h => by
    simp only [Option.map_eq_some_iff, Prod.mk.injEq] at h ⊢
    obtain ⟨a, h1, rfl, rfl⟩ := h
    exact ⟨⟨a, hz a h1, rfl, rfl⟩, hO⟩
  have push : ∀ {a a' : AV} {y : Blk}, a = a' → some (a, X.push y) = some (r, X') → some (a', (X.plus E).push y) = some (r, X'.plus E) ∧ Off X' E := fun {a a' y} e h => by
    simp only [Option.some.injEq, Prod.mk.injEq] at h
    obtain ⟨rfl, rfl⟩ := h
    rw [push_plus hO, e]; exact ⟨rfl, hO.push _⟩
  cases op
  case move x => simp only [evOp] at h ⊢; exact same h
  case assign x => simp only [evOp] at h ⊢; exact same h
  case pick c a b =>
    simp only [evOp] at h ⊢
    split at h
    · exact same h
    · simp at h
  case alloc e =>
    simp only [evOp] at h ⊢
    split at h
    · exact push rfl h
    · simp at h
  case box e x =>
    simp only [evOp] at h ⊢
    split at h
    · split at h
      · rename_i hc; rw [if_pos hc]; exact push rfl h
      · simp at h
    · simp at h
  case build t parts =>
    simp only [evOp] at h ⊢
    split at h
    · split at h
      · (simp only [Option.map_eq_some_iff, Prod.mk.injEq] at h ⊢; obtain ⟨a, h1, rfl, rfl⟩ := h; exact ⟨⟨a, h1, rfl, rfl⟩, hO⟩)
      · split at h
        · split at h
          · (simp only [Option.map_eq_some_iff, Prod.mk.injEq] at h ⊢; obtain ⟨a, h1, rfl, rfl⟩ := h; exact ⟨⟨a, h1, rfl, rfl⟩, hO⟩)
          · simp at h
        · simp at h
    · simp at h
  case buildSlice t len parts =>
    simp only [evOp] at h ⊢
    split at h
    · split at h
      · split at h
        · rename_i hc
          rw [if_pos hc]
          split at h
          · split at h
            · rename_i hc2; rw [if_pos hc2]; exact push rfl h
            · simp at h
          · simp at h
        · simp at h
      · simp at h
    · simp at h
  case load t a =>
    simp only [evOp] at h ⊢
    split at h
    · exact read (fun a ha => ldVar_fr hO ha) h
    · simp at h
  case store t a x =>
    simp only [evOp] at h ⊢
    split at h
    · simp only [Option.map_eq_some_iff, Prod.mk.injEq] at h ⊢
      obtain ⟨a, h1, rfl, rfl⟩ := h
      obtain ⟨g1, g2⟩ := stVar_fr hO h1
      exact ⟨⟨_, g1, rfl, rfl⟩, g2⟩
    · simp at h
  case nilCheck x =>
    simp only [evOp] at h ⊢
    split at h <;> first
      | (simp only [Option.some.injEq, Prod.mk.injEq] at h; obtain ⟨rfl, rfl⟩ := h; exact ⟨rfl, hO⟩)
      | (simp at h; done)
  case binOp op t x y ty =>
    simp only [evOp] at h ⊢
    split at h
    · exact same h
    · simp at h
  case unOp op t x =>
    simp only [evOp] at h ⊢
    split at h
    · exact same h
    · simp at h
  case convert s d x =>
    simp only [evOp] at h ⊢
    split at h
    · exact convA_fr hO h
    · simp at h
  case makeInterface t x =>
    simp only [evOp] at h ⊢
    split at h
    · simp at h
    · simp only [Option.some.injEq, Prod.mk.injEq] at h; obtain ⟨rfl, rfl⟩ := h; exact ⟨rfl, hO⟩
    · simp at h
  case makeFunc fn first captured =>
    cases fn <;> simp only [evOp] at h ⊢
    all_goals first
      | (simp at h; done)
      | skip
    split at h
    · simp only [Option.some.injEq, Prod.mk.injEq] at h; obtain ⟨rfl, rfl⟩ := h; exact ⟨rfl, hO⟩
    · simp at h
  case makeMap t n =>
    cases n <;> simp only [evOp] at h ⊢
    · exact push rfl h
    · simp at h
  case makeSlice t l c =>
    simp only [evOp] at h ⊢
    split at h
    · split at h
      · split at h
        · rename_i hc; rw [if_pos hc]; exact push rfl h
        · simp at h
      · simp at h
    · simp at h
  case slice t x lo hi mx =>
    cases mx <;> simp only [evOp] at h ⊢
    · split at h
      · exact read (fun a ha => cutA_fr hO ha) h
      · simp at h
    · simp at h
  case fieldAddr s x f =>
    simp only [evOp] at h ⊢
    split at h
    · split at h
      · split at h
        · rename_i hc; rw [if_pos hc]
          simp only [Option.some.injEq, Prod.mk.injEq] at h; obtain ⟨rfl, rfl⟩ := h; exact ⟨rfl, hO⟩
        · simp at h
      · simp at h
    · simp at h
  case field s x f =>
    simp only [evOp] at h ⊢
    split at h
    · exact same h
    · simp at h
  case indexAddr t x i =>
    simp only [evOp] at h ⊢
    split at h
    · exact same h
    · simp at h
  case index t x i =>
    simp only [evOp] at h ⊢
    split at h
    · exact same h
    · simp at h
  case extract x i =>
    simp only [evOp] at h ⊢
    split at h
    · exact same h
    · simp at h
  case lookup t m k ok =>
    simp only [evOp] at h ⊢
    split at h
    · exact read (fun a ha => lookA_fr hO ha) h
    · simp at h
  case mapUpdate t m k v =>
    simp only [evOp] at h ⊢
    split at h
    · simp only [Option.map_eq_some_iff, Prod.mk.injEq] at h ⊢
      obtain ⟨a, h1, rfl, rfl⟩ := h
      obtain ⟨g1, g2⟩ := updA_fr hO h1
      exact ⟨⟨_, g1, rfl, rfl⟩, g2⟩
    · simp at h
  case insert t m k v =>
    simp only [evOp] at h ⊢
    split at h
    · simp only [Option.map_eq_some_iff, Prod.mk.injEq] at h ⊢
      obtain ⟨a, h1, rfl, rfl⟩ := h
      obtain ⟨g1, g2⟩ := updA_fr hO h1
      exact ⟨⟨_, g1, rfl, rfl⟩, g2⟩
    · simp at h
  case call c =>
    obtain ⟨callee, args, ats⟩ := c
    cases callee <;> simp only [evOp] at h ⊢
    all_goals first
      | (simp at h; done)
      | skip
    split at h
    · exact builtA_fr hO h
    · simp at h
  all_goals (simp [evOp] at h)
theorem evO_fr (hf : CallFr call) (hO : Off X E) {o : Oper} {τ : Tm} {r : AV} {X' : AH} (h : evO P call o τ X = some (r, X')) : evO P call o τ (X.plus E) = some (r, X'.plus E) ∧ Off X' E := by
  obtain ⟨dst, op, ty, pos, after, guard⟩ := o
  cases op
  case call c =>
    obtain ⟨callee, args, ats⟩ := c
    cases callee with
    | builtin b => simp only [evO] at h ⊢; exact evOp_fr hO h
    | value f =>
      simp only [evO] at h ⊢
      split at h
      · exact hf _ _ _ _ _ h E hO
      · simp at h
    | invoke v name =>
      simp only [evO] at h ⊢
      split at h
      · split at h
        · exact hf _ _ _ _ _ h E hO
        · simp at h
      · simp at h
  all_goals (simp only [evO] at h ⊢; exact evOp_fr hO h)
theorem stepA_fr (hf : CallFr call) (hO : Off X E) {ops : Array Oper} {o : Oper} {τ τ' : Tm} {X' : AH} (h : stepA P call ops o τ X = some (τ', X')) : stepA P call ops o τ (X.plus E) = some (τ', X'.plus E) ∧ Off X' E := by
  unfold stepA at h ⊢
  split at h
  · rename_i hw
    rw [if_pos hw]
    split at h
    · rename_i v H' hv
      simp only [Option.some.injEq, Prod.mk.injEq] at h; obtain ⟨rfl, rfl⟩ := h
      obtain ⟨g1, g2⟩ := evO_fr hf hO hv
      rw [g1]; exact ⟨rfl, g2⟩
    · simp at h
  · rename_i hw
    rw [if_neg hw]
    simp only [Option.some.injEq, Prod.mk.injEq] at h; obtain ⟨rfl, rfl⟩ := h
    exact ⟨rfl, hO⟩
theorem evOps_fr (hf : CallFr call) {ops : Array Oper} : ∀ {l : List Oper} {τ τ' : Tm} {X X' : AH}, Off X E → evOps P call ops l τ X = some (τ', X') → evOps P call ops l τ (X.plus E) = some (τ', X'.plus E) ∧ Off X' E
  | [], τ, τ', X, X', hO, h => by
    simp only [evOps, Option.some.injEq, Prod.mk.injEq] at h ⊢; obtain ⟨rfl, rfl⟩ := h
    exact ⟨⟨rfl, rfl⟩, hO⟩
  | o :: l, τ, τ', X, X', hO, h => by
    simp only [evOps] at h ⊢
    split at h
    · rename_i τ1 X1 h1
      obtain ⟨g1, g2⟩ := stepA_fr hf hO h1
      rw [g1]; exact evOps_fr hf g2 h
    · simp at h
theorem evHist_fr (hf : CallFr call) {ops : Array Oper} : ∀ {l : List Oper} {τ : Tm} {X : AH} {hs : List (Tm × AH)}, Off X E → evHist P call ops l τ X = some hs →
    evHist P call ops l τ (X.plus E) = some (hs.map fun q => (q.1, q.2.plus E)) ∧ ∀ q ∈ hs, Off q.2 E
  | [], τ, X, hs, hO, h => by
    simp only [evHist, Option.some.injEq] at h ⊢; subst h
    exact ⟨rfl, by simpa using hO⟩
  | o :: l, τ, X, hs, hO, h => by
    simp only [evHist] at h ⊢
    split at h
    · rename_i τ1 X1 h1
      obtain ⟨g1, g2⟩ := stepA_fr hf hO h1
      rw [g1]
      split at h
      · rename_i r hr
        simp only [Option.some.injEq] at h; subst h
        obtain ⟨k1, k2⟩ := evHist_fr hf g2 hr
        simp only [k1]
        refine ⟨rfl, fun q hq => ?_⟩
        rcases List.mem_cons.1 hq with rfl | hq
        · exact hO
        · exact k2 q hq
      · simp at h
    · simp at h
theorem plusT_fr (hO : Off X E) (tab : Tab) : ∀ (l : List Nat), (∀ f b x, tab.lookup f = some (b, x) → E b = none) → (plusT tab l X).plus E = plusT tab l (X.plus E) ∧ Off (plusT tab l X) E
  | [], _ => ⟨rfl, hO⟩
  | f :: l, ht => by
    obtain ⟨h1, h2⟩ := plusT_fr hO tab l ht
    simp only [plusT]
    cases hl : tab.lookup f with
    | none => exact ⟨h1, h2⟩
    | some q =>
      obtain ⟨b, x⟩ := q
      have hb := ht f b x hl
      refine ⟨?_, fun c y hc => ?_⟩
      · simp only
        rw [← h1]
        refine AH.ext' (fun c => ?_) rfl
        rw [plus_get, AH.set_get, AH.set_get, plus_get]
        by_cases hc : c = b
        · subst hc; rw [hb]
        · rw [if_neg hc, if_neg hc]
      · have := h2 c y hc
        simp only
        have hne : c ≠ b := fun e => by subst e; rw [hb] at hc; simp at hc
        exact ⟨by rw [AH.set_get, if_neg hne]; exact this.1, this.2⟩
/-- the blocks that float lie where E has none -/
def TabOff (E : Nat → Option Blk) (tab : Tab) : Prop := ∀ f b x, tab.lookup f = some (b, x) → E b = none
theorem TabOff.snoc {tab : Tab} {k b : Nat} {x : Blk} (h : TabOff E tab) (hb : E b = none) : TabOff E (tab ++ [(k, b, x)]) := by
  intro f c y hl
  rw [List.lookup_append] at hl
  cases h1 : tab.lookup f with
  | some q =>
    rw [h1] at hl
    obtain ⟨c', y'⟩ := q
    simp only [Option.some_or, Option.some.injEq, Prod.mk.injEq] at hl
    obtain ⟨rfl, rfl⟩ := hl
    exact h f _ _ h1
  | none =>
    rw [h1] at hl
    simp only [Option.none_or, List.lookup] at hl
    split at hl
    · simp only [Option.some.injEq, Prod.mk.injEq] at hl; obtain ⟨rfl, rfl⟩ := hl; exact hb
    · simp at hl
theorem evHistF_fr (hf : CallFr call) {ops : Array Oper} {I : FI} {n0 : Nat} (hn : ∀ b, n0 ≤ b → E b = none) : ∀ {l : List Oper} {k : Nat} {τ : Tm} {X : AH} {tab : Tab} {hs : List (Tm × AH × Tab)}, Off X E → TabOff E tab → evHistF P call n0 ops I k l τ X tab = some hs →
    evHistF P call n0 ops I k l τ (X.plus E) tab = some (hs.map fun q => (q.1, q.2.1.plus E, q.2.2)) ∧ ∀ q ∈ hs, Off q.2.1 E ∧ TabOff E q.2.2
  | [], k, τ, X, tab, hs, hO, hT, h => by
    simp only [evHistF, Option.some.injEq] at h ⊢; subst h
    exact ⟨rfl, by simpa using ⟨hO, hT⟩⟩
  | o :: l, k, τ, X, tab, hs, hO, hT, h => by
    simp only [evHistF] at h ⊢
    split at h
    · rename_i hk
      rw [if_pos hk]
      split at h
      · rename_i s x hs
        split at h
        · rename_i r hr
          simp only [Option.some.injEq] at h; subst h
          obtain ⟨k1, k2⟩ := evHistF_fr hf hn hO (hT.snoc (hn _ (by omega))) hr
          simp only [k1]
          refine ⟨rfl, fun q hq => ?_⟩
          rcases List.mem_cons.1 hq with rfl | hq
          · exact ⟨hO, hT⟩
          · exact k2 q hq
        · simp at h
      · simp at h
    · rename_i hk
      rw [if_neg hk]
      obtain ⟨p1, p2⟩ := plusT_fr hO tab (I.ad.getD k []) hT
      split at h
      · rename_i hw
        rw [if_pos hw]
        split at h
        · rename_i v X1 hv
          obtain ⟨g1, g2⟩ := evO_fr hf p2 hv
          rw [p1] at g1
          simp only [g1]
          split at h
          · rename_i r hr
            simp only [Option.some.injEq] at h; subst h
            have hO' : Off (if isEff P o.op = true then X1 else X) E := by split <;> assumption
            obtain ⟨k1, k2⟩ := evHistF_fr hf hn hO' hT hr
            have : (if isEff P o.op = true then X1.plus E else X.plus E) = (if isEff P o.op = true then X1 else X).plus E := by split <;> rfl
            rw [this]
            simp only [k1]
            refine ⟨rfl, fun q hq => ?_⟩
            rcases List.mem_cons.1 hq with rfl | hq
            · exact ⟨hO, hT⟩
            · exact k2 q hq
          · simp at h
        · simp at h
      · rename_i hw
        rw [if_neg hw]
        split at h
        · rename_i r hr
          simp only [Option.some.injEq] at h; subst h
          have hO' : Off (if isEff P o.op = true then plusT tab (I.ad.getD k []) X else X) E := by split <;> assumption
          obtain ⟨k1, k2⟩ := evHistF_fr hf hn hO' hT hr
          have : (if isEff P o.op = true then plusT tab (I.ad.getD k []) (X.plus E) else X.plus E) = (if isEff P o.op = true then plusT tab (I.ad.getD k []) X else X).plus E := by
            split
            · exact p1.symm
            · rfl
          rw [this]
          simp only [k1]
          refine ⟨rfl, fun q hq => ?_⟩
          rcases List.mem_cons.1 hq with rfl | hq
          · exact ⟨hO, hT⟩
          · exact k2 q hq
        · simp at h
/-- what is read elsewhere, with more blocks -/
theorem ob_fr (hf : CallFr call) {o : Oper} {τ : Tm} {A B : AH} (hA : Off A E) (hB : Off B E) {v : AV} {A' : AH} (hv : evO P call o τ A = some (v, A')) (h : evO P call o τ B = (evO P call o τ A).map fun r => (r.1, B)) :
    evO P call o τ (B.plus E) = (evO P call o τ (A.plus E)).map fun r => (r.1, B.plus E) := by
  rw [hv] at h
  simp only [Option.map_some] at h
  rw [(evO_fr hf hA hv).1, (evO_fr hf hB h).1]; rfl
theorem obF_fr (hf : CallFr call) {ops : Array Oper} {I : FI} {hs : List (Tm × AH × Tab)} {tab : Tab} (hO : ∀ q ∈ hs, Off q.2.1 E ∧ TabOff E q.2.2) (hT : TabOff E tab) {q : Nat × Nat × List Nat} (h : ObF P call ops I hs tab q) :
    ObF P call ops I (hs.map fun q => (q.1, q.2.1.plus E, q.2.2)) tab q := by
  unfold ObF at h ⊢
  simp only [List.getElem?_map]
  split at h
  · rename_i τ X t τp Xp tp o e1 e2 e3
    simp only [e1, e2, e3, Option.map_some]
    intro hw
    obtain ⟨v, A, B, h1, h2⟩ := h hw
    obtain ⟨p1, p2⟩ := plusT_fr (hO _ (List.mem_of_getElem? e1)).1 t (I.ad.getD q.1 []) (hO _ (List.mem_of_getElem? e1)).2
    obtain ⟨r1, r2⟩ := plusT_fr (hO _ (List.mem_of_getElem? e2)).1 tab q.2.2 hT
    refine ⟨v, A.plus E, B.plus E, ?_, ?_⟩
    · rw [← r1]; exact (evO_fr hf r2 h1).1
    · rw [← p1]; exact (evO_fr hf p2 h2).1
  · exact h.elim
theorem evFlt_fr (hf : CallFr call) (hO : Off X E) {ops : Array Oper} {I : FI} {τ τ' : Tm} {X' : AH} (h : evFlt P call ops I τ X = some (τ', X')) : evFlt P call ops I τ (X.plus E) = some (τ', X'.plus E) ∧ Off X' E := by
  unfold evFlt at h ⊢
  have hn : ∀ b, X.next ≤ b → E b = none := fun b hb => by
    cases he : E b with
    | none => rfl
    | some x => have := (hO b x he).2; omega
  have hO0 : Off (X.res I.fl.length) E := fun b x hb => by
    have := hO b x hb
    exact ⟨by show (if _ then _ else _) = _; rw [if_neg (by omega)]; exact this.1, by show b < X.next + I.fl.length; omega⟩
  split at h
  · rename_i hs hh
    obtain ⟨k1, k2⟩ := evHistF_fr hf hn hO0 (fun f b x hl => by simp [List.lookup] at hl) hh
    have e0 : (X.plus E).res I.fl.length = (X.res I.fl.length).plus E := by
      refine AH.ext' (fun b => ?_) rfl
      show (if _ then _ else _) = (match E b with | some x => some x | none => if _ then _ else _)
      cases he : E b with
      | none => simp only [plus_next, plus_get, he]
      | some x => have := (hO b x he).2; simp only [plus_next, plus_get, he]; rw [if_neg (by omega)]
    rw [plus_next, e0, k1]
    simp only [List.getLast?_map]
    split at h
    · rename_i τ1 X1 tab hl
      simp only [hl, Option.map_some]
      split at h
      · rename_i ho
        simp only [Option.some.injEq, Prod.mk.injEq] at h; obtain ⟨rfl, rfl⟩ := h
        have hq := k2 _ (List.mem_of_getLast? hl)
        obtain ⟨p1, p2⟩ := plusT_fr hq.1 tab I.fin hq.2
        rw [if_pos ((ObsF_iff P call ops I).2 fun q hq' => obF_fr hf k2 hq.2 ((ObsF_iff P call ops I).1 ho q hq')), p1]
        exact ⟨rfl, p2⟩
      · simp at h
    · simp at h
  · simp at h
theorem evDraw_fr (hf : CallFr call) (hO : Off X E) {ops : Array Oper} {τ τ' : Tm} {X' : AH} (h : evDraw P call ops τ X = some (τ', X')) : evDraw P call ops τ (X.plus E) = some (τ', X'.plus E) ∧ Off X' E := by
  unfold evDraw at h ⊢
  split at h
  · rename_i hd
    rw [if_pos hd]
    unfold evDraw1 at h ⊢
    rw [if_pos hd] at h ⊢
    split at h
    · rename_i hl
      rw [if_pos hl]; exact evOps_fr hf hO h
    · rename_i hl
      rw [if_neg hl]
      split at h
      · rename_i hs hh
        obtain ⟨k1, k2⟩ := evHist_fr hf hO hh
        rw [k1]
        split at h
        · rename_i ho
          have hlast := List.mem_of_getLast? h
          refine ⟨?_, k2 _ hlast⟩
          simp only
          rw [if_pos, List.getLast?_map, h]
          · rfl
          · intro q hq
            have hq1 := ho q hq
            unfold ObOk at hq1 ⊢
            simp only [List.getElem?_map]
            split at hq1
            · rename_i τ1 H1 τp Hp o e1 e2 e3
              simp only [e1, e2, e3, Option.map_some]
              intro hw
              obtain ⟨_, _, h3⟩ := evHist_facts hh
              have e3' : ops.toList[q.1]? = some o := by simpa using e3
              obtain ⟨τa, Ha, τb, Hb, f1, f2, f3⟩ := h3 q.1 o e3'
              rw [e1] at f1
              simp only [Option.some.injEq, Prod.mk.injEq] at f1
              obtain ⟨rfl, rfl⟩ := f1
              unfold stepA at f3
              rw [if_pos hw] at f3
              split at f3
              · rename_i v A' hv
                exact ob_fr hf (k2 _ (List.mem_of_getElem? e1)) (k2 _ (List.mem_of_getElem? e2)) hv (hq1 hw)
              · simp at f3
            · exact hq1.elim
        · simp at h
      · simp at h
  · rename_i hd
    rw [if_neg hd]
    split at h
    · rename_i I hI
      exact evFlt_fr hf hO h
    · simp at h
theorem iter_fr {f : Tm → AH → Out} (hg : ∀ τ X e τ' X', f τ X = some (e, τ', X') → Off X E → f τ (X.plus E) = some (e, τ', X'.plus E) ∧ Off X' E) : ∀ (n : Nat) {τ : Tm} {X : AH} {e : Ex} {τ' : Tm} {X' : AH}, Off X E → iter f n τ X = some (e, τ', X') → iter f n τ (X.plus E) = some (e, τ', X'.plus E) ∧ Off X' E
  | 0, τ, X, e, τ', X', hO, h => by simp [iter] at h
  | n + 1, τ, X, e, τ', X', hO, h => by
    simp only [iter] at h ⊢
    split at h
    · rename_i τ1 X1 h1
      obtain ⟨g1, g2⟩ := hg _ _ _ _ _ h1 hO
      rw [g1]; exact iter_fr hg n g2 h
    · rename_i hne
      obtain ⟨g1, g2⟩ := hg _ _ _ _ _ h hO
      rw [g1]
      cases e with
      | normal => exact (hne _ _ h).elim
      | exit id => exact ⟨rfl, g2⟩
      | ret => exact ⟨rfl, g2⟩
theorem evCode_fr (hf : CallFr call) (n : Nat) : ∀ (c : Code) {τ : Tm} {X : AH} {e : Ex} {τ' : Tm} {X' : AH}, Off X E → evCode P call n c τ X = some (e, τ', X') → evCode P call n c τ (X.plus E) = some (e, τ', X'.plus E) ∧ Off X' E
  | .skip, τ, X, e, τ', X', hO, h => by
    simp only [evCode, Option.some.injEq, Prod.mk.injEq] at h ⊢; obtain ⟨rfl, rfl, rfl⟩ := h; exact ⟨⟨rfl, rfl, rfl⟩, hO⟩
  | .label _, τ, X, e, τ', X', hO, h => by
    simp only [evCode, Option.some.injEq, Prod.mk.injEq] at h ⊢; obtain ⟨rfl, rfl, rfl⟩ := h; exact ⟨⟨rfl, rfl, rfl⟩, hO⟩
  | .region id ops draw, τ, X, e, τ', X', hO, h => by
    simp only [evCode] at h ⊢
    cases draw with
    | true =>
      simp only [if_true] at h ⊢
      split at h
      · rename_i τ1 X1 h1
        simp only [Option.some.injEq, Prod.mk.injEq] at h; obtain ⟨rfl, rfl, rfl⟩ := h
        obtain ⟨g1, g2⟩ := evDraw_fr hf hO h1
        rw [g1]; exact ⟨rfl, g2⟩
      · simp at h
    | false =>
      simp only [Bool.false_eq_true, if_false] at h ⊢
      split at h
      · rename_i τ1 X1 h1
        simp only [Option.some.injEq, Prod.mk.injEq] at h; obtain ⟨rfl, rfl, rfl⟩ := h
        obtain ⟨g1, g2⟩ := evOps_fr hf hO h1
        rw [g1]; exact ⟨rfl, g2⟩
      · simp at h
  | .seq a b, τ, X, e, τ', X', hO, h => by
    simp only [evCode] at h ⊢
    split at h
    · rename_i τ1 X1 h1
      obtain ⟨g1, g2⟩ := evCode_fr hf n a hO h1
      rw [g1]; exact evCode_fr hf n b g2 h
    · rename_i hne
      obtain ⟨g1, g2⟩ := evCode_fr hf n a hO h
      rw [g1]
      cases e with
      | normal => exact (hne _ _ h).elim
      | exit id => exact ⟨rfl, g2⟩
      | ret => exact ⟨rfl, g2⟩
  | .cond c a b, τ, X, e, τ', X', hO, h => by
    simp only [evCode] at h ⊢
    split at h
    · rename_i q hq
      cases q with
      | true => exact evCode_fr hf n a hO h
      | false => exact evCode_fr hf n b hO h
    · simp at h
  | .block id a, τ, X, e, τ', X', hO, h => by
    simp only [evCode] at h ⊢
    split at h
    · rename_i id' τ1 X1 h1
      obtain ⟨g1, g2⟩ := evCode_fr hf n a hO h1
      rw [g1]
      split at h
      · rename_i hid
        simp only [Option.some.injEq, Prod.mk.injEq] at h; obtain ⟨rfl, rfl, rfl⟩ := h
        simp only [hid, if_true]; exact ⟨trivial, g2⟩
      · rename_i hid
        simp only [Option.some.injEq, Prod.mk.injEq] at h; obtain ⟨rfl, rfl, rfl⟩ := h
        simp only [hid, if_false]; exact ⟨trivial, g2⟩
    · rename_i hne
      obtain ⟨g1, g2⟩ := evCode_fr hf n a hO h
      rw [g1]
      cases e with
      | normal => exact ⟨rfl, g2⟩
      | exit id' => exact (hne _ _ _ h).elim
      | ret => exact ⟨rfl, g2⟩
  | .loop a, τ, X, e, τ', X', hO, h => by
    simp only [evCode] at h ⊢
    exact iter_fr (fun τ X e τ' X' h hO => evCode_fr hf n a hO h) n hO h
  | .exit id, τ, X, e, τ', X', hO, h => by
    simp only [evCode, Option.some.injEq, Prod.mk.injEq] at h ⊢; obtain ⟨rfl, rfl, rfl⟩ := h; exact ⟨⟨rfl, rfl, rfl⟩, hO⟩
  | .scope a, τ, X, e, τ', X', hO, h => by
    simp only [evCode] at h ⊢; exact evCode_fr hf n a hO h
  | .ret, τ, X, e, τ', X', hO, h => by
    simp only [evCode, Option.some.injEq, Prod.mk.injEq] at h ⊢; obtain ⟨rfl, rfl, rfl⟩ := h; exact ⟨⟨rfl, rfl, rfl⟩, hO⟩
  | .rangeFunc .., τ, X, e, τ', X', hO, h => by simp [evCode] at h
  | .goto .., τ, X, e, τ', X', hO, h => by simp [evCode] at h
  | .refuse .., τ, X, e, τ', X', hO, h => by simp [evCode] at h
theorem resL_fr (hO : Off X E) {τ : Tm} : ∀ {rs : List ResultVar} {l : List AV}, resL P τ X rs = some l → resL P τ (X.plus E) rs = some l
  | [], l, h => h
  | r :: rs, l, h => by
    simp only [resL] at h ⊢
    split at h
    · rename_i a b ha hb
      have : resR P τ (X.plus E) r = some a := by
        cases r with
        | tmp t => exact ha
        | cell x t =>
          simp only [resR] at ha ⊢
          split at ha
          · exact ldVar_fr hO ha
          · simp at ha
      rw [this, resL_fr hO hb]; exact h
    · simp at h
theorem resA_fr (hO : Off X E) {τ : Tm} {rs : List ResultVar} {r : AV} (h : resA P rs τ X = some r) : resA P rs τ (X.plus E) = some r := by
  unfold resA at h ⊢
  split at h
  · rename_i a hl; rw [resL_fr hO hl]; exact h
  · rename_i l hne hl
    rw [resL_fr hO hl]
    match l, hne, h with
    | [], _, h => exact h
    | [a], hne, _ => exact (hne a rfl).elim
    | _ :: _ :: _, _, h => exact h
  · simp at h
end
theorem ev_fr {P : Program} : ∀ n, CallFr (ev P n)
  | 0 => fun f args X v X' h => by simp [ev] at h
  | n + 1 => fun f args X v X' h E hO => by
    simp only [ev] at h ⊢
    split at h
    · rename_i fn hf
      split at h
      · rename_i hok
        rw [if_pos hok]
        unfold evFn at h ⊢
        split at h
        · rename_i c hb
          have fin : ∀ {τ : Tm} {Y : AH}, Off Y E → ((resA P fn.results.toList τ Y).map fun r => (r, Y)) = some (v, X') → ((resA P fn.results.toList τ (Y.plus E)).map fun r => (r, Y.plus E)) = some (v, X'.plus E) ∧ Off X' E := fun {τ Y} hY h => by
            simp only [Option.map_eq_some_iff, Prod.mk.injEq] at h ⊢
            obtain ⟨a, h1, rfl, rfl⟩ := h
            exact ⟨⟨a, resA_fr hY h1, rfl, rfl⟩, hY⟩
          split at h
          · rename_i τ1 Y h1
            obtain ⟨g1, g2⟩ := evCode_fr (ev_fr n) n c hO h1
            rw [g1]; exact fin g2 h
          · rename_i τ1 Y h1
            obtain ⟨g1, g2⟩ := evCode_fr (ev_fr n) n c hO h1
            rw [g1]; exact fin g2 h
          · simp at h
        · simp at h
      · simp at h
    · simp at h
end Go.Ev

/- Every order of a region comes to what the text's order does. -/
namespace Go.Ev
open Go Go.RowKit
set_option linter.unusedSimpArgs false
set_option linter.unusedVariables false
set_option linter.unusedSectionVars false
set_option linter.unnecessarySimpa false

/-- what an operation's value is in the run of the text -/
structure Run (P : Program) (call : CallF) (ops : Array Oper) where
  T : Nat → Tm
  G : Nat → AH
  V : Nat → AV
  step : ∀ k o, ops[k]? = some o → T (k + 1) = put (T k) o.dst (V k) ∧
    ((wantA ops (T k) o = true ∧ evO P call o (T k) (G k) = some (V k, G (k + 1))) ∨ (wantA ops (T k) o = false ∧ V k = U ∧ G (k + 1) = G k))

section
variable {P : Program} {w0 : World} {call : CallF} {ops : Array Oper}

theorem run_of {τ : Tm} {H : AH} {hs : List (Tm × AH)} (h : evHist P call ops ops.toList τ H = some hs) :
    ∃ R : Run P call ops, R.T 0 = τ ∧ R.G 0 = H ∧ hs.getLast? = some (R.T ops.size, R.G ops.size) ∧ ∀ k, k ≤ ops.size → hs[k]? = some (R.T k, R.G k) := by
  obtain ⟨h1, h2, h3⟩ := evHist_facts h
  have hlen : hs.length = ops.size + 1 := by simpa using h1
  have hget : ∀ k, k ≤ ops.size → hs[k]? = some (hs.getD k (τ, H)) := by
    intro k hk
    rw [List.getD_eq_getElem?_getD, List.getElem?_eq_getElem (by omega)]; rfl
  refine ⟨⟨fun k => (hs.getD k (τ, H)).1, fun k => (hs.getD k (τ, H)).2, fun k => match ops[k]? with
    | some o => if wantA ops (hs.getD k (τ, H)).1 o then (match evO P call o (hs.getD k (τ, H)).1 (hs.getD k (τ, H)).2 with | some (v, _) => v | none => U) else U
    | none => U, ?_⟩, ?_, ?_, ?_, ?_⟩
  · intro k o hk
    have hk' : ops.toList[k]? = some o := by simpa using hk
    have hlt : k < ops.size := by
      rcases Nat.lt_or_ge k ops.size with hh | hh
      · exact hh
      · rw [Array.getElem?_eq_none hh] at hk; simp at hk
    obtain ⟨τ1, H1, τ2, H2, e1, e2, e3⟩ := h3 k o hk'
    rw [hget k (by omega)] at e1
    rw [hget (k + 1) (by omega)] at e2
    simp only [Option.some.injEq] at e1 e2
    simp only [e1, e2, hk]
    unfold stepA at e3
    split at e3
    · rename_i hw
      rw [hw]
      split at e3
      · rename_i v H' hv
        simp only [Option.some.injEq, Prod.mk.injEq] at e3
        obtain ⟨rfl, rfl⟩ := e3
        simp only [hv, if_true]
        exact ⟨trivial, .inl ⟨trivial, trivial⟩⟩
      · simp at e3
    · rename_i hw
      simp only [Option.some.injEq, Prod.mk.injEq] at e3
      obtain ⟨rfl, rfl⟩ := e3
      simp only [hw, if_false, Bool.false_eq_true]
      exact ⟨trivial, .inr ⟨by simpa using hw, trivial, trivial⟩⟩
  · simp only [List.getD_eq_getElem?_getD, h2, Option.getD_some]
  · simp only [List.getD_eq_getElem?_getD, h2, Option.getD_some]
  · rw [List.getLast?_eq_getElem?, hlen]
    simp only [Nat.add_sub_cancel]
    exact hget _ (Nat.le_refl _)
  · intro k hk; exact hget k hk

/-- the slots behind the operations of a set -/
def TS (R : Run P call ops) (S : Nat → Bool) : Nat → Tm
  | 0 => R.T 0
  | k + 1 => if S k then put (TS R S k) ((ops[k]?).bind (·.dst)) (R.V k) else TS R S k
/-- behind which place the effects of a set end -/
def cut (P : Program) (ops : Array Oper) (S : Nat → Bool) : Nat → Nat
  | 0 => 0
  | k + 1 => if S k && effAt P ops k then k + 1 else cut P ops S k

theorem put_ne {τ : Tm} {d : Option Nat} {v : AV} {t : Nat} (h : d ≠ some t) : put τ d v t = τ t := by
  cases d with
  | none => rfl
  | some d =>
    simp only [Ev.put, upd]
    rw [if_neg]
    intro e; subst e; exact h rfl
theorem put_eq (τ : Tm) (v : AV) (t : Nat) : put τ (some t) v t = v := by simp [Ev.put, upd]
theorem Run.T_succ (R : Run P call ops) {k : Nat} (hk : k < ops.size) : R.T (k + 1) = put (R.T k) ((ops[k]?).bind (·.dst)) (R.V k) := by
  have h := (R.step k ops[k] (by simp [hk])).1
  rw [h]; simp [hk]
theorem Run.G_keep (R : Run P call ops) {p : Nat} : ∀ {i : Nat}, p ≤ i → i ≤ ops.size → (∀ j, p ≤ j → j < i → effAt P ops j = false) → R.G p = R.G i
  | 0, hp, _, _ => by have : p = 0 := by omega
                      subst this; rfl
  | i + 1, hp, hi, h => by
    by_cases he : p = i + 1
    · subst he; rfl
    · have ih := Run.G_keep R (p := p) (i := i) (by omega) (by omega) (fun j h1 h2 => h j h1 (by omega))
      rw [ih]
      have hi' : i < ops.size := by omega
      have hst := (R.step i ops[i] (by simp [hi'])).2
      rcases hst with ⟨_, hv⟩ | ⟨_, _, hg⟩
      · have hne : isEff P ops[i].op = false := by
          have := h i (by omega) (by omega)
          simpa [effAt, hi'] using this
        exact (evO_noEff hne hv).symm
      · exact hg.symm

theorem cut_le (S : Nat → Bool) : ∀ n, cut P ops S n ≤ n
  | 0 => Nat.le_refl _
  | n + 1 => by
    simp only [cut]
    split
    · exact Nat.le_refl _
    · exact Nat.le_succ_of_le (cut_le S n)
theorem cut_above (S : Nat → Bool) : ∀ n j, cut P ops S n ≤ j → j < n → ¬ (S j = true ∧ effAt P ops j = true)
  | 0, j, _, h => by omega
  | n + 1, j, h1, h2 => by
    simp only [cut] at h1
    split at h1
    · omega
    · rename_i hc
      by_cases he : j = n
      · subst he; simpa using hc
      · exact cut_above S n j h1 (by omega)
theorem cut_pos (S : Nat → Bool) : ∀ n, cut P ops S n = 0 ∨ ∃ j, cut P ops S n = j + 1 ∧ j < n ∧ S j = true ∧ effAt P ops j = true
  | 0 => .inl rfl
  | n + 1 => by
    simp only [cut]
    split
    · rename_i hc
      rw [Bool.and_eq_true] at hc
      exact .inr ⟨n, rfl, by omega, hc.1, hc.2⟩
    · rcases cut_pos S n with h | ⟨j, h1, h2, h3⟩
      · exact .inl h
      · exact .inr ⟨j, h1, by omega, h3⟩
theorem effAt_of {j : Nat} (h : effAt P ops j = true) : ∃ o, ops[j]? = some o ∧ isEff P o.op = true := by
  unfold effAt at h
  split at h
  · rename_i o ho; exact ⟨o, ho, h⟩
  · simp at h
theorem lt_of_get {j : Nat} {o : Oper} (h : ops[j]? = some o) : j < ops.size := by
  rcases Nat.lt_or_ge j ops.size with hh | hh
  · exact hh
  · rw [Array.getElem?_eq_none hh] at h; simp at h

/-- a set of operations that holds with each what binds it -/
def Closed (ops : Array Oper) (S : Nat → Bool) : Prop := ∀ j o, S j = true → ops[j]? = some o → ∀ e ∈ o.after.toList, Region.binds .any e = true → S e.on = true
def ReadyAt (ops : Array Oper) (S : Nat → Bool) (i : Nat) (o : Oper) : Prop := ops[i]? = some o ∧ S i = false ∧ ∀ e ∈ o.after.toList, Region.binds .any e = true → S e.on = true
def add (S : Nat → Bool) (i : Nat) : Nat → Bool := fun k => if k = i then true else S k

theorem names_dst {o : Oper} {d : Nat} (h : o.dst = some d) : d ∈ namesO ops o := by unfold namesO; simp [h]
theorem names_opnd {o : Oper} {t : Nat} (h : Operand.tmp t ∈ o.op.operands.toList) : t ∈ namesO ops o := by
  unfold namesO
  simp only [List.mem_append, List.mem_filterMap]
  exact .inl (.inl ⟨.tmp t, h, rfl⟩)
theorem names_guard {o : Oper} {j : Nat} {want : Bool} (h : o.guard = some (j, want)) {d : Nat} (hd : (ops[j]?).bind (·.dst) = some d) : d ∈ namesO ops o := by
  unfold namesO; simp [h, hd]
theorem clash_l {x y : Oper} {d : Nat} (h : x.dst = some d) (hd : d ∈ namesO ops y) : clash ops x y = true := by
  unfold clash; rw [h]; simp [hd]
theorem clash_r {x y : Oper} {d : Nat} (h : y.dst = some d) (hd : d ∈ namesO ops x) : clash ops x y = true := by
  unfold clash; rw [h]; simp [hd]

section
variable (he : edgesOk ops = true) (hp : pairsOk P ops = true) {S : Nat → Bool} (hS : Closed ops S) {i : Nat} {o : Oper} (hr : ReadyAt ops S i o)
include he hp hS hr
theorem ready_before {j : Nat} (h : bef ops j i = true) : S j = true :=
  bef_ready he (fun k => S k = true) hS hr.1 hr.2.2 h
theorem ready_after {j : Nat} (h : bef ops i j = true) : S j = false := by
  cases hj : S j with
  | false => rfl
  | true =>
    have := bef_closed he (fun k => S k = true) hS j i hj h
    rw [hr.2.1] at this; simp at this
theorem clash_before {k : Nat} {x : Oper} (hx : ops[k]? = some x) (hk : k < i) (hc : clash ops x o = true) : S k = true :=
  ready_before he hp hS hr (pairs_of hp hx hr.1 hk (.inl hc))
theorem clash_after {k : Nat} {x : Oper} (hx : ops[k]? = some x) (hk : i < k) (hc : clash ops o x = true) : S k = false :=
  ready_after he hp hS hr (pairs_of hp hr.1 hx hk (.inl hc))
/-- a slot that the operation names holds what it holds in the text's run -/
theorem TS_name (R : Run P call ops) {t : Nat} (ht : t ∈ namesO ops o) : TS R S ops.size t = R.T i t := by
  have hi := lt_of_get hr.1
  have h1 : ∀ k, k ≤ i → TS R S k t = R.T k t := by
    intro k
    induction k with
    | zero => intro _; rfl
    | succ k ih =>
      intro hk
      have hk' : k < ops.size := by omega
      simp only [TS]
      rw [R.T_succ hk']
      by_cases hd : (ops[k]?).bind (·.dst) = some t
      · have hx : ops[k]? = some ops[k] := by simp [hk']
        have hd' : ops[k].dst = some t := by rw [hx] at hd; exact hd
        have hs : S k = true := clash_before he hp hS hr hx (by omega) (clash_l hd' ht)
        rw [hs, hd]
        simp only [if_true, put_eq]
      · rw [put_ne hd]
        split
        · rw [put_ne hd]; exact ih (by omega)
        · exact ih (by omega)
  have h2 : ∀ k, i ≤ k → k ≤ ops.size → TS R S k t = R.T i t := by
    intro k
    induction k with
    | zero => intro h _; have : i = 0 := by omega
              subst this; exact h1 0 (Nat.le_refl _)
    | succ k ih =>
      intro hk hks
      by_cases hik : i = k + 1
      · rw [hik]; rw [← hik]; exact h1 i (Nat.le_refl _)
      · have hk' : k < ops.size := by omega
        simp only [TS]
        split
        · rename_i hsk
          rw [put_ne]
          · exact ih (by omega) (by omega)
          · intro hd
            have hx : ops[k]? = some ops[k] := by simp [hk']
            have hd' : ops[k].dst = some t := by rw [hx] at hd; exact hd
            by_cases hki : k = i
            · subst hki; rw [hr.2.1] at hsk; simp at hsk
            · have := clash_after he hp hS hr hx (by omega) (clash_r hd' ht)
              rw [this] at hsk; simp at hsk
        · exact ih (by omega) (by omega)
  exact h2 ops.size (by omega) (Nat.le_refl _)
theorem TS_add (R : Run P call ops) : TS R (add S i) ops.size = put (TS R S ops.size) o.dst (R.V i) := by
  have hi := lt_of_get hr.1
  have key : ∀ k, k ≤ ops.size → TS R (add S i) k = if i < k then put (TS R S k) o.dst (R.V i) else TS R S k := by
    intro k
    induction k with
    | zero => intro _; simp [TS]
    | succ k ih =>
      intro hk
      have ih := ih (by omega)
      simp only [TS]
      by_cases hki : k = i
      · subst hki
        rw [ih]
        simp only [add, if_true, Nat.lt_irrefl, if_false, Nat.lt_succ_self, hr.2.1, hr.1, Option.bind_some, Bool.false_eq_true]
      · have ha : add S i k = S k := by simp [add, hki]
        rw [ha, ih]
        cases hsk : S k with
        | false =>
          simp only [Bool.false_eq_true, if_false]
          by_cases hlt : i < k
          · rw [if_pos hlt, if_pos (show i < k + 1 by omega)]
          · rw [if_neg hlt, if_neg (show ¬ i < k + 1 by omega)]
        | true =>
          simp only [if_true]
          by_cases hlt : i < k
          · rw [if_pos hlt, if_pos (show i < k + 1 by omega)]
            funext t
            have hk' : k < ops.size := by omega
            have hx : ops[k]? = some ops[k] := by simp [hk']
            by_cases h1 : o.dst = some t
            · have h2 : (ops[k]?).bind (·.dst) ≠ some t := by
                intro hd
                have hd' : ops[k].dst = some t := by rw [hx] at hd; exact hd
                have := clash_after he hp hS hr hx hlt (clash_l h1 (names_dst hd'))
                rw [this] at hsk; simp at hsk
              rw [put_ne h2, h1, put_eq, put_eq]
            · rw [put_ne h1]
              by_cases h2 : (ops[k]?).bind (·.dst) = some t
              · rw [h2, put_eq, put_eq]
              · rw [put_ne h2, put_ne h2, put_ne h1]
          · rw [if_neg hlt, if_neg (show ¬ i < k + 1 by omega)]
  rw [key _ (Nat.le_refl _), if_pos hi]
end
end
end Go.Ev

/- A region whose order is open is sound. -/
namespace Go.Ev
open Go Go.RowKit
set_option linter.unusedSimpArgs false
set_option linter.unusedVariables false
set_option linter.unusedSectionVars false

section
variable {P : Program} {w0 : World} {call : CallF} {ops : Array Oper}

theorem cut_add_ne {S : Nat → Bool} {i : Nat} (hne : effAt P ops i = false) : ∀ n, cut P ops (add S i) n = cut P ops S n
  | 0 => rfl
  | n + 1 => by
    simp only [cut]
    rw [cut_add_ne hne n]
    by_cases h : n = i
    · subst h; simp [hne]
    · simp [add, h]
theorem cut_add_eff {S : Nat → Bool} {i : Nat} (he : effAt P ops i = true) (hab : ∀ j, i < j → effAt P ops j = true → S j = false) : ∀ n, i < n → cut P ops (add S i) n = i + 1
  | 0, h => by omega
  | n + 1, h => by
    simp only [cut]
    by_cases hn : n = i
    · subst hn; simp [add, he]
    · have hn' : i < n := by omega
      rw [cut_add_eff he hab n hn']
      have : (add S i n && effAt P ops n) = false := by
        simp only [add, hn, if_false]
        cases hc : effAt P ops n with
        | false => simp
        | true => simp [hab n hn' hc]
      rw [this]; simp

section
variable (he : edgesOk ops = true) (hp : pairsOk P ops = true) {S : Nat → Bool} (hS : Closed ops S) {i : Nat} {o : Oper} (hr : ReadyAt ops S i o)
include he hp hS hr

theorem eff_above (hei : isEff P o.op = true) : ∀ j, i < j → effAt P ops j = true → S j = false := by
  intro j hj hej
  obtain ⟨x, hx, hxe⟩ := effAt_of hej
  exact ready_after he hp hS hr (pairs_of hp hr.1 hx hj (.inr ⟨hei, hxe⟩))
/-- an effect is carried out in the memory of the text's run -/
theorem eff_heap (R : Run P call ops) (hei : isEff P o.op = true) : R.G (cut P ops S ops.size) = R.G i := by
  have hi := lt_of_get hr.1
  have hcl := cut_le (P := P) (ops := ops) S ops.size
  have hle : cut P ops S ops.size ≤ i := by
    rcases cut_pos (P := P) (ops := ops) S ops.size with h | ⟨j, h1, h2, h3, h4⟩
    · omega
    · rw [h1]
      rcases Nat.lt_or_ge i j with hlt | hge
      · have := eff_above he hp hS hr hei j hlt h4
        rw [this] at h3; simp at h3
      · by_cases hji : j = i
        · subst hji; rw [hr.2.1] at h3; simp at h3
        · omega
  refine R.G_keep hle (by omega) fun j h1 h2 => ?_
  cases hej : effAt P ops j with
  | false => rfl
  | true =>
    obtain ⟨x, hx, hxe⟩ := effAt_of hej
    have hsj := ready_before he hp hS hr (pairs_of hp hx hr.1 h2 (.inr ⟨hxe, hei⟩))
    exact (cut_above (P := P) (ops := ops) S ops.size j h1 (by omega) ⟨hsj, hej⟩).elim
/-- what reads beside the effects reads the same -/
theorem rd_heap (R : Run P call ops) (hei : isEff P o.op = false) {hs : List (Tm × AH)} (hhs : ∀ k, k ≤ ops.size → hs[k]? = some (R.T k, R.G k)) (hob : ∀ q ∈ looseOf P ops, ObOk P call ops hs q)
    (hw : wantA ops (R.T i) o = true) (hv : evO P call o (R.T i) (R.G i) = some (R.V i, R.G (i + 1))) :
    evO P call o (R.T i) (R.G (cut P ops S ops.size)) = some (R.V i, R.G (cut P ops S ops.size)) := by
  have hi := lt_of_get hr.1
  have hG := evO_noEff hei hv
  rw [hG] at hv
  have hcl := cut_le (P := P) (ops := ops) S ops.size
  cases hrd : isRd o.op with
  | false => exact evO_noH hei hrd hv _
  | true =>
    by_cases hex : ∃ j, j < ops.size ∧ effAt P ops j = true ∧ ((cut P ops S ops.size ≤ j ∧ j < i) ∨ (i ≤ j ∧ j < cut P ops S ops.size))
    · have hin : (i, cut P ops S ops.size) ∈ looseOf P ops := by
        unfold looseOf
        simp only [List.mem_flatMap, List.mem_range, List.mem_filterMap]
        refine ⟨i, hi, cut P ops S ops.size, by omega, ?_⟩
        rw [if_pos]
        unfold looseB
        simp only [Bool.and_eq_true]
        refine ⟨⟨⟨?_, ?_⟩, ?_⟩, ?_⟩
        · simp [rdAt, hr.1, hrd, hei]
        · rcases cut_pos (P := P) (ops := ops) S ops.size with h | ⟨j, h1, h2, h3, h4⟩
          · simp [h]
          · simp [h1, h4]
        · rw [List.all_eq_true]
          intro j hj
          rw [List.mem_range] at hj
          cases hej : effAt P ops j with
          | false => rfl
          | true =>
            simp only [Bool.not_true, Bool.false_or]
            split
            · rename_i hlt
              cases hb : bef ops i j with
              | false => rfl
              | true =>
                have hsj := ready_after he hp hS hr hb
                obtain ⟨x, hx, hxe⟩ := effAt_of hej
                rcases cut_pos (P := P) (ops := ops) S ops.size with h | ⟨k, h1, h2, h3, h4⟩
                · omega
                · by_cases hjk : j = k
                  · subst hjk; rw [hsj] at h3; simp at h3
                  · obtain ⟨y, hy, hye⟩ := effAt_of h4
                    have := bef_closed he (fun k => S k = true) hS k j h3 (pairs_of hp hx hy (by omega) (.inr ⟨hxe, hye⟩))
                    rw [hsj] at this; simp at this
            · rename_i hge
              cases hb : bef ops j i with
              | false => rfl
              | true =>
                have hsj := ready_before he hp hS hr hb
                exact (cut_above (P := P) (ops := ops) S ops.size j (by omega) hj ⟨hsj, hej⟩).elim
        · rw [List.any_eq_true]
          obtain ⟨j, h1, h2, h3⟩ := hex
          refine ⟨j, by rw [List.mem_range]; exact h1, ?_⟩
          simp only [h2, Bool.true_and, Bool.or_eq_true, Bool.and_eq_true, decide_eq_true_eq]
          exact h3
      have := hob _ hin
      unfold ObOk at this
      simp only [hhs i (by omega), hhs _ hcl, hr.1] at this
      rw [this hw, hv]; rfl
    · have heq : R.G (cut P ops S ops.size) = R.G i := by
        rcases Nat.le_total (cut P ops S ops.size) i with hle | hle
        · refine R.G_keep hle (by omega) fun j h1 h2 => ?_
          cases hej : effAt P ops j with
          | false => rfl
          | true => exact (hex ⟨j, by omega, hej, .inl ⟨h1, h2⟩⟩).elim
        · refine (R.G_keep hle hcl fun j h1 h2 => ?_).symm
          cases hej : effAt P ops j with
          | false => rfl
          | true => exact (hex ⟨j, by omega, hej, .inr ⟨h1, h2⟩⟩).elim
      rw [heq]; exact hv

theorem Closed.add : Closed ops (add S i) := by
  intro j x hj hx e hex hb
  unfold Ev.add at hj ⊢
  split
  · rfl
  · split at hj
    · rename_i hji
      subst hji
      rw [hr.1] at hx; simp only [Option.some.injEq] at hx; subst hx
      exact hr.2.2 e hex hb
    · exact hS j x hj hx e hex hb
end

/-- the machine's state behind the operations of S -/
structure At (P : Program) (w0 : World) (n : Nat) (μ0 : Mu) (R : Run P call ops) (S : Nat → Bool) (a : Act) (w : World) : Prop where
  closed : Closed ops S
  st : ∃ μ, Ext μ0 μ ∧ St P w0 n μ (TS R S ops.size) (R.G (cut P ops S ops.size)) a w

theorem At.step (hc : CallOK P w0 call) {n : Nat} (hok : okOps n ops = true) (he : edgesOk ops = true) (hp : pairsOk P ops = true) {μ0 : Mu} {R : Run P call ops} {S : Nat → Bool} {a : Act} {w : World} (h : At P w0 n μ0 R S a w)
    {hs : List (Tm × AH)} (hhs : ∀ k, k ≤ ops.size → hs[k]? = some (R.T k, R.G k)) (hob : ∀ q ∈ looseOf P ops, ObOk P call ops hs q) {i : Nat} {o : Oper} (hr : ReadyAt ops S i o)
    {Q : Exit → Act → World → Prop} {K : Act → World → Prop} (hK : ∀ a' w', At P w0 n μ0 R (add S i) a' w' → K a' w') : wpOp P ops Q i K a w := by
  obtain ⟨hS, μ, hx0, hst⟩ := h
  have hi := lt_of_get hr.1
  have hT := TS_add he hp hS hr R
  have hg : Region.wanted o (yielded ops a.tmps) = wantA ops (R.T i) o := by
    refine wantA_sound (μ := μ) fun j want hgd d hd => ⟨by rw [hst.size]; exact okOps_dst hok hd, fun v hv => ?_⟩
    have := hst.tm d v hv
    rwa [TS_name he hp hS hr R (names_guard hgd hd)] at this
  have hOR : ∀ z ∈ o.op.operands.toList, OR μ (R.T i) a z := by
    intro z hz
    cases z with
    | tmp t =>
      have hz1 := OR.all hst.tm hst.size (okOps_get hok hr.1) _ hz
      intro v hv
      have hn := TS_name he hp hS hr R (names_opnd (ops := ops) hz)
      refine hz1 v ?_
      simp only [opnd] at hv ⊢
      rw [hn]; exact hv
    | const c => intro v hv; exact cv_sound hv
    | func f => intro v hv; simp [opnd] at hv; subst hv; simp [VR, Act.eval, VRs]
    | global g => intro v hv; simp [opnd] at hv
  have hcl := Closed.add he hp hS hr
  unfold wpOp
  rw [hr.1]
  simp only [hg]
  rcases (R.step i o hr.1).2 with ⟨hw, hv⟩ | ⟨hw, hv, hG⟩
  · rw [hw]
    simp only [if_true]
    left
    cases hei : isEff P o.op with
    | true =>
      have heq := eff_heap he hp hS hr R hei
      have hea : effAt P ops i = true := by simp [effAt, hr.1, hei]
      have hcut := cut_add_eff hea (eff_above he hp hS hr hei) ops.size hi
      refine evO_wp hc hOR hv (heq ▸ hst.rel) fun u w' μ' hx hR hu => hK _ _ ⟨hcl, μ', hx0.trans hx, ?_⟩
      rw [hT, hcut]
      exact hst.put o.dst hx hR hu
    | false =>
      have hea : effAt P ops i = false := by simp [effAt, hr.1, hei]
      have hcut := cut_add_ne (S := S) hea ops.size
      have hv' := rd_heap he hp hS hr R hei hhs hob hw hv
      refine evO_wp hc hOR hv' hst.rel fun u w' μ' hx hR hu => hK _ _ ⟨hcl, μ', hx0.trans hx, ?_⟩
      rw [hT, hcut]
      exact hst.put o.dst hx hR hu
  · rw [hw]
    simp only [Bool.false_eq_true, if_false]
    refine hK _ _ ⟨hcl, μ, hx0, ?_⟩
    rw [hT, hv]
    cases hei : isEff P o.op with
    | true =>
      have heq := eff_heap he hp hS hr R hei
      have hea : effAt P ops i = true := by simp [effAt, hr.1, hei]
      rw [cut_add_eff hea (eff_above he hp hS hr hei) ops.size hi, hG, ← heq]
      exact hst.put o.dst (Ext.refl _) hst.rel VR_U
    | false =>
      have hea : effAt P ops i = false := by simp [effAt, hr.1, hei]
      rw [cut_add_ne (S := S) hea ops.size]
      exact hst.put o.dst (Ext.refl _) hst.rel VR_U

/-- how many are not listed yet -/
def left (b : Array Bool) : Nat := (b.toList.filter (!·)).length
theorem left_set {b : Array Bool} {i : Nat} (h : b[i]? = some false) : left (b.setIfInBounds i true) + 1 = left b := by
  unfold left
  rw [Array.toList_setIfInBounds]
  rw [← Array.getElem?_toList] at h
  generalize b.toList = l at h
  induction l generalizing i with
  | nil => simp at h
  | cons x l ih =>
    cases i with
    | zero => simp at h; subst h; simp
    | succ i =>
      have := ih (by simpa using h)
      simp only [List.set_cons_succ, List.filter_cons]
      cases x <;> simp <;> omega
theorem left_zero {b : Array Bool} (h : left b = 0) : ∀ i : Nat, b.getD i true = true := by
  intro i
  unfold left at h
  rw [List.length_eq_zero_iff, List.filter_eq_nil_iff] at h
  by_cases hi : i < b.size
  · have := h b[i] (by simp)
    simpa [Array.getD, hi] using this
  · simp [Array.getD, hi]

theorem wpAny_of (hc : CallOK P w0 call) {n : Nat} (hok : okOps n ops = true) (he : edgesOk ops = true) (hp : pairsOk P ops = true) {μ0 : Mu} {R : Run P call ops}
    {hs : List (Tm × AH)} (hhs : ∀ k, k ≤ ops.size → hs[k]? = some (R.T k, R.G k)) (hob : ∀ q ∈ looseOf P ops, ObOk P call ops hs q) {Q : Exit → Act → World → Prop}
    (hQ : ∀ a w μ, Ext μ0 μ → St P w0 n μ (R.T ops.size) (R.G ops.size) a w → Q .normal a w) :
    ∀ (fuel : Nat) (b : Array Bool) (a : Act) (w : World), b.size = ops.size → left b = fuel → At P w0 n μ0 R (fun k => b.getD k false) a w → wpAny P .any ops Q fuel b a w
  | 0, b, a, w, hb, hf, hA => by
    have hall := left_zero hf
    have hallf : ∀ k, k < ops.size → b.getD k false = true := by
      intro k hk
      have := hall k
      simp [Array.getD, hb, hk] at this ⊢; exact this
    simp only [wpAny]
    refine ⟨?_, ?_⟩
    · unfold Region.ready
      rw [List.filter_eq_nil_iff]
      intro i hi
      simp [hall i]
    · obtain ⟨hS, μ, hx, hst⟩ := hA
      have hTS : ∀ k, k ≤ ops.size → TS R (fun k => b.getD k false) k = R.T k := by
        intro k
        induction k with
        | zero => intro _; rfl
        | succ k ih =>
          intro hk
          simp only [TS, hallf k (by omega), if_true]
          rw [ih (by omega), R.T_succ (by omega)]
      have hG : R.G (cut P ops (fun k => b.getD k false) ops.size) = R.G ops.size := by
        refine R.G_keep (cut_le _ _) (Nat.le_refl _) fun j h1 h2 => ?_
        cases hej : effAt P ops j with
        | false => rfl
        | true => exact (cut_above (P := P) (ops := ops) _ ops.size j h1 h2 ⟨hallf j h2, hej⟩).elim
      rw [hTS _ (Nat.le_refl _), hG] at hst
      exact hQ a w μ hx hst
  | fuel + 1, b, a, w, hb, hf, hA => by
    simp only [wpAny]
    have hmem : ∀ i, i ∈ Region.ready .any ops b → ∃ o, ReadyAt ops (fun k => b.getD k false) i o ∧ b[i]? = some false := by
      intro i hi
      unfold Region.ready at hi
      simp only [List.mem_filter, List.mem_range, Bool.and_eq_true, Bool.not_eq_true'] at hi
      obtain ⟨h1, h2, h3⟩ := hi
      refine ⟨ops[i], ⟨by simp [h1], by simp [Array.getD, hb, h1] at h2 ⊢; exact h2, ?_⟩, ?_⟩
      · intro e hex hbd
        simp only [h1, Array.getElem?_eq_getElem, Option.map_some, Option.getD_some] at h3
        rw [Array.all_eq_true'] at h3
        have := h3 e (by simpa using hex)
        simpa [hbd] using this
      · simp [Array.getD, hb, h1] at h2
        simp [hb, h1, h2]
    refine ⟨fun hnil => ?_, fun i hi => ?_⟩
    · exfalso
      -- the first that isn't listed is ready
      have hex : ∃ i : Nat, b[i]? = some false := by
        have : left b ≠ 0 := by omega
        unfold left at this
        rw [Ne, List.length_eq_zero_iff, List.filter_eq_nil_iff] at this
        have ⟨x, hx⟩ := Classical.not_forall.1 this
        have ⟨hx1, hx2⟩ := Classical.not_imp.1 hx
        have hxf : x = false := by simpa using hx2
        obtain ⟨i, hi, hxi⟩ := List.mem_iff_getElem.1 hx1
        refine ⟨i, ?_⟩
        rw [← Array.getElem?_toList, List.getElem?_eq_getElem hi, hxi, hxf]
      have hmin : ∃ i : Nat, b[i]? = some false ∧ ∀ j, j < i → b[j]? ≠ some false := by
        obtain ⟨i, hi⟩ := hex
        induction i using Nat.strongRecOn with
        | _ i ih =>
          by_cases h : ∃ j, j < i ∧ b[j]? = some false
          · obtain ⟨j, h1, h2⟩ := h
            exact ih j h1 h2
          · exact ⟨i, hi, fun j hj hb => h ⟨j, hj, hb⟩⟩
      obtain ⟨i, hi, hlo⟩ := hmin
      have hlt : i < ops.size := by
        rw [← hb]
        rcases Nat.lt_or_ge i b.size with hh | hh
        · exact hh
        · rw [Array.getElem?_eq_none hh] at hi; simp at hi
      have : i ∈ Region.ready .any ops b := by
        unfold Region.ready
        simp only [List.mem_filter, List.mem_range, Bool.and_eq_true, Bool.not_eq_true']
        refine ⟨hlt, by simp [Array.getD_eq_getD_getElem?, hi], ?_⟩
        simp only [hlt, Array.getElem?_eq_getElem, Option.map_some, Option.getD_some]
        rw [Array.all_eq_true']
        intro e hex
        cases hbd : Region.binds .any e with
        | false => simp
        | true =>
          have hon : e.on < i := by
            unfold edgesOk at he
            rw [List.all_eq_true] at he
            have := he (ops[i], i) (by rw [List.mem_zipIdx_iff_getElem?]; simp [hlt])
            rw [List.all_eq_true] at this
            have := this e (by simpa using hex)
            simpa [hbd] using this
          have := hlo e.on hon
          have hlt2 : e.on < b.size := by omega
          simp [hlt2] at this
          simp [Array.getD, hlt2, this]
      rw [hnil] at this; simp at this
    · obtain ⟨o, hr, hbi⟩ := hmem i hi
      refine hA.step hc hok he hp hhs hob hr fun a' w' hA' => ?_
      refine wpAny_of hc hok he hp hhs hob hQ fuel _ a' w' (by simpa using hb) (by have := left_set hbi; omega) ?_
      have : (fun k => (b.setIfInBounds i true).getD k false) = add (fun k => b.getD k false) i := by
        funext k
        unfold add
        rw [Array.getD_eq_getD_getElem?, Array.getElem?_setIfInBounds]
        have hlt : i < b.size := by
          rcases Nat.lt_or_ge i b.size with hh | hh
          · exact hh
          · rw [Array.getElem?_eq_none hh] at hbi; simp at hbi
        by_cases hk : k = i
        · subst hk; simp [hlt]
        · rw [if_neg (fun e => hk e.symm), if_neg hk]; simp [Array.getD_eq_getD_getElem?]
      rw [this]; exact hA'

/-- THE ORDER IS OPEN: the evaluator's run is what every order comes to. -/
theorem evDraw1_sound (hm : P.follows .mixedOrders = true) (hc : CallOK P w0 call) {n : Nat} (hok : okOps n ops = true) {id : Nat} {τ τ' : Tm} {H H' : AH} {μ : Mu} {a : Act} {w : World} (h : evDraw1 P call ops τ H = some (τ', H')) (hS : St P w0 n μ τ H a w)
    {Q : Exit → Act → World → Prop} (hQ : ∀ a' w' μ', Ext μ μ' → St P w0 n μ' τ' H' a' w' → Q .normal a' w') : (Code.region id ops true).wp P Q a w := by
  unfold evDraw1 at h
  split at h
  · rename_i hd
    unfold drawOk at hd
    rw [Bool.and_eq_true] at hd
    have key : ∃ hs, evHist P call ops ops.toList τ H = some hs ∧ hs.getLast? = some (τ', H') ∧ ∀ q ∈ looseOf P ops, ObOk P call ops hs q := by
      split at h
      · rename_i hl
        obtain ⟨hs, h1, h2⟩ := evOps_hist h
        exact ⟨hs, h1, h2, by rw [hl]; simp⟩
      · split at h
        · rename_i hs hh
          split at h
          · rename_i ho
            exact ⟨hs, hh, h, ho⟩
          · simp at h
        · simp at h
    obtain ⟨hs, hh, hlast, hob⟩ := key
    obtain ⟨R, h1, h2, h3, h4⟩ := run_of hh
    rw [hlast] at h3
    simp only [Option.some.injEq, Prod.mk.injEq] at h3
    obtain ⟨rfl, rfl⟩ := h3
    refine wp_region_any hm (wpAny_of hc hok hd.1 hd.2 h4 hob (fun a w μ' hx hst => hQ a w μ' hx hst) ops.size _ a _ (by simp) ?_ ?_)
    · unfold left; simp
    · have hf : (fun k => (Array.replicate ops.size false).getD k false) = fun _ => false := by
        funext k; simp [Array.getD_eq_getD_getElem?, Array.getElem?_replicate]
        split <;> rfl
      rw [hf]
      refine ⟨fun j o hj => by simp at hj, μ, Ext.refl _, ?_⟩
      have hTS : ∀ k, TS R (fun _ => false) k = R.T 0 := by
        intro k; induction k with
        | zero => rfl
        | succ k ih => simp [TS, ih]
      have hcut : ∀ k, cut P ops (fun _ => false) k = 0 := by
        intro k; induction k with
        | zero => rfl
        | succ k ih => simp [cut, ih]
      rw [hTS, hcut, h1, h2]
      exact ⟨hS.rel.drewN _, hS.tm, hS.size, hS.defers⟩
  · simp at h
end
end Go.Ev
