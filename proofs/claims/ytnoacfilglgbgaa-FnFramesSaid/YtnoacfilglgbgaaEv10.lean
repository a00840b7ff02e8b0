/- Lemmas of an evaluator of the given code and of what the functions answer; no condition of its own. -/
import Derived.Test.YtnoacfilglgbgaaEv5
import Derived.Test.YtnoacfilglgbgaaEv9
import Derived.Test.YtnoacfilglgbgaaEv7
import Derived.Test.YtnoacfilglgbgaaEv8
/- Open orders for simp: only the states that are looked at again are kept. -/
namespace Go.Ev
open Go Go.RowKit
set_option linter.unusedSimpArgs false
set_option linter.unusedVariables false

/-- the states at places that are wanted -/
def coll {α : Type} (need : Nat → Bool) : Nat → List α → List (Nat × α) → List (Nat × α)
  | _, [], acc => acc
  | k, x :: l, acc => coll need (k + 1) l (if need k = true then (k, x) :: acc else acc)
theorem coll_get {α : Type} (need : Nat → Bool) : ∀ (l : List α) (k : Nat) (acc : List (Nat × α)) (i : Nat), need i = true → (∀ j, k ≤ j → acc.lookup j = none) →
    (coll need k l acc).lookup i = if k ≤ i ∧ i < k + l.length then l[i - k]? else acc.lookup i
  | [], k, acc, i, hn, ha => by
    simp only [coll, List.length_nil]
    rw [if_neg (by omega)]
  | x :: l, k, acc, i, hn, ha => by
    simp only [coll, List.length_cons]
    have ha' : ∀ j, k + 1 ≤ j → (if need k = true then (k, x) :: acc else acc).lookup j = none := fun j hj => by
      split
      · have : (j == k) = false := by simp; omega
        simp only [List.lookup, this]; exact ha j (by omega)
      · exact ha j (by omega)
    rw [coll_get need l (k + 1) _ i hn ha']
    by_cases hik : i = k
    · subst hik
      rw [if_neg (by omega), if_pos hn, if_pos (by omega)]
      simp [List.lookup]
    · by_cases hc : k + 1 ≤ i ∧ i < k + 1 + l.length
      · rw [if_pos hc, if_pos (by omega)]
        rw [show i - k = (i - (k + 1)) + 1 by omega]; simp
      · rw [if_neg hc, if_neg (show ¬ (k ≤ i ∧ i < k + (l.length + 1)) by omega)]
        have hf : (i == k) = false := by simpa using hik
        by_cases hk : need k = true
        · rw [if_pos hk]; simp [List.lookup, hf]
        · rw [if_neg hk]
section
variable (P : Program) (call : CallF) (ops : Array Oper)
/-! ordered effects -/
def needS (ls : List (Nat × Nat)) (k : Nat) : Bool := ls.any fun q => q.1 == k || q.2 == k
def runS (ls : List (Nat × Nat)) : Nat → List Oper → Tm → AH → List (Nat × Tm × AH) → Option (Tm × AH × List (Nat × Tm × AH))
  | k, [], τ, H, acc => some (τ, H, if needS ls k = true then (k, τ, H) :: acc else acc)
  | k, o :: l, τ, H, acc => match stepA P call ops o τ H with
    | some (τ', H') => runS ls (k + 1) l τ' H' (if needS ls k = true then (k, τ, H) :: acc else acc)
    | none => none
theorem runS_eq (ls : List (Nat × Nat)) : ∀ (l : List Oper) (k : Nat) (τ : Tm) (H : AH) (acc : List (Nat × Tm × AH)), runS P call ops ls k l τ H acc =
    match evHist P call ops l τ H with
    | some hs => match hs.getLast? with | some r => some (r.1, r.2, coll (needS ls) k hs acc) | none => none
    | none => none
  | [], k, τ, H, acc => by simp [runS, evHist, coll]
  | o :: l, k, τ, H, acc => by
    simp only [runS, evHist]
    cases hs : stepA P call ops o τ H with
    | none => rfl
    | some r =>
      simp only
      rw [runS_eq ls l (k + 1)]
      cases hh : evHist P call ops l r.1 r.2 with
      | none => rfl
      | some hs =>
        have hne : hs ≠ [] := fun e => by have := (evHist_facts hh).1; rw [e] at this; simp at this
        simp only [coll]
        rw [List.getLast?_cons_of_ne_nil hne]
def ObSS (acc : List (Nat × Tm × AH)) : List (Nat × Nat) → Prop
  | [] => True
  | q :: l => (match acc.lookup q.1, acc.lookup q.2, ops[q.1]? with
    | some (τ, H), some (_, Hp), some o => wantA ops τ o = true → evO P call o τ Hp = (evO P call o τ H).map fun r => (r.1, Hp)
    | _, _, _ => False) ∧ ObSS acc l
theorem ObSS_eq {ls : List (Nat × Nat)} {hs : List (Tm × AH)} : ∀ (l : List (Nat × Nat)), (∀ q ∈ l, q ∈ ls) → (ObSS P call ops (coll (needS ls) 0 hs []) l ↔ ObsOk P call ops hs l)
  | [], _ => Iff.rfl
  | q :: l, h => by
    have hq := h q (by simp)
    have n1 : needS ls q.1 = true := by unfold needS; rw [List.any_eq_true]; exact ⟨q, hq, by simp⟩
    have n2 : needS ls q.2 = true := by unfold needS; rw [List.any_eq_true]; exact ⟨q, hq, by simp⟩
    have e : ∀ i, needS ls i = true → (coll (needS ls) 0 hs []).lookup i = hs[i]? := fun i hi => by
      rw [coll_get _ _ _ _ _ hi (fun _ _ => rfl)]
      by_cases hl : i < hs.length
      · rw [if_pos (by omega)]; simp
      · rw [if_neg (by omega), List.getElem?_eq_none (by omega)]; rfl
    simp only [ObSS, ObsOk, ObOk, e _ n1, e _ n2]
    rw [ObSS_eq l fun q' hq' => h q' (by simp [hq'])]
    exact Iff.rfl
open Classical in
noncomputable def evSeqG (ls : List (Nat × Nat)) (τ : Tm) (H : AH) : Option (Tm × AH) := match runS P call ops ls 0 ops.toList τ H [] with
  | some (τ', H', acc) => if ObSS P call ops acc ls then some (τ', H') else none
  | none => none
open Classical in
theorem evSeqG_eq (ls : List (Nat × Nat)) (τ : Tm) (H : AH) : evSeqG P call ops ls τ H = (match evHist P call ops ops.toList τ H with
    | some hs => if ObsOk P call ops hs ls then hs.getLast? else none
    | none => none) := by
  unfold evSeqG
  rw [runS_eq]
  cases hh : evHist P call ops ops.toList τ H with
  | none => rfl
  | some hs =>
    have hlen := (evHist_facts hh).1
    cases hl : hs.getLast? with
    | none => rw [List.getLast?_eq_none_iff] at hl; rw [hl] at hlen; simp at hlen
    | some r =>
      simp only [hl]
      by_cases ho : ObsOk P call ops hs ls
      · rw [if_pos ((ObSS_eq P call ops ls fun _ h => h).2 ho), if_pos ho]
      · rw [if_neg (fun e => ho ((ObSS_eq P call ops ls fun _ h => h).1 e)), if_neg ho]
/-! what floats -/
def needG (I : FI) (k : Nat) : Bool := I.ls.any fun q => q.1 == k || q.2.1 == k
def runG (n0 : Nat) (I : FI) : Nat → List Oper → Tm → AH → Tab → List (Nat × Tm × AH × Tab) → Option (Tm × AH × Tab × List (Nat × Tm × AH × Tab))
  | k, [], τ, X, tab, acc => some (τ, X, tab, if needG I k = true then (k, τ, X, tab) :: acc else acc)
  | k, o :: l, τ, X, tab, acc => if I.fl.contains k then match fltO P o.op τ with
      | some (s, x) => runG n0 I (k + 1) l (put τ o.dst (s.av (n0 + I.fl.idxOf k))) X (tab ++ [(k, n0 + I.fl.idxOf k, x)]) (if needG I k = true then (k, τ, X, tab) :: acc else acc)
      | none => none
    else if wantA ops τ o then match evO P call o τ (plusT tab (I.ad.getD k []) X) with
      | some (v, X') => runG n0 I (k + 1) l (put τ o.dst v) (if isEff P o.op then X' else X) tab (if needG I k = true then (k, τ, X, tab) :: acc else acc)
      | none => none
    else runG n0 I (k + 1) l (put τ o.dst U) (if isEff P o.op then plusT tab (I.ad.getD k []) X else X) tab (if needG I k = true then (k, τ, X, tab) :: acc else acc)
theorem evHistF_ne {n0 : Nat} {I : FI} {k : Nat} {l : List Oper} {τ : Tm} {X : AH} {tab : Tab} {hs : List (Tm × AH × Tab)} (h : evHistF P call n0 ops I k l τ X tab = some hs) : hs ≠ [] := fun e => by
  have := (evHistF_facts h).1; rw [e] at this; simp at this
theorem runG_eq (n0 : Nat) (I : FI) : ∀ (l : List Oper) (k : Nat) (τ : Tm) (X : AH) (tab : Tab) (acc : List (Nat × Tm × AH × Tab)), runG P call ops n0 I k l τ X tab acc =
    match evHistF P call n0 ops I k l τ X tab with
    | some hs => match hs.getLast? with | some r => some (r.1, r.2.1, r.2.2, coll (needG I) k hs acc) | none => none
    | none => none
  | [], k, τ, X, tab, acc => by simp [runG, evHistF, coll]
  | o :: l, k, τ, X, tab, acc => by
    have fin : ∀ τ' X' tab', runG P call ops n0 I (k + 1) l τ' X' tab' (if needG I k = true then (k, τ, X, tab) :: acc else acc) =
        match (match evHistF P call n0 ops I (k + 1) l τ' X' tab' with | some r => some ((τ, X, tab) :: r) | none => none) with
        | some hs => match hs.getLast? with | some r => some (r.1, r.2.1, r.2.2, coll (needG I) k hs acc) | none => none
        | none => none := fun τ' X' tab' => by
      rw [runG_eq n0 I l (k + 1)]
      cases hh : evHistF P call n0 ops I (k + 1) l τ' X' tab' with
      | none => rfl
      | some hs => simp only [coll]; rw [List.getLast?_cons_of_ne_nil (evHistF_ne P call ops hh)]
    simp only [runG, evHistF]
    split
    · cases fltO P o.op τ with
      | none => rfl
      | some r => exact fin _ _ _
    · split
      · cases evO P call o τ (plusT tab (I.ad.getD k []) X) with
        | none => rfl
        | some r => exact fin _ _ _
      · exact fin _ _ _
def ObGG (I : FI) (acc : List (Nat × Tm × AH × Tab)) (tab : Tab) : List (Nat × Nat × List Nat) → Prop
  | [] => True
  | q :: l => (match acc.lookup q.1, acc.lookup q.2.1, ops[q.1]? with
    | some (τ, X, t), some (_, Xp, _), some o => wantA ops τ o = true → ∃ v A B, evO P call o τ (plusT tab q.2.2 Xp) = some (v, A) ∧ evO P call o τ (plusT t (I.ad.getD q.1 []) X) = some (v, B)
    | _, _, _ => False) ∧ ObGG I acc tab l
theorem ObGG_eq {I : FI} {hs : List (Tm × AH × Tab)} {tab : Tab} : ∀ (l : List (Nat × Nat × List Nat)), (∀ q ∈ l, q ∈ I.ls) → (ObGG P call ops I (coll (needG I) 0 hs []) tab l ↔ ObsF P call ops I hs tab l)
  | [], _ => Iff.rfl
  | q :: l, h => by
    have hq := h q (by simp)
    have n1 : needG I q.1 = true := by unfold needG; rw [List.any_eq_true]; exact ⟨q, hq, by simp⟩
    have n2 : needG I q.2.1 = true := by unfold needG; rw [List.any_eq_true]; exact ⟨q, hq, by simp⟩
    have e : ∀ i, needG I i = true → (coll (needG I) 0 hs []).lookup i = hs[i]? := fun i hi => by
      rw [coll_get _ _ _ _ _ hi (fun _ _ => rfl)]
      by_cases hl : i < hs.length
      · rw [if_pos (by omega)]; simp
      · rw [if_neg (by omega), List.getElem?_eq_none (by omega)]; rfl
    simp only [ObGG, ObsF, ObF, e _ n1, e _ n2]
    rw [ObGG_eq l fun q' hq' => h q' (by simp [hq'])]
    exact Iff.rfl
def goV (n0 : Nat) (I : FI) (k : Nat) (o : Oper) (l : List Oper) (τ : Tm) (X : AH) (tab : Tab) (acc : List (Nat × Tm × AH × Tab)) (r : Option (AV × AH)) : Option (Tm × AH × Tab × List (Nat × Tm × AH × Tab)) := match r with
  | some (v, X') => runG P call ops n0 I (k + 1) l (put τ o.dst v) (if isEff P o.op then X' else X) tab (if needG I k = true then (k, τ, X, tab) :: acc else acc)
  | none => none
def goF (n0 : Nat) (I : FI) (k : Nat) (o : Oper) (l : List Oper) (τ : Tm) (X : AH) (tab : Tab) (acc : List (Nat × Tm × AH × Tab)) (r : Option (Sh × Blk)) : Option (Tm × AH × Tab × List (Nat × Tm × AH × Tab)) := match r with
  | some (s, x) => runG P call ops n0 I (k + 1) l (put τ o.dst (s.av (n0 + I.fl.idxOf k))) X (tab ++ [(k, n0 + I.fl.idxOf k, x)]) (if needG I k = true then (k, τ, X, tab) :: acc else acc)
  | none => none
open Classical in
noncomputable def endG (I : FI) (r : Option (Tm × AH × Tab × List (Nat × Tm × AH × Tab))) : Option (Tm × AH) := match r with
  | some (τ', X, tab, acc) => if ObGG P call ops I acc tab I.ls then some (τ', plusT tab I.fin X) else none
  | none => none
def goS (ls : List (Nat × Nat)) (k : Nat) (l : List Oper) (τ : Tm) (H : AH) (acc : List (Nat × Tm × AH)) (r : Option (Tm × AH)) : Option (Tm × AH × List (Nat × Tm × AH)) := match r with
  | some (τ', H') => runS P call ops ls (k + 1) l τ' H' (if needS ls k = true then (k, τ, H) :: acc else acc)
  | none => none
open Classical in
noncomputable def endS (ls : List (Nat × Nat)) (r : Option (Tm × AH × List (Nat × Tm × AH))) : Option (Tm × AH) := match r with
  | some (τ', H', acc) => if ObSS P call ops acc ls then some (τ', H') else none
  | none => none
open Classical in
noncomputable def evFltG (I : FI) (τ : Tm) (H : AH) : Option (Tm × AH) := match runG P call ops H.next I 0 ops.toList τ (H.res I.fl.length) [] [] with
  | some (τ', X, tab, acc) => if ObGG P call ops I acc tab I.ls then some (τ', plusT tab I.fin X) else none
  | none => none
theorem evFltG_eq (I : FI) (τ : Tm) (H : AH) : evFltG P call ops I τ H = evFlt P call ops I τ H := by
  unfold evFltG evFlt
  rw [runG_eq]
  cases hh : evHistF P call H.next ops I 0 ops.toList τ (H.res I.fl.length) [] with
  | none => rfl
  | some hs =>
    simp only
    cases hl : hs.getLast? with
    | none => rfl
    | some r =>
      simp only [hl]
      by_cases ho : ObsF P call ops I hs r.2.2 I.ls
      · rw [if_pos ((ObGG_eq P call ops I.ls fun _ h => h).2 ho), if_pos ho]
      · rw [if_neg (fun e => ho ((ObGG_eq P call ops I.ls fun _ h => h).1 e)), if_neg ho]
end
section
variable {P : Program} {call : CallF} {ops : Array Oper} {n0 k : Nat} {I : FI} {o : Oper} {l : List Oper} {τ : Tm} {X H : AH} {tab : Tab} {acc : List (Nat × Tm × AH × Tab)} {ls : List (Nat × Nat)} {acs : List (Nat × Tm × AH)}
theorem runG_0 : runG P call ops n0 I k [] τ X tab acc = some (τ, X, tab, if needG I k = true then (k, τ, X, tab) :: acc else acc) := rfl
theorem runG_1 : runG P call ops n0 I k (o :: l) τ X tab acc = if I.fl.contains k = true then goF P call ops n0 I k o l τ X tab acc (fltO P o.op τ)
    else if wantA ops τ o = true then goV P call ops n0 I k o l τ X tab acc (evO P call o τ (plusT tab (I.ad.getD k []) X))
    else runG P call ops n0 I (k + 1) l (put τ o.dst U) (if isEff P o.op then plusT tab (I.ad.getD k []) X else X) tab (if needG I k = true then (k, τ, X, tab) :: acc else acc) := rfl
theorem goV_s (r : AV × AH) : goV P call ops n0 I k o l τ X tab acc (some r) = runG P call ops n0 I (k + 1) l (put τ o.dst r.1) (if isEff P o.op then r.2 else X) tab (if needG I k = true then (k, τ, X, tab) :: acc else acc) := rfl
theorem goF_s (r : Sh × Blk) : goF P call ops n0 I k o l τ X tab acc (some r) = runG P call ops n0 I (k + 1) l (put τ o.dst (r.1.av (n0 + I.fl.idxOf k))) X (tab ++ [(k, n0 + I.fl.idxOf k, r.2)]) (if needG I k = true then (k, τ, X, tab) :: acc else acc) := rfl
open Classical in
theorem endG_s (r : Tm × AH × Tab × List (Nat × Tm × AH × Tab)) : endG P call ops I (some r) = if ObGG P call ops I r.2.2.2 r.2.2.1 I.ls then some (r.1, plusT r.2.2.1 I.fin r.2.1) else none := rfl
theorem evFltG_e : evFltG P call ops I τ H = endG P call ops I (runG P call ops H.next I 0 ops.toList τ (H.res I.fl.length) [] []) := rfl
theorem runS_0 : runS P call ops ls k [] τ H acs = some (τ, H, if needS ls k = true then (k, τ, H) :: acs else acs) := rfl
theorem runS_1 : runS P call ops ls k (o :: l) τ H acs = goS P call ops ls k l τ H acs (stepA P call ops o τ H) := rfl
theorem goS_s (r : Tm × AH) : goS P call ops ls k l τ H acs (some r) = runS P call ops ls (k + 1) l r.1 r.2 (if needS ls k = true then (k, τ, H) :: acs else acs) := rfl
open Classical in
theorem endS_s (r : Tm × AH × List (Nat × Tm × AH)) : endS P call ops ls (some r) = if ObSS P call ops r.2.2 ls then some (r.1, r.2.1) else none := rfl
theorem evSeqG_e : evSeqG P call ops ls τ H = endS P call ops ls (runS P call ops ls 0 ops.toList τ H []) := rfl
end
end Go.Ev

/- The evaluator as rules for simp alone: an open test stays as a test, with both ways frozen behind it. -/
namespace Go.Ev
open Go Go.RowKit
set_option linter.unusedSimpArgs false
set_option linter.unusedVariables false

/-- an open test -/
def iteC {α : Type} (c : Prop) [Decidable c] (x y : α) : α := if c then x else y
theorem ifE {α : Type} {c : Prop} [Decidable c] {x y r : α} (hx : c → x = r) (hy : ¬ c → y = r) : iteC c x y = r := by unfold iteC; split <;> simp_all
theorem ifX {α β : Type} {c : Prop} [Decidable c] {x y : α} {r : β → α} {Q : β → Prop} (hx : c → ∃ b, x = r b ∧ Q b) (hy : ¬ c → ∃ b, y = r b ∧ Q b) : ∃ b, iteC c x y = r b ∧ Q b := by unfold iteC; split <;> simp_all
theorem ifX2 {α β γ : Type} {c : Prop} [Decidable c] {x y : α} {r : β → γ → α} {Q : β → γ → Prop} (hx : c → ∃ b d, x = r b d ∧ Q b d) (hy : ¬ c → ∃ b d, y = r b d ∧ Q b d) : ∃ b d, iteC c x y = r b d ∧ Q b d := by unfold iteC; split <;> simp_all

section
variable (P : Program) (call : CallF)
def valM (d : Option Nat) (τ : Tm) (r : Option (AV × AH)) : Option (Tm × AH) := match r with
  | some (v, H') => some (put τ d v, H')
  | none => none
@[irreducible] def valZ (o : Oper) (τ : Tm) (H : AH) : Option (Tm × AH) := valM o.dst τ (evO P call o τ H)
def wantM (b : Bool) (o : Oper) (τ : Tm) (H : AH) : Option (Tm × AH) := if b = true then valM o.dst τ (evO P call o τ H) else some (put τ o.dst U, H)
def evOpsM (ops : Array Oper) : List Oper → Tm → AH → Option (Tm × AH)
  | [], τ, H => some (τ, H)
  | o :: l, τ, H => match wantM P call (wantA ops τ o) o τ H with
    | some (τ', H') => evOpsM ops l τ' H'
    | none => none
def opsM (ops : Array Oper) (l : List Oper) (r : Option (Tm × AH)) : Option (Tm × AH) := match r with
  | some (τ', H') => evOpsM P call ops l τ' H'
  | none => none
theorem evOpsM_0 (ops : Array Oper) (τ : Tm) (H : AH) : evOpsM P call ops [] τ H = some (τ, H) := rfl
theorem evOpsM_1 (ops : Array Oper) (o : Oper) (l : List Oper) (τ : Tm) (H : AH) : evOpsM P call ops (o :: l) τ H = opsM P call ops l (wantM P call (wantA ops τ o) o τ H) := rfl
theorem evOpsM_eq (ops : Array Oper) : ∀ (l : List Oper) (τ : Tm) (H : AH), evOpsM P call ops l τ H = evOps P call ops l τ H
  | [], τ, H => rfl
  | o :: l, τ, H => by
    have hs : wantM P call (wantA ops τ o) o τ H = stepA P call ops o τ H := by
      unfold wantM stepA valM; rfl
    simp only [evOpsM, evOps, hs, evOpsM_eq ops l]
    cases stepA P call ops o τ H with
    | none => rfl
    | some r => rfl
open Classical in
noncomputable def evDM (i : DrI) (ops : Array Oper) (τ : Tm) (H : AH) : Option (Tm × AH) := match i with
  | .bad => none
  | .flt I => evFltG P call ops I τ H
  | .seq [] => evOpsM P call ops ops.toList τ H
  | .seq (q :: l) => evSeqG P call ops (q :: l) τ H
theorem evDM_eq (i : DrI) (ops : Array Oper) (τ : Tm) (H : AH) : evDM P call i ops τ H = evD P call i ops τ H := by
  unfold evDM evD; split
  · rfl
  · exact evFltG_eq P call ops _ _ _
  · exact evOpsM_eq P call ops _ _ _
  · exact evSeqG_eq P call ops _ _ _
def regM (r : Option (Tm × AH)) : Out := match r with
  | some (τ', H') => some (.normal, τ', H')
  | none => none
def unblk (id : Nat) (r : Out) : Out := match r with
  | some (.exit id', τ', H') => if id' = id then some (.normal, τ', H') else some (.exit id', τ', H')
  | r => r
def resM (rs : List ResultVar) (r : Out) : Option (AV × AH) := match r with
  | some (.normal, τ, H) => (resA P rs τ H).map fun r => (r, H)
  | some (.ret, τ, H) => (resA P rs τ H).map fun r => (r, H)
  | _ => none
variable (n : Nat) (f : FuncId) (st : List Nat)
noncomputable def evM (p : Nat) (c : Code) (τ : Tm) (H : AH) : Out := evK P call n f st p c τ H
/-- frozen -/
@[irreducible] noncomputable def evZ (p : Nat) (c : Code) (τ : Tm) (H : AH) : Out := evK P call n f st p c τ H
theorem evZ_eq (p : Nat) (c : Code) (τ : Tm) (H : AH) : evZ P call n f st p c τ H = evM P call n f st p c τ H := by unfold evZ evM; rfl
noncomputable def bindM (p : Nat) (b : Code) (r : Out) : Out := match r with
  | some (.normal, τ, H) => evM P call n f st p b τ H
  | r => r
noncomputable def condM (p : Nat) (a b : Code) (τ : Tm) (H : AH) (q : Option AV) : Out := match q with
  | some (.bool q) => if q = true then evM P call n f st (2 * p) a τ H else evM P call n f st (2 * p + 1) b τ H
  | _ => none
noncomputable def regionM (p : Nat) (ops : Array Oper) (draw : Bool) (τ : Tm) (H : AH) : Out := regM (if draw then evDM P call (dr P f p) ops τ H else evOpsM P call ops ops.toList τ H)
/-- a function for simp -/
noncomputable def evFM (fn : Func) (args : List AV) (H : AH) : Option (AV × AH) := match fn.body with
  | some c => resM P fn.results.toList (evM P call n f st 1 c (tm0 args) H)
  | none => none
end
section
variable {P : Program} {call : CallF} {n : Nat} {f : FuncId} {st : List Nat} {p : Nat} {τ : Tm} {H : AH} {c : Prop} [Decidable c] {id id' : Nat}
@[simp] theorem evM_skip : evM P call n f st p .skip τ H = some (.normal, τ, H) := rfl
@[simp] theorem evM_label (l : Nat) : evM P call n f st p (.label l) τ H = some (.normal, τ, H) := rfl
@[simp] theorem evM_region (i : Nat) (ops : Array Oper) (draw : Bool) : evM P call n f st p (.region i ops draw) τ H = if p ∈ st then evAt P call n f p τ H else regionM P call f p ops draw τ H := by
  simp only [evM, evK, regionM, evDM_eq, evOpsM_eq]; rfl
@[simp] theorem evM_seq (a b : Code) : evM P call n f st p (.seq a b) τ H = if p ∈ st then evAt P call n f p τ H else bindM P call n f st (2 * p + 1) b (evM P call n f st (2 * p) a τ H) := rfl
@[simp] theorem evM_cond (x : Operand) (a b : Code) : evM P call n f st p (.cond x a b) τ H = if p ∈ st then evAt P call n f p τ H else condM P call n f st p a b τ H (opnd τ x) := rfl
@[simp] theorem evM_block (a : Code) : evM P call n f st p (.block id a) τ H = if p ∈ st then evAt P call n f p τ H else unblk id (evM P call n f st (2 * p) a τ H) := rfl
@[simp] theorem evM_loop (a : Code) : evM P call n f st p (.loop a) τ H = evLoop P call n (lp P f p) τ H := rfl
@[simp] theorem evM_exit : evM P call n f st p (.exit id) τ H = some (.exit id, τ, H) := rfl
@[simp] theorem evM_scope (a : Code) : evM P call n f st p (.scope a) τ H = if p ∈ st then evAt P call n f p τ H else evM P call n f st (2 * p) a τ H := rfl
@[simp] theorem evM_ret : evM P call n f st p .ret τ H = some (.ret, τ, H) := rfl
@[simp] theorem bindM_n (b : Code) : bindM P call n f st p b (some (.normal, τ, H)) = evM P call n f st p b τ H := rfl
@[simp] theorem bindM_r (b : Code) : bindM P call n f st p b (some (.ret, τ, H)) = some (.ret, τ, H) := rfl
@[simp] theorem bindM_e (b : Code) : bindM P call n f st p b (some (.exit id, τ, H)) = some (.exit id, τ, H) := rfl
@[simp] theorem bindM_0 (b : Code) : bindM P call n f st p b none = none := rfl
@[simp] theorem unblk_n : unblk id (some (.normal, τ, H)) = some (.normal, τ, H) := rfl
@[simp] theorem unblk_r : unblk id (some (.ret, τ, H)) = some (.ret, τ, H) := rfl
@[simp] theorem unblk_e : unblk id (some (.exit id', τ, H)) = if id' = id then some (.normal, τ, H) else some (.exit id', τ, H) := rfl
@[simp] theorem unblk_0 : unblk id none = none := rfl
@[simp] theorem condM_t (a b : Code) : condM P call n f st p a b τ H (some (.bool true)) = evM P call n f st (2 * p) a τ H := rfl
@[simp] theorem condM_f (a b : Code) : condM P call n f st p a b τ H (some (.bool false)) = evM P call n f st (2 * p + 1) b τ H := rfl
@[simp] theorem condM_d (a b : Code) : condM P call n f st p a b τ H (some (.bool (decide c))) = iteC c (evZ P call n f st (2 * p) a τ H) (evZ P call n f st (2 * p + 1) b τ H) := by
  unfold iteC; by_cases h : c <;> simp [condM, h, evZ_eq]
@[simp] theorem condM_nd (a b : Code) : condM P call n f st p a b τ H (some (.bool (!decide c))) = iteC c (evZ P call n f st (2 * p + 1) b τ H) (evZ P call n f st (2 * p) a τ H) := by
  unfold iteC; by_cases h : c <;> simp [condM, h, evZ_eq]
theorem condM_b (a b : Code) (q : Bool) : condM P call n f st p a b τ H (some (.bool q)) = iteC (q = true) (evZ P call n f st (2 * p) a τ H) (evZ P call n f st (2 * p + 1) b τ H) := by
  unfold iteC; cases q <;> simp [condM, evZ_eq]
@[simp] theorem regM_s (r : Tm × AH) : regM (some r) = some (.normal, r.1, r.2) := rfl
@[simp] theorem regM_0 : regM none = none := rfl
@[simp] theorem opsM_s (ops : Array Oper) (l : List Oper) (r : Tm × AH) : opsM P call ops l (some r) = evOpsM P call ops l r.1 r.2 := rfl
@[simp] theorem opsM_0 (ops : Array Oper) (l : List Oper) : opsM P call ops l none = none := rfl
@[simp] theorem valM_s {d : Option Nat} (r : AV × AH) : valM d τ (some r) = some (put τ d r.1, r.2) := rfl
@[simp] theorem valM_0 {d : Option Nat} : valM d τ none = none := rfl
@[simp] theorem wantM_t (o : Oper) : wantM P call true o τ H = valM o.dst τ (evO P call o τ H) := rfl
@[simp] theorem wantM_f (o : Oper) : wantM P call false o τ H = some (put τ o.dst U, H) := rfl
@[simp] theorem wantM_d (o : Oper) : wantM P call (decide c) o τ H = iteC c (valZ P call o τ H) (some (put τ o.dst U, H)) := by
  unfold iteC valZ; by_cases h : c <;> simp [wantM, h]
@[simp] theorem wantM_nd (o : Oper) : wantM P call (!decide c) o τ H = iteC c (some (put τ o.dst U, H)) (valZ P call o τ H) := by
  unfold iteC valZ; by_cases h : c <;> simp [wantM, h]
@[simp] theorem resM_n (rs : List ResultVar) : resM P rs (some (.normal, τ, H)) = (resA P rs τ H).map fun r => (r, H) := rfl
@[simp] theorem resM_r (rs : List ResultVar) : resM P rs (some (.ret, τ, H)) = (resA P rs τ H).map fun r => (r, H) := rfl
/-! a test is pulled ahead -/
theorem bindM_i (b : Code) (x y : Out) : bindM P call n f st p b (iteC c x y) = iteC c (bindM P call n f st p b x) (bindM P call n f st p b y) := by unfold iteC; split <;> rfl
theorem unblk_i (x y : Out) : unblk id (iteC c x y) = iteC c (unblk id x) (unblk id y) := by unfold iteC; split <;> rfl
theorem regM_i (x y : Option (Tm × AH)) : regM (iteC c x y) = iteC c (regM x) (regM y) := by unfold iteC; split <;> rfl
theorem opsM_i (ops : Array Oper) (l : List Oper) (x y : Option (Tm × AH)) : opsM P call ops l (iteC c x y) = iteC c (opsM P call ops l x) (opsM P call ops l y) := by unfold iteC; split <;> rfl
theorem valM_i {d : Option Nat} (x y : Option (AV × AH)) : valM d τ (iteC c x y) = iteC c (valM d τ x) (valM d τ y) := by unfold iteC; split <;> rfl
theorem resM_i (rs : List ResultVar) (x y : Out) : resM P rs (iteC c x y) = iteC c (resM P rs x) (resM P rs y) := by unfold iteC; split <;> rfl
theorem valZ_eq (o : Oper) : valZ P call o τ H = valM o.dst τ (evO P call o τ H) := by unfold valZ; rfl
end
theorem ev_M {P : Program} {f : FuncId} {fn : Func} (hf : P.funcs[f]? = some fn) (hok : goodFn fn = true) (st : List Nat) (n : Nat) (args : List AV) (H : AH) (hl : args.length ≤ fn.ntmps) : ev P (n + 1) f args H = evFM P (ev P n) n f st fn args H := by
  rw [ev_cut hf hok st n args H hl]; rfl
theorem at_M {P : Program} {f : FuncId} {fn : Func} (hf : P.funcs[f]? = some fn) (p : Nat) (h1 : 1 ≤ p) (k : Nat) (hk : p < 2 ^ k) (hd : decide (k + depth (sub (fn.body.getD .skip) 200 p) ≤ 198) = true) (st : List Nat) (call : CallF) (n : Nat) (τ : Tm) (H : AH) :
    evAt P call n f p τ H = evM P call n f st p (sub (fn.body.getD .skip) 200 p) τ H := at_cut hf p h1 k hk hd st call n τ H
theorem lp_M {P : Program} {f : FuncId} {fn : Func} (hf : P.funcs[f]? = some fn) (p : Nat) (h1 : 1 ≤ p) (k : Nat) (hk : p < 2 ^ k) (hd : decide (k + 1 + depth (sub (fn.body.getD .skip) 200 (2 * p)) ≤ 198) = true) (st : List Nat) (call : CallF) (n : Nat) (τ : Tm) (H : AH) :
    evCode P call n (lp P f p) τ H = evM P call n f st (2 * p) (sub (fn.body.getD .skip) 200 (2 * p)) τ H := lp_cut hf p h1 k hk hd st call n τ H
attribute [simp] evFM regionM evOpsM_0 evOpsM_1 evDM
theorem res_get (H : AH) (n b : Nat) : (H.res n).get b = if H.next ≤ b ∧ b < H.next + n then some .res else H.get b := rfl
theorem res_next (H : AH) (n : Nat) : (H.res n).next = H.next + n := rfl
attribute [simp] List.lookup_cons List.getElem?_cons_zero List.idxOf_cons List.idxOf_nil res_get res_next evFltG_e runG_0 runG_1 goV_s goF_s endG_s evSeqG_e runS_0 runS_1 goS_s endS_s needG needS ObSS ObGG plusT fltO Sh.av isEff
/-! tests that arithmetic decides (for a discharger) -/
theorem beqT {a b : Int} (h : a = b) : (a == b) = true := by simpa using h
theorem beqF {a b : Int} (h : ¬ a = b) : (a == b) = false := by simpa using h
theorem decT {p : Prop} [Decidable p] (h : p) : decide p = true := decide_eq_true h
theorem decF {p : Prop} [Decidable p] (h : ¬ p) : decide p = false := decide_eq_false h
section
variable {P : Program} {call : CallF} {n : Nat} {f : FuncId} {st : List Nat} {p : Nat} {τ : Tm} {H : AH}
@[simp] theorem condM_q (a b : Code) (x y : Int) : condM P call n f st p a b τ H (some (.bool (x == y))) = iteC (x = y) (evZ P call n f st (2 * p) a τ H) (evZ P call n f st (2 * p + 1) b τ H) := by
  unfold iteC; by_cases h : x = y <;> simp [condM, h, evZ_eq]
@[simp] theorem condM_nq (a b : Code) (x y : Int) : condM P call n f st p a b τ H (some (.bool (!(x == y)))) = iteC (x = y) (evZ P call n f st (2 * p + 1) b τ H) (evZ P call n f st (2 * p) a τ H) := by
  unfold iteC; by_cases h : x = y <;> simp [condM, h, evZ_eq]
@[simp] theorem condM_bq (a b : Code) (x y : Bool) : condM P call n f st p a b τ H (some (.bool (x == y))) = iteC (x = y) (evZ P call n f st (2 * p) a τ H) (evZ P call n f st (2 * p + 1) b τ H) := by
  unfold iteC; by_cases h : x = y <;> simp [condM, h, evZ_eq]
@[simp] theorem wantM_q (o : Oper) (x y : Int) : wantM P call (x == y) o τ H = iteC (x = y) (valZ P call o τ H) (some (put τ o.dst U, H)) := by
  unfold iteC valZ; by_cases h : x = y <;> simp [wantM, h]
@[simp] theorem wantM_nq (o : Oper) (x y : Int) : wantM P call (!(x == y)) o τ H = iteC (x = y) (some (put τ o.dst U, H)) (valZ P call o τ H) := by
  unfold iteC valZ; by_cases h : x = y <;> simp [wantM, h]
end
/-- whole numbers that need no wrapping -/
theorem wrapI {n : Int} (h : -9223372036854775808 ≤ n ∧ n ≤ 9223372036854775807) : IntKind.i64.wrap n = n := wrap_i64 h.1 h.2
theorem tmodI {a b : Int} (h : 0 ≤ a) : a.tmod b = a % b := Int.tmod_eq_emod_of_nonneg h
theorem tdivI {a b : Int} (h : 0 ≤ a) : a.tdiv b = a / b := Int.tdiv_eq_ediv_of_nonneg h
end Go.Ev

/- Frames in plain: which fields a kind has; whether a frame is right. -/
namespace Go.Ev
open Go Go.Proofs
set_option linter.unusedSimpArgs false
set_option linter.unusedVariables false

/-- the fields that a kind has: A, B, Fin, Data, Token, Ranges -/
def shapeL : List (Int × (Bool × Bool × Bool × Bool × Bool × Bool)) :=
  [(0, true, false, false, false, false, false), (1, false, false, false, false, false, false), (2, true, false, false, false, false, true), (4, true, true, false, false, false, false),
   (5, true, true, false, false, false, false), (6, true, false, false, true, false, false), (7, false, false, false, true, false, false), (8, true, true, true, true, false, false),
   (16, true, false, false, false, false, false), (17, true, true, false, false, false, false), (18, true, true, false, false, false, false), (20, true, false, false, false, false, false),
   (21, true, true, false, false, false, false), (22, true, true, false, false, false, false), (24, true, true, false, true, true, false), (25, true, false, false, false, false, false),
   (26, false, false, false, true, false, false), (27, false, false, false, true, false, false), (28, true, true, false, true, false, false), (29, true, false, false, true, false, false),
   (30, false, false, false, false, false, false), (48, false, false, false, true, false, false)]
def shC (s : Bool × Bool × Bool × Bool × Bool × Bool) : AV := .agg [.bool s.1, .bool s.2.1, .bool s.2.2.1, .bool s.2.2.2.1, .bool s.2.2.2.2.1, .bool s.2.2.2.2.2]
def shN : Bool × Bool × Bool × Bool × Bool × Bool := (false, false, false, false, false, false)
def inV (x : Int) : Prop := 0 ≤ x ∧ x ≤ 4611686018427387903
instance (x : Int) : Decidable (inV x) := by unfold inV; infer_instance
theorem findA_ints (k : Int) : ∀ (L : List (Int × AV)) (i : Nat), findA (.int .i64 k) (L.map fun q => (AV.int .i64 q.1, q.2)) i = some (match L.lookup k with | some v => some (i + (L.map (·.1)).idxOf k, v) | none => none)
  | [], i => rfl
  | (x, v) :: L, i => by
    simp only [List.map_cons, findA, sameK, if_true, List.lookup_cons]
    by_cases h : k = x
    · subst h; simp
    · have h1 : (k == x) = false := by simpa using h
      have h2 : (x == k) = false := by simpa using fun e => h e.symm
      simp only [h1, findA_ints k L (i + 1)]
      cases L.lookup k with
      | none => rfl
      | some w => simp [List.idxOf_cons, h2]; omega
theorem look_ints {P : Program} {H : AH} {b : Nat} {t kt et : TypeId} {z : AV} {k : Int} {L : List (Int × AV)} (hm : mapT P t (.int .i64 k) = some (kt, et)) (hz : zeroV P et = some z) (hb : H.get b = some (.map (L.map fun q => (AV.int .i64 q.1, q.2)))) :
    lookA P t (.map b) (.int .i64 k) H true = some (.tuple (match L.lookup k with | some v => [v, .bool true] | none => [z, .bool false])) := by
  unfold lookA
  simp only [hm, hb, findA_ints]
  cases L.lookup k with
  | none => simp [hz]
  | some v => simp
theorem mapT_i64 (k : Int) : mapT Try.prog 288 (.int .i64 k) = some (3, 197) := by simp [mapT, keyOk]
def shV : List (Int × AV) := shapeL.map fun q => (q.1, shC q.2)
theorem shV_look (k : Int) : shV.lookup k = (shapeL.lookup k).map shC := by
  unfold shV
  induction shapeL with
  | nil => rfl
  | cons q l ih =>
    obtain ⟨x, s⟩ := q
    simp only [List.map_cons, List.lookup_cons]
    cases k == x with
    | true => rfl
    | false => exact ih
set_option maxRecDepth 20000 in
set_option maxHeartbeats 2000000 in
theorem shapeOf_ev (k : Int) (H : AH) (m : Nat) (hm : 1 ≤ m) : ∃ H', ev Try.prog m 137 [.int .i64 k] H = some (.tuple [shC ((shapeL.lookup k).getD shN), .bool (shapeL.lookup k).isSome], H') ∧ Kp H H' := by
  obtain ⟨m, rfl⟩ : ∃ k, m = k + 1 := ⟨m - 1, by omega⟩
  rw [ev_M Try.func137 ok137 [7] m _ H (by simp [Try.f137])]
  have h7 : ∀ (τ : Tm) (X : AH), τ 0 = .int .i64 k → τ 2 = .ptr H.next 0 → τ 4 = .map (H.next + 1) → X.get H.next = some (.cells 197 false [.bool false, .bool false, .bool false, .bool false, .bool false, .bool false]) →
      X.get (H.next + 1) = some (.map (shV.map fun q => (AV.int .i64 q.1, q.2))) → X.next = H.next + 2 → (∀ b, b < H.next → X.get b = H.get b) →
      ∃ τ' H', evAt Try.prog (ev Try.prog m) m 137 7 τ X = some (.ret, τ', H') ∧ τ' 2 = .ptr H.next 0 ∧ H'.get H.next = some (.cells 197 false (shC ((shapeL.lookup k).getD shN)).cells) ∧ τ' 3 = .bool (shapeL.lookup k).isSome ∧ Kp H H' := by
    intro τ X t0 t2 t4 g0 g1 gn gk
    have hl := look_ints (mapT_i64 k) (z := shC shN) (by simp [shC, shN]) g1
    rw [shV_look] at hl
    rw [at_M Try.func137 7 (by decide) 3 (by decide) (by kernel_rfl) []]
    have fin : ∀ (s : Bool × Bool × Bool × Bool × Bool × Bool) (q : Bool), lookA Try.prog 288 (.map (H.next + 1)) (.int .i64 k) X true = some (.tuple [shC s, .bool q]) →
        ∃ τ' H', evM Try.prog (ev Try.prog m) m 137 [] 7 (sub (Try.f137.body.getD .skip) 200 7) τ X = some (.ret, τ', H') ∧ τ' 2 = .ptr H.next 0 ∧ H'.get H.next = some (.cells 197 false (shC s).cells) ∧ τ' 3 = .bool q ∧ Kp H H' := by
      intro s q hl
      have n0 : ¬ (H.next = X.next) := by omega
      have n1 : ¬ (X.next = H.next) := by omega
      simp only [shC] at hl ⊢
      refine ⟨_, _, by simp [Try.f137, t0, t2, t4, hl, g0, n0, n1, ldVar, stVar, spl]; exact ⟨rfl, rfl⟩, by simp [t2], by simp, by simp, ⟨by simp; omega, fun b hb => ?_⟩⟩
      simp only [AH.set_get, AH.push_get]
      rw [if_neg (by omega), if_neg (by omega)]; exact gk b hb
    cases hk : shapeL.lookup k with
    | none => rw [hk] at hl; exact fin _ _ hl
    | some s => rw [hk] at hl; exact fin _ _ hl
  have h8 : ∀ (τ : Tm) (X : AH), τ 0 = .int .i64 k → τ 2 = .ptr H.next 0 → τ 4 = .map (H.next + 1) → X.get H.next = some (.cells 197 false [.bool false, .bool false, .bool false, .bool false, .bool false, .bool false]) →
      X.get (H.next + 1) = some (.map (shV.map fun q => (AV.int .i64 q.1, q.2))) → X.next = H.next + 2 → (∀ b, b < H.next → X.get b = H.get b) →
      ∃ H', resM Try.prog [.cell 2 197, .tmp 3] (evAt Try.prog (ev Try.prog m) m 137 7 τ X) = some (.tuple [shC ((shapeL.lookup k).getD shN), .bool (shapeL.lookup k).isSome], H') ∧ Kp H H' := by
    intro τ X t0 t2 t4 g0 g1 gn gk
    obtain ⟨τ', H', e1, e2, e3, e4, e5⟩ := h7 τ X t0 t2 t4 g0 g1 gn gk
    rw [e1]
    refine ⟨H', ?_, e5⟩
    simp only [shC, AV.cells] at e3
    simp [e2, e4, ldVar, e3, shC]
  simp [Try.f137, updA, mapT, keyOk, mapPut, findA, sameK, fillA, spl]
  refine h8 _ _ (by simp [tm0]) (by simp) (by simp) (by simp) (by simp [shV, shapeL, shC]) (by simp) (fun b hb => ?_)
  have n1 : ¬ (b = H.next) := by omega
  have n2 : ¬ (b = H.next + 1) := by omega
  simp [n1, n2]
end Go.Ev

/- Ranges of a frame: whether they are right. -/
namespace Go.Ev
open Go Go.Proofs
set_option linter.unusedSimpArgs false
set_option linter.unusedVariables false

theorem inVar_ev (x : Int) (H : AH) (m : Nat) (hm : 1 ≤ m) : ev Try.prog m 138 [.int .i64 x] H = some (.bool (decide (inV x)), H) := by
  obtain ⟨m, rfl⟩ : ∃ k, m = k + 1 := ⟨m - 1, by omega⟩
  rw [ev_M Try.func138 ok138 [] m _ H (by simp [Try.f138])]
  by_cases h0 : 0 ≤ x
  · by_cases h1 : x ≤ 4611686018427387903
    · have hv : inV x := ⟨h0, h1⟩
      simp [Try.f138, tm0, h0, h1, hv]
    · have hv : ¬ inV x := fun h => h1 h.2
      simp [Try.f138, tm0, h0, h1, hv]
  · have hv : ¬ inV x := fun h => h0 h.1
    simp [Try.f138, tm0, h0, hv]
theorem l05Var_ev (x : Int) (H : AH) (m : Nat) (hm : 1 ≤ m) : ev Try.prog m 142 [.int .i64 x] H = some (.bool (decide (inV x)), H) := by
  obtain ⟨m, rfl⟩ : ∃ k, m = k + 1 := ⟨m - 1, by omega⟩
  rw [ev_M Try.func142 ok142 [] m _ H (by simp [Try.f142])]
  by_cases h0 : 0 ≤ x
  · by_cases h1 : x ≤ 4611686018427387903
    · have hv : inV x := ⟨h0, h1⟩
      simp [Try.f142, tm0, h0, h1, hv]
    · have hv : ¬ inV x := fun h => h1 h.2
      simp [Try.f142, tm0, h0, h1, hv]
  · have hv : ¬ inV x := fun h => h0 h.1
    simp [Try.f142, tm0, h0, hv]
/-- a range behind another -/
def rgO (p : Option (Int × Int)) (x : Int × Int) : Prop := x.1 ≤ x.2 ∧ inV x.1 ∧ inV x.2 ∧ (∀ q, p = some q → q.2 + 1 < x.1)
def rgL : Option (Int × Int) → List (Int × Int) → Prop
  | _, [] => True
  | p, x :: l => rgO p x ∧ rgL (some x) l
def rgOK (rs : List (Int × Int)) : Prop := rs.length ≤ 64 ∧ rgL none rs
noncomputable instance (rs : List (Int × Int)) : Decidable (rgOK rs) := Classical.propDecidable _
theorem rgAt {rw : Bool} {H : AH} {r : AV} {rs : List (Int × Int)} {bs : List Nat} (hr : (Ty.sl 94 tT94).R rw H [r] rs bs) {k : Nat} (hk : k < rs.length) :
    ∃ b o ro L, idxA Try.prog 70 r (.int .i64 k) = some (.ptr b o) ∧ b < H.next ∧ H.get b = some (.cells 94 ro L) ∧ o + 2 ≤ L.length ∧ (L.drop o).take 2 = [.int .i64 rs[k].1, .int .i64 rs[k].2] ∧ L[o]? = some (.int .i64 rs[k].1) ∧ L[o + 1]? = some (.int .i64 rs[k].2) ∧ InK .i64 rs[k].1 ∧ InK .i64 rs[k].2 := by
  obtain ⟨b, o, ro, x1, c, x2, bk, u1, u2, u3, u4, u5, u6, u7, u8⟩ := Ty.R.at_ hr (P := Try.prog) (T := 70) (by simp) (by simp [Ty.n]) (k := k) hk
  rcases hx : rs[k] with ⟨X, Y⟩
  rw [hx] at u5
  obtain ⟨rfl, _, i1, i2⟩ := o94 u5
  subst u4
  exact ⟨b, _, ro, _, u1, u2, u3, by simp, by simp, by simp, by simp, i1, i2⟩
def RgI (r : AV) (rs : List (Int × Int)) (H : AH) (d : Nat) (τ : Tm) (h : AH) : Prop :=
  ∃ (k : Nat), k + d = rs.length ∧ τ 0 = r ∧ τ 8 = r ∧ τ 9 = .int .i64 rs.length ∧ τ 10 = .int .i64 k ∧ Kp H h ∧ (rgL none rs ↔ rgL (if k = 0 then none else rs[k - 1]?) (rs.drop k)) ∧ (∀ q, 0 < k → rs[k - 1]? = some q → inV q.2)
set_option maxRecDepth 20000 in
theorem rgLoop {rw : Bool} {Hb H : AH} {r : AV} {rs : List (Int × Int)} {bs : List Nat} (hr : (Ty.sl 94 tT94).R rw Hb [r] rs bs) (hK : Kp Hb H) (hl : rs.length ≤ 64) (m : Nat) (hm : 70 ≤ m) (τ : Tm) (hI : RgI r rs H rs.length τ H) :
    ∃ e τ' H', evLoop Try.prog (ev Try.prog m) m (lp Try.prog 139 58) τ H = some (e, τ', H') ∧ Kp H H' ∧ ((e = .exit 0 ∧ rgL none rs) ∨ (e = .ret ∧ τ' 2 = .bool false ∧ ¬ rgL none rs)) := by
  refine loop_rule (d := rs.length) (RgI r rs H) (fun e τ h => Kp H h ∧ ((e = .exit 0 ∧ rgL none rs) ∨ (e = .ret ∧ τ 2 = .bool false ∧ ¬ rgL none rs))) ?_ hI (by omega)
  intro d τ h ⟨k, hk, t0, t8, t9, t10, hKh, hrg, hpq⟩
  rw [lp_M Try.func139 58 (by decide) 6 (by decide) (by kernel_rfl) []]
  by_cases hd0 : d = 0
  · subst hd0
    have hkl : ¬ ((k : Int) < rs.length) := by omega
    simp [Try.f139, t9, t10, hkl]
    refine ⟨hKh, ?_⟩
    rw [hrg, List.drop_eq_nil_of_le (by omega)]; trivial
  · have hlt : k < rs.length := by omega
    have hlt' : (k : Int) < rs.length := by omega
    have hKK := hK.trans hKh
    obtain ⟨b, o, ro, L, u1, u2, u3, L1, L2, L3, L4, i1, i2⟩ := rgAt (hr.kp hKK) hlt
    rcases hx : rs[k] with ⟨X, Y⟩
    rw [hx] at L2 L3 L4 i1 i2
    simp only at L2 L3 L4 i1 i2
    have c1 := fun H => inVar_ev X H m (by omega)
    have c2 := fun H => inVar_ev Y H m (by omega)
    have hdr : rs.drop k = (X, Y) :: rs.drop (k + 1) := by rw [List.drop_eq_getElem_cons hlt, hx]
    have w1 : IntKind.i64.wrap ((k : Int) + 1) = (k : Int) + 1 := wrap_i64 (n := (k : Int) + 1) (by omega) (by omega)
    have kp1 : ∀ B, Kp H (h.push B) := fun B => hKh.push _
    have bad : ¬ rgO (if k = 0 then none else rs[k - 1]?) (X, Y) → ¬ rgL none rs := by
      intro hb hh
      rw [hrg, hdr] at hh
      exact hb hh.1
    have nb : ¬ (h.next = b) := by omega
    by_cases q1 : X ≤ Y
    · have hn1 : (Y < X) = False := eq_false (by omega)
      by_cases q2 : inV X
      · by_cases q3 : inV Y
        · have good : (∀ q, (if k = 0 then none else rs[k - 1]?) = some q → q.2 + 1 < X) → (rgL none rs ↔ rgL (if k + 1 = 0 then none else rs[k + 1 - 1]?) (rs.drop (k + 1))) := by
            intro hq
            rw [hrg, hdr]
            simp [rgL, rgO, q1, q2, q3, hlt, hx]
            intro _ a b hn hq'
            exact hq (a, b) (by simp [hn, hq'])
          have pq' : ∀ q, 0 < k + 1 → rs[k + 1 - 1]? = some q → inV q.2 := by
            intro q _ hq
            simp [hlt, hx] at hq
            subst hq; exact q3
          by_cases hk0 : k = 0
          · subst hk0
            have u1' : idxA Try.prog 70 r (.int .i64 0) = some (.ptr b o) := u1
            simp (disch := omega) [Try.f139, t0, t8, t9, t10, hlt, hlt', u1', u3, L1, L2, ldVar, stVar, spl, c1, c2, q1, q2, q3, hn1]
            exact ⟨d - 1, by omega, 1, by omega, by simp [t0], by simp [t8], by simp [t9], by simp; decide, kp1 _, good (by simp), pq'⟩
          · obtain ⟨b', o', ro', L', v1, v2, v3, M1, M2, M3, M4, j1, j2⟩ := rgAt (hr.kp hKK) (k := k - 1) (by omega)
            have hk1 : rs[k - 1]? = some rs[k - 1] := List.getElem?_eq_getElem (by omega)
            have hpv := hpq _ (by omega) hk1
            rcases hy : rs[k - 1] with ⟨X', Y'⟩
            rw [hy] at M2 M3 M4 j1 j2 hpv hk1
            simp only at M2 M3 M4 j1 j2 hpv
            obtain ⟨_, M5⟩ := List.getElem?_eq_some_iff.1 M4
            have nb' : ¬ (b' = h.next) := by omega
            have w0 : IntKind.i64.wrap ((k : Int) - 1) = ((k - 1 : Nat) : Int) := by rw [wrap_i64 (n := (k : Int) - 1) (by omega) (by omega)]; omega
            have w2 : IntKind.i64.wrap (Y' + 1) = Y' + 1 := wrap_i64 (n := Y' + 1) (by have := hpv.1; omega) (by have := hpv.2; omega)
            have k0 : (0 : Int) < k := by omega
            have k0' : 0 < k := by omega
            by_cases q4 : X ≤ Y' + 1
            · simp (disch := omega) [Try.f139, t0, t8, t9, t10, hlt, hlt', u1, u3, L1, L2, v1, v3, M4, M5, nb', ldVar, stVar, spl, c1, c2, q1, q2, q3, q4, hn1, w0, w2, k0, k0']
              refine ⟨kp1 _, bad fun h => ?_⟩
              have := h.2.2.2 (X', Y') (by simp [hk0, hk1])
              simp only at this; omega
            · have q4' : (X ≤ Y' + 1) = False := eq_false q4
              simp (disch := omega) [Try.f139, t0, t8, t9, t10, hlt, hlt', u1, u3, L1, L2, v1, v3, M4, M5, nb', ldVar, stVar, spl, c1, c2, q1, q2, q3, q4', hn1, w0, w2, k0, k0']
              exact ⟨d - 1, by omega, k + 1, by omega, by simp [t0], by simp [t8], by simp [t9], by simp [w1], kp1 _, good (by simp [hk0, hk1]; omega), pq'⟩
        · simp (disch := omega) [Try.f139, t0, t8, t9, t10, hlt, hlt', u1, u3, L1, L2, ldVar, stVar, spl, c1, c2, q1, q2, q3, hn1]
          exact ⟨kp1 _, rfl, bad fun h => q3 h.2.2.1⟩
      · simp (disch := omega) [Try.f139, t0, t8, t9, t10, hlt, hlt', u1, u3, L1, L2, ldVar, stVar, spl, c1, c2, q1, q2, hn1]
        exact ⟨kp1 _, rfl, bad fun h => q2 h.2.1⟩
    · have q1' : (X ≤ Y) = False := eq_false q1
      have q1'' : Y < X := by omega
      simp (disch := omega) [Try.f139, t0, t8, t9, t10, hlt, hlt', u1, u3, L1, L2, ldVar, stVar, spl, q1', q1'']
      exact ⟨kp1 _, rfl, bad fun h => q1 h.1⟩
theorem rangesOK_ev {rw : Bool} {Hb H : AH} {r : AV} {rs : List (Int × Int)} {bs : List Nat} (hr : (Ty.sl 94 tT94).R rw Hb [r] rs bs) (hK : Kp Hb H) (hl : rs.length ≤ 1048576) (m : Nat) (hm : 71 ≤ m) :
    ∃ H', ev Try.prog m 139 [r] H = some (.bool (decide (rgOK rs)), H') ∧ Kp H H' := by
  obtain ⟨m, rfl⟩ : ∃ k, m = k + 1 := ⟨m - 1, by omega⟩
  rw [ev_M Try.func139 ok139 [] m _ H (by simp [Try.f139])]
  have e1 := Ty.R.lenA hr (P := Try.prog) (T := 70) (by simp)
  by_cases h64 : rs.length ≤ 64
  · have h64' : ((64 : Int) < rs.length) = False := eq_false (by omega)
    simp (disch := omega) [Try.f139, tm0, e1, h64']
    generalize hLo : evLoop _ _ _ _ _ _ = R
    obtain ⟨e, τ', H', rfl, hKp, g⟩ := loop_at hLo (rgLoop hr hK h64 m (by omega) _ ⟨0, by simp, by simp, by simp, by simp, by simp, Kp.refl H, by simp, by simp⟩)
    rcases g with ⟨rfl, hg⟩ | ⟨rfl, hg, hb⟩
    · refine ⟨H', ?_, hKp⟩
      have : rgOK rs := ⟨h64, hg⟩
      simp [this]
    · refine ⟨H', ?_, hKp⟩
      have : ¬ rgOK rs := fun h => hb h.2
      simp [this, hg]
  · have h64' : ((64 : Int) < rs.length) = True := eq_true (by omega)
    have : ¬ rgOK rs := fun h => h64 h.1
    refine ⟨H, ?_, Kp.refl H⟩
    simp (disch := omega) [Try.f139, tm0, e1, h64', this]
end Go.Ev

/- Rows: a row appended to a row; rows of ranges. -/
namespace Go.Ev
open Go Go.Proofs
set_option linter.unusedSimpArgs false
set_option linter.unusedVariables false

section
variable {P : Program}
/-- what is appended is told by its cells -/
theorem Ty.R.appN {H : AH} {e T TX : TypeId} {t : Ty} {s x : AV} {c : List AV} {ds es : List t.D} {bs b1 : List Nat} (h : (Ty.sl e t).R true H [s] ds bs) (hnews : newsA P t.n TX x H = some (es.length, c)) (hv : Rows (t.R true H) t.n c es b1) (hnd : (bs ++ b1).Nodup)
    (hT' : sliceT P T = some e) (hs : sizeT P e = some t.n) {by_ : Nat} (hb : bytesT P e = some by_) {z : List AV} (hz : zeroT P e = some z) (hzl : z.length = t.n)
    (h1 : (ds.length + es.length) * by_ ≤ 70368744177664) (h2 : ds.length + es.length ≤ 70368744177664) :
    ∃ s' H' bs', appA P T TX s x H = some (s', H') ∧ (Ty.sl e t).R true H' [s'] (ds ++ es) bs' ∧ bs'.Nodup ∧ (∀ b ∈ bs', b ∈ bs ∨ b ∈ b1 ∨ H.next ≤ b) ∧ KoS bs H H' := by
  have hc : c.length = es.length * t.n := hv.len
  have ht : c.take (es.length * t.n) = c := by rw [← hc, List.take_length]
  have hmem := Rows.mem (fun c d bs h => Ty.R.mem h) hv
  unfold appA
  simp only [hT', hs, hb, hz, hnews, if_pos hzl]
  by_cases hes : es.length = 0
  · have : es = [] := List.length_eq_zero_iff.1 hes
    subst this
    have hh := h
    rw [List.nodup_append] at hnd
    rcases h with ⟨g1, g2, g3⟩ | ⟨b, o, ro, xs, b', g1, g2, g3, g4, g5, g6, g7⟩
    · simp only [List.cons.injEq, and_true] at g1; subst g1
      exact ⟨.nilSlice, H, bs, by simp, by simpa using hh, hnd.1, fun b hb => .inl hb, KoS.refl _ _⟩
    · simp only [List.cons.injEq, and_true] at g1; subst g1
      exact ⟨.slice b o ds.length, H, bs, by simp, by simpa using hh, hnd.1, fun b hb => .inl hb, KoS.refl _ _⟩
  rcases h with ⟨g1, g2, g3⟩ | ⟨b, o, ro, xs, b', g1, g2, g3, g4, g5, g6, g7⟩
  · simp only [List.cons.injEq, and_true] at g1; subst g1 g2 g3
    simp only [List.length_nil, Nat.zero_add] at h1 h2
    refine ⟨.slice H.next 0 es.length, H.push (.cells e false c), H.next :: b1, by rw [if_neg hes]; simp [h1, h2], .inr ⟨H.next, 0, false, c, b1, by simp, rfl, by simp, by simp, fun _ => ⟨rfl, rfl, by simp [hc]⟩, by simp [hc], ?_⟩, ?_, ?_, ?_⟩
    · simp only [List.nil_append, List.drop_zero, ht]
      exact hv.imp fun c d b3 _ hb h => h.stay (by simp) fun x hx => by
        have := h.mem x hx
        rw [AH.push_get, if_neg (by omega)]
    · rw [List.nodup_cons]
      exact ⟨fun hx => by have := hmem _ hx; omega, by simpa using hnd⟩
    · intro x hx
      rcases List.mem_cons.1 hx with rfl | hx
      · right; right; omega
      · exact .inr (.inl hx)
    · exact ⟨by simp, fun x hx _ => by rw [AH.push_get, if_neg (by omega)]⟩
  · simp only [List.cons.injEq, and_true] at g1; subst g1
    obtain ⟨rfl, rfl, hw⟩ := g5 rfl
    have hxs : (xs.drop 0).take (ds.length * t.n) = xs := by rw [List.drop_zero, ← hw, List.take_length]
    rw [hxs] at g7
    subst g2
    have hnd' := hnd
    rw [List.nodup_append, List.nodup_cons] at hnd
    obtain ⟨⟨n1, n2⟩, n3, n4⟩ := hnd
    have hst : ∀ x, x < H.next → x ≠ b → ((H.kill b).push (.cells e false (xs ++ c))).get x = H.get x := by
      intro x hx hxb
      rw [AH.push_get, if_neg (by simp; omega), AH.kill_get, if_neg hxb]
    refine ⟨.slice H.next 0 (ds.length + es.length), (H.kill b).push (.cells e false (xs ++ c)), H.next :: (b' ++ b1), ?_, .inr ⟨H.next, 0, false, xs ++ c, b' ++ b1, by simp, rfl, by simp, by simp, fun _ => ⟨rfl, rfl, ?_⟩, ?_, ?_⟩, ?_, ?_, ?_⟩
    · simp only [g4]
      rw [if_neg hes, if_pos ⟨trivial, by omega, h1, h2⟩, hxs]
    · rw [List.length_append, hc, hw, List.length_append, Nat.add_mul]
    · rw [List.length_append, List.length_append, hc, hw, Nat.add_mul]; omega
    · have : ((xs ++ c).drop 0).take ((ds ++ es).length * t.n) = xs ++ c := by
        rw [List.drop_zero, List.length_append, Nat.add_mul, ← hw, ← hc, ← List.length_append, List.take_length]
      rw [this]
      refine (g7.imp fun c d b3 _ hb h => h.stay (by simp) fun x hx => hst x (h.mem x hx) fun e => n1 (by rw [← e]; exact hb x hx)).app (hv.imp fun c d b3 _ hb h => h.stay (by simp) fun x hx => hst x (h.mem x hx) fun e => n4 b (by simp) x (hb x hx) e.symm)
    · rw [List.nodup_cons, List.nodup_append]
      refine ⟨fun hx => ?_, n2, n3, fun x hx y hy => n4 x (by simp [hx]) y hy⟩
      rcases List.mem_append.1 hx with hx | hx
      · have := Rows.mem (fun c d bs h => Ty.R.mem h) g7 _ hx; omega
      · have := hmem _ hx; omega
    · intro x hx
      rcases List.mem_cons.1 hx with rfl | hx
      · right; right; omega
      · rcases List.mem_append.1 hx with hx | hx
        · exact .inl (by simp [hx])
        · exact .inr (.inl hx)
    · exact ⟨by simp, fun x hx hxb => hst x hx fun e => hxb (by simp [e])⟩
/-- a row's cells -/
theorem Ty.R.news {rw : Bool} {H : AH} {e T : TypeId} {t : Ty} {s : AV} {ds : List t.D} {bs : List Nat} (h : (Ty.sl e t).R rw H [s] ds bs) (hT : P.underlying T = some (.slice e)) :
    ∃ c b1, newsA P t.n T s H = some (ds.length, c) ∧ Rows (t.R rw H) t.n c ds b1 ∧ (∀ b ∈ b1, b ∈ bs) := by
  rcases h with ⟨g1, g2, g3⟩ | ⟨b, o, ro, xs, b', g1, g2, g3, g4, g5, g6, g7⟩
  · simp only [List.cons.injEq, and_true] at g1; subst g1 g2
    exact ⟨[], [], by simp [newsA, hT], ⟨rfl, rfl⟩, by simp⟩
  · simp only [List.cons.injEq, and_true] at g1; subst g1
    exact ⟨_, b', by simp [newsA, hT, rowOf, g4, g6], g7, fun x hx => by rw [g2]; simp [hx]⟩
end
theorem empty94 {X : AH} {b : Nat} (hb : b < X.next) (g : X.get b = some (.cells 94 false [])) : (Ty.sl 94 tT94).R true X [.slice b 0 0] [] [b] :=
  .inr ⟨b, 0, false, [], [], rfl, rfl, hb, g, fun _ => ⟨rfl, rfl, by simp⟩, by simp, rfl, rfl⟩
theorem flat94 {rw rw' : Bool} {H H' : AH} : ∀ {l : List (Int × Int)} {c : List AV} {bs : List Nat}, Rows (tT94.R rw H) tT94.n c l bs → Rows (tT94.R rw' H') tT94.n c l []
  | [], c, bs, h => ⟨h.1, rfl⟩
  | (a, b) :: l, c, bs, ⟨c1, r, b1, b2, h1, h2, h3, h4, h5⟩ => by
    obtain ⟨rfl, _, i1, i2⟩ := o94 h4
    exact ⟨_, r, [], [], h1, h2, rfl, i94 i1 i2, flat94 h5⟩
theorem ap94 {X : AH} {v : AV} {l : List (Int × Int)} {bs : List Nat} {a b : Int} (h : (Ty.sl 94 tT94).R true X [v] l bs) (hnd : bs.Nodup) (ia : InK .i64 a) (ib : InK .i64 b) (hl : l.length ≤ 1000000) :
    ∃ v' X' bs', appA Try.prog 70 70 v (.slice X.next 0 1) (X.push (.cells 94 false [.int .i64 a, .int .i64 b])) = some (v', X') ∧ (Ty.sl 94 tT94).R true X' [v'] (l ++ [(a, b)]) bs' ∧ bs'.Nodup ∧ (∀ b ∈ bs', b ∈ bs ∨ X.next ≤ b) ∧ KoS bs X X' := by
  obtain ⟨v', X', bs', h1, h2, h3, h4, h5⟩ := Ty.R.app1 (P := Try.prog) (T := 70) h (i94 (rw := true) (H := X) ia ib) (by simpa using hnd) (by simp) (by simp) (by simp [Ty.n]) (by_ := 16) (by simp) (z := [.int .i64 0, .int .i64 0]) (by simp) (by simp [Ty.n]) (by omega) (by omega)
  exact ⟨v', X', bs', h1, h2, h3, fun b hb => by rcases h4 b hb with h | h | h <;> simp_all, h5⟩
theorem app94s {X : AH} {v x : AV} {l es : List (Int × Int)} {bs bx : List Nat} {rx : Bool} (h : (Ty.sl 94 tT94).R true X [v] l bs) (hnd : bs.Nodup) (hx : (Ty.sl 94 tT94).R rx X [x] es bx) (hl : l.length ≤ 1000000) (hl' : es.length ≤ 1000000) :
    ∃ v' X' bs', appA Try.prog 70 70 v x X = some (v', X') ∧ (Ty.sl 94 tT94).R true X' [v'] (l ++ es) bs' ∧ bs'.Nodup ∧ (∀ b ∈ bs', b ∈ bs ∨ X.next ≤ b) ∧ KoS bs X X' := by
  obtain ⟨c, b1, n1, n2, _⟩ := hx.news (P := Try.prog) (T := 70) (by simp)
  obtain ⟨v', X', bs', h1, h2, h3, h4, h5⟩ := Ty.R.appN (P := Try.prog) (T := 70) (TX := 70) (b1 := []) h n1 (flat94 n2) (by simpa using hnd) (by simp) (by simp [Ty.n]) (by_ := 16) (by simp) (z := [.int .i64 0, .int .i64 0]) (by simp) (by simp [Ty.n]) (by omega) (by omega)
  exact ⟨v', X', bs', h1, h2, h3, fun b hb => by rcases h4 b hb with h | h | h <;> simp_all, h5⟩
end Go.Ev

/- Ranges alike; a number of a row. -/
namespace Go.Ev
open Go Go.Proofs
set_option linter.unusedSimpArgs false
set_option linter.unusedVariables false

abbrev Rg := Int × Int
theorem kd94 : kindsT Try.prog 94 = some [0, 0] := by kernel_rfl
set_option maxRecDepth 20000 in
theorem sameRanges_ev {r1 r2 : Bool} {H : AH} {s1 s2 : AV} {L : List Rg} {b1 b2 : List Nat} (h1 : (Ty.sl 94 tT94).R r1 H [s1] L b1) (h2 : (Ty.sl 94 tT94).R r2 H [s2] L b2) (hl : L.length ≤ 1000000) (m : Nat) (hm : L.length + 3 ≤ m) :
    ev Try.prog m 57 [s1, s2] H = some (.bool true, H) := by
  obtain ⟨m, rfl⟩ : ∃ k, m = k + 1 := ⟨m - 1, by omega⟩
  have L1 := Ty.R.lenA h1 (P := Try.prog) (T := 70) (by simp)
  have L2 := Ty.R.lenA h2 (P := Try.prog) (T := 70) (by simp)
  rw [ev_M Try.func57 ok57 [] _ _ H (by simp [Try.f57])]
  simp [Try.f57, tm0, L1, L2]
  generalize hLo : evLoop _ _ _ _ _ _ = R
  obtain ⟨e, τ', H', rfl, rfl, rfl⟩ := loop_at hLo (loop_rule (d := L.length) (fun d τ h => h = H ∧ ∃ k : Nat, k + d = L.length ∧ τ 0 = s1 ∧ τ 1 = s2 ∧ τ 5 = .int .i64 k) (fun e τ h => e = .exit 0 ∧ h = H) (by
    rintro d τ h ⟨rfl, k, hk, t0, t1, t5⟩
    rw [lp_M Try.func57 58 (by decide) 6 (by decide) (by kernel_rfl) []]
    by_cases hd0 : d = 0
    · subst hd0
      have hkl : ¬ ((k : Int) < L.length) := by omega
      simp [Try.f57, t0, t5, L1, hkl]
    · have hlt : k < L.length := by omega
      have hlt' : (k : Int) < L.length := by omega
      obtain ⟨b, o, ro, xs, u1, u2, u3, u4, u5, u6, u7, i1, i2⟩ := rgAt h1 hlt
      obtain ⟨b', o', ro', xs', v1, v2, v3, v4, v5, v6, v7, j1, j2⟩ := rgAt h2 hlt
      have w1 : IntKind.i64.wrap ((k : Int) + 1) = (k : Int) + 1 := wrap_i64 (n := (k : Int) + 1) (by omega) (by omega)
      simp [Try.f57, t0, t1, t5, L1, hlt, hlt', u1, u3, u4, u5, v1, v3, v4, v5, w1, ldVar, kd94]
      exact ⟨d - 1, by omega, k + 1, by omega, by simp⟩) ⟨rfl, 0, by simp, by simp, by simp, by simp⟩ (by omega))
  simp [Try.f57]
theorem intAt {rw : Bool} {H : AH} {r : AV} {l : List Int} {bs : List Nat} (hr : (Ty.sl 3 (.int .i64)).R rw H [r] l bs) {k : Nat} (hk : k < l.length) :
    ∃ b o ro xs, idxA Try.prog 60 r (.int .i64 k) = some (.ptr b o) ∧ b < H.next ∧ H.get b = some (.cells 3 ro xs) ∧ xs[o]? = some (.int .i64 l[k]) := by
  obtain ⟨b, o, ro, x1, c, x2, bk, u1, u2, u3, u4, u5, u6, u7, u8⟩ := Ty.R.at_ hr (P := Try.prog) (T := 60) (by simp) (by simp [Ty.n]) (k := k) hk
  obtain ⟨rfl, _⟩ := u5
  subst u4
  exact ⟨b, _, ro, _, u1, u2, u3, by simp⟩
theorem rgL_in : ∀ {l : List Rg} {q : Option Rg}, rgL q l → ∀ x ∈ l, inV x.1 ∧ inV x.2
  | x :: l, q, h, y, hy => by
    rcases List.mem_cons.1 hy with rfl | hy
    · exact ⟨h.1.2.1, h.1.2.2.1⟩
    · exact rgL_in h.2 y hy
end Go.Ev

/- Numbers of changing length put behind bytes. -/
namespace Go.Ev
open Go Go.Proofs
set_option linter.unusedSimpArgs false
set_option linter.unusedVariables false

/-- bytes of one's own -/
def BO (H : AH) (v : AV) (l : List Int) (b : Nat) : Prop := v = .slice b 0 l.length ∧ b < H.next ∧ H.get b = some (.cells 5 false (u8L l))
theorem BO.kp {H H' : AH} {v : AV} {l : List Int} {b : Nat} (h : BO H v l b) (hK : Kp H H') : BO H' v l b := ⟨h.1, by have := hK.next; have := h.2.1; omega, by rw [hK.get b h.2.1]; exact h.2.2⟩
theorem BO.bs {H : AH} {v : AV} {l : List Int} {b : Nat} (h : BO H v l b) : Bs H v l := by rw [h.1]; exact Bs.mk' h.2.2 h.2.1
theorem BO.R {H : AH} {v : AV} {l : List Int} {b : Nat} (h : BO H v l b) (hb : By l) : (Ty.sl 5 (.int .u8)).R true H [v] l [b] := by
  rw [h.1]; exact ints_one h.2.1 h.2.2 fun d hd => by have := hb d hd; exact ⟨this.1, by have := this.2; simp [IntKind.max, IntKind.signed, IntKind.bits]; omega⟩
theorem u8L_app (l m : List Int) : u8L (l ++ m) = u8L l ++ u8L m := by simp [u8L]
theorem BO.app1 {H : AH} {v : AV} {l : List Int} {b : Nat} {x : Int} (h : BO H v l b) (hl : l.length ≤ 1000000) :
    ∃ v' X' b', appA Try.prog 34 34 v (.slice H.next 0 1) (H.push (.cells 5 false [.int .u8 x])) = some (v', X') ∧ BO X' v' (l ++ [x]) b' ∧ KoS [b] H X' ∧ H.next ≤ b' := by
  obtain ⟨rfl, h2, h3⟩ := h
  have hne : ¬ (b = H.next) := by omega
  have hw : (u8L l).length = l.length := u8L_len l
  have ht : (u8L l).take l.length = u8L l := by rw [← hw, List.take_length]
  refine ⟨.slice (H.next + 1) 0 (l.length + 1), ((H.push (.cells 5 false [.int .u8 x])).kill b).push (.cells 5 false (u8L l ++ [.int .u8 x])), H.next + 1, ?_, ⟨by simp, by simp, by rw [u8L_app]; simp [u8L]⟩, ⟨by simp; omega, fun z hz hzb => ?_⟩, by omega⟩
  · simp [appA, newsA, rowOf, hne, h3, hw, ht]
    omega
  · have : z ≠ b := fun e => hzb (by simp [e])
    rw [AH.push_get, if_neg (by simp; omega), AH.kill_get, if_neg this, AH.push_get, if_neg (by omega)]
theorem VarLen_ev (v : Int) (h0 : 0 ≤ v) (h1 : v ≤ 4611686018427387903) (H : AH) (m : Nat) (hm : 2 ≤ m) : ev Try.prog m 256 [.int .i64 v] H = some (.int .i64 (vL v), H) := by
  obtain ⟨m, rfl⟩ : ∃ k, m = k + 1 := ⟨m - 1, by omega⟩
  have a := inVar_ev v H m (by omega)
  have hv : inV v := ⟨h0, h1⟩
  rw [ev_M Try.func256 ok256 [] m _ H (by simp [Try.f256])]
  unfold vL
  by_cases c1 : v < 64
  · simp [Try.f256, tm0, a, hv, c1]
  · by_cases c2 : v < 16384
    · simp [Try.f256, tm0, a, hv, c1, c2]
    · by_cases c3 : v < 1073741824
      · simp [Try.f256, tm0, a, hv, c1, c2, c3]
      · simp [Try.f256, tm0, a, hv, c1, c2, c3]
theorem byte_at {x : Int} {j : Nat} (h0 : 0 ≤ x) : IntKind.u8.wrap (x.fdiv (2 ^ (8 * j))) = x / 256 ^ j % 256 := by
  have e : (2 : Int) ^ (8 * j) = 256 ^ j := by rw [Int.pow_mul]; rfl
  rw [e, Int.fdiv_eq_ediv_of_nonneg _ (Int.pow_nonneg (by decide))]
  rw [IntKind.wrap_u8]
def FxI (x : Int) (n : Nat) (l : List Int) (b0 : Nat) (H : AH) (d : Nat) (τ : Tm) (h : AH) : Prop :=
  ∃ (v : AV) (pre : List Int) (b : Nat), τ 0 = v ∧ τ 1 = .int .i64 x ∧ τ 7 = .int .i64 ((d : Int) - 1) ∧ pre ++ digB d x = digB n x ∧ d ≤ n ∧ BO h v (l ++ pre) b ∧ KoS [b0] H h ∧ (b = b0 ∨ H.next ≤ b)
set_option maxRecDepth 20000 in
theorem fixedN_ev {H : AH} {v : AV} {l : List Int} {b : Nat} {x : Int} {n : Nat} (h : BO H v l b) (hl : l.length ≤ 100000) (hn : n ≤ 8) (h0 : 0 ≤ x) (h1 : x ≤ 4611686018427387903) (m : Nat) (hm : 12 ≤ m) :
    ∃ v' H' b', ev Try.prog m 190 [v, .int .i64 x, .int .i64 n] H = some (v', H') ∧ BO H' v' (l ++ digB n x) b' ∧ KoS [b] H H' ∧ (b' = b ∨ H.next ≤ b') := by
  obtain ⟨m, rfl⟩ : ∃ k, m = k + 1 := ⟨m - 1, by omega⟩
  have w0 : IntKind.i64.wrap ((n : Int) - 1) = (n : Int) - 1 := wrap_i64 (by omega) (by omega)
  have wx : IntKind.u64.wrap x = x := by rw [IntKind.wrap_u64]; omega
  rw [ev_M Try.func190 ok190 [] _ _ H (by simp [Try.f190])]
  simp [Try.f190, tm0, w0]
  generalize hLo : evLoop _ _ _ _ _ _ = R
  obtain ⟨e, τ', H', rfl, rfl, g⟩ := loop_at hLo (loop_rule (d := n) (FxI x n l b H) (fun e τ h => e = .exit 0 ∧ FxI x n l b H 0 τ h) (by
    rintro d τ hh ⟨v, pre, b1, t0, t1, t7, hp, hd, B, K, hb⟩
    rw [lp_M Try.func190 26 (by decide) 5 (by decide) (by kernel_rfl) []]
    by_cases hd0 : d = 0
    · subst hd0
      have hkl : ¬ (0 ≤ (((0 : Nat) : Int) - 1)) := by omega
      simp [Try.f190, t7, hkl]
      exact ⟨v, pre, b1, by simp [t0], by simp [t1], by simp [t7], hp, hd, B, K, hb⟩
    · obtain ⟨j, rfl⟩ : ∃ j, d = j + 1 := ⟨d - 1, by omega⟩
      have e1 : (((j + 1 : Nat) : Int) - 1) = j := by omega
      rw [e1] at t7
      have hj : (0 : Int) ≤ j := by omega
      have hpl : pre.length + (j + 1) = n := by have := congrArg List.length hp; simpa [digB_len] using this
      obtain ⟨v', X', b', q1, q2, q3, q4⟩ := B.app1 (x := x / 256 ^ j % 256) (by simp; omega)
      have w1 : IntKind.i64.wrap (8 * (j : Int)) = 8 * j := wrap_i64 (by omega) (by omega)
      have w2 : IntKind.i64.wrap ((j : Int) - 1) = (j : Int) - 1 := wrap_i64 (by omega) (by omega)
      have hmin : min (8 * (j : Int)).toNat 64 = 8 * j := by omega
      have hby := byte_at (x := x) (j := j) h0
      have hn8 := eq_false (show ¬ (8 * (j : Int) < 0) by omega)
      simp [Try.f190, t0, t1, t7, hj, w1, w2, wx, hmin, hby, hn8, q1, convA, shiftA, IntKind.bits, fillA, zerosA, spl]
      refine ⟨j, by omega, v', pre ++ [x / 256 ^ j % 256], b', by simp, by simp [t1], by simp, by rw [← hp]; simp [digB], by omega, by rw [← List.append_assoc]; exact q2, ?_, ?_⟩
      · refine K.trans q3 fun z hz => ?_
        simp at hz; subst hz
        rcases hb with h | h; simp [h]; exact .inr h
      · have := K.next; exact .inr (by omega)) ⟨v, [], b, by simp, by simp, by simp, by simp, by omega, by simpa using h, KoS.refl _ _, .inl rfl⟩ (by omega))
  obtain ⟨v', pre, b', t0, t1, t7, hp, hd, B, K, hb⟩ := g
  simp only [digB, List.append_nil] at hp
  subst hp
  exact ⟨v', H', by simp [t0], b', B, K, hb⟩
end Go.Ev

/- Numbers of changing length put behind bytes, whole. -/
namespace Go.Ev
open Go Go.Proofs
set_option linter.unusedSimpArgs false
set_option linter.unusedVariables false

theorem or_fin : ∀ a : Fin 64, bits .or .u8 (a.val : Int) 0 = a.val ∧ bits .or .u8 (a.val : Int) 64 = a.val + 64 ∧ bits .or .u8 (a.val : Int) 128 = a.val + 128 ∧ bits .or .u8 (a.val : Int) 192 = a.val + 192 := by decide
theorem or_mark {a : Int} (h0 : 0 ≤ a) (h1 : a < 64) : bits .or .u8 a 0 = a ∧ bits .or .u8 a 64 = a + 64 ∧ bits .or .u8 a 128 = a + 128 ∧ bits .or .u8 a 192 = a + 192 := by
  obtain ⟨n, rfl⟩ := Int.eq_ofNat_of_zero_le h0
  exact or_fin ⟨n, by omega⟩
theorem enc_or {v : Int} (h0 : 0 ≤ v) (h1 : v ≤ 4611686018427387903) : bits .or .u8 (v / 256 ^ (vL v - 1) % 256) (vM (vL v)) = v / 256 ^ (vL v - 1) % 256 + vM (vL v) := by
  unfold vL
  by_cases c1 : v < 64
  · simp only [if_pos c1]
    have := (or_mark (a := v / 256 ^ (1 - 1) % 256) (by simp; omega) (by simp; omega)).1
    simpa [vM] using this
  · simp only [if_neg c1]
    by_cases c2 : v < 16384
    · simp only [if_pos c2]
      have := (or_mark (a := v / 256 ^ (2 - 1) % 256) (by simp; omega) (by simp; omega)).2.1
      simpa [vM] using this
    · simp only [if_neg c2]
      by_cases c3 : v < 1073741824
      · simp only [if_pos c3]
        have := (or_mark (a := v / 256 ^ (4 - 1) % 256) (by simp; omega) (by simp; omega)).2.2.1
        simpa [vM] using this
      · simp only [if_neg c3]
        have := (or_mark (a := v / 256 ^ (8 - 1) % 256) (by simp; omega) (by simp; omega)).2.2.2
        simpa [vM] using this
def marksC : List AV := [.int .u8 0, .int .u8 0, .int .u8 64, .int .u8 0, .int .u8 128, .int .u8 0, .int .u8 0, .int .u8 0, .int .u8 192]
theorem marks_at (n : Nat) (h : n = 1 ∨ n = 2 ∨ n = 4 ∨ n = 8) : marksC[n]? = some (.int .u8 (vM n)) := by rcases h with rfl | rfl | rfl | rfl <;> rfl
theorem ixM (p n : Nat) (h : n < 9) : idxA Try.prog 310 (.ptr p 0) (.int .i64 n) = some (.ptr p n) := by
  simp [idxA]; omega
theorem digB_first {v : Int} : digB (vL v) v = (v / 256 ^ (vL v - 1) % 256) :: digB (vL v - 1) v := by
  have : vL v = (vL v - 1) + 1 := by rcases vL_cases v with h | h | h | h <;> omega
  rw [this]; simp [digB]
set_option maxRecDepth 20000 in
theorem addVar_ev {H : AH} {v : AV} {l : List Int} {b : Nat} {x : Int} (h : BO H v l b) (hl : l.length ≤ 100000) (h0 : 0 ≤ x) (h1 : x ≤ 4611686018427387903) (m : Nat) (hm : 14 ≤ m) :
    ∃ v' H' b', ev Try.prog m 180 [v, .int .i64 x] H = some (v', H') ∧ BO H' v' (l ++ encV x) b' ∧ KoS [b] H H' ∧ (b' = b ∨ H.next ≤ b') := by
  obtain ⟨m, rfl⟩ : ∃ k, m = k + 1 := ⟨m - 1, by omega⟩
  have hc := vL_cases x
  have hn : vL x ≤ 8 := by omega
  have a1 := VarLen_ev x h0 h1 H m (by omega)
  obtain ⟨v1, H1, b1, c1, c2, c3, c4⟩ := fixedN_ev (n := vL x) h hl hn h0 h1 m (by omega)
  have hL := h.bs.len
  let A : AH := H1.push (.cells 310 false marksC)
  have hA : H1.push (.cells 310 false marksC) = A := rfl
  have KA : Kp H1 A := (Kp.refl H1).push _
  have gA : A.get H1.next = some (.cells 310 false marksC) := by simp [A]
  have nA : A.next = H1.next + 1 := by simp [A]
  clear_value A
  obtain ⟨r1, r2, r3⟩ := c2.kp KA
  have r2' := c2.2.1
  rw [digB_first] at r1 r3
  have hor := enc_or h0 h1
  have hmk := marks_at (vL x) hc
  have hix := ixM H1.next (vL x) (by omega)
  have hll : (u8L l).length = l.length := u8L_len l
  have e1 : (u8L (l ++ (x / 256 ^ (vL x - 1) % 256) :: digB (vL x - 1) x))[l.length]? = some (.int .u8 (x / 256 ^ (vL x - 1) % 256)) := by
    rw [u8L_app, List.getElem?_append_right (by omega), hll]; simp [u8L]
  have ei : idxA Try.prog 34 v1 (.int .i64 l.length) = some (.ptr b1 l.length) := by rw [r1]; simp [idxA]; omega
  have est : spl (u8L (l ++ (x / 256 ^ (vL x - 1) % 256) :: digB (vL x - 1) x)) l.length [.int .u8 (x / 256 ^ (vL x - 1) % 256 + vM (vL x))] = u8L (l ++ encV x) := by
    rw [u8L_app, u8L_app]; simp only [spl]
    rw [List.set_append_right _ _ (by omega)]; simp [hll, u8L, encV]
  have hlen : l.length + 1 ≤ (u8L (l ++ (x / 256 ^ (vL x - 1) % 256) :: digB (vL x - 1) x)).length := by rw [u8L_len]; simp
  refine ⟨v1, A.set b1 (.cells 5 false (u8L (l ++ encV x))), b1, ?_, ⟨?_, by simpa using r2, by simp⟩, ⟨by simp; have := c3.next; omega, fun z hz hzb => ?_⟩, c4⟩
  · rw [ev_M Try.func180 ok180 [31] m _ H (by simp [Try.f180])]
    simp [Try.f180, tm0, a1, hL, c1]
    generalize hτ : upd _ 0 _ = τ1
    have t0 : τ1 0 = v1 := by rw [← hτ]; simp
    have t5 : τ1 5 = .int .i64 (vL x) := by rw [← hτ]; simp
    have t6 : τ1 6 = .int .i64 l.length := by rw [← hτ]; simp
    clear hτ
    generalize hd : x / 256 ^ (vL x - 1) % 256 = d0 at *
    generalize vL x = N at *
    generalize u8L (l ++ d0 :: digB (N - 1) x) = xs at *
    simp only [marksC] at hA gA hmk
    rw [at_M Try.func180 31 (by decide) 5 (by decide) (by kernel_rfl) []]
    simp [Try.f180, t0, t5, t6, hA, gA, ei, hix, hmk, r3, e1, hor, hlen, est, ldVar, stVar, fillA, evHist, ObsOk, ObOk, List.getElem?_cons_zero]
  · rw [r1]; simp [encV_len, digB_len]; omega
  · have hz : z ≠ b1 := by
      rcases c4 with rfl | h'
      · intro e; exact hzb (by simp [e])
      · omega
    have := c3.next
    rw [AH.set_getN _ _ hz, KA.get z (by omega)]; exact c3.get z (by omega) hzb
end Go.Ev

/- Ranges of a frame in the reference. -/
namespace Go.Ev
open Go Go.Proofs
set_option linter.unusedSimpArgs false
set_option linter.unusedVariables false

def RgJ (r : AV) (rs : List (Int × Int)) (H : AH) (d : Nat) (τ : Tm) (h : AH) : Prop :=
  ∃ (k : Nat), k + d = rs.length ∧ τ 0 = r ∧ τ 3 = .int .i64 k ∧ Kp H h ∧ (rgL none rs ↔ rgL (if k = 0 then none else rs[k - 1]?) (rs.drop k)) ∧ (∀ q, 0 < k → rs[k - 1]? = some q → inV q.2)
set_option maxRecDepth 20000 in
theorem rgLoopS {rw : Bool} {Hb H : AH} {r : AV} {rs : List (Int × Int)} {bs : List Nat} (hr : (Ty.sl 94 tT94).R rw Hb [r] rs bs) (hK : Kp Hb H) (hl : rs.length ≤ 64) (m : Nat) (hm : 70 ≤ m) (τ : Tm) (hI : RgJ r rs H rs.length τ H) :
    ∃ e τ' H', evLoop Try.prog (ev Try.prog m) m (lp Try.prog 141 58) τ H = some (e, τ', H') ∧ Kp H H' ∧ ((e = .exit 0 ∧ rgL none rs) ∨ (e = .ret ∧ τ' 2 = .bool false ∧ ¬ rgL none rs)) := by
  refine loop_rule (d := rs.length) (RgJ r rs H) (fun e τ h => Kp H h ∧ ((e = .exit 0 ∧ rgL none rs) ∨ (e = .ret ∧ τ 2 = .bool false ∧ ¬ rgL none rs))) ?_ hI (by omega)
  have e1 := Ty.R.lenA hr (P := Try.prog) (T := 70) (by simp)
  intro d τ h ⟨k, hk, t0, t3, hKh, hrg, hpq⟩
  rw [lp_M Try.func141 58 (by decide) 6 (by decide) (by kernel_rfl) []]
  by_cases hd0 : d = 0
  · subst hd0
    have hkl : ¬ ((k : Int) < rs.length) := by omega
    simp [Try.f141, t0, t3, e1, hkl]
    refine ⟨hKh, ?_⟩
    rw [hrg, List.drop_eq_nil_of_le (by omega)]; trivial
  · have hlt : k < rs.length := by omega
    have hlt' : (k : Int) < rs.length := by omega
    have hKK := hK.trans hKh
    obtain ⟨b, o, ro, L, u1, u2, u3, L1, L2, L3, L4, i1, i2⟩ := rgAt (hr.kp hKK) hlt
    rcases hx : rs[k] with ⟨X, Y⟩
    rw [hx] at L2 L3 L4 i1 i2
    simp only at L2 L3 L4 i1 i2
    have hdr : rs.drop k = (X, Y) :: rs.drop (k + 1) := by rw [List.drop_eq_getElem_cons hlt, hx]
    have w1 : IntKind.i64.wrap ((k : Int) + 1) = (k : Int) + 1 := wrap_i64 (n := (k : Int) + 1) (by omega) (by omega)
    have kp1 : ∀ B, Kp H (h.push B) := fun B => hKh.push _
    have bad : ¬ rgO (if k = 0 then none else rs[k - 1]?) (X, Y) → ¬ rgL none rs := by
      intro hb hh
      rw [hrg, hdr] at hh
      exact hb hh.1
    have nb : ¬ (h.next = b) := by omega
    by_cases p0 : X < 0
    · simp (disch := omega) [Try.f141, t0, t3, e1, hlt, hlt', u1, u3, L1, L2, ldVar, stVar, spl, p0]
      exact ⟨kp1 _, rfl, bad fun h => by have := h.2.1.1; omega⟩
    · have y0 : (X < 0) = False := eq_false p0
      by_cases p1 : 4611686018427387903 < Y
      · simp (disch := omega) [Try.f141, t0, t3, e1, hlt, hlt', u1, u3, L1, L2, ldVar, stVar, spl, y0, p1]
        exact ⟨kp1 _, rfl, bad fun h => by have := h.2.2.1.2; omega⟩
      · have y1 : (4611686018427387903 < Y) = False := eq_false p1
        by_cases q1 : Y < X
        · simp (disch := omega) [Try.f141, t0, t3, e1, hlt, hlt', u1, u3, L1, L2, ldVar, stVar, spl, y0, y1, q1]
          exact ⟨kp1 _, rfl, bad fun h => by have := h.1; omega⟩
        · have hn1 : (Y < X) = False := eq_false q1
          have q2 : inV X := ⟨by omega, by omega⟩
          have q3 : inV Y := ⟨by omega, by omega⟩
          have q1' : X ≤ Y := by omega
          have good : (∀ q, (if k = 0 then none else rs[k - 1]?) = some q → q.2 + 1 < X) → (rgL none rs ↔ rgL (if k + 1 = 0 then none else rs[k + 1 - 1]?) (rs.drop (k + 1))) := by
            intro hq
            rw [hrg, hdr]
            simp [rgL, rgO, q1', q2, q3, hlt, hx]
            intro _ a b hn hq'
            exact hq (a, b) (by simp [hn, hq'])
          have pq' : ∀ q, 0 < k + 1 → rs[k + 1 - 1]? = some q → inV q.2 := by
            intro q _ hq
            simp [hlt, hx] at hq
            subst hq; exact q3
          by_cases hk0 : k = 0
          · subst hk0
            have u1' : idxA Try.prog 70 r (.int .i64 0) = some (.ptr b o) := u1
            simp (disch := omega) [Try.f141, t0, t3, e1, hlt, hlt', u1', u3, L1, L2, ldVar, stVar, spl, y0, y1, hn1]
            exact ⟨d - 1, by omega, 1, by omega, by simp [t0], by simp; decide, kp1 _, good (by simp), pq'⟩
          · obtain ⟨b', o', ro', L', v1, v2, v3, M1, M2, M3, M4, j1, j2⟩ := rgAt (hr.kp hKK) (k := k - 1) (by omega)
            have hk1 : rs[k - 1]? = some rs[k - 1] := List.getElem?_eq_getElem (by omega)
            have hpv := hpq _ (by omega) hk1
            rcases hy : rs[k - 1] with ⟨X', Y'⟩
            rw [hy] at M2 M3 M4 j1 j2 hpv hk1
            simp only at M2 M3 M4 j1 j2 hpv
            obtain ⟨_, M5⟩ := List.getElem?_eq_some_iff.1 M4
            have nb' : ¬ (b' = h.next) := by omega
            have w0 : IntKind.i64.wrap ((k : Int) - 1) = ((k - 1 : Nat) : Int) := by rw [wrap_i64 (n := (k : Int) - 1) (by omega) (by omega)]; omega
            have w2 : IntKind.i64.wrap (Y' + 1) = Y' + 1 := wrap_i64 (n := Y' + 1) (by have := hpv.1; omega) (by have := hpv.2; omega)
            have k0 : (0 : Int) < k := by omega
            have k0' : 0 < k := by omega
            by_cases q4 : X ≤ Y' + 1
            · simp (disch := omega) [Try.f141, t0, t3, e1, hlt, hlt', u1, u3, L1, L2, v1, v3, M4, M5, nb', ldVar, stVar, spl, y0, y1, q4, hn1, w0, w2, k0, k0']
              refine ⟨kp1 _, bad fun h => ?_⟩
              have := h.2.2.2 (X', Y') (by simp [hk0, hk1])
              simp only at this; omega
            · have q4' : (X ≤ Y' + 1) = False := eq_false q4
              simp (disch := omega) [Try.f141, t0, t3, e1, hlt, hlt', u1, u3, L1, L2, v1, v3, M4, M5, nb', ldVar, stVar, spl, y0, y1, q4', hn1, w0, w2, k0, k0']
              exact ⟨d - 1, by omega, k + 1, by omega, by simp [t0], by simp [w1], kp1 _, good (by simp [hk0, hk1]; omega), pq'⟩
theorem l05RangesOK_ev {rw : Bool} {Hb H : AH} {r : AV} {rs : List (Int × Int)} {bs : List Nat} (hr : (Ty.sl 94 tT94).R rw Hb [r] rs bs) (hK : Kp Hb H) (hl : rs.length ≤ 1048576) (m : Nat) (hm : 71 ≤ m) :
    ∃ H', ev Try.prog m 141 [r] H = some (.bool (decide (rgOK rs)), H') ∧ Kp H H' := by
  obtain ⟨m, rfl⟩ : ∃ k, m = k + 1 := ⟨m - 1, by omega⟩
  rw [ev_M Try.func141 ok141 [] m _ H (by simp [Try.f141])]
  have e1 := Ty.R.lenA hr (P := Try.prog) (T := 70) (by simp)
  by_cases h64 : rs.length ≤ 64
  · have h64' : ((64 : Int) < rs.length) = False := eq_false (by omega)
    simp (disch := omega) [Try.f141, tm0, e1, h64']
    generalize hLo : evLoop _ _ _ _ _ _ = R
    obtain ⟨e, τ', H', rfl, hKp, g⟩ := loop_at hLo (rgLoopS hr hK h64 m (by omega) _ ⟨0, by simp, by simp, by simp, Kp.refl H, by simp, by simp⟩)
    rcases g with ⟨rfl, hg⟩ | ⟨rfl, hg, hb⟩
    · refine ⟨H', ?_, hKp⟩
      have : rgOK rs := ⟨h64, hg⟩
      simp [this]
    · refine ⟨H', ?_, hKp⟩
      have : ¬ rgOK rs := fun h => hb h.2
      simp [this, hg]
  · have h64' : ((64 : Int) < rs.length) = True := eq_true (by omega)
    have : ¬ rgOK rs := fun h => h64 h.1
    refine ⟨H, ?_, Kp.refl H⟩
    simp (disch := omega) [Try.f141, tm0, e1, h64', this]
end Go.Ev

/- What a kind of frame uses, in the reference. -/
namespace Go.Ev
open Go Go.Proofs
set_option linter.unusedSimpArgs false
set_option linter.unusedVariables false

/-- A, B, C, Fin, Ranges, the least and the greatest length of Data, the length of Token -/
structure Us where
  a : Bool
  b : Bool
  c : Bool
  fin : Bool
  r : Bool
  lo : Int
  hi : Int
  tok : Int
def usesL : List (Int × Us) :=
  [(0, ⟨true, false, false, false, false, 0, 0, 0⟩), (1, ⟨false, false, false, false, false, 0, 0, 0⟩), (2, ⟨true, false, false, false, true, 0, 0, 0⟩), (4, ⟨true, true, true, false, false, 0, 0, 0⟩),
   (5, ⟨true, true, false, false, false, 0, 0, 0⟩), (6, ⟨true, false, false, false, false, 0, 1500, 0⟩), (7, ⟨false, false, false, false, false, 1, 64, 0⟩), (8, ⟨true, true, false, true, false, 0, 1500, 0⟩),
   (16, ⟨true, false, false, false, false, 0, 0, 0⟩), (17, ⟨true, true, false, false, false, 0, 0, 0⟩), (18, ⟨true, true, false, false, false, 0, 0, 0⟩), (20, ⟨true, false, false, false, false, 0, 0, 0⟩),
   (21, ⟨true, true, false, false, false, 0, 0, 0⟩), (22, ⟨true, true, false, false, false, 0, 0, 0⟩), (24, ⟨true, true, false, false, false, 1, 8, 8⟩), (25, ⟨true, false, false, false, false, 0, 0, 0⟩),
   (26, ⟨false, false, false, false, false, 8, 8, 0⟩), (27, ⟨false, false, false, false, false, 8, 8, 0⟩), (28, ⟨true, true, false, false, false, 0, 200, 0⟩), (29, ⟨true, false, false, false, false, 0, 200, 0⟩),
   (30, ⟨false, false, false, false, false, 0, 0, 0⟩), (48, ⟨false, false, false, false, false, 0, 1500, 0⟩)]
def usN : Us := ⟨false, false, false, false, false, 0, 0, 0⟩
def usC (ok : Bool) (u : Us) : AV := .agg [.bool ok, .bool u.a, .bool u.b, .bool u.c, .bool u.fin, .bool u.r, .int .i64 u.lo, .int .i64 u.hi, .int .i64 u.tok]
def kindIn (k : Int) : Prop := k = 0 ∨ k = 1 ∨ k = 2 ∨ k = 4 ∨ k = 5 ∨ k = 6 ∨ k = 7 ∨ k = 8 ∨ k = 16 ∨ k = 17 ∨ k = 18 ∨ k = 20 ∨ k = 21 ∨ k = 22 ∨ k = 24 ∨ k = 25 ∨ k = 26 ∨ k = 27 ∨ k = 28 ∨ k = 29 ∨ k = 30 ∨ k = 48
instance (k : Int) : Decidable (kindIn k) := by unfold kindIn; infer_instance
theorem uses_not {k : Int} (h : ¬ kindIn k) : usesL.lookup k = none := by
  rw [List.lookup_eq_none_iff]
  intro p hp
  have : p.1 ≠ k := by
    intro e
    apply h
    rw [← e]
    simp only [usesL, List.mem_cons, List.not_mem_nil, or_false] at hp
    rcases hp with rfl | rfl | rfl | rfl | rfl | rfl | rfl | rfl | rfl | rfl | rfl | rfl | rfl | rfl | rfl | rfl | rfl | rfl | rfl | rfl | rfl | rfl <;> decide
  simpa using fun e => this e.symm
theorem shape_not {k : Int} (h : ¬ kindIn k) : shapeL.lookup k = none := by
  rw [List.lookup_eq_none_iff]
  intro p hp
  have : p.1 ≠ k := by
    intro e
    apply h
    rw [← e]
    simp only [shapeL, List.mem_cons, List.not_mem_nil, or_false] at hp
    rcases hp with rfl | rfl | rfl | rfl | rfl | rfl | rfl | rfl | rfl | rfl | rfl | rfl | rfl | rfl | rfl | rfl | rfl | rfl | rfl | rfl | rfl | rfl <;> decide
  simpa using fun e => this e.symm
def kdC (ok : Bool) (u : Us) : List AV := [.bool ok, .bool u.a, .bool u.b, .bool u.c, .bool u.fin, .bool u.r, .int .i64 u.lo, .int .i64 u.hi, .int .i64 u.tok]
/-- what a segment of the switch leaves -/
structure KdE (B : Nat) (H H' : AH) (τ τ' : Tm) (c : List AV) : Prop where
  t2 : τ' 2 = τ 2
  t3 : τ' 3 = τ 3
  next : H'.next = H.next
  get : H'.get B = some (.cells 222 false c)
  rest : ∀ b, b ≠ B → H'.get b = H.get b
theorem kdS_58 (k : Int) (h1 : ¬ (k = 1)) (h30 : ¬ (k = 30)) (m : Nat) (τ : Tm) (H : AH) (t5 : τ 5 = .int .i64 k) :
    ∃ τ', evAt Try.prog (ev Try.prog m) m 156 58 τ H = evAt Try.prog (ev Try.prog m) m 156 235 τ' H ∧ τ' 2 = τ 2 ∧ τ' 3 = τ 3 ∧ τ' 5 = .int .i64 k := by
  rw [at_M Try.func156 58 (by decide) 6 (by decide) (by kernel_rfl) [235]]
  exact ⟨_, by simp [Try.f156, t5, beqF, h1, h30]; rfl, by simp, by simp, by simp [t5]⟩
theorem kdF_1 (m : Nat) (τ : Tm) (H : AH) (t5 : τ 5 = .int .i64 1) (B : Nat) (t3 : τ 3 = .ptr B 0) (hB : H.get B = some (.cells 222 false (kdC true usN))) :
    ∃ τ' H', evAt Try.prog (ev Try.prog m) m 156 58 τ H = some (.normal, τ', H') ∧ KdE B H H' τ τ' (kdC true ((usesL.lookup 1).getD usN)) := by
  rw [at_M Try.func156 58 (by decide) 6 (by decide) (by kernel_rfl) [235]]
  simp only [kdC, usN] at hB ⊢
  exact ⟨_, _, by simp [Try.f156, t5, t3, hB, stVar, spl]; exact ⟨rfl, rfl⟩, by simp, by simp, by simp, by simp [usesL, List.lookup_cons, hB], fun b hb => by simp [hb]⟩
theorem kdF_30 (m : Nat) (τ : Tm) (H : AH) (t5 : τ 5 = .int .i64 30) (B : Nat) (t3 : τ 3 = .ptr B 0) (hB : H.get B = some (.cells 222 false (kdC true usN))) :
    ∃ τ' H', evAt Try.prog (ev Try.prog m) m 156 58 τ H = some (.normal, τ', H') ∧ KdE B H H' τ τ' (kdC true ((usesL.lookup 30).getD usN)) := by
  rw [at_M Try.func156 58 (by decide) 6 (by decide) (by kernel_rfl) [235]]
  simp only [kdC, usN] at hB ⊢
  exact ⟨_, _, by simp [Try.f156, t5, t3, hB, stVar, spl]; exact ⟨rfl, rfl⟩, by simp, by simp, by simp, by simp [usesL, List.lookup_cons, hB], fun b hb => by simp [hb]⟩
theorem kdS_235 (k : Int) (h0 : ¬ (k = 0)) (h16 : ¬ (k = 16)) (h20 : ¬ (k = 20)) (h25 : ¬ (k = 25)) (m : Nat) (τ : Tm) (H : AH) (t5 : τ 5 = .int .i64 k) :
    ∃ τ', evAt Try.prog (ev Try.prog m) m 156 235 τ H = evAt Try.prog (ev Try.prog m) m 156 943 τ' H ∧ τ' 2 = τ 2 ∧ τ' 3 = τ 3 ∧ τ' 5 = .int .i64 k := by
  rw [at_M Try.func156 235 (by decide) 8 (by decide) (by kernel_rfl) [943]]
  exact ⟨_, by simp [Try.f156, t5, beqF, h0, h16, h20, h25]; rfl, by simp, by simp, by simp [t5]⟩
theorem kdF_0 (m : Nat) (τ : Tm) (H : AH) (t5 : τ 5 = .int .i64 0) (B : Nat) (t3 : τ 3 = .ptr B 0) (hB : H.get B = some (.cells 222 false (kdC true usN))) :
    ∃ τ' H', evAt Try.prog (ev Try.prog m) m 156 235 τ H = some (.normal, τ', H') ∧ KdE B H H' τ τ' (kdC true ((usesL.lookup 0).getD usN)) := by
  rw [at_M Try.func156 235 (by decide) 8 (by decide) (by kernel_rfl) [943]]
  simp only [kdC, usN] at hB ⊢
  exact ⟨_, _, by simp [Try.f156, t5, t3, hB, stVar, spl]; exact ⟨rfl, rfl⟩, by simp, by simp, by simp, by simp [usesL, List.lookup_cons, hB], fun b hb => by simp [hb]⟩
theorem kdF_16 (m : Nat) (τ : Tm) (H : AH) (t5 : τ 5 = .int .i64 16) (B : Nat) (t3 : τ 3 = .ptr B 0) (hB : H.get B = some (.cells 222 false (kdC true usN))) :
    ∃ τ' H', evAt Try.prog (ev Try.prog m) m 156 235 τ H = some (.normal, τ', H') ∧ KdE B H H' τ τ' (kdC true ((usesL.lookup 16).getD usN)) := by
  rw [at_M Try.func156 235 (by decide) 8 (by decide) (by kernel_rfl) [943]]
  simp only [kdC, usN] at hB ⊢
  exact ⟨_, _, by simp [Try.f156, t5, t3, hB, stVar, spl]; exact ⟨rfl, rfl⟩, by simp, by simp, by simp, by simp [usesL, List.lookup_cons, hB], fun b hb => by simp [hb]⟩
theorem kdF_20 (m : Nat) (τ : Tm) (H : AH) (t5 : τ 5 = .int .i64 20) (B : Nat) (t3 : τ 3 = .ptr B 0) (hB : H.get B = some (.cells 222 false (kdC true usN))) :
    ∃ τ' H', evAt Try.prog (ev Try.prog m) m 156 235 τ H = some (.normal, τ', H') ∧ KdE B H H' τ τ' (kdC true ((usesL.lookup 20).getD usN)) := by
  rw [at_M Try.func156 235 (by decide) 8 (by decide) (by kernel_rfl) [943]]
  simp only [kdC, usN] at hB ⊢
  exact ⟨_, _, by simp [Try.f156, t5, t3, hB, stVar, spl]; exact ⟨rfl, rfl⟩, by simp, by simp, by simp, by simp [usesL, List.lookup_cons, hB], fun b hb => by simp [hb]⟩
theorem kdF_25 (m : Nat) (τ : Tm) (H : AH) (t5 : τ 5 = .int .i64 25) (B : Nat) (t3 : τ 3 = .ptr B 0) (hB : H.get B = some (.cells 222 false (kdC true usN))) :
    ∃ τ' H', evAt Try.prog (ev Try.prog m) m 156 235 τ H = some (.normal, τ', H') ∧ KdE B H H' τ τ' (kdC true ((usesL.lookup 25).getD usN)) := by
  rw [at_M Try.func156 235 (by decide) 8 (by decide) (by kernel_rfl) [943]]
  simp only [kdC, usN] at hB ⊢
  exact ⟨_, _, by simp [Try.f156, t5, t3, hB, stVar, spl]; exact ⟨rfl, rfl⟩, by simp, by simp, by simp, by simp [usesL, List.lookup_cons, hB], fun b hb => by simp [hb]⟩
theorem kdS_943 (k : Int) (h2 : ¬ (k = 2)) (m : Nat) (τ : Tm) (H : AH) (t5 : τ 5 = .int .i64 k) :
    ∃ τ', evAt Try.prog (ev Try.prog m) m 156 943 τ H = evAt Try.prog (ev Try.prog m) m 156 3775 τ' H ∧ τ' 2 = τ 2 ∧ τ' 3 = τ 3 ∧ τ' 5 = .int .i64 k := by
  rw [at_M Try.func156 943 (by decide) 10 (by decide) (by kernel_rfl) [3775]]
  exact ⟨_, by simp [Try.f156, t5, beqF, h2]; rfl, by simp, by simp, by simp [t5]⟩
theorem kdF_2 (m : Nat) (τ : Tm) (H : AH) (t5 : τ 5 = .int .i64 2) (B : Nat) (t3 : τ 3 = .ptr B 0) (hB : H.get B = some (.cells 222 false (kdC true usN))) :
    ∃ τ' H', evAt Try.prog (ev Try.prog m) m 156 943 τ H = some (.normal, τ', H') ∧ KdE B H H' τ τ' (kdC true ((usesL.lookup 2).getD usN)) := by
  rw [at_M Try.func156 943 (by decide) 10 (by decide) (by kernel_rfl) [3775]]
  simp only [kdC, usN] at hB ⊢
  exact ⟨_, _, by simp [Try.f156, t5, t3, hB, stVar, spl]; exact ⟨rfl, rfl⟩, by simp, by simp, by simp, by simp [usesL, List.lookup_cons, hB], fun b hb => by simp [hb]⟩
theorem kdS_3775 (k : Int) (h4 : ¬ (k = 4)) (m : Nat) (τ : Tm) (H : AH) (t5 : τ 5 = .int .i64 k) :
    ∃ τ', evAt Try.prog (ev Try.prog m) m 156 3775 τ H = evAt Try.prog (ev Try.prog m) m 156 15103 τ' H ∧ τ' 2 = τ 2 ∧ τ' 3 = τ 3 ∧ τ' 5 = .int .i64 k := by
  rw [at_M Try.func156 3775 (by decide) 12 (by decide) (by kernel_rfl) [15103]]
  exact ⟨_, by simp [Try.f156, t5, beqF, h4]; rfl, by simp, by simp, by simp [t5]⟩
theorem kdF_4 (m : Nat) (τ : Tm) (H : AH) (t5 : τ 5 = .int .i64 4) (B : Nat) (t3 : τ 3 = .ptr B 0) (hB : H.get B = some (.cells 222 false (kdC true usN))) :
    ∃ τ' H', evAt Try.prog (ev Try.prog m) m 156 3775 τ H = some (.normal, τ', H') ∧ KdE B H H' τ τ' (kdC true ((usesL.lookup 4).getD usN)) := by
  rw [at_M Try.func156 3775 (by decide) 12 (by decide) (by kernel_rfl) [15103]]
  simp only [kdC, usN] at hB ⊢
  exact ⟨_, _, by simp [Try.f156, t5, t3, hB, stVar, spl]; exact ⟨rfl, rfl⟩, by simp, by simp, by simp, by simp [usesL, List.lookup_cons, hB], fun b hb => by simp [hb]⟩
theorem kdS_15103 (k : Int) (h5 : ¬ (k = 5)) (h17 : ¬ (k = 17)) (h21 : ¬ (k = 21)) (h18 : ¬ (k = 18)) (h22 : ¬ (k = 22)) (m : Nat) (τ : Tm) (H : AH) (t5 : τ 5 = .int .i64 k) :
    ∃ τ', evAt Try.prog (ev Try.prog m) m 156 15103 τ H = evAt Try.prog (ev Try.prog m) m 156 60415 τ' H ∧ τ' 2 = τ 2 ∧ τ' 3 = τ 3 ∧ τ' 5 = .int .i64 k := by
  rw [at_M Try.func156 15103 (by decide) 14 (by decide) (by kernel_rfl) [60415]]
  exact ⟨_, by simp [Try.f156, t5, beqF, h5, h17, h21, h18, h22]; rfl, by simp, by simp, by simp [t5]⟩
theorem kdF_5 (m : Nat) (τ : Tm) (H : AH) (t5 : τ 5 = .int .i64 5) (B : Nat) (t3 : τ 3 = .ptr B 0) (hB : H.get B = some (.cells 222 false (kdC true usN))) :
    ∃ τ' H', evAt Try.prog (ev Try.prog m) m 156 15103 τ H = some (.normal, τ', H') ∧ KdE B H H' τ τ' (kdC true ((usesL.lookup 5).getD usN)) := by
  rw [at_M Try.func156 15103 (by decide) 14 (by decide) (by kernel_rfl) [60415]]
  simp only [kdC, usN] at hB ⊢
  exact ⟨_, _, by simp [Try.f156, t5, t3, hB, stVar, spl]; exact ⟨rfl, rfl⟩, by simp, by simp, by simp, by simp [usesL, List.lookup_cons, hB], fun b hb => by simp [hb]⟩
theorem kdF_17 (m : Nat) (τ : Tm) (H : AH) (t5 : τ 5 = .int .i64 17) (B : Nat) (t3 : τ 3 = .ptr B 0) (hB : H.get B = some (.cells 222 false (kdC true usN))) :
    ∃ τ' H', evAt Try.prog (ev Try.prog m) m 156 15103 τ H = some (.normal, τ', H') ∧ KdE B H H' τ τ' (kdC true ((usesL.lookup 17).getD usN)) := by
  rw [at_M Try.func156 15103 (by decide) 14 (by decide) (by kernel_rfl) [60415]]
  simp only [kdC, usN] at hB ⊢
  exact ⟨_, _, by simp [Try.f156, t5, t3, hB, stVar, spl]; exact ⟨rfl, rfl⟩, by simp, by simp, by simp, by simp [usesL, List.lookup_cons, hB], fun b hb => by simp [hb]⟩
theorem kdF_21 (m : Nat) (τ : Tm) (H : AH) (t5 : τ 5 = .int .i64 21) (B : Nat) (t3 : τ 3 = .ptr B 0) (hB : H.get B = some (.cells 222 false (kdC true usN))) :
    ∃ τ' H', evAt Try.prog (ev Try.prog m) m 156 15103 τ H = some (.normal, τ', H') ∧ KdE B H H' τ τ' (kdC true ((usesL.lookup 21).getD usN)) := by
  rw [at_M Try.func156 15103 (by decide) 14 (by decide) (by kernel_rfl) [60415]]
  simp only [kdC, usN] at hB ⊢
  exact ⟨_, _, by simp [Try.f156, t5, t3, hB, stVar, spl]; exact ⟨rfl, rfl⟩, by simp, by simp, by simp, by simp [usesL, List.lookup_cons, hB], fun b hb => by simp [hb]⟩
theorem kdF_18 (m : Nat) (τ : Tm) (H : AH) (t5 : τ 5 = .int .i64 18) (B : Nat) (t3 : τ 3 = .ptr B 0) (hB : H.get B = some (.cells 222 false (kdC true usN))) :
    ∃ τ' H', evAt Try.prog (ev Try.prog m) m 156 15103 τ H = some (.normal, τ', H') ∧ KdE B H H' τ τ' (kdC true ((usesL.lookup 18).getD usN)) := by
  rw [at_M Try.func156 15103 (by decide) 14 (by decide) (by kernel_rfl) [60415]]
  simp only [kdC, usN] at hB ⊢
  exact ⟨_, _, by simp [Try.f156, t5, t3, hB, stVar, spl]; exact ⟨rfl, rfl⟩, by simp, by simp, by simp, by simp [usesL, List.lookup_cons, hB], fun b hb => by simp [hb]⟩
theorem kdF_22 (m : Nat) (τ : Tm) (H : AH) (t5 : τ 5 = .int .i64 22) (B : Nat) (t3 : τ 3 = .ptr B 0) (hB : H.get B = some (.cells 222 false (kdC true usN))) :
    ∃ τ' H', evAt Try.prog (ev Try.prog m) m 156 15103 τ H = some (.normal, τ', H') ∧ KdE B H H' τ τ' (kdC true ((usesL.lookup 22).getD usN)) := by
  rw [at_M Try.func156 15103 (by decide) 14 (by decide) (by kernel_rfl) [60415]]
  simp only [kdC, usN] at hB ⊢
  exact ⟨_, _, by simp [Try.f156, t5, t3, hB, stVar, spl]; exact ⟨rfl, rfl⟩, by simp, by simp, by simp, by simp [usesL, List.lookup_cons, hB], fun b hb => by simp [hb]⟩
theorem kdS_60415 (k : Int) (h6 : ¬ (k = 6)) (m : Nat) (τ : Tm) (H : AH) (t5 : τ 5 = .int .i64 k) :
    ∃ τ', evAt Try.prog (ev Try.prog m) m 156 60415 τ H = evAt Try.prog (ev Try.prog m) m 156 241663 τ' H ∧ τ' 2 = τ 2 ∧ τ' 3 = τ 3 ∧ τ' 5 = .int .i64 k := by
  rw [at_M Try.func156 60415 (by decide) 16 (by decide) (by kernel_rfl) [241663]]
  exact ⟨_, by simp [Try.f156, t5, beqF, h6]; rfl, by simp, by simp, by simp [t5]⟩
theorem kdF_6 (m : Nat) (τ : Tm) (H : AH) (t5 : τ 5 = .int .i64 6) (B : Nat) (t3 : τ 3 = .ptr B 0) (hB : H.get B = some (.cells 222 false (kdC true usN))) :
    ∃ τ' H', evAt Try.prog (ev Try.prog m) m 156 60415 τ H = some (.normal, τ', H') ∧ KdE B H H' τ τ' (kdC true ((usesL.lookup 6).getD usN)) := by
  rw [at_M Try.func156 60415 (by decide) 16 (by decide) (by kernel_rfl) [241663]]
  simp only [kdC, usN] at hB ⊢
  exact ⟨_, _, by simp [Try.f156, t5, t3, hB, stVar, spl]; exact ⟨rfl, rfl⟩, by simp, by simp, by simp, by simp [usesL, List.lookup_cons, hB], fun b hb => by simp [hb]⟩
theorem kdS_241663 (k : Int) (h7 : ¬ (k = 7)) (m : Nat) (τ : Tm) (H : AH) (t5 : τ 5 = .int .i64 k) :
    ∃ τ', evAt Try.prog (ev Try.prog m) m 156 241663 τ H = evAt Try.prog (ev Try.prog m) m 156 966655 τ' H ∧ τ' 2 = τ 2 ∧ τ' 3 = τ 3 ∧ τ' 5 = .int .i64 k := by
  rw [at_M Try.func156 241663 (by decide) 18 (by decide) (by kernel_rfl) [966655]]
  exact ⟨_, by simp [Try.f156, t5, beqF, h7]; rfl, by simp, by simp, by simp [t5]⟩
theorem kdF_7 (m : Nat) (τ : Tm) (H : AH) (t5 : τ 5 = .int .i64 7) (B : Nat) (t3 : τ 3 = .ptr B 0) (hB : H.get B = some (.cells 222 false (kdC true usN))) :
    ∃ τ' H', evAt Try.prog (ev Try.prog m) m 156 241663 τ H = some (.normal, τ', H') ∧ KdE B H H' τ τ' (kdC true ((usesL.lookup 7).getD usN)) := by
  rw [at_M Try.func156 241663 (by decide) 18 (by decide) (by kernel_rfl) [966655]]
  simp only [kdC, usN] at hB ⊢
  exact ⟨_, _, by simp [Try.f156, t5, t3, hB, stVar, spl]; exact ⟨rfl, rfl⟩, by simp, by simp, by simp, by simp [usesL, List.lookup_cons, hB], fun b hb => by simp [hb]⟩
theorem kdS_966655 (k : Int) (h8 : ¬ (k = 8)) (m : Nat) (τ : Tm) (H : AH) (t5 : τ 5 = .int .i64 k) :
    ∃ τ', evAt Try.prog (ev Try.prog m) m 156 966655 τ H = evAt Try.prog (ev Try.prog m) m 156 3866623 τ' H ∧ τ' 2 = τ 2 ∧ τ' 3 = τ 3 ∧ τ' 5 = .int .i64 k := by
  rw [at_M Try.func156 966655 (by decide) 20 (by decide) (by kernel_rfl) [3866623]]
  exact ⟨_, by simp [Try.f156, t5, beqF, h8]; rfl, by simp, by simp, by simp [t5]⟩
theorem kdF_8 (m : Nat) (τ : Tm) (H : AH) (t5 : τ 5 = .int .i64 8) (B : Nat) (t3 : τ 3 = .ptr B 0) (hB : H.get B = some (.cells 222 false (kdC true usN))) :
    ∃ τ' H', evAt Try.prog (ev Try.prog m) m 156 966655 τ H = some (.normal, τ', H') ∧ KdE B H H' τ τ' (kdC true ((usesL.lookup 8).getD usN)) := by
  rw [at_M Try.func156 966655 (by decide) 20 (by decide) (by kernel_rfl) [3866623]]
  simp only [kdC, usN] at hB ⊢
  exact ⟨_, _, by simp [Try.f156, t5, t3, hB, stVar, spl]; exact ⟨rfl, rfl⟩, by simp, by simp, by simp, by simp [usesL, List.lookup_cons, hB], fun b hb => by simp [hb]⟩
theorem kdS_3866623 (k : Int) (h24 : ¬ (k = 24)) (m : Nat) (τ : Tm) (H : AH) (t5 : τ 5 = .int .i64 k) :
    ∃ τ', evAt Try.prog (ev Try.prog m) m 156 3866623 τ H = evAt Try.prog (ev Try.prog m) m 156 15466495 τ' H ∧ τ' 2 = τ 2 ∧ τ' 3 = τ 3 ∧ τ' 5 = .int .i64 k := by
  rw [at_M Try.func156 3866623 (by decide) 22 (by decide) (by kernel_rfl) [15466495]]
  exact ⟨_, by simp [Try.f156, t5, beqF, h24]; rfl, by simp, by simp, by simp [t5]⟩
theorem kdF_24 (m : Nat) (τ : Tm) (H : AH) (t5 : τ 5 = .int .i64 24) (B : Nat) (t3 : τ 3 = .ptr B 0) (hB : H.get B = some (.cells 222 false (kdC true usN))) :
    ∃ τ' H', evAt Try.prog (ev Try.prog m) m 156 3866623 τ H = some (.normal, τ', H') ∧ KdE B H H' τ τ' (kdC true ((usesL.lookup 24).getD usN)) := by
  rw [at_M Try.func156 3866623 (by decide) 22 (by decide) (by kernel_rfl) [15466495]]
  simp only [kdC, usN] at hB ⊢
  exact ⟨_, _, by simp [Try.f156, t5, t3, hB, stVar, spl]; exact ⟨rfl, rfl⟩, by simp, by simp, by simp, by simp [usesL, List.lookup_cons, hB], fun b hb => by simp [hb]⟩
theorem kdS_15466495 (k : Int) (h26 : ¬ (k = 26)) (h27 : ¬ (k = 27)) (m : Nat) (τ : Tm) (H : AH) (t5 : τ 5 = .int .i64 k) :
    ∃ τ', evAt Try.prog (ev Try.prog m) m 156 15466495 τ H = evAt Try.prog (ev Try.prog m) m 156 61865983 τ' H ∧ τ' 2 = τ 2 ∧ τ' 3 = τ 3 ∧ τ' 5 = .int .i64 k := by
  rw [at_M Try.func156 15466495 (by decide) 24 (by decide) (by kernel_rfl) [61865983]]
  exact ⟨_, by simp [Try.f156, t5, beqF, h26, h27]; rfl, by simp, by simp, by simp [t5]⟩
theorem kdF_26 (m : Nat) (τ : Tm) (H : AH) (t5 : τ 5 = .int .i64 26) (B : Nat) (t3 : τ 3 = .ptr B 0) (hB : H.get B = some (.cells 222 false (kdC true usN))) :
    ∃ τ' H', evAt Try.prog (ev Try.prog m) m 156 15466495 τ H = some (.normal, τ', H') ∧ KdE B H H' τ τ' (kdC true ((usesL.lookup 26).getD usN)) := by
  rw [at_M Try.func156 15466495 (by decide) 24 (by decide) (by kernel_rfl) [61865983]]
  simp only [kdC, usN] at hB ⊢
  exact ⟨_, _, by simp [Try.f156, t5, t3, hB, stVar, spl]; exact ⟨rfl, rfl⟩, by simp, by simp, by simp, by simp [usesL, List.lookup_cons, hB], fun b hb => by simp [hb]⟩
theorem kdF_27 (m : Nat) (τ : Tm) (H : AH) (t5 : τ 5 = .int .i64 27) (B : Nat) (t3 : τ 3 = .ptr B 0) (hB : H.get B = some (.cells 222 false (kdC true usN))) :
    ∃ τ' H', evAt Try.prog (ev Try.prog m) m 156 15466495 τ H = some (.normal, τ', H') ∧ KdE B H H' τ τ' (kdC true ((usesL.lookup 27).getD usN)) := by
  rw [at_M Try.func156 15466495 (by decide) 24 (by decide) (by kernel_rfl) [61865983]]
  simp only [kdC, usN] at hB ⊢
  exact ⟨_, _, by simp [Try.f156, t5, t3, hB, stVar, spl]; exact ⟨rfl, rfl⟩, by simp, by simp, by simp, by simp [usesL, List.lookup_cons, hB], fun b hb => by simp [hb]⟩
theorem kdS_61865983 (k : Int) (h28 : ¬ (k = 28)) (m : Nat) (τ : Tm) (H : AH) (t5 : τ 5 = .int .i64 k) :
    ∃ τ', evAt Try.prog (ev Try.prog m) m 156 61865983 τ H = evAt Try.prog (ev Try.prog m) m 156 247463935 τ' H ∧ τ' 2 = τ 2 ∧ τ' 3 = τ 3 ∧ τ' 5 = .int .i64 k := by
  rw [at_M Try.func156 61865983 (by decide) 26 (by decide) (by kernel_rfl) [247463935]]
  exact ⟨_, by simp [Try.f156, t5, beqF, h28]; rfl, by simp, by simp, by simp [t5]⟩
theorem kdF_28 (m : Nat) (τ : Tm) (H : AH) (t5 : τ 5 = .int .i64 28) (B : Nat) (t3 : τ 3 = .ptr B 0) (hB : H.get B = some (.cells 222 false (kdC true usN))) :
    ∃ τ' H', evAt Try.prog (ev Try.prog m) m 156 61865983 τ H = some (.normal, τ', H') ∧ KdE B H H' τ τ' (kdC true ((usesL.lookup 28).getD usN)) := by
  rw [at_M Try.func156 61865983 (by decide) 26 (by decide) (by kernel_rfl) [247463935]]
  simp only [kdC, usN] at hB ⊢
  exact ⟨_, _, by simp [Try.f156, t5, t3, hB, stVar, spl]; exact ⟨rfl, rfl⟩, by simp, by simp, by simp, by simp [usesL, List.lookup_cons, hB], fun b hb => by simp [hb]⟩
theorem kdS_247463935 (k : Int) (h29 : ¬ (k = 29)) (m : Nat) (τ : Tm) (H : AH) (t5 : τ 5 = .int .i64 k) :
    ∃ τ', evAt Try.prog (ev Try.prog m) m 156 247463935 τ H = evAt Try.prog (ev Try.prog m) m 156 989855743 τ' H ∧ τ' 2 = τ 2 ∧ τ' 3 = τ 3 ∧ τ' 5 = .int .i64 k := by
  rw [at_M Try.func156 247463935 (by decide) 28 (by decide) (by kernel_rfl) [989855743]]
  exact ⟨_, by simp [Try.f156, t5, beqF, h29]; rfl, by simp, by simp, by simp [t5]⟩
theorem kdF_29 (m : Nat) (τ : Tm) (H : AH) (t5 : τ 5 = .int .i64 29) (B : Nat) (t3 : τ 3 = .ptr B 0) (hB : H.get B = some (.cells 222 false (kdC true usN))) :
    ∃ τ' H', evAt Try.prog (ev Try.prog m) m 156 247463935 τ H = some (.normal, τ', H') ∧ KdE B H H' τ τ' (kdC true ((usesL.lookup 29).getD usN)) := by
  rw [at_M Try.func156 247463935 (by decide) 28 (by decide) (by kernel_rfl) [989855743]]
  simp only [kdC, usN] at hB ⊢
  exact ⟨_, _, by simp [Try.f156, t5, t3, hB, stVar, spl]; exact ⟨rfl, rfl⟩, by simp, by simp, by simp, by simp [usesL, List.lookup_cons, hB], fun b hb => by simp [hb]⟩
theorem kdF_not (k : Int) (h48 : ¬ (k = 48)) (m : Nat) (τ : Tm) (H : AH) (t5 : τ 5 = .int .i64 k) (B : Nat) (t3 : τ 3 = .ptr B 0) (hB : H.get B = some (.cells 222 false (kdC true usN))) :
    ∃ τ' H', evAt Try.prog (ev Try.prog m) m 156 989855743 τ H = some (.normal, τ', H') ∧ KdE B H H' τ τ' (kdC false usN) := by
  rw [at_M Try.func156 989855743 (by decide) 30 (by decide) (by kernel_rfl) []]
  simp only [kdC, usN] at hB ⊢
  exact ⟨_, _, by simp [Try.f156, t5, t3, hB, stVar, spl, beqF, h48]; exact ⟨rfl, rfl⟩, by simp, by simp, by simp, by simp, fun b hb => by simp [hb]⟩
theorem kdF_48 (m : Nat) (τ : Tm) (H : AH) (t5 : τ 5 = .int .i64 48) (B : Nat) (t3 : τ 3 = .ptr B 0) (hB : H.get B = some (.cells 222 false (kdC true usN))) :
    ∃ τ' H', evAt Try.prog (ev Try.prog m) m 156 989855743 τ H = some (.normal, τ', H') ∧ KdE B H H' τ τ' (kdC true ((usesL.lookup 48).getD usN)) := by
  rw [at_M Try.func156 989855743 (by decide) 30 (by decide) (by kernel_rfl) []]
  simp only [kdC, usN] at hB ⊢
  exact ⟨_, _, by simp [Try.f156, t5, t3, hB, stVar, spl]; exact ⟨rfl, rfl⟩, by simp, by simp, by simp, by simp [usesL, List.lookup_cons, hB], fun b hb => by simp [hb]⟩
theorem kdA_0 (m : Nat) (τ : Tm) (H : AH) (t5 : τ 5 = .int .i64 0) (B : Nat) (t3 : τ 3 = .ptr B 0) (hB : H.get B = some (.cells 222 false (kdC true usN))) :
    ∃ τ' H', evAt Try.prog (ev Try.prog m) m 156 58 τ H = some (.normal, τ', H') ∧ KdE B H H' τ τ' (kdC true ((usesL.lookup 0).getD usN)) := by
  obtain ⟨τ1, e1, a1, b1, c1⟩ := kdS_58 0 (by decide) (by decide) m τ H t5
  obtain ⟨τ', H', e, g⟩ := kdF_0 m τ1 H c1 B (by rw [b1]; exact t3) hB
  refine ⟨τ', H', by rw [e1, e], ⟨g.t2.trans (by rw [a1]), g.t3.trans (by rw [b1]), g.next, g.get, g.rest⟩⟩
theorem kdA_1 (m : Nat) (τ : Tm) (H : AH) (t5 : τ 5 = .int .i64 1) (B : Nat) (t3 : τ 3 = .ptr B 0) (hB : H.get B = some (.cells 222 false (kdC true usN))) :
    ∃ τ' H', evAt Try.prog (ev Try.prog m) m 156 58 τ H = some (.normal, τ', H') ∧ KdE B H H' τ τ' (kdC true ((usesL.lookup 1).getD usN)) := by
  obtain ⟨τ', H', e, g⟩ := kdF_1 m τ H t5 B (t3) hB
  exact ⟨τ', H', e, g⟩
theorem kdA_2 (m : Nat) (τ : Tm) (H : AH) (t5 : τ 5 = .int .i64 2) (B : Nat) (t3 : τ 3 = .ptr B 0) (hB : H.get B = some (.cells 222 false (kdC true usN))) :
    ∃ τ' H', evAt Try.prog (ev Try.prog m) m 156 58 τ H = some (.normal, τ', H') ∧ KdE B H H' τ τ' (kdC true ((usesL.lookup 2).getD usN)) := by
  obtain ⟨τ1, e1, a1, b1, c1⟩ := kdS_58 2 (by decide) (by decide) m τ H t5
  obtain ⟨τ2, e2, a2, b2, c2⟩ := kdS_235 2 (by decide) (by decide) (by decide) (by decide) m τ1 H c1
  obtain ⟨τ', H', e, g⟩ := kdF_2 m τ2 H c2 B (by rw [b2, b1]; exact t3) hB
  refine ⟨τ', H', by rw [e1, e2, e], ⟨g.t2.trans (by rw [a2, a1]), g.t3.trans (by rw [b2, b1]), g.next, g.get, g.rest⟩⟩
theorem kdA_4 (m : Nat) (τ : Tm) (H : AH) (t5 : τ 5 = .int .i64 4) (B : Nat) (t3 : τ 3 = .ptr B 0) (hB : H.get B = some (.cells 222 false (kdC true usN))) :
    ∃ τ' H', evAt Try.prog (ev Try.prog m) m 156 58 τ H = some (.normal, τ', H') ∧ KdE B H H' τ τ' (kdC true ((usesL.lookup 4).getD usN)) := by
  obtain ⟨τ1, e1, a1, b1, c1⟩ := kdS_58 4 (by decide) (by decide) m τ H t5
  obtain ⟨τ2, e2, a2, b2, c2⟩ := kdS_235 4 (by decide) (by decide) (by decide) (by decide) m τ1 H c1
  obtain ⟨τ3, e3, a3, b3, c3⟩ := kdS_943 4 (by decide) m τ2 H c2
  obtain ⟨τ', H', e, g⟩ := kdF_4 m τ3 H c3 B (by rw [b3, b2, b1]; exact t3) hB
  refine ⟨τ', H', by rw [e1, e2, e3, e], ⟨g.t2.trans (by rw [a3, a2, a1]), g.t3.trans (by rw [b3, b2, b1]), g.next, g.get, g.rest⟩⟩
theorem kdA_5 (m : Nat) (τ : Tm) (H : AH) (t5 : τ 5 = .int .i64 5) (B : Nat) (t3 : τ 3 = .ptr B 0) (hB : H.get B = some (.cells 222 false (kdC true usN))) :
    ∃ τ' H', evAt Try.prog (ev Try.prog m) m 156 58 τ H = some (.normal, τ', H') ∧ KdE B H H' τ τ' (kdC true ((usesL.lookup 5).getD usN)) := by
  obtain ⟨τ1, e1, a1, b1, c1⟩ := kdS_58 5 (by decide) (by decide) m τ H t5
  obtain ⟨τ2, e2, a2, b2, c2⟩ := kdS_235 5 (by decide) (by decide) (by decide) (by decide) m τ1 H c1
  obtain ⟨τ3, e3, a3, b3, c3⟩ := kdS_943 5 (by decide) m τ2 H c2
  obtain ⟨τ4, e4, a4, b4, c4⟩ := kdS_3775 5 (by decide) m τ3 H c3
  obtain ⟨τ', H', e, g⟩ := kdF_5 m τ4 H c4 B (by rw [b4, b3, b2, b1]; exact t3) hB
  refine ⟨τ', H', by rw [e1, e2, e3, e4, e], ⟨g.t2.trans (by rw [a4, a3, a2, a1]), g.t3.trans (by rw [b4, b3, b2, b1]), g.next, g.get, g.rest⟩⟩
theorem kdA_6 (m : Nat) (τ : Tm) (H : AH) (t5 : τ 5 = .int .i64 6) (B : Nat) (t3 : τ 3 = .ptr B 0) (hB : H.get B = some (.cells 222 false (kdC true usN))) :
    ∃ τ' H', evAt Try.prog (ev Try.prog m) m 156 58 τ H = some (.normal, τ', H') ∧ KdE B H H' τ τ' (kdC true ((usesL.lookup 6).getD usN)) := by
  obtain ⟨τ1, e1, a1, b1, c1⟩ := kdS_58 6 (by decide) (by decide) m τ H t5
  obtain ⟨τ2, e2, a2, b2, c2⟩ := kdS_235 6 (by decide) (by decide) (by decide) (by decide) m τ1 H c1
  obtain ⟨τ3, e3, a3, b3, c3⟩ := kdS_943 6 (by decide) m τ2 H c2
  obtain ⟨τ4, e4, a4, b4, c4⟩ := kdS_3775 6 (by decide) m τ3 H c3
  obtain ⟨τ5, e5, a5, b5, c5⟩ := kdS_15103 6 (by decide) (by decide) (by decide) (by decide) (by decide) m τ4 H c4
  obtain ⟨τ', H', e, g⟩ := kdF_6 m τ5 H c5 B (by rw [b5, b4, b3, b2, b1]; exact t3) hB
  refine ⟨τ', H', by rw [e1, e2, e3, e4, e5, e], ⟨g.t2.trans (by rw [a5, a4, a3, a2, a1]), g.t3.trans (by rw [b5, b4, b3, b2, b1]), g.next, g.get, g.rest⟩⟩
theorem kdA_7 (m : Nat) (τ : Tm) (H : AH) (t5 : τ 5 = .int .i64 7) (B : Nat) (t3 : τ 3 = .ptr B 0) (hB : H.get B = some (.cells 222 false (kdC true usN))) :
    ∃ τ' H', evAt Try.prog (ev Try.prog m) m 156 58 τ H = some (.normal, τ', H') ∧ KdE B H H' τ τ' (kdC true ((usesL.lookup 7).getD usN)) := by
  obtain ⟨τ1, e1, a1, b1, c1⟩ := kdS_58 7 (by decide) (by decide) m τ H t5
  obtain ⟨τ2, e2, a2, b2, c2⟩ := kdS_235 7 (by decide) (by decide) (by decide) (by decide) m τ1 H c1
  obtain ⟨τ3, e3, a3, b3, c3⟩ := kdS_943 7 (by decide) m τ2 H c2
  obtain ⟨τ4, e4, a4, b4, c4⟩ := kdS_3775 7 (by decide) m τ3 H c3
  obtain ⟨τ5, e5, a5, b5, c5⟩ := kdS_15103 7 (by decide) (by decide) (by decide) (by decide) (by decide) m τ4 H c4
  obtain ⟨τ6, e6, a6, b6, c6⟩ := kdS_60415 7 (by decide) m τ5 H c5
  obtain ⟨τ', H', e, g⟩ := kdF_7 m τ6 H c6 B (by rw [b6, b5, b4, b3, b2, b1]; exact t3) hB
  refine ⟨τ', H', by rw [e1, e2, e3, e4, e5, e6, e], ⟨g.t2.trans (by rw [a6, a5, a4, a3, a2, a1]), g.t3.trans (by rw [b6, b5, b4, b3, b2, b1]), g.next, g.get, g.rest⟩⟩
theorem kdA_8 (m : Nat) (τ : Tm) (H : AH) (t5 : τ 5 = .int .i64 8) (B : Nat) (t3 : τ 3 = .ptr B 0) (hB : H.get B = some (.cells 222 false (kdC true usN))) :
    ∃ τ' H', evAt Try.prog (ev Try.prog m) m 156 58 τ H = some (.normal, τ', H') ∧ KdE B H H' τ τ' (kdC true ((usesL.lookup 8).getD usN)) := by
  obtain ⟨τ1, e1, a1, b1, c1⟩ := kdS_58 8 (by decide) (by decide) m τ H t5
  obtain ⟨τ2, e2, a2, b2, c2⟩ := kdS_235 8 (by decide) (by decide) (by decide) (by decide) m τ1 H c1
  obtain ⟨τ3, e3, a3, b3, c3⟩ := kdS_943 8 (by decide) m τ2 H c2
  obtain ⟨τ4, e4, a4, b4, c4⟩ := kdS_3775 8 (by decide) m τ3 H c3
  obtain ⟨τ5, e5, a5, b5, c5⟩ := kdS_15103 8 (by decide) (by decide) (by decide) (by decide) (by decide) m τ4 H c4
  obtain ⟨τ6, e6, a6, b6, c6⟩ := kdS_60415 8 (by decide) m τ5 H c5
  obtain ⟨τ7, e7, a7, b7, c7⟩ := kdS_241663 8 (by decide) m τ6 H c6
  obtain ⟨τ', H', e, g⟩ := kdF_8 m τ7 H c7 B (by rw [b7, b6, b5, b4, b3, b2, b1]; exact t3) hB
  refine ⟨τ', H', by rw [e1, e2, e3, e4, e5, e6, e7, e], ⟨g.t2.trans (by rw [a7, a6, a5, a4, a3, a2, a1]), g.t3.trans (by rw [b7, b6, b5, b4, b3, b2, b1]), g.next, g.get, g.rest⟩⟩
theorem kdA_16 (m : Nat) (τ : Tm) (H : AH) (t5 : τ 5 = .int .i64 16) (B : Nat) (t3 : τ 3 = .ptr B 0) (hB : H.get B = some (.cells 222 false (kdC true usN))) :
    ∃ τ' H', evAt Try.prog (ev Try.prog m) m 156 58 τ H = some (.normal, τ', H') ∧ KdE B H H' τ τ' (kdC true ((usesL.lookup 16).getD usN)) := by
  obtain ⟨τ1, e1, a1, b1, c1⟩ := kdS_58 16 (by decide) (by decide) m τ H t5
  obtain ⟨τ', H', e, g⟩ := kdF_16 m τ1 H c1 B (by rw [b1]; exact t3) hB
  refine ⟨τ', H', by rw [e1, e], ⟨g.t2.trans (by rw [a1]), g.t3.trans (by rw [b1]), g.next, g.get, g.rest⟩⟩
theorem kdA_17 (m : Nat) (τ : Tm) (H : AH) (t5 : τ 5 = .int .i64 17) (B : Nat) (t3 : τ 3 = .ptr B 0) (hB : H.get B = some (.cells 222 false (kdC true usN))) :
    ∃ τ' H', evAt Try.prog (ev Try.prog m) m 156 58 τ H = some (.normal, τ', H') ∧ KdE B H H' τ τ' (kdC true ((usesL.lookup 17).getD usN)) := by
  obtain ⟨τ1, e1, a1, b1, c1⟩ := kdS_58 17 (by decide) (by decide) m τ H t5
  obtain ⟨τ2, e2, a2, b2, c2⟩ := kdS_235 17 (by decide) (by decide) (by decide) (by decide) m τ1 H c1
  obtain ⟨τ3, e3, a3, b3, c3⟩ := kdS_943 17 (by decide) m τ2 H c2
  obtain ⟨τ4, e4, a4, b4, c4⟩ := kdS_3775 17 (by decide) m τ3 H c3
  obtain ⟨τ', H', e, g⟩ := kdF_17 m τ4 H c4 B (by rw [b4, b3, b2, b1]; exact t3) hB
  refine ⟨τ', H', by rw [e1, e2, e3, e4, e], ⟨g.t2.trans (by rw [a4, a3, a2, a1]), g.t3.trans (by rw [b4, b3, b2, b1]), g.next, g.get, g.rest⟩⟩
theorem kdA_18 (m : Nat) (τ : Tm) (H : AH) (t5 : τ 5 = .int .i64 18) (B : Nat) (t3 : τ 3 = .ptr B 0) (hB : H.get B = some (.cells 222 false (kdC true usN))) :
    ∃ τ' H', evAt Try.prog (ev Try.prog m) m 156 58 τ H = some (.normal, τ', H') ∧ KdE B H H' τ τ' (kdC true ((usesL.lookup 18).getD usN)) := by
  obtain ⟨τ1, e1, a1, b1, c1⟩ := kdS_58 18 (by decide) (by decide) m τ H t5
  obtain ⟨τ2, e2, a2, b2, c2⟩ := kdS_235 18 (by decide) (by decide) (by decide) (by decide) m τ1 H c1
  obtain ⟨τ3, e3, a3, b3, c3⟩ := kdS_943 18 (by decide) m τ2 H c2
  obtain ⟨τ4, e4, a4, b4, c4⟩ := kdS_3775 18 (by decide) m τ3 H c3
  obtain ⟨τ', H', e, g⟩ := kdF_18 m τ4 H c4 B (by rw [b4, b3, b2, b1]; exact t3) hB
  refine ⟨τ', H', by rw [e1, e2, e3, e4, e], ⟨g.t2.trans (by rw [a4, a3, a2, a1]), g.t3.trans (by rw [b4, b3, b2, b1]), g.next, g.get, g.rest⟩⟩
theorem kdA_20 (m : Nat) (τ : Tm) (H : AH) (t5 : τ 5 = .int .i64 20) (B : Nat) (t3 : τ 3 = .ptr B 0) (hB : H.get B = some (.cells 222 false (kdC true usN))) :
    ∃ τ' H', evAt Try.prog (ev Try.prog m) m 156 58 τ H = some (.normal, τ', H') ∧ KdE B H H' τ τ' (kdC true ((usesL.lookup 20).getD usN)) := by
  obtain ⟨τ1, e1, a1, b1, c1⟩ := kdS_58 20 (by decide) (by decide) m τ H t5
  obtain ⟨τ', H', e, g⟩ := kdF_20 m τ1 H c1 B (by rw [b1]; exact t3) hB
  refine ⟨τ', H', by rw [e1, e], ⟨g.t2.trans (by rw [a1]), g.t3.trans (by rw [b1]), g.next, g.get, g.rest⟩⟩
theorem kdA_21 (m : Nat) (τ : Tm) (H : AH) (t5 : τ 5 = .int .i64 21) (B : Nat) (t3 : τ 3 = .ptr B 0) (hB : H.get B = some (.cells 222 false (kdC true usN))) :
    ∃ τ' H', evAt Try.prog (ev Try.prog m) m 156 58 τ H = some (.normal, τ', H') ∧ KdE B H H' τ τ' (kdC true ((usesL.lookup 21).getD usN)) := by
  obtain ⟨τ1, e1, a1, b1, c1⟩ := kdS_58 21 (by decide) (by decide) m τ H t5
  obtain ⟨τ2, e2, a2, b2, c2⟩ := kdS_235 21 (by decide) (by decide) (by decide) (by decide) m τ1 H c1
  obtain ⟨τ3, e3, a3, b3, c3⟩ := kdS_943 21 (by decide) m τ2 H c2
  obtain ⟨τ4, e4, a4, b4, c4⟩ := kdS_3775 21 (by decide) m τ3 H c3
  obtain ⟨τ', H', e, g⟩ := kdF_21 m τ4 H c4 B (by rw [b4, b3, b2, b1]; exact t3) hB
  refine ⟨τ', H', by rw [e1, e2, e3, e4, e], ⟨g.t2.trans (by rw [a4, a3, a2, a1]), g.t3.trans (by rw [b4, b3, b2, b1]), g.next, g.get, g.rest⟩⟩
theorem kdA_22 (m : Nat) (τ : Tm) (H : AH) (t5 : τ 5 = .int .i64 22) (B : Nat) (t3 : τ 3 = .ptr B 0) (hB : H.get B = some (.cells 222 false (kdC true usN))) :
    ∃ τ' H', evAt Try.prog (ev Try.prog m) m 156 58 τ H = some (.normal, τ', H') ∧ KdE B H H' τ τ' (kdC true ((usesL.lookup 22).getD usN)) := by
  obtain ⟨τ1, e1, a1, b1, c1⟩ := kdS_58 22 (by decide) (by decide) m τ H t5
  obtain ⟨τ2, e2, a2, b2, c2⟩ := kdS_235 22 (by decide) (by decide) (by decide) (by decide) m τ1 H c1
  obtain ⟨τ3, e3, a3, b3, c3⟩ := kdS_943 22 (by decide) m τ2 H c2
  obtain ⟨τ4, e4, a4, b4, c4⟩ := kdS_3775 22 (by decide) m τ3 H c3
  obtain ⟨τ', H', e, g⟩ := kdF_22 m τ4 H c4 B (by rw [b4, b3, b2, b1]; exact t3) hB
  refine ⟨τ', H', by rw [e1, e2, e3, e4, e], ⟨g.t2.trans (by rw [a4, a3, a2, a1]), g.t3.trans (by rw [b4, b3, b2, b1]), g.next, g.get, g.rest⟩⟩
theorem kdA_24 (m : Nat) (τ : Tm) (H : AH) (t5 : τ 5 = .int .i64 24) (B : Nat) (t3 : τ 3 = .ptr B 0) (hB : H.get B = some (.cells 222 false (kdC true usN))) :
    ∃ τ' H', evAt Try.prog (ev Try.prog m) m 156 58 τ H = some (.normal, τ', H') ∧ KdE B H H' τ τ' (kdC true ((usesL.lookup 24).getD usN)) := by
  obtain ⟨τ1, e1, a1, b1, c1⟩ := kdS_58 24 (by decide) (by decide) m τ H t5
  obtain ⟨τ2, e2, a2, b2, c2⟩ := kdS_235 24 (by decide) (by decide) (by decide) (by decide) m τ1 H c1
  obtain ⟨τ3, e3, a3, b3, c3⟩ := kdS_943 24 (by decide) m τ2 H c2
  obtain ⟨τ4, e4, a4, b4, c4⟩ := kdS_3775 24 (by decide) m τ3 H c3
  obtain ⟨τ5, e5, a5, b5, c5⟩ := kdS_15103 24 (by decide) (by decide) (by decide) (by decide) (by decide) m τ4 H c4
  obtain ⟨τ6, e6, a6, b6, c6⟩ := kdS_60415 24 (by decide) m τ5 H c5
  obtain ⟨τ7, e7, a7, b7, c7⟩ := kdS_241663 24 (by decide) m τ6 H c6
  obtain ⟨τ8, e8, a8, b8, c8⟩ := kdS_966655 24 (by decide) m τ7 H c7
  obtain ⟨τ', H', e, g⟩ := kdF_24 m τ8 H c8 B (by rw [b8, b7, b6, b5, b4, b3, b2, b1]; exact t3) hB
  refine ⟨τ', H', by rw [e1, e2, e3, e4, e5, e6, e7, e8, e], ⟨g.t2.trans (by rw [a8, a7, a6, a5, a4, a3, a2, a1]), g.t3.trans (by rw [b8, b7, b6, b5, b4, b3, b2, b1]), g.next, g.get, g.rest⟩⟩
theorem kdA_25 (m : Nat) (τ : Tm) (H : AH) (t5 : τ 5 = .int .i64 25) (B : Nat) (t3 : τ 3 = .ptr B 0) (hB : H.get B = some (.cells 222 false (kdC true usN))) :
    ∃ τ' H', evAt Try.prog (ev Try.prog m) m 156 58 τ H = some (.normal, τ', H') ∧ KdE B H H' τ τ' (kdC true ((usesL.lookup 25).getD usN)) := by
  obtain ⟨τ1, e1, a1, b1, c1⟩ := kdS_58 25 (by decide) (by decide) m τ H t5
  obtain ⟨τ', H', e, g⟩ := kdF_25 m τ1 H c1 B (by rw [b1]; exact t3) hB
  refine ⟨τ', H', by rw [e1, e], ⟨g.t2.trans (by rw [a1]), g.t3.trans (by rw [b1]), g.next, g.get, g.rest⟩⟩
theorem kdA_26 (m : Nat) (τ : Tm) (H : AH) (t5 : τ 5 = .int .i64 26) (B : Nat) (t3 : τ 3 = .ptr B 0) (hB : H.get B = some (.cells 222 false (kdC true usN))) :
    ∃ τ' H', evAt Try.prog (ev Try.prog m) m 156 58 τ H = some (.normal, τ', H') ∧ KdE B H H' τ τ' (kdC true ((usesL.lookup 26).getD usN)) := by
  obtain ⟨τ1, e1, a1, b1, c1⟩ := kdS_58 26 (by decide) (by decide) m τ H t5
  obtain ⟨τ2, e2, a2, b2, c2⟩ := kdS_235 26 (by decide) (by decide) (by decide) (by decide) m τ1 H c1
  obtain ⟨τ3, e3, a3, b3, c3⟩ := kdS_943 26 (by decide) m τ2 H c2
  obtain ⟨τ4, e4, a4, b4, c4⟩ := kdS_3775 26 (by decide) m τ3 H c3
  obtain ⟨τ5, e5, a5, b5, c5⟩ := kdS_15103 26 (by decide) (by decide) (by decide) (by decide) (by decide) m τ4 H c4
  obtain ⟨τ6, e6, a6, b6, c6⟩ := kdS_60415 26 (by decide) m τ5 H c5
  obtain ⟨τ7, e7, a7, b7, c7⟩ := kdS_241663 26 (by decide) m τ6 H c6
  obtain ⟨τ8, e8, a8, b8, c8⟩ := kdS_966655 26 (by decide) m τ7 H c7
  obtain ⟨τ9, e9, a9, b9, c9⟩ := kdS_3866623 26 (by decide) m τ8 H c8
  obtain ⟨τ', H', e, g⟩ := kdF_26 m τ9 H c9 B (by rw [b9, b8, b7, b6, b5, b4, b3, b2, b1]; exact t3) hB
  refine ⟨τ', H', by rw [e1, e2, e3, e4, e5, e6, e7, e8, e9, e], ⟨g.t2.trans (by rw [a9, a8, a7, a6, a5, a4, a3, a2, a1]), g.t3.trans (by rw [b9, b8, b7, b6, b5, b4, b3, b2, b1]), g.next, g.get, g.rest⟩⟩
theorem kdA_27 (m : Nat) (τ : Tm) (H : AH) (t5 : τ 5 = .int .i64 27) (B : Nat) (t3 : τ 3 = .ptr B 0) (hB : H.get B = some (.cells 222 false (kdC true usN))) :
    ∃ τ' H', evAt Try.prog (ev Try.prog m) m 156 58 τ H = some (.normal, τ', H') ∧ KdE B H H' τ τ' (kdC true ((usesL.lookup 27).getD usN)) := by
  obtain ⟨τ1, e1, a1, b1, c1⟩ := kdS_58 27 (by decide) (by decide) m τ H t5
  obtain ⟨τ2, e2, a2, b2, c2⟩ := kdS_235 27 (by decide) (by decide) (by decide) (by decide) m τ1 H c1
  obtain ⟨τ3, e3, a3, b3, c3⟩ := kdS_943 27 (by decide) m τ2 H c2
  obtain ⟨τ4, e4, a4, b4, c4⟩ := kdS_3775 27 (by decide) m τ3 H c3
  obtain ⟨τ5, e5, a5, b5, c5⟩ := kdS_15103 27 (by decide) (by decide) (by decide) (by decide) (by decide) m τ4 H c4
  obtain ⟨τ6, e6, a6, b6, c6⟩ := kdS_60415 27 (by decide) m τ5 H c5
  obtain ⟨τ7, e7, a7, b7, c7⟩ := kdS_241663 27 (by decide) m τ6 H c6
  obtain ⟨τ8, e8, a8, b8, c8⟩ := kdS_966655 27 (by decide) m τ7 H c7
  obtain ⟨τ9, e9, a9, b9, c9⟩ := kdS_3866623 27 (by decide) m τ8 H c8
  obtain ⟨τ', H', e, g⟩ := kdF_27 m τ9 H c9 B (by rw [b9, b8, b7, b6, b5, b4, b3, b2, b1]; exact t3) hB
  refine ⟨τ', H', by rw [e1, e2, e3, e4, e5, e6, e7, e8, e9, e], ⟨g.t2.trans (by rw [a9, a8, a7, a6, a5, a4, a3, a2, a1]), g.t3.trans (by rw [b9, b8, b7, b6, b5, b4, b3, b2, b1]), g.next, g.get, g.rest⟩⟩
theorem kdA_28 (m : Nat) (τ : Tm) (H : AH) (t5 : τ 5 = .int .i64 28) (B : Nat) (t3 : τ 3 = .ptr B 0) (hB : H.get B = some (.cells 222 false (kdC true usN))) :
    ∃ τ' H', evAt Try.prog (ev Try.prog m) m 156 58 τ H = some (.normal, τ', H') ∧ KdE B H H' τ τ' (kdC true ((usesL.lookup 28).getD usN)) := by
  obtain ⟨τ1, e1, a1, b1, c1⟩ := kdS_58 28 (by decide) (by decide) m τ H t5
  obtain ⟨τ2, e2, a2, b2, c2⟩ := kdS_235 28 (by decide) (by decide) (by decide) (by decide) m τ1 H c1
  obtain ⟨τ3, e3, a3, b3, c3⟩ := kdS_943 28 (by decide) m τ2 H c2
  obtain ⟨τ4, e4, a4, b4, c4⟩ := kdS_3775 28 (by decide) m τ3 H c3
  obtain ⟨τ5, e5, a5, b5, c5⟩ := kdS_15103 28 (by decide) (by decide) (by decide) (by decide) (by decide) m τ4 H c4
  obtain ⟨τ6, e6, a6, b6, c6⟩ := kdS_60415 28 (by decide) m τ5 H c5
  obtain ⟨τ7, e7, a7, b7, c7⟩ := kdS_241663 28 (by decide) m τ6 H c6
  obtain ⟨τ8, e8, a8, b8, c8⟩ := kdS_966655 28 (by decide) m τ7 H c7
  obtain ⟨τ9, e9, a9, b9, c9⟩ := kdS_3866623 28 (by decide) m τ8 H c8
  obtain ⟨τ10, e10, a10, b10, c10⟩ := kdS_15466495 28 (by decide) (by decide) m τ9 H c9
  obtain ⟨τ', H', e, g⟩ := kdF_28 m τ10 H c10 B (by rw [b10, b9, b8, b7, b6, b5, b4, b3, b2, b1]; exact t3) hB
  refine ⟨τ', H', by rw [e1, e2, e3, e4, e5, e6, e7, e8, e9, e10, e], ⟨g.t2.trans (by rw [a10, a9, a8, a7, a6, a5, a4, a3, a2, a1]), g.t3.trans (by rw [b10, b9, b8, b7, b6, b5, b4, b3, b2, b1]), g.next, g.get, g.rest⟩⟩
theorem kdA_29 (m : Nat) (τ : Tm) (H : AH) (t5 : τ 5 = .int .i64 29) (B : Nat) (t3 : τ 3 = .ptr B 0) (hB : H.get B = some (.cells 222 false (kdC true usN))) :
    ∃ τ' H', evAt Try.prog (ev Try.prog m) m 156 58 τ H = some (.normal, τ', H') ∧ KdE B H H' τ τ' (kdC true ((usesL.lookup 29).getD usN)) := by
  obtain ⟨τ1, e1, a1, b1, c1⟩ := kdS_58 29 (by decide) (by decide) m τ H t5
  obtain ⟨τ2, e2, a2, b2, c2⟩ := kdS_235 29 (by decide) (by decide) (by decide) (by decide) m τ1 H c1
  obtain ⟨τ3, e3, a3, b3, c3⟩ := kdS_943 29 (by decide) m τ2 H c2
  obtain ⟨τ4, e4, a4, b4, c4⟩ := kdS_3775 29 (by decide) m τ3 H c3
  obtain ⟨τ5, e5, a5, b5, c5⟩ := kdS_15103 29 (by decide) (by decide) (by decide) (by decide) (by decide) m τ4 H c4
  obtain ⟨τ6, e6, a6, b6, c6⟩ := kdS_60415 29 (by decide) m τ5 H c5
  obtain ⟨τ7, e7, a7, b7, c7⟩ := kdS_241663 29 (by decide) m τ6 H c6
  obtain ⟨τ8, e8, a8, b8, c8⟩ := kdS_966655 29 (by decide) m τ7 H c7
  obtain ⟨τ9, e9, a9, b9, c9⟩ := kdS_3866623 29 (by decide) m τ8 H c8
  obtain ⟨τ10, e10, a10, b10, c10⟩ := kdS_15466495 29 (by decide) (by decide) m τ9 H c9
  obtain ⟨τ11, e11, a11, b11, c11⟩ := kdS_61865983 29 (by decide) m τ10 H c10
  obtain ⟨τ', H', e, g⟩ := kdF_29 m τ11 H c11 B (by rw [b11, b10, b9, b8, b7, b6, b5, b4, b3, b2, b1]; exact t3) hB
  refine ⟨τ', H', by rw [e1, e2, e3, e4, e5, e6, e7, e8, e9, e10, e11, e], ⟨g.t2.trans (by rw [a11, a10, a9, a8, a7, a6, a5, a4, a3, a2, a1]), g.t3.trans (by rw [b11, b10, b9, b8, b7, b6, b5, b4, b3, b2, b1]), g.next, g.get, g.rest⟩⟩
theorem kdA_30 (m : Nat) (τ : Tm) (H : AH) (t5 : τ 5 = .int .i64 30) (B : Nat) (t3 : τ 3 = .ptr B 0) (hB : H.get B = some (.cells 222 false (kdC true usN))) :
    ∃ τ' H', evAt Try.prog (ev Try.prog m) m 156 58 τ H = some (.normal, τ', H') ∧ KdE B H H' τ τ' (kdC true ((usesL.lookup 30).getD usN)) := by
  obtain ⟨τ', H', e, g⟩ := kdF_30 m τ H t5 B (t3) hB
  exact ⟨τ', H', e, g⟩
theorem kdA_48 (m : Nat) (τ : Tm) (H : AH) (t5 : τ 5 = .int .i64 48) (B : Nat) (t3 : τ 3 = .ptr B 0) (hB : H.get B = some (.cells 222 false (kdC true usN))) :
    ∃ τ' H', evAt Try.prog (ev Try.prog m) m 156 58 τ H = some (.normal, τ', H') ∧ KdE B H H' τ τ' (kdC true ((usesL.lookup 48).getD usN)) := by
  obtain ⟨τ1, e1, a1, b1, c1⟩ := kdS_58 48 (by decide) (by decide) m τ H t5
  obtain ⟨τ2, e2, a2, b2, c2⟩ := kdS_235 48 (by decide) (by decide) (by decide) (by decide) m τ1 H c1
  obtain ⟨τ3, e3, a3, b3, c3⟩ := kdS_943 48 (by decide) m τ2 H c2
  obtain ⟨τ4, e4, a4, b4, c4⟩ := kdS_3775 48 (by decide) m τ3 H c3
  obtain ⟨τ5, e5, a5, b5, c5⟩ := kdS_15103 48 (by decide) (by decide) (by decide) (by decide) (by decide) m τ4 H c4
  obtain ⟨τ6, e6, a6, b6, c6⟩ := kdS_60415 48 (by decide) m τ5 H c5
  obtain ⟨τ7, e7, a7, b7, c7⟩ := kdS_241663 48 (by decide) m τ6 H c6
  obtain ⟨τ8, e8, a8, b8, c8⟩ := kdS_966655 48 (by decide) m τ7 H c7
  obtain ⟨τ9, e9, a9, b9, c9⟩ := kdS_3866623 48 (by decide) m τ8 H c8
  obtain ⟨τ10, e10, a10, b10, c10⟩ := kdS_15466495 48 (by decide) (by decide) m τ9 H c9
  obtain ⟨τ11, e11, a11, b11, c11⟩ := kdS_61865983 48 (by decide) m τ10 H c10
  obtain ⟨τ12, e12, a12, b12, c12⟩ := kdS_247463935 48 (by decide) m τ11 H c11
  obtain ⟨τ', H', e, g⟩ := kdF_48 m τ12 H c12 B (by rw [b12, b11, b10, b9, b8, b7, b6, b5, b4, b3, b2, b1]; exact t3) hB
  refine ⟨τ', H', by rw [e1, e2, e3, e4, e5, e6, e7, e8, e9, e10, e11, e12, e], ⟨g.t2.trans (by rw [a12, a11, a10, a9, a8, a7, a6, a5, a4, a3, a2, a1]), g.t3.trans (by rw [b12, b11, b10, b9, b8, b7, b6, b5, b4, b3, b2, b1]), g.next, g.get, g.rest⟩⟩
theorem kdA_not (k : Int) (hk : ¬ kindIn k) (m : Nat) (τ : Tm) (H : AH) (t5 : τ 5 = .int .i64 k) (B : Nat) (t3 : τ 3 = .ptr B 0) (hB : H.get B = some (.cells 222 false (kdC true usN))) :
    ∃ τ' H', evAt Try.prog (ev Try.prog m) m 156 58 τ H = some (.normal, τ', H') ∧ KdE B H H' τ τ' (kdC false usN) := by
  simp only [kindIn, not_or] at hk
  obtain ⟨h0, h1, h2, h4, h5, h6, h7, h8, h16, h17, h18, h20, h21, h22, h24, h25, h26, h27, h28, h29, h30, h48⟩ := hk
  obtain ⟨τ1, e1, a1, b1, c1⟩ := kdS_58 k h1 h30 m τ H t5
  obtain ⟨τ2, e2, a2, b2, c2⟩ := kdS_235 k h0 h16 h20 h25 m τ1 H c1
  obtain ⟨τ3, e3, a3, b3, c3⟩ := kdS_943 k h2 m τ2 H c2
  obtain ⟨τ4, e4, a4, b4, c4⟩ := kdS_3775 k h4 m τ3 H c3
  obtain ⟨τ5, e5, a5, b5, c5⟩ := kdS_15103 k h5 h17 h21 h18 h22 m τ4 H c4
  obtain ⟨τ6, e6, a6, b6, c6⟩ := kdS_60415 k h6 m τ5 H c5
  obtain ⟨τ7, e7, a7, b7, c7⟩ := kdS_241663 k h7 m τ6 H c6
  obtain ⟨τ8, e8, a8, b8, c8⟩ := kdS_966655 k h8 m τ7 H c7
  obtain ⟨τ9, e9, a9, b9, c9⟩ := kdS_3866623 k h24 m τ8 H c8
  obtain ⟨τ10, e10, a10, b10, c10⟩ := kdS_15466495 k h26 h27 m τ9 H c9
  obtain ⟨τ11, e11, a11, b11, c11⟩ := kdS_61865983 k h28 m τ10 H c10
  obtain ⟨τ12, e12, a12, b12, c12⟩ := kdS_247463935 k h29 m τ11 H c11
  obtain ⟨τ', H', e, g⟩ := kdF_not k h48 m τ12 H c12 B (by rw [b12, b11, b10, b9, b8, b7, b6, b5, b4, b3, b2, b1]; exact t3) hB
  refine ⟨τ', H', by rw [e1, e2, e3, e4, e5, e6, e7, e8, e9, e10, e11, e12, e], ⟨g.t2.trans (by rw [a12, a11, a10, a9, a8, a7, a6, a5, a4, a3, a2, a1]), g.t3.trans (by rw [b12, b11, b10, b9, b8, b7, b6, b5, b4, b3, b2, b1]), g.next, g.get, g.rest⟩⟩
theorem kdA (k : Int) (m : Nat) (τ : Tm) (H : AH) (t5 : τ 5 = .int .i64 k) (B : Nat) (t3 : τ 3 = .ptr B 0) (hB : H.get B = some (.cells 222 false (kdC true usN))) :
    ∃ τ' H', evAt Try.prog (ev Try.prog m) m 156 58 τ H = some (.normal, τ', H') ∧ KdE B H H' τ τ' (kdC (usesL.lookup k).isSome ((usesL.lookup k).getD usN)) := by
  by_cases hk : kindIn k
  · simp only [kindIn] at hk
    rcases hk with rfl | rfl | rfl | rfl | rfl | rfl | rfl | rfl | rfl | rfl | rfl | rfl | rfl | rfl | rfl | rfl | rfl | rfl | rfl | rfl | rfl | rfl
    · exact kdA_0 m τ H t5 B t3 hB
    · exact kdA_1 m τ H t5 B t3 hB
    · exact kdA_2 m τ H t5 B t3 hB
    · exact kdA_4 m τ H t5 B t3 hB
    · exact kdA_5 m τ H t5 B t3 hB
    · exact kdA_6 m τ H t5 B t3 hB
    · exact kdA_7 m τ H t5 B t3 hB
    · exact kdA_8 m τ H t5 B t3 hB
    · exact kdA_16 m τ H t5 B t3 hB
    · exact kdA_17 m τ H t5 B t3 hB
    · exact kdA_18 m τ H t5 B t3 hB
    · exact kdA_20 m τ H t5 B t3 hB
    · exact kdA_21 m τ H t5 B t3 hB
    · exact kdA_22 m τ H t5 B t3 hB
    · exact kdA_24 m τ H t5 B t3 hB
    · exact kdA_25 m τ H t5 B t3 hB
    · exact kdA_26 m τ H t5 B t3 hB
    · exact kdA_27 m τ H t5 B t3 hB
    · exact kdA_28 m τ H t5 B t3 hB
    · exact kdA_29 m τ H t5 B t3 hB
    · exact kdA_30 m τ H t5 B t3 hB
    · exact kdA_48 m τ H t5 B t3 hB
  · rw [uses_not hk]; exact kdA_not k hk m τ H t5 B t3 hB
theorem l05Kind_ev (k : Int) (H : AH) (m : Nat) (hm : 1 ≤ m) : ∃ H', ev Try.prog m 156 [.int .i64 k] H = some (usC (usesL.lookup k).isSome ((usesL.lookup k).getD usN), H') ∧ Kp H H' := by
  obtain ⟨m, rfl⟩ : ∃ k, m = k + 1 := ⟨m - 1, by omega⟩
  rw [ev_M Try.func156 ok156 [58] m _ H (by simp [Try.f156])]
  simp [Try.f156, tm0, fillA, stVar, spl]
  generalize hτ : upd _ 5 _ = τ1
  generalize hX : AH.set _ _ _ = X1
  have n0 : ¬ (H.next = H.next + 1) := by omega
  have g0 : X1.get H.next = some (.cells 222 false (kdC false usN)) := by rw [← hX]; simp [kdC, usN, n0]
  have gk : ∀ b, b < H.next → X1.get b = H.get b := fun b hb => by
    have n1 : ¬ (b = H.next) := by omega
    have n2 : ¬ (b = H.next + 1) := by omega
    rw [← hX]; simp [n1, n2]
  have gn : X1.next = H.next + 2 := by rw [← hX]; simp
  obtain ⟨τ', H', e, g⟩ := kdA k m τ1 X1 (by rw [← hτ]; simp) (H.next + 1) (by rw [← hτ]; simp) (by rw [← hX]; simp [kdC, usN])
  have t2 : τ' 2 = .ptr H.next 0 := g.t2.trans (by rw [← hτ]; simp)
  have t3 : τ' 3 = .ptr (H.next + 1) 0 := g.t3.trans (by rw [← hτ]; simp)
  have f1 := g.get
  have f0 := (g.rest H.next n0).trans g0
  simp only [kdC] at f0 f1
  rw [e]
  refine ⟨_, by simp [t2, t3, f0, f1, n0, ldVar, stVar, spl, usC]; rfl, ?_⟩
  refine ⟨by simp [g.next, gn], fun b hb => ?_⟩
  have n1 : ¬ (b = H.next) := by omega
  have n2 : ¬ (b = H.next + 1) := by omega
  simp [n1, g.rest b n2, gk b hb]
end Go.Ev

/- Whether a frame is right, in the reference: the fields. -/
namespace Go.Ev
open Go Go.Proofs
set_option linter.unusedSimpArgs false
set_option linter.unusedVariables false

/-- a frame's cells -/
def frC (k a b c : Int) (fin : Bool) (d t r : AV) : List AV := [.int .i64 k, .int .i64 a, .int .i64 b, .int .i64 c, .bool fin, d, t, r]
structure FkT (τ : Tm) (A B : Nat) : Prop where
  t1 : τ 1 = .ptr A 0
  t3 : τ 3 = .ptr B 0
/-- a field that is not used is empty -/
def fldOK (u : Bool) (p : Prop) : Prop := u = true ∨ (u = false ∧ p)
theorem fk0_pass {k a b c : Int} {fin : Bool} {d t r : AV} {ua ub uc uf ur : Bool} {lo hi tok : Int} {A B : Nat} {H : AH}
    (hA : H.get A = some (.cells 72 false (frC k a b c fin d t r))) (hB : H.get B = some (.cells 222 false (kdC true ⟨ua, ub, uc, uf, ur, lo, hi, tok⟩)))
    (ia : inV a) (ib : inV b) (ic : inV c) (pa : fldOK ua (a = 0)) (pb : fldOK ub (b = 0)) (pc : fldOK uc (c = 0)) (pf : fldOK uf (fin = false)) (m : Nat) (hm : 1 ≤ m) (τ : Tm) (T : FkT τ A B) :
    ∃ τ', evAt Try.prog (ev Try.prog m) m 75 7 τ H = evAt Try.prog (ev Try.prog m) m 75 15 τ' H ∧ FkT τ' A B := by
  obtain ⟨t1, t3⟩ := T
  have c1 := fun H => l05Var_ev a H m hm
  have c2 := fun H => l05Var_ev b H m hm
  have c3 := fun H => l05Var_ev c H m hm
  simp only [frC, kdC] at hA hB
  rw [at_M Try.func75 7 (by decide) 3 (by decide) (by kernel_rfl) [15]]
  rcases pa with rfl | ⟨rfl, rfl⟩ <;> rcases pb with rfl | ⟨rfl, rfl⟩ <;> rcases pc with rfl | ⟨rfl, rfl⟩ <;> rcases pf with rfl | ⟨rfl, rfl⟩
  all_goals exact ⟨_, by simp [Try.f75, t1, t3, hA, hB, ldVar, c1, c2, c3, ia, ib, ic]; rfl, by simp [t1], by simp [t3]⟩
theorem fld_cases (u : Bool) (p : Prop) : u = true ∨ (u = false ∧ p) ∨ (u = false ∧ ¬ p) := by
  cases u
  · by_cases h : p
    · exact .inr (.inl ⟨rfl, h⟩)
    · exact .inr (.inr ⟨rfl, h⟩)
  · exact .inl rfl
theorem fk0_fail {k a b c : Int} {fin : Bool} {d t r : AV} {ok ua ub uc uf ur : Bool} {lo hi tok : Int} {A B : Nat} {H : AH}
    (hA : H.get A = some (.cells 72 false (frC k a b c fin d t r))) (hB : H.get B = some (.cells 222 false (kdC ok ⟨ua, ub, uc, uf, ur, lo, hi, tok⟩)))
    (h : ¬ (ok = true ∧ inV a ∧ inV b ∧ inV c ∧ fldOK ua (a = 0) ∧ fldOK ub (b = 0) ∧ fldOK uc (c = 0) ∧ fldOK uf (fin = false))) (m : Nat) (hm : 1 ≤ m) (τ : Tm) (T : FkT τ A B) :
    ∃ τ', evAt Try.prog (ev Try.prog m) m 75 7 τ H = some (.ret, τ', H) ∧ τ' 2 = .bool false := by
  obtain ⟨t1, t3⟩ := T
  have c1 := fun H => l05Var_ev a H m hm
  have c2 := fun H => l05Var_ev b H m hm
  have c3 := fun H => l05Var_ev c H m hm
  simp only [frC, kdC] at hA hB
  rw [at_M Try.func75 7 (by decide) 3 (by decide) (by kernel_rfl) [15]]
  cases ok
  · exact ⟨_, by simp [Try.f75, t1, t3, hA, hB, ldVar, c1, c2, c3, beqF]; rfl, by simp⟩
  · by_cases ia : inV a
    rotate_left 1
    · exact ⟨_, by simp [Try.f75, t1, t3, hA, hB, ldVar, c1, c2, c3, beqF, ia]; rfl, by simp⟩
    · by_cases ib : inV b
      rotate_left 1
      · exact ⟨_, by simp [Try.f75, t1, t3, hA, hB, ldVar, c1, c2, c3, beqF, ia, ib]; rfl, by simp⟩
      · by_cases ic : inV c
        rotate_left 1
        · exact ⟨_, by simp [Try.f75, t1, t3, hA, hB, ldVar, c1, c2, c3, beqF, ia, ib, ic]; rfl, by simp⟩
        · rcases fld_cases ua (a = 0) with rfl | ⟨rfl, rfl⟩ | ⟨rfl, na⟩
          · rcases fld_cases ub (b = 0) with rfl | ⟨rfl, rfl⟩ | ⟨rfl, nb⟩
            · rcases fld_cases uc (c = 0) with rfl | ⟨rfl, rfl⟩ | ⟨rfl, nc⟩
              · rcases fld_cases uf (fin = false) with rfl | ⟨rfl, rfl⟩ | ⟨rfl, nf⟩
                · exact absurd ⟨rfl, ia, ib, ic, .inl rfl, .inl rfl, .inl rfl, .inl rfl⟩ h
                · exact absurd ⟨rfl, ia, ib, ic, .inl rfl, .inl rfl, .inl rfl, .inr ⟨rfl, rfl⟩⟩ h
                · have nf' : fin = true := by simpa using nf
                  exact ⟨_, by simp [Try.f75, t1, t3, hA, hB, ldVar, c1, c2, c3, beqF, ia, ib, ic, nf']; rfl, by simp⟩
              · rcases fld_cases uf (fin = false) with rfl | ⟨rfl, rfl⟩ | ⟨rfl, nf⟩
                · exact absurd ⟨rfl, ia, ib, ic, .inl rfl, .inl rfl, .inr ⟨rfl, rfl⟩, .inl rfl⟩ h
                · exact absurd ⟨rfl, ia, ib, ic, .inl rfl, .inl rfl, .inr ⟨rfl, rfl⟩, .inr ⟨rfl, rfl⟩⟩ h
                · have nf' : fin = true := by simpa using nf
                  exact ⟨_, by simp [Try.f75, t1, t3, hA, hB, ldVar, c1, c2, c3, beqF, ia, ib, ic, nf']; rfl, by simp⟩
              · have nc' : (c != 0) = true := by simpa using nc
                exact ⟨_, by simp [Try.f75, t1, t3, hA, hB, ldVar, c1, c2, c3, beqF, ia, ib, ic, nc']; rfl, by simp⟩
            · rcases fld_cases uc (c = 0) with rfl | ⟨rfl, rfl⟩ | ⟨rfl, nc⟩
              · rcases fld_cases uf (fin = false) with rfl | ⟨rfl, rfl⟩ | ⟨rfl, nf⟩
                · exact absurd ⟨rfl, ia, ib, ic, .inl rfl, .inr ⟨rfl, rfl⟩, .inl rfl, .inl rfl⟩ h
                · exact absurd ⟨rfl, ia, ib, ic, .inl rfl, .inr ⟨rfl, rfl⟩, .inl rfl, .inr ⟨rfl, rfl⟩⟩ h
                · have nf' : fin = true := by simpa using nf
                  exact ⟨_, by simp [Try.f75, t1, t3, hA, hB, ldVar, c1, c2, c3, beqF, ia, ib, ic, nf']; rfl, by simp⟩
              · rcases fld_cases uf (fin = false) with rfl | ⟨rfl, rfl⟩ | ⟨rfl, nf⟩
                · exact absurd ⟨rfl, ia, ib, ic, .inl rfl, .inr ⟨rfl, rfl⟩, .inr ⟨rfl, rfl⟩, .inl rfl⟩ h
                · exact absurd ⟨rfl, ia, ib, ic, .inl rfl, .inr ⟨rfl, rfl⟩, .inr ⟨rfl, rfl⟩, .inr ⟨rfl, rfl⟩⟩ h
                · have nf' : fin = true := by simpa using nf
                  exact ⟨_, by simp [Try.f75, t1, t3, hA, hB, ldVar, c1, c2, c3, beqF, ia, ib, ic, nf']; rfl, by simp⟩
              · have nc' : (c != 0) = true := by simpa using nc
                exact ⟨_, by simp [Try.f75, t1, t3, hA, hB, ldVar, c1, c2, c3, beqF, ia, ib, ic, nc']; rfl, by simp⟩
            · have nb' : (b != 0) = true := by simpa using nb
              exact ⟨_, by simp [Try.f75, t1, t3, hA, hB, ldVar, c1, c2, c3, beqF, ia, ib, ic, nb']; rfl, by simp⟩
          · rcases fld_cases ub (b = 0) with rfl | ⟨rfl, rfl⟩ | ⟨rfl, nb⟩
            · rcases fld_cases uc (c = 0) with rfl | ⟨rfl, rfl⟩ | ⟨rfl, nc⟩
              · rcases fld_cases uf (fin = false) with rfl | ⟨rfl, rfl⟩ | ⟨rfl, nf⟩
                · exact absurd ⟨rfl, ia, ib, ic, .inr ⟨rfl, rfl⟩, .inl rfl, .inl rfl, .inl rfl⟩ h
                · exact absurd ⟨rfl, ia, ib, ic, .inr ⟨rfl, rfl⟩, .inl rfl, .inl rfl, .inr ⟨rfl, rfl⟩⟩ h
                · have nf' : fin = true := by simpa using nf
                  exact ⟨_, by simp [Try.f75, t1, t3, hA, hB, ldVar, c1, c2, c3, beqF, ia, ib, ic, nf']; rfl, by simp⟩
              · rcases fld_cases uf (fin = false) with rfl | ⟨rfl, rfl⟩ | ⟨rfl, nf⟩
                · exact absurd ⟨rfl, ia, ib, ic, .inr ⟨rfl, rfl⟩, .inl rfl, .inr ⟨rfl, rfl⟩, .inl rfl⟩ h
                · exact absurd ⟨rfl, ia, ib, ic, .inr ⟨rfl, rfl⟩, .inl rfl, .inr ⟨rfl, rfl⟩, .inr ⟨rfl, rfl⟩⟩ h
                · have nf' : fin = true := by simpa using nf
                  exact ⟨_, by simp [Try.f75, t1, t3, hA, hB, ldVar, c1, c2, c3, beqF, ia, ib, ic, nf']; rfl, by simp⟩
              · have nc' : (c != 0) = true := by simpa using nc
                exact ⟨_, by simp [Try.f75, t1, t3, hA, hB, ldVar, c1, c2, c3, beqF, ia, ib, ic, nc']; rfl, by simp⟩
            · rcases fld_cases uc (c = 0) with rfl | ⟨rfl, rfl⟩ | ⟨rfl, nc⟩
              · rcases fld_cases uf (fin = false) with rfl | ⟨rfl, rfl⟩ | ⟨rfl, nf⟩
                · exact absurd ⟨rfl, ia, ib, ic, .inr ⟨rfl, rfl⟩, .inr ⟨rfl, rfl⟩, .inl rfl, .inl rfl⟩ h
                · exact absurd ⟨rfl, ia, ib, ic, .inr ⟨rfl, rfl⟩, .inr ⟨rfl, rfl⟩, .inl rfl, .inr ⟨rfl, rfl⟩⟩ h
                · have nf' : fin = true := by simpa using nf
                  exact ⟨_, by simp [Try.f75, t1, t3, hA, hB, ldVar, c1, c2, c3, beqF, ia, ib, ic, nf']; rfl, by simp⟩
              · rcases fld_cases uf (fin = false) with rfl | ⟨rfl, rfl⟩ | ⟨rfl, nf⟩
                · exact absurd ⟨rfl, ia, ib, ic, .inr ⟨rfl, rfl⟩, .inr ⟨rfl, rfl⟩, .inr ⟨rfl, rfl⟩, .inl rfl⟩ h
                · exact absurd ⟨rfl, ia, ib, ic, .inr ⟨rfl, rfl⟩, .inr ⟨rfl, rfl⟩, .inr ⟨rfl, rfl⟩, .inr ⟨rfl, rfl⟩⟩ h
                · have nf' : fin = true := by simpa using nf
                  exact ⟨_, by simp [Try.f75, t1, t3, hA, hB, ldVar, c1, c2, c3, beqF, ia, ib, ic, nf']; rfl, by simp⟩
              · have nc' : (c != 0) = true := by simpa using nc
                exact ⟨_, by simp [Try.f75, t1, t3, hA, hB, ldVar, c1, c2, c3, beqF, ia, ib, ic, nc']; rfl, by simp⟩
            · have nb' : (b != 0) = true := by simpa using nb
              exact ⟨_, by simp [Try.f75, t1, t3, hA, hB, ldVar, c1, c2, c3, beqF, ia, ib, ic, nb']; rfl, by simp⟩
          · have na' : (a != 0) = true := by simpa using na
            exact ⟨_, by simp [Try.f75, t1, t3, hA, hB, ldVar, c1, c2, c3, beqF, ia, ib, ic, na']; rfl, by simp⟩
end Go.Ev

/- Whether a frame is right, in the reference: lengths, ranges, bounds. -/
namespace Go.Ev
open Go Go.Proofs
set_option linter.unusedSimpArgs false
set_option linter.unusedVariables false

theorem fk1 {k a b c : Int} {fin : Bool} {d t r : AV} {ok : Bool} {u : Us} {dl tl : Nat} {rs : List (Int × Int)} {A B : Nat} {H H2 : AH}
    (hA : H.get A = some (.cells 72 false (frC k a b c fin d t r))) (hB : H.get B = some (.cells 222 false (kdC ok u))) (m : Nat)
    (hd : ∀ h, lenA Try.prog 34 d h = some (.int .i64 dl)) (ht : ∀ h, lenA Try.prog 34 t h = some (.int .i64 tl)) (hr : ∀ h, lenA Try.prog 70 r h = some (.int .i64 rs.length))
    (c4 : ev Try.prog m 141 [r] H = some (.bool (decide (rgOK rs)), H2)) (hK : Kp H H2) (τ : Tm) (T : FkT τ A B) :
    ∃ τ' H', Kp H H' ∧ ((u.lo ≤ dl ∧ dl ≤ u.hi ∧ (tl : Int) = u.tok ∧ u.r = decide (0 < rs.length) ∧ rgOK rs ∧ evAt Try.prog (ev Try.prog m) m 75 15 τ H = evAt Try.prog (ev Try.prog m) m 75 31 τ' H' ∧ FkT τ' A B) ∨
      (¬ (u.lo ≤ dl ∧ dl ≤ u.hi ∧ (tl : Int) = u.tok ∧ u.r = decide (0 < rs.length) ∧ rgOK rs) ∧ evAt Try.prog (ev Try.prog m) m 75 15 τ H = some (.ret, τ', H') ∧ τ' 2 = .bool false)) := by
  obtain ⟨t1, t3⟩ := T
  obtain ⟨ua, ub, uc, uf, ur, lo, hi, tok⟩ := u
  simp only [frC, kdC] at hA hB
  rw [at_M Try.func75 15 (by decide) 4 (by decide) (by kernel_rfl) [31]]
  simp only
  by_cases q1 : lo ≤ dl
  · have q1' : ((dl : Int) < lo) = False := eq_false (by omega)
    by_cases q2 : (dl : Int) ≤ hi
    · have q2' : (hi < (dl : Int)) = False := eq_false (by omega)
      by_cases q3 : (tl : Int) = tok
      · subst q3
        by_cases q4 : ur = decide (0 < rs.length)
        · subst q4
          have b4 : ((decide (0 < rs.length)) != decide (0 < rs.length)) = false := by simp
          by_cases q5 : rgOK rs
          · simp only [q5, decide_true] at c4
            exact ⟨_, H2, hK, .inl ⟨q1, q2, rfl, rfl, q5, by simp [Try.f75, t1, t3, hA, hB, ldVar, hd, ht, hr, c4, q1', q2']; rfl, by simp [t1], by simp [t3]⟩⟩
          · simp only [q5, decide_false] at c4
            exact ⟨_, H2, hK, .inr ⟨fun h => q5 h.2.2.2.2, by simp [Try.f75, t1, t3, hA, hB, ldVar, hd, ht, hr, c4, q1', q2']; rfl, by simp⟩⟩
        · have b4 : (ur == decide (0 < rs.length)) = false := by simpa using q4
          exact ⟨_, H, Kp.refl H, .inr ⟨fun h => q4 h.2.2.2.1, by simp [Try.f75, t1, t3, hA, hB, ldVar, hd, ht, hr, q1', q2', b4]; rfl, by simp⟩⟩
      · have b3 : ((tl : Int) != tok) = true := by simpa using q3
        exact ⟨_, H, Kp.refl H, .inr ⟨fun h => q3 h.2.2.1, by simp [Try.f75, t1, t3, hA, hB, ldVar, hd, ht, hr, q1', q2', b3]; rfl, by simp⟩⟩
    · have q2' : (hi < (dl : Int)) = True := eq_true (by omega)
      exact ⟨_, H, Kp.refl H, .inr ⟨fun h => q2 h.2.1, by simp [Try.f75, t1, t3, hA, hB, ldVar, hd, ht, hr, q1', q2']; rfl, by simp⟩⟩
  · have q1' : ((dl : Int) < lo) = True := eq_true (by omega)
    exact ⟨_, H, Kp.refl H, .inr ⟨fun h => q1 h.1, by simp [Try.f75, t1, t3, hA, hB, ldVar, hd, ht, hr, q1']; rfl, by simp⟩⟩
/-- the bounds of a kind -/
def frX (k a b : Int) (dl : Nat) : Prop :=
  if k = 0 then 1 ≤ a ∧ a ≤ 1500 else if k = 18 ∨ k = 22 then a ≤ 1152921504606846976 ∧ b ≤ 1 else if k = 6 then a ≤ 4611686018427387903 - dl else if k = 8 then b ≤ 4611686018427387903 - dl else if k = 24 then b ≤ a else True
instance (k a b : Int) (dl : Nat) : Decidable (frX k a b dl) := by unfold frX; infer_instance
theorem fk2 {k a b c : Int} {fin : Bool} {d t r : AV} {dl : Nat} {A B : Nat} {H : AH}
    (hA : H.get A = some (.cells 72 false (frC k a b c fin d t r))) (m : Nat) (hd : ∀ h, lenA Try.prog 34 d h = some (.int .i64 dl)) (hl : dl ≤ 1048576) (τ : Tm) (T : FkT τ A B) :
    ∃ τ', evAt Try.prog (ev Try.prog m) m 75 31 τ H = some (.ret, τ', H) ∧ τ' 2 = .bool (decide (frX k a b dl)) := by
  obtain ⟨t1, t3⟩ := T
  simp only [frC] at hA
  have w1 : IntKind.i64.wrap (4611686018427387903 - (dl : Int)) = 4611686018427387903 - (dl : Int) := wrap_i64 (n := 4611686018427387903 - (dl : Int)) (by omega) (by omega)
  rw [at_M Try.func75 31 (by decide) 5 (by decide) (by kernel_rfl) []]
  by_cases k0 : k = 0
  · subst k0
    by_cases q1 : 1 ≤ a
    · exact ⟨_, by simp [Try.f75, t1, hA, ldVar, q1]; rfl, by simp [frX, q1]⟩
    · have q1' : (1 ≤ a) = False := eq_false q1
      exact ⟨_, by simp [Try.f75, t1, hA, ldVar, q1']; rfl, by simp [frX, q1']⟩
  · by_cases k18 : k = 18 ∨ k = 22
    · by_cases q1 : a ≤ 1152921504606846976
      · rcases k18 with rfl | rfl
        all_goals exact ⟨_, by simp [Try.f75, t1, hA, ldVar, q1]; rfl, by simp [frX, q1]⟩
      · have q1' : (a ≤ 1152921504606846976) = False := eq_false q1
        rcases k18 with rfl | rfl
        all_goals exact ⟨_, by simp [Try.f75, t1, hA, ldVar, q1']; rfl, by simp [frX, q1']⟩
    · obtain ⟨k18, k22⟩ := not_or.1 k18
      by_cases k6 : k = 6
      · subst k6
        exact ⟨_, by simp [Try.f75, t1, hA, ldVar, hd, w1]; rfl, by simp [frX]⟩
      · by_cases k8 : k = 8
        · subst k8
          exact ⟨_, by simp [Try.f75, t1, hA, ldVar, hd, w1]; rfl, by simp [frX]⟩
        · by_cases k24 : k = 24
          · subst k24
            exact ⟨_, by simp [Try.f75, t1, hA, ldVar]; rfl, by simp [frX]⟩
          · have b0 : (k == 0) = false := by simpa using k0
            exact ⟨_, by simp [Try.f75, t1, hA, ldVar, k0, k18, k22, k6, k8, k24, beqF]; rfl, by simp [frX, k0, k18, k22, k6, k8, k24]⟩
/-- a frame is right -/
def frOK (k a b c : Int) (fin : Bool) (dl tl : Nat) (rs : List (Int × Int)) : Prop :=
  ((usesL.lookup k).isSome = true ∧ inV a ∧ inV b ∧ inV c ∧ fldOK ((usesL.lookup k).getD usN).a (a = 0) ∧ fldOK ((usesL.lookup k).getD usN).b (b = 0) ∧ fldOK ((usesL.lookup k).getD usN).c (c = 0) ∧ fldOK ((usesL.lookup k).getD usN).fin (fin = false)) ∧
  (((usesL.lookup k).getD usN).lo ≤ dl ∧ dl ≤ ((usesL.lookup k).getD usN).hi ∧ (tl : Int) = ((usesL.lookup k).getD usN).tok ∧ ((usesL.lookup k).getD usN).r = decide (0 < rs.length) ∧ rgOK rs) ∧ frX k a b dl
noncomputable instance (k a b c : Int) (fin : Bool) (dl tl : Nat) (rs : List (Int × Int)) : Decidable (frOK k a b c fin dl tl rs) := Classical.propDecidable _
theorem FrameOKS_ev {rw : Bool} {Hb H : AH} {k a b c : Int} {fin : Bool} {d t r : AV} {dl tl : Nat} {rs : List (Int × Int)} {bs : List Nat} (hr : (Ty.sl 94 tT94).R rw Hb [r] rs bs) (hK : Kp Hb H)
    (hd : ∀ h, lenA Try.prog 34 d h = some (.int .i64 dl)) (ht : ∀ h, lenA Try.prog 34 t h = some (.int .i64 tl)) (od : d.one = true) (ot : t.one = true) (hdl : dl ≤ 1048576) (hrl : rs.length ≤ 1048576) (m : Nat) (hm : 75 ≤ m) :
    ∃ H', ev Try.prog m 75 [.agg (frC k a b c fin d t r)] H = some (.bool (decide (frOK k a b c fin dl tl rs)), H') ∧ Kp H H' := by
  obtain ⟨m, rfl⟩ : ∃ k, m = k + 1 := ⟨m - 1, by omega⟩
  have hrl' := Ty.R.lenA hr (P := Try.prog) (T := 70) (by simp)
  rw [ev_M Try.func75 ok75 [7] m _ H (by simp [Try.f75, frC])]
  have k0 : Kp H (H.push (.cells 72 false (frC k a b c fin d t r))) := (Kp.refl H).push _
  obtain ⟨H1, e1, k1⟩ := l05Kind_ev k (H.push (.cells 72 false (frC k a b c fin d t r))) m (by omega)
  simp only [frC] at e1
  have n1 := k1.next
  simp at n1
  have or_ : r.one = true := hr.sl_one
  simp (disch := omega) [Try.f75, tm0, frC, od, ot, or_, e1, fillA, stVar, spl, ldVar, usC]
  generalize hτ : upd _ 3 _ = τ1
  generalize hX : AH.push _ _ = X1
  have T1 : FkT τ1 H.next H1.next := ⟨by rw [← hτ]; simp, by rw [← hτ]; simp⟩
  have kX : Kp (H.push (.cells 72 false (frC k a b c fin d t r))) X1 := by rw [← hX]; exact k1.push _
  have hA : X1.get H.next = some (.cells 72 false (frC k a b c fin d t r)) := by rw [kX.get _ (by simp)]; simp
  have hB : X1.get H1.next = some (.cells 222 false (kdC (usesL.lookup k).isSome ((usesL.lookup k).getD usN))) := by rw [← hX]; simp [kdC]
  have kH := k0.trans kX
  by_cases c1 : ((usesL.lookup k).isSome = true ∧ inV a ∧ inV b ∧ inV c ∧ fldOK ((usesL.lookup k).getD usN).a (a = 0) ∧ fldOK ((usesL.lookup k).getD usN).b (b = 0) ∧ fldOK ((usesL.lookup k).getD usN).c (c = 0) ∧ fldOK ((usesL.lookup k).getD usN).fin (fin = false))
  · obtain ⟨p0, p1, p2, p3, p4, p5, p6, p7⟩ := c1
    rw [p0] at hB
    obtain ⟨τ2, e2, T2⟩ := fk0_pass hA hB p1 p2 p3 p4 p5 p6 p7 m (by omega) τ1 T1
    obtain ⟨H2, e3, k3⟩ := l05RangesOK_ev (H := X1) hr (hK.trans kH) hrl m (by omega)
    obtain ⟨τ3, H3, k4, g⟩ := fk1 hA hB m hd ht hrl' e3 k3 τ2 T2
    rw [e2]
    rcases g with ⟨q1, q2, q3, q4, q5, e4, T3⟩ | ⟨q, e4, t4⟩
    · have hA3 : H3.get H.next = some (.cells 72 false (frC k a b c fin d t r)) := by rw [k4.get _ (by have := kX.next; simp at this; omega)]; exact hA
      obtain ⟨τ4, e5, t5⟩ := fk2 hA3 m hd hdl τ3 T3
      refine ⟨H3, ?_, kH.trans k4⟩
      rw [e4, e5]
      have : frOK k a b c fin dl tl rs ↔ frX k a b dl := ⟨fun h => h.2.2, fun h => ⟨⟨p0, p1, p2, p3, p4, p5, p6, p7⟩, ⟨q1, q2, q3, q4, q5⟩, h⟩⟩
      simp [t5, this]
    · refine ⟨H3, ?_, kH.trans k4⟩
      have : ¬ frOK k a b c fin dl tl rs := fun h => q h.2.1
      rw [e4]
      simp [t4, this]
  · obtain ⟨τ2, e2, t2⟩ := fk0_fail hA hB c1 m (by omega) τ1 T1
    refine ⟨X1, ?_, kH⟩
    have : ¬ frOK k a b c fin dl tl rs := fun h => c1 h.1
    rw [e2]
    simp [t2, this]
end Go.Ev

/- Whether a frame is right, in the program. -/
namespace Go.Ev
open Go Go.Proofs
set_option linter.unusedSimpArgs false
set_option linter.unusedVariables false

structure FiT (τ : Tm) (A B : Nat) : Prop where
  t1 : τ 1 = .ptr A 0
  t3 : τ 3 = .ptr B 0
abbrev Shp := Bool × Bool × Bool × Bool × Bool × Bool
def shL (s : Shp) : List AV := [.bool s.1, .bool s.2.1, .bool s.2.2.1, .bool s.2.2.2.1, .bool s.2.2.2.2.1, .bool s.2.2.2.2.2]
theorem fi0 {k a b c : Int} {fin : Bool} {d t r : AV} {ok : Bool} {A B : Nat} {H : AH}
    (hA : H.get A = some (.cells 72 false (frC k a b c fin d t r))) (m : Nat) (hm : 1 ≤ m) (τ : Tm) (T : FiT τ A B) (t4 : τ 4 = .bool ok) :
    ∃ τ', ((ok = true ∧ inV a ∧ inV b ∧ inV c) ∧ evAt Try.prog (ev Try.prog m) m 50 7 τ H = evAt Try.prog (ev Try.prog m) m 50 15 τ' H ∧ FiT τ' A B) ∨
      (¬ (ok = true ∧ inV a ∧ inV b ∧ inV c) ∧ evAt Try.prog (ev Try.prog m) m 50 7 τ H = some (.ret, τ', H) ∧ τ' 2 = .bool false) := by
  obtain ⟨t1, t3⟩ := T
  have c1 := fun H => inVar_ev a H m hm
  have c2 := fun H => inVar_ev b H m hm
  have c3 := fun H => inVar_ev c H m hm
  simp only [frC] at hA
  rw [at_M Try.func50 7 (by decide) 3 (by decide) (by kernel_rfl) [15]]
  cases ok
  · exact ⟨_, .inr ⟨by simp, by simp [Try.f50, t1, t3, t4, hA, ldVar]; rfl, by simp⟩⟩
  · by_cases ia : inV a
    · by_cases ib : inV b
      · by_cases ic : inV c
        · exact ⟨_, .inl ⟨⟨rfl, ia, ib, ic⟩, by simp [Try.f50, t1, t3, t4, hA, ldVar, c1, c2, c3, ia, ib, ic]; rfl, by simp [t1], by simp [t3]⟩⟩
        · exact ⟨_, .inr ⟨by simp [ic], by simp [Try.f50, t1, t3, t4, hA, ldVar, c1, c2, c3, ia, ib, ic]; rfl, by simp⟩⟩
      · exact ⟨_, .inr ⟨by simp [ib], by simp [Try.f50, t1, t3, t4, hA, ldVar, c1, c2, c3, ia, ib]; rfl, by simp⟩⟩
    · exact ⟨_, .inr ⟨by simp [ia], by simp [Try.f50, t1, t3, t4, hA, ldVar, c1, c2, c3, ia]; rfl, by simp⟩⟩
theorem fi1_0 {k a b c : Int} {fin : Bool} {d t r : AV} {dl tl rl : Nat} {A B : Nat} {H : AH}
    (hA : H.get A = some (.cells 72 false (frC k a b c fin d t r))) (hB : H.get B = some (.cells 197 false (shL (true, false, false, false, false, false)))) (m : Nat) (hk4 : k ≠ 4)
    (hd : ∀ h, lenA Try.prog 34 d h = some (.int .i64 dl)) (ht : ∀ h, lenA Try.prog 34 t h = some (.int .i64 tl)) (hr : ∀ h, lenA Try.prog 70 r h = some (.int .i64 rl)) (τ : Tm) (T : FiT τ A B) :
    ∃ τ', ((b = 0 ∧ fin = false ∧ dl = 0 ∧ tl = 0 ∧ rl = 0) ∧ evAt Try.prog (ev Try.prog m) m 50 15 τ H = evAt Try.prog (ev Try.prog m) m 50 31 τ' H ∧ FiT τ' A B) ∨
      (¬ (b = 0 ∧ fin = false ∧ dl = 0 ∧ tl = 0 ∧ rl = 0) ∧ evAt Try.prog (ev Try.prog m) m 50 15 τ H = some (.ret, τ', H) ∧ τ' 2 = .bool false) := by
  obtain ⟨t1, t3⟩ := T
  simp only [frC, shL] at hA hB
  rw [at_M Try.func50 15 (by decide) 4 (by decide) (by kernel_rfl) [31]]
  have k4 : (k != 4) = true := by simpa using hk4
  by_cases z1 : b = 0
  rotate_left 1
  · have w1 : (b != 0) = true := by simpa using z1
    exact ⟨_, .inr ⟨fun h => z1 h.1, by simp [Try.f50, t1, t3, hA, hB, ldVar, hd, ht, hr, k4, w1]; rfl, by simp⟩⟩
  subst z1
  by_cases z2 : fin = false
  rotate_left 1
  · have w2 : fin = true := by simpa using z2
    exact ⟨_, .inr ⟨fun h => z2 h.2.1, by simp [Try.f50, t1, t3, hA, hB, ldVar, hd, ht, hr, k4, w2]; rfl, by simp⟩⟩
  subst z2
  by_cases z3 : dl = 0
  rotate_left 1
  · have w3 : 0 < dl := by omega
    exact ⟨_, .inr ⟨fun h => z3 h.2.2.1, by simp [Try.f50, t1, t3, hA, hB, ldVar, hd, ht, hr, k4, w3]; rfl, by simp⟩⟩
  subst z3
  by_cases z4 : tl = 0
  rotate_left 1
  · have w4 : 0 < tl := by omega
    exact ⟨_, .inr ⟨fun h => z4 h.2.2.2.1, by simp [Try.f50, t1, t3, hA, hB, ldVar, hd, ht, hr, k4, w4]; rfl, by simp⟩⟩
  subst z4
  by_cases z5 : rl = 0
  rotate_left 1
  · have w5 : 0 < rl := by omega
    exact ⟨_, .inr ⟨fun h => z5 h.2.2.2.2, by simp [Try.f50, t1, t3, hA, hB, ldVar, hd, ht, hr, k4, w5]; rfl, by simp⟩⟩
  subst z5
  exact ⟨_, .inl ⟨⟨rfl, rfl, rfl, rfl, rfl⟩, by simp [Try.f50, t1, t3, hA, hB, ldVar, hd, ht, hr, k4]; rfl, by simp [t1], by simp [t3]⟩⟩
theorem fi1_1 {k a b c : Int} {fin : Bool} {d t r : AV} {dl tl rl : Nat} {A B : Nat} {H : AH}
    (hA : H.get A = some (.cells 72 false (frC k a b c fin d t r))) (hB : H.get B = some (.cells 197 false (shL (false, false, false, false, false, false)))) (m : Nat) (hk4 : k ≠ 4)
    (hd : ∀ h, lenA Try.prog 34 d h = some (.int .i64 dl)) (ht : ∀ h, lenA Try.prog 34 t h = some (.int .i64 tl)) (hr : ∀ h, lenA Try.prog 70 r h = some (.int .i64 rl)) (τ : Tm) (T : FiT τ A B) :
    ∃ τ', ((a = 0 ∧ b = 0 ∧ fin = false ∧ dl = 0 ∧ tl = 0 ∧ rl = 0) ∧ evAt Try.prog (ev Try.prog m) m 50 15 τ H = evAt Try.prog (ev Try.prog m) m 50 31 τ' H ∧ FiT τ' A B) ∨
      (¬ (a = 0 ∧ b = 0 ∧ fin = false ∧ dl = 0 ∧ tl = 0 ∧ rl = 0) ∧ evAt Try.prog (ev Try.prog m) m 50 15 τ H = some (.ret, τ', H) ∧ τ' 2 = .bool false) := by
  obtain ⟨t1, t3⟩ := T
  simp only [frC, shL] at hA hB
  rw [at_M Try.func50 15 (by decide) 4 (by decide) (by kernel_rfl) [31]]
  have k4 : (k != 4) = true := by simpa using hk4
  by_cases z0 : a = 0
  rotate_left 1
  · have w0 : (a != 0) = true := by simpa using z0
    exact ⟨_, .inr ⟨fun h => z0 h.1, by simp [Try.f50, t1, t3, hA, hB, ldVar, hd, ht, hr, k4, w0]; rfl, by simp⟩⟩
  subst z0
  by_cases z1 : b = 0
  rotate_left 1
  · have w1 : (b != 0) = true := by simpa using z1
    exact ⟨_, .inr ⟨fun h => z1 h.2.1, by simp [Try.f50, t1, t3, hA, hB, ldVar, hd, ht, hr, k4, w1]; rfl, by simp⟩⟩
  subst z1
  by_cases z2 : fin = false
  rotate_left 1
  · have w2 : fin = true := by simpa using z2
    exact ⟨_, .inr ⟨fun h => z2 h.2.2.1, by simp [Try.f50, t1, t3, hA, hB, ldVar, hd, ht, hr, k4, w2]; rfl, by simp⟩⟩
  subst z2
  by_cases z3 : dl = 0
  rotate_left 1
  · have w3 : 0 < dl := by omega
    exact ⟨_, .inr ⟨fun h => z3 h.2.2.2.1, by simp [Try.f50, t1, t3, hA, hB, ldVar, hd, ht, hr, k4, w3]; rfl, by simp⟩⟩
  subst z3
  by_cases z4 : tl = 0
  rotate_left 1
  · have w4 : 0 < tl := by omega
    exact ⟨_, .inr ⟨fun h => z4 h.2.2.2.2.1, by simp [Try.f50, t1, t3, hA, hB, ldVar, hd, ht, hr, k4, w4]; rfl, by simp⟩⟩
  subst z4
  by_cases z5 : rl = 0
  rotate_left 1
  · have w5 : 0 < rl := by omega
    exact ⟨_, .inr ⟨fun h => z5 h.2.2.2.2.2, by simp [Try.f50, t1, t3, hA, hB, ldVar, hd, ht, hr, k4, w5]; rfl, by simp⟩⟩
  subst z5
  exact ⟨_, .inl ⟨⟨rfl, rfl, rfl, rfl, rfl, rfl⟩, by simp [Try.f50, t1, t3, hA, hB, ldVar, hd, ht, hr, k4]; rfl, by simp [t1], by simp [t3]⟩⟩
theorem fi1_2 {k a b c : Int} {fin : Bool} {d t r : AV} {dl tl rl : Nat} {A B : Nat} {H : AH}
    (hA : H.get A = some (.cells 72 false (frC k a b c fin d t r))) (hB : H.get B = some (.cells 197 false (shL (true, false, false, false, false, true)))) (m : Nat) (hk4 : k ≠ 4)
    (hd : ∀ h, lenA Try.prog 34 d h = some (.int .i64 dl)) (ht : ∀ h, lenA Try.prog 34 t h = some (.int .i64 tl)) (hr : ∀ h, lenA Try.prog 70 r h = some (.int .i64 rl)) (τ : Tm) (T : FiT τ A B) :
    ∃ τ', ((b = 0 ∧ fin = false ∧ dl = 0 ∧ tl = 0) ∧ evAt Try.prog (ev Try.prog m) m 50 15 τ H = evAt Try.prog (ev Try.prog m) m 50 31 τ' H ∧ FiT τ' A B) ∨
      (¬ (b = 0 ∧ fin = false ∧ dl = 0 ∧ tl = 0) ∧ evAt Try.prog (ev Try.prog m) m 50 15 τ H = some (.ret, τ', H) ∧ τ' 2 = .bool false) := by
  obtain ⟨t1, t3⟩ := T
  simp only [frC, shL] at hA hB
  rw [at_M Try.func50 15 (by decide) 4 (by decide) (by kernel_rfl) [31]]
  have k4 : (k != 4) = true := by simpa using hk4
  by_cases z1 : b = 0
  rotate_left 1
  · have w1 : (b != 0) = true := by simpa using z1
    exact ⟨_, .inr ⟨fun h => z1 h.1, by simp [Try.f50, t1, t3, hA, hB, ldVar, hd, ht, hr, k4, w1]; rfl, by simp⟩⟩
  subst z1
  by_cases z2 : fin = false
  rotate_left 1
  · have w2 : fin = true := by simpa using z2
    exact ⟨_, .inr ⟨fun h => z2 h.2.1, by simp [Try.f50, t1, t3, hA, hB, ldVar, hd, ht, hr, k4, w2]; rfl, by simp⟩⟩
  subst z2
  by_cases z3 : dl = 0
  rotate_left 1
  · have w3 : 0 < dl := by omega
    exact ⟨_, .inr ⟨fun h => z3 h.2.2.1, by simp [Try.f50, t1, t3, hA, hB, ldVar, hd, ht, hr, k4, w3]; rfl, by simp⟩⟩
  subst z3
  by_cases z4 : tl = 0
  rotate_left 1
  · have w4 : 0 < tl := by omega
    exact ⟨_, .inr ⟨fun h => z4 h.2.2.2, by simp [Try.f50, t1, t3, hA, hB, ldVar, hd, ht, hr, k4, w4]; rfl, by simp⟩⟩
  subst z4
  exact ⟨_, .inl ⟨⟨rfl, rfl, rfl, rfl⟩, by simp [Try.f50, t1, t3, hA, hB, ldVar, hd, ht, hr, k4]; rfl, by simp [t1], by simp [t3]⟩⟩
theorem fi1_3 {k a b c : Int} {fin : Bool} {d t r : AV} {dl tl rl : Nat} {A B : Nat} {H : AH}
    (hA : H.get A = some (.cells 72 false (frC k a b c fin d t r))) (hB : H.get B = some (.cells 197 false (shL (true, true, false, false, false, false)))) (m : Nat) (hk4 : True)
    (hd : ∀ h, lenA Try.prog 34 d h = some (.int .i64 dl)) (ht : ∀ h, lenA Try.prog 34 t h = some (.int .i64 tl)) (hr : ∀ h, lenA Try.prog 70 r h = some (.int .i64 rl)) (τ : Tm) (T : FiT τ A B) :
    ∃ τ', ((fin = false ∧ dl = 0 ∧ tl = 0 ∧ rl = 0) ∧ evAt Try.prog (ev Try.prog m) m 50 15 τ H = evAt Try.prog (ev Try.prog m) m 50 31 τ' H ∧ FiT τ' A B) ∨
      (¬ (fin = false ∧ dl = 0 ∧ tl = 0 ∧ rl = 0) ∧ evAt Try.prog (ev Try.prog m) m 50 15 τ H = some (.ret, τ', H) ∧ τ' 2 = .bool false) := by
  obtain ⟨t1, t3⟩ := T
  simp only [frC, shL] at hA hB
  rw [at_M Try.func50 15 (by decide) 4 (by decide) (by kernel_rfl) [31]]
  by_cases z2 : fin = false
  rotate_left 1
  · have w2 : fin = true := by simpa using z2
    exact ⟨_, .inr ⟨fun h => z2 h.1, by simp [Try.f50, t1, t3, hA, hB, ldVar, hd, ht, hr, w2]; rfl, by simp⟩⟩
  subst z2
  by_cases z3 : dl = 0
  rotate_left 1
  · have w3 : 0 < dl := by omega
    exact ⟨_, .inr ⟨fun h => z3 h.2.1, by simp [Try.f50, t1, t3, hA, hB, ldVar, hd, ht, hr, w3]; rfl, by simp⟩⟩
  subst z3
  by_cases z4 : tl = 0
  rotate_left 1
  · have w4 : 0 < tl := by omega
    exact ⟨_, .inr ⟨fun h => z4 h.2.2.1, by simp [Try.f50, t1, t3, hA, hB, ldVar, hd, ht, hr, w4]; rfl, by simp⟩⟩
  subst z4
  by_cases z5 : rl = 0
  rotate_left 1
  · have w5 : 0 < rl := by omega
    exact ⟨_, .inr ⟨fun h => z5 h.2.2.2, by simp [Try.f50, t1, t3, hA, hB, ldVar, hd, ht, hr, w5]; rfl, by simp⟩⟩
  subst z5
  exact ⟨_, .inl ⟨⟨rfl, rfl, rfl, rfl⟩, by simp [Try.f50, t1, t3, hA, hB, ldVar, hd, ht, hr]; rfl, by simp [t1], by simp [t3]⟩⟩
theorem fi1_4 {k a b c : Int} {fin : Bool} {d t r : AV} {dl tl rl : Nat} {A B : Nat} {H : AH}
    (hA : H.get A = some (.cells 72 false (frC k a b c fin d t r))) (hB : H.get B = some (.cells 197 false (shL (true, false, false, true, false, false)))) (m : Nat) (hk4 : k ≠ 4)
    (hd : ∀ h, lenA Try.prog 34 d h = some (.int .i64 dl)) (ht : ∀ h, lenA Try.prog 34 t h = some (.int .i64 tl)) (hr : ∀ h, lenA Try.prog 70 r h = some (.int .i64 rl)) (τ : Tm) (T : FiT τ A B) :
    ∃ τ', ((b = 0 ∧ fin = false ∧ tl = 0 ∧ rl = 0) ∧ evAt Try.prog (ev Try.prog m) m 50 15 τ H = evAt Try.prog (ev Try.prog m) m 50 31 τ' H ∧ FiT τ' A B) ∨
      (¬ (b = 0 ∧ fin = false ∧ tl = 0 ∧ rl = 0) ∧ evAt Try.prog (ev Try.prog m) m 50 15 τ H = some (.ret, τ', H) ∧ τ' 2 = .bool false) := by
  obtain ⟨t1, t3⟩ := T
  simp only [frC, shL] at hA hB
  rw [at_M Try.func50 15 (by decide) 4 (by decide) (by kernel_rfl) [31]]
  have k4 : (k != 4) = true := by simpa using hk4
  by_cases z1 : b = 0
  rotate_left 1
  · have w1 : (b != 0) = true := by simpa using z1
    exact ⟨_, .inr ⟨fun h => z1 h.1, by simp [Try.f50, t1, t3, hA, hB, ldVar, hd, ht, hr, k4, w1]; rfl, by simp⟩⟩
  subst z1
  by_cases z2 : fin = false
  rotate_left 1
  · have w2 : fin = true := by simpa using z2
    exact ⟨_, .inr ⟨fun h => z2 h.2.1, by simp [Try.f50, t1, t3, hA, hB, ldVar, hd, ht, hr, k4, w2]; rfl, by simp⟩⟩
  subst z2
  by_cases z4 : tl = 0
  rotate_left 1
  · have w4 : 0 < tl := by omega
    exact ⟨_, .inr ⟨fun h => z4 h.2.2.1, by simp [Try.f50, t1, t3, hA, hB, ldVar, hd, ht, hr, k4, w4]; rfl, by simp⟩⟩
  subst z4
  by_cases z5 : rl = 0
  rotate_left 1
  · have w5 : 0 < rl := by omega
    exact ⟨_, .inr ⟨fun h => z5 h.2.2.2, by simp [Try.f50, t1, t3, hA, hB, ldVar, hd, ht, hr, k4, w5]; rfl, by simp⟩⟩
  subst z5
  exact ⟨_, .inl ⟨⟨rfl, rfl, rfl, rfl⟩, by simp [Try.f50, t1, t3, hA, hB, ldVar, hd, ht, hr, k4]; rfl, by simp [t1], by simp [t3]⟩⟩
theorem fi1_5 {k a b c : Int} {fin : Bool} {d t r : AV} {dl tl rl : Nat} {A B : Nat} {H : AH}
    (hA : H.get A = some (.cells 72 false (frC k a b c fin d t r))) (hB : H.get B = some (.cells 197 false (shL (false, false, false, true, false, false)))) (m : Nat) (hk4 : k ≠ 4)
    (hd : ∀ h, lenA Try.prog 34 d h = some (.int .i64 dl)) (ht : ∀ h, lenA Try.prog 34 t h = some (.int .i64 tl)) (hr : ∀ h, lenA Try.prog 70 r h = some (.int .i64 rl)) (τ : Tm) (T : FiT τ A B) :
    ∃ τ', ((a = 0 ∧ b = 0 ∧ fin = false ∧ tl = 0 ∧ rl = 0) ∧ evAt Try.prog (ev Try.prog m) m 50 15 τ H = evAt Try.prog (ev Try.prog m) m 50 31 τ' H ∧ FiT τ' A B) ∨
      (¬ (a = 0 ∧ b = 0 ∧ fin = false ∧ tl = 0 ∧ rl = 0) ∧ evAt Try.prog (ev Try.prog m) m 50 15 τ H = some (.ret, τ', H) ∧ τ' 2 = .bool false) := by
  obtain ⟨t1, t3⟩ := T
  simp only [frC, shL] at hA hB
  rw [at_M Try.func50 15 (by decide) 4 (by decide) (by kernel_rfl) [31]]
  have k4 : (k != 4) = true := by simpa using hk4
  by_cases z0 : a = 0
  rotate_left 1
  · have w0 : (a != 0) = true := by simpa using z0
    exact ⟨_, .inr ⟨fun h => z0 h.1, by simp [Try.f50, t1, t3, hA, hB, ldVar, hd, ht, hr, k4, w0]; rfl, by simp⟩⟩
  subst z0
  by_cases z1 : b = 0
  rotate_left 1
  · have w1 : (b != 0) = true := by simpa using z1
    exact ⟨_, .inr ⟨fun h => z1 h.2.1, by simp [Try.f50, t1, t3, hA, hB, ldVar, hd, ht, hr, k4, w1]; rfl, by simp⟩⟩
  subst z1
  by_cases z2 : fin = false
  rotate_left 1
  · have w2 : fin = true := by simpa using z2
    exact ⟨_, .inr ⟨fun h => z2 h.2.2.1, by simp [Try.f50, t1, t3, hA, hB, ldVar, hd, ht, hr, k4, w2]; rfl, by simp⟩⟩
  subst z2
  by_cases z4 : tl = 0
  rotate_left 1
  · have w4 : 0 < tl := by omega
    exact ⟨_, .inr ⟨fun h => z4 h.2.2.2.1, by simp [Try.f50, t1, t3, hA, hB, ldVar, hd, ht, hr, k4, w4]; rfl, by simp⟩⟩
  subst z4
  by_cases z5 : rl = 0
  rotate_left 1
  · have w5 : 0 < rl := by omega
    exact ⟨_, .inr ⟨fun h => z5 h.2.2.2.2, by simp [Try.f50, t1, t3, hA, hB, ldVar, hd, ht, hr, k4, w5]; rfl, by simp⟩⟩
  subst z5
  exact ⟨_, .inl ⟨⟨rfl, rfl, rfl, rfl, rfl⟩, by simp [Try.f50, t1, t3, hA, hB, ldVar, hd, ht, hr, k4]; rfl, by simp [t1], by simp [t3]⟩⟩
theorem fi1_6 {k a b c : Int} {fin : Bool} {d t r : AV} {dl tl rl : Nat} {A B : Nat} {H : AH}
    (hA : H.get A = some (.cells 72 false (frC k a b c fin d t r))) (hB : H.get B = some (.cells 197 false (shL (true, true, true, true, false, false)))) (m : Nat) (hk4 : True)
    (hd : ∀ h, lenA Try.prog 34 d h = some (.int .i64 dl)) (ht : ∀ h, lenA Try.prog 34 t h = some (.int .i64 tl)) (hr : ∀ h, lenA Try.prog 70 r h = some (.int .i64 rl)) (τ : Tm) (T : FiT τ A B) :
    ∃ τ', ((tl = 0 ∧ rl = 0) ∧ evAt Try.prog (ev Try.prog m) m 50 15 τ H = evAt Try.prog (ev Try.prog m) m 50 31 τ' H ∧ FiT τ' A B) ∨
      (¬ (tl = 0 ∧ rl = 0) ∧ evAt Try.prog (ev Try.prog m) m 50 15 τ H = some (.ret, τ', H) ∧ τ' 2 = .bool false) := by
  obtain ⟨t1, t3⟩ := T
  simp only [frC, shL] at hA hB
  rw [at_M Try.func50 15 (by decide) 4 (by decide) (by kernel_rfl) [31]]
  by_cases z4 : tl = 0
  rotate_left 1
  · have w4 : 0 < tl := by omega
    exact ⟨_, .inr ⟨fun h => z4 h.1, by simp [Try.f50, t1, t3, hA, hB, ldVar, hd, ht, hr, w4]; rfl, by simp⟩⟩
  subst z4
  by_cases z5 : rl = 0
  rotate_left 1
  · have w5 : 0 < rl := by omega
    exact ⟨_, .inr ⟨fun h => z5 h.2, by simp [Try.f50, t1, t3, hA, hB, ldVar, hd, ht, hr, w5]; rfl, by simp⟩⟩
  subst z5
  exact ⟨_, .inl ⟨⟨rfl, rfl⟩, by simp [Try.f50, t1, t3, hA, hB, ldVar, hd, ht, hr]; rfl, by simp [t1], by simp [t3]⟩⟩
theorem fi1_7 {k a b c : Int} {fin : Bool} {d t r : AV} {dl tl rl : Nat} {A B : Nat} {H : AH}
    (hA : H.get A = some (.cells 72 false (frC k a b c fin d t r))) (hB : H.get B = some (.cells 197 false (shL (true, true, false, true, true, false)))) (m : Nat) (hk4 : True)
    (hd : ∀ h, lenA Try.prog 34 d h = some (.int .i64 dl)) (ht : ∀ h, lenA Try.prog 34 t h = some (.int .i64 tl)) (hr : ∀ h, lenA Try.prog 70 r h = some (.int .i64 rl)) (τ : Tm) (T : FiT τ A B) :
    ∃ τ', ((fin = false ∧ rl = 0) ∧ evAt Try.prog (ev Try.prog m) m 50 15 τ H = evAt Try.prog (ev Try.prog m) m 50 31 τ' H ∧ FiT τ' A B) ∨
      (¬ (fin = false ∧ rl = 0) ∧ evAt Try.prog (ev Try.prog m) m 50 15 τ H = some (.ret, τ', H) ∧ τ' 2 = .bool false) := by
  obtain ⟨t1, t3⟩ := T
  simp only [frC, shL] at hA hB
  rw [at_M Try.func50 15 (by decide) 4 (by decide) (by kernel_rfl) [31]]
  by_cases z2 : fin = false
  rotate_left 1
  · have w2 : fin = true := by simpa using z2
    exact ⟨_, .inr ⟨fun h => z2 h.1, by simp [Try.f50, t1, t3, hA, hB, ldVar, hd, ht, hr, w2]; rfl, by simp⟩⟩
  subst z2
  by_cases z5 : rl = 0
  rotate_left 1
  · have w5 : 0 < rl := by omega
    exact ⟨_, .inr ⟨fun h => z5 h.2, by simp [Try.f50, t1, t3, hA, hB, ldVar, hd, ht, hr, w5]; rfl, by simp⟩⟩
  subst z5
  exact ⟨_, .inl ⟨⟨rfl, rfl⟩, by simp [Try.f50, t1, t3, hA, hB, ldVar, hd, ht, hr]; rfl, by simp [t1], by simp [t3]⟩⟩
theorem fi1_8 {k a b c : Int} {fin : Bool} {d t r : AV} {dl tl rl : Nat} {A B : Nat} {H : AH}
    (hA : H.get A = some (.cells 72 false (frC k a b c fin d t r))) (hB : H.get B = some (.cells 197 false (shL (true, true, false, true, false, false)))) (m : Nat) (hk4 : True)
    (hd : ∀ h, lenA Try.prog 34 d h = some (.int .i64 dl)) (ht : ∀ h, lenA Try.prog 34 t h = some (.int .i64 tl)) (hr : ∀ h, lenA Try.prog 70 r h = some (.int .i64 rl)) (τ : Tm) (T : FiT τ A B) :
    ∃ τ', ((fin = false ∧ tl = 0 ∧ rl = 0) ∧ evAt Try.prog (ev Try.prog m) m 50 15 τ H = evAt Try.prog (ev Try.prog m) m 50 31 τ' H ∧ FiT τ' A B) ∨
      (¬ (fin = false ∧ tl = 0 ∧ rl = 0) ∧ evAt Try.prog (ev Try.prog m) m 50 15 τ H = some (.ret, τ', H) ∧ τ' 2 = .bool false) := by
  obtain ⟨t1, t3⟩ := T
  simp only [frC, shL] at hA hB
  rw [at_M Try.func50 15 (by decide) 4 (by decide) (by kernel_rfl) [31]]
  by_cases z2 : fin = false
  rotate_left 1
  · have w2 : fin = true := by simpa using z2
    exact ⟨_, .inr ⟨fun h => z2 h.1, by simp [Try.f50, t1, t3, hA, hB, ldVar, hd, ht, hr, w2]; rfl, by simp⟩⟩
  subst z2
  by_cases z4 : tl = 0
  rotate_left 1
  · have w4 : 0 < tl := by omega
    exact ⟨_, .inr ⟨fun h => z4 h.2.1, by simp [Try.f50, t1, t3, hA, hB, ldVar, hd, ht, hr, w4]; rfl, by simp⟩⟩
  subst z4
  by_cases z5 : rl = 0
  rotate_left 1
  · have w5 : 0 < rl := by omega
    exact ⟨_, .inr ⟨fun h => z5 h.2.2, by simp [Try.f50, t1, t3, hA, hB, ldVar, hd, ht, hr, w5]; rfl, by simp⟩⟩
  subst z5
  exact ⟨_, .inl ⟨⟨rfl, rfl, rfl⟩, by simp [Try.f50, t1, t3, hA, hB, ldVar, hd, ht, hr]; rfl, by simp [t1], by simp [t3]⟩⟩
end Go.Ev

/- Whether a frame is right, in the program: the bounds of a kind. -/
namespace Go.Ev
open Go Go.Proofs
set_option linter.unusedSimpArgs false
set_option linter.unusedVariables false

theorem fi2 {k a b c : Int} {fin : Bool} {d t r : AV} {dl : Nat} {A B : Nat} {H : AH}
    (hA : H.get A = some (.cells 72 false (frC k a b c fin d t r))) (m : Nat) (hd : ∀ h, lenA Try.prog 34 d h = some (.int .i64 dl)) (τ : Tm) (T : FiT τ A B) :
    ∃ τ', ((c = 0 ∨ k = 4) ∧ evAt Try.prog (ev Try.prog m) m 50 31 τ H = evAt Try.prog (ev Try.prog m) m 50 127 τ' H ∧ FiT τ' A B ∧ τ' 5 = .int .i64 dl) ∨
      (¬ (c = 0 ∨ k = 4) ∧ evAt Try.prog (ev Try.prog m) m 50 31 τ H = some (.ret, τ', H) ∧ τ' 2 = .bool false) := by
  obtain ⟨t1, t3⟩ := T
  simp only [frC] at hA
  rw [at_M Try.func50 31 (by decide) 5 (by decide) (by kernel_rfl) [127]]
  by_cases c0 : c = 0
  · subst c0
    exact ⟨_, .inl ⟨.inl rfl, by simp [Try.f50, t1, t3, hA, hd, ldVar]; rfl, ⟨by simp [t1], by simp [t3]⟩, by simp⟩⟩
  · have c0' : (c != 0) = true := by simpa using c0
    by_cases k4 : k = 4
    · subst k4
      exact ⟨_, .inl ⟨.inr rfl, by simp [Try.f50, t1, t3, hA, hd, ldVar, c0']; rfl, ⟨by simp [t1], by simp [t3]⟩, by simp⟩⟩
    · have k4' : (k != 4) = true := by simpa using k4
      exact ⟨_, .inr ⟨fun h => by rcases h with h | h; exact c0 h; exact k4 h, by simp [Try.f50, t1, t3, hA, hd, ldVar, c0', k4']; rfl, by simp⟩⟩
structure FiS (τ : Tm) (A : Nat) (k : Int) (dl : Nat) : Prop where
  t1 : τ 1 = .ptr A 0
  t5 : τ 5 = .int .i64 dl
  tk : τ 109 = .int .i64 k
theorem fiS_1018 {A dl : Nat} (k : Int) (h0 : ¬ (k = 0)) (m : Nat) (τ : Tm) (H : AH) (S : FiS τ A k dl) :
    ∃ τ', evAt Try.prog (ev Try.prog m) m 50 1018 τ H = evAt Try.prog (ev Try.prog m) m 50 4075 τ' H ∧ FiS τ' A k dl := by
  obtain ⟨t1, t5, tk⟩ := S
  rw [at_M Try.func50 1018 (by decide) 10 (by decide) (by kernel_rfl) [4075]]
  exact ⟨_, by simp [Try.f50, tk, beqF, h0]; rfl, by simp [t1], by simp [t5], by simp [tk]⟩
theorem fiS_4075 {A dl : Nat} (k : Int) (h2 : ¬ (k = 2)) (m : Nat) (τ : Tm) (H : AH) (S : FiS τ A k dl) :
    ∃ τ', evAt Try.prog (ev Try.prog m) m 50 4075 τ H = evAt Try.prog (ev Try.prog m) m 50 16303 τ' H ∧ FiS τ' A k dl := by
  obtain ⟨t1, t5, tk⟩ := S
  rw [at_M Try.func50 4075 (by decide) 12 (by decide) (by kernel_rfl) [16303]]
  exact ⟨_, by simp [Try.f50, tk, beqF, h2]; rfl, by simp [t1], by simp [t5], by simp [tk]⟩
theorem fiS_16303 {A dl : Nat} (k : Int) (h6 : ¬ (k = 6)) (m : Nat) (τ : Tm) (H : AH) (S : FiS τ A k dl) :
    ∃ τ', evAt Try.prog (ev Try.prog m) m 50 16303 τ H = evAt Try.prog (ev Try.prog m) m 50 65215 τ' H ∧ FiS τ' A k dl := by
  obtain ⟨t1, t5, tk⟩ := S
  rw [at_M Try.func50 16303 (by decide) 14 (by decide) (by kernel_rfl) [65215]]
  exact ⟨_, by simp [Try.f50, tk, beqF, h6]; rfl, by simp [t1], by simp [t5], by simp [tk]⟩
theorem fiS_65215 {A dl : Nat} (k : Int) (h7 : ¬ (k = 7)) (m : Nat) (τ : Tm) (H : AH) (S : FiS τ A k dl) :
    ∃ τ', evAt Try.prog (ev Try.prog m) m 50 65215 τ H = evAt Try.prog (ev Try.prog m) m 50 260863 τ' H ∧ FiS τ' A k dl := by
  obtain ⟨t1, t5, tk⟩ := S
  rw [at_M Try.func50 65215 (by decide) 16 (by decide) (by kernel_rfl) [260863]]
  exact ⟨_, by simp [Try.f50, tk, beqF, h7]; rfl, by simp [t1], by simp [t5], by simp [tk]⟩
theorem fiS_260863 {A dl : Nat} (k : Int) (h8 : ¬ (k = 8)) (m : Nat) (τ : Tm) (H : AH) (S : FiS τ A k dl) :
    ∃ τ', evAt Try.prog (ev Try.prog m) m 50 260863 τ H = evAt Try.prog (ev Try.prog m) m 50 1043455 τ' H ∧ FiS τ' A k dl := by
  obtain ⟨t1, t5, tk⟩ := S
  rw [at_M Try.func50 260863 (by decide) 18 (by decide) (by kernel_rfl) [1043455]]
  exact ⟨_, by simp [Try.f50, tk, beqF, h8]; rfl, by simp [t1], by simp [t5], by simp [tk]⟩
theorem fiS_1043455 {A dl : Nat} (k : Int) (h18 : ¬ (k = 18)) (h22 : ¬ (k = 22)) (m : Nat) (τ : Tm) (H : AH) (S : FiS τ A k dl) :
    ∃ τ', evAt Try.prog (ev Try.prog m) m 50 1043455 τ H = evAt Try.prog (ev Try.prog m) m 50 4173823 τ' H ∧ FiS τ' A k dl := by
  obtain ⟨t1, t5, tk⟩ := S
  rw [at_M Try.func50 1043455 (by decide) 20 (by decide) (by kernel_rfl) [4173823]]
  exact ⟨_, by simp [Try.f50, tk, beqF, h18, h22]; rfl, by simp [t1], by simp [t5], by simp [tk]⟩
theorem fiS_4173823 {A dl : Nat} (k : Int) (h24 : ¬ (k = 24)) (m : Nat) (τ : Tm) (H : AH) (S : FiS τ A k dl) :
    ∃ τ', evAt Try.prog (ev Try.prog m) m 50 4173823 τ H = evAt Try.prog (ev Try.prog m) m 50 16695295 τ' H ∧ FiS τ' A k dl := by
  obtain ⟨t1, t5, tk⟩ := S
  rw [at_M Try.func50 4173823 (by decide) 22 (by decide) (by kernel_rfl) [16695295]]
  exact ⟨_, by simp [Try.f50, tk, beqF, h24]; rfl, by simp [t1], by simp [t5], by simp [tk]⟩
theorem fiS_16695295 {A dl : Nat} (k : Int) (h26 : ¬ (k = 26)) (h27 : ¬ (k = 27)) (m : Nat) (τ : Tm) (H : AH) (S : FiS τ A k dl) :
    ∃ τ', evAt Try.prog (ev Try.prog m) m 50 16695295 τ H = evAt Try.prog (ev Try.prog m) m 50 66781183 τ' H ∧ FiS τ' A k dl := by
  obtain ⟨t1, t5, tk⟩ := S
  rw [at_M Try.func50 16695295 (by decide) 24 (by decide) (by kernel_rfl) [66781183]]
  exact ⟨_, by simp [Try.f50, tk, beqF, h26, h27]; rfl, by simp [t1], by simp [t5], by simp [tk]⟩
theorem fiS_66781183 {A dl : Nat} (k : Int) (h28 : ¬ (k = 28)) (h29 : ¬ (k = 29)) (m : Nat) (τ : Tm) (H : AH) (S : FiS τ A k dl) :
    ∃ τ', evAt Try.prog (ev Try.prog m) m 50 66781183 τ H = evAt Try.prog (ev Try.prog m) m 50 267124735 τ' H ∧ FiS τ' A k dl := by
  obtain ⟨t1, t5, tk⟩ := S
  rw [at_M Try.func50 66781183 (by decide) 26 (by decide) (by kernel_rfl) [267124735]]
  exact ⟨_, by simp [Try.f50, tk, beqF, h28, h29]; rfl, by simp [t1], by simp [t5], by simp [tk]⟩
theorem fiE {A dl : Nat} (k : Int) (h48 : ¬ (k = 48)) (m : Nat) (τ : Tm) (H : AH) (S : FiS τ A k dl) :
    ∃ τ', evAt Try.prog (ev Try.prog m) m 50 267124735 τ H = some (.normal, τ', H) := by
  obtain ⟨t1, t5, tk⟩ := S
  rw [at_M Try.func50 267124735 (by decide) 28 (by decide) (by kernel_rfl) []]
  exact ⟨_, by simp [Try.f50, tk, beqF, h48]; rfl⟩
theorem fiF_0 {a b c : Int} {fin : Bool} {d t r : AV} {dl : Nat} {A : Nat} {H : AH}
    (hA : H.get A = some (.cells 72 false (frC 0 a b c fin d t r))) (m : Nat) (τ : Tm) (S : FiS τ A 0 dl) (hl : dl ≤ 1048576) :
    ∃ τ', evAt Try.prog (ev Try.prog m) m 50 1018 τ H = some (.ret, τ', H) ∧ τ' 2 = .bool (decide (1 ≤ a ∧ a ≤ 1500)) := by
  obtain ⟨t1, t5, tk⟩ := S
  simp only [frC] at hA
  have w1 : IntKind.i64.wrap (4611686018427387903 - (dl : Int)) = 4611686018427387903 - (dl : Int) := wrap_i64 (n := 4611686018427387903 - (dl : Int)) (by omega) (by omega)
  rw [at_M Try.func50 1018 (by decide) 10 (by decide) (by kernel_rfl) []]
  by_cases q0 : 1 ≤ a
  rotate_left 1
  · have q0' : (1 ≤ a) = False := eq_false q0
    exact ⟨_, by simp [Try.f50, t1, t5, tk, hA, ldVar, w1, q0']; rfl, by simp [q0']⟩
  exact ⟨_, by simp [Try.f50, t1, t5, tk, hA, ldVar, w1, q0]; rfl, by simp [q0]⟩
theorem fiF_6 {a b c : Int} {fin : Bool} {d t r : AV} {dl : Nat} {A : Nat} {H : AH}
    (hA : H.get A = some (.cells 72 false (frC 6 a b c fin d t r))) (m : Nat) (τ : Tm) (S : FiS τ A 6 dl) (hl : dl ≤ 1048576) :
    ∃ τ', evAt Try.prog (ev Try.prog m) m 50 16303 τ H = some (.ret, τ', H) ∧ τ' 2 = .bool (decide ((dl : Int) ≤ 1500 ∧ a ≤ 4611686018427387903 - dl)) := by
  obtain ⟨t1, t5, tk⟩ := S
  simp only [frC] at hA
  have w1 : IntKind.i64.wrap (4611686018427387903 - (dl : Int)) = 4611686018427387903 - (dl : Int) := wrap_i64 (n := 4611686018427387903 - (dl : Int)) (by omega) (by omega)
  rw [at_M Try.func50 16303 (by decide) 14 (by decide) (by kernel_rfl) []]
  by_cases q0 : (dl : Int) ≤ 1500
  rotate_left 1
  · have q0' : ((dl : Int) ≤ 1500) = False := eq_false q0
    exact ⟨_, by simp [Try.f50, t1, t5, tk, hA, ldVar, w1, q0']; rfl, by simp [q0']⟩
  exact ⟨_, by simp [Try.f50, t1, t5, tk, hA, ldVar, w1, q0]; rfl, by simp [q0]⟩
theorem fiF_7 {a b c : Int} {fin : Bool} {d t r : AV} {dl : Nat} {A : Nat} {H : AH}
    (hA : H.get A = some (.cells 72 false (frC 7 a b c fin d t r))) (m : Nat) (τ : Tm) (S : FiS τ A 7 dl) (hl : dl ≤ 1048576) :
    ∃ τ', evAt Try.prog (ev Try.prog m) m 50 65215 τ H = some (.ret, τ', H) ∧ τ' 2 = .bool (decide (1 ≤ (dl : Int) ∧ (dl : Int) ≤ 64)) := by
  obtain ⟨t1, t5, tk⟩ := S
  simp only [frC] at hA
  have w1 : IntKind.i64.wrap (4611686018427387903 - (dl : Int)) = 4611686018427387903 - (dl : Int) := wrap_i64 (n := 4611686018427387903 - (dl : Int)) (by omega) (by omega)
  rw [at_M Try.func50 65215 (by decide) 16 (by decide) (by kernel_rfl) []]
  by_cases q0 : 1 ≤ (dl : Int)
  rotate_left 1
  · have q0' : (1 ≤ (dl : Int)) = False := eq_false q0
    exact ⟨_, by simp [Try.f50, t1, t5, tk, hA, ldVar, w1, q0']; rfl, by simp [q0']⟩
  exact ⟨_, by simp [Try.f50, t1, t5, tk, hA, ldVar, w1, q0]; rfl, by simp [q0]⟩
theorem fiF_8 {a b c : Int} {fin : Bool} {d t r : AV} {dl : Nat} {A : Nat} {H : AH}
    (hA : H.get A = some (.cells 72 false (frC 8 a b c fin d t r))) (m : Nat) (τ : Tm) (S : FiS τ A 8 dl) (hl : dl ≤ 1048576) :
    ∃ τ', evAt Try.prog (ev Try.prog m) m 50 260863 τ H = some (.ret, τ', H) ∧ τ' 2 = .bool (decide ((dl : Int) ≤ 1500 ∧ b ≤ 4611686018427387903 - dl)) := by
  obtain ⟨t1, t5, tk⟩ := S
  simp only [frC] at hA
  have w1 : IntKind.i64.wrap (4611686018427387903 - (dl : Int)) = 4611686018427387903 - (dl : Int) := wrap_i64 (n := 4611686018427387903 - (dl : Int)) (by omega) (by omega)
  rw [at_M Try.func50 260863 (by decide) 18 (by decide) (by kernel_rfl) []]
  by_cases q0 : (dl : Int) ≤ 1500
  rotate_left 1
  · have q0' : ((dl : Int) ≤ 1500) = False := eq_false q0
    exact ⟨_, by simp [Try.f50, t1, t5, tk, hA, ldVar, w1, q0']; rfl, by simp [q0']⟩
  exact ⟨_, by simp [Try.f50, t1, t5, tk, hA, ldVar, w1, q0]; rfl, by simp [q0]⟩
theorem fiF_18 {a b c : Int} {fin : Bool} {d t r : AV} {dl : Nat} {A : Nat} {H : AH}
    (hA : H.get A = some (.cells 72 false (frC 18 a b c fin d t r))) (m : Nat) (τ : Tm) (S : FiS τ A 18 dl) (hl : dl ≤ 1048576) :
    ∃ τ', evAt Try.prog (ev Try.prog m) m 50 1043455 τ H = some (.ret, τ', H) ∧ τ' 2 = .bool (decide (a ≤ 1152921504606846976 ∧ b ≤ 1)) := by
  obtain ⟨t1, t5, tk⟩ := S
  simp only [frC] at hA
  have w1 : IntKind.i64.wrap (4611686018427387903 - (dl : Int)) = 4611686018427387903 - (dl : Int) := wrap_i64 (n := 4611686018427387903 - (dl : Int)) (by omega) (by omega)
  rw [at_M Try.func50 1043455 (by decide) 20 (by decide) (by kernel_rfl) []]
  by_cases q0 : a ≤ 1152921504606846976
  rotate_left 1
  · have q0' : (a ≤ 1152921504606846976) = False := eq_false q0
    exact ⟨_, by simp [Try.f50, t1, t5, tk, hA, ldVar, w1, q0']; rfl, by simp [q0']⟩
  exact ⟨_, by simp [Try.f50, t1, t5, tk, hA, ldVar, w1, q0]; rfl, by simp [q0]⟩
theorem fiF_22 {a b c : Int} {fin : Bool} {d t r : AV} {dl : Nat} {A : Nat} {H : AH}
    (hA : H.get A = some (.cells 72 false (frC 22 a b c fin d t r))) (m : Nat) (τ : Tm) (S : FiS τ A 22 dl) (hl : dl ≤ 1048576) :
    ∃ τ', evAt Try.prog (ev Try.prog m) m 50 1043455 τ H = some (.ret, τ', H) ∧ τ' 2 = .bool (decide (a ≤ 1152921504606846976 ∧ b ≤ 1)) := by
  obtain ⟨t1, t5, tk⟩ := S
  simp only [frC] at hA
  have w1 : IntKind.i64.wrap (4611686018427387903 - (dl : Int)) = 4611686018427387903 - (dl : Int) := wrap_i64 (n := 4611686018427387903 - (dl : Int)) (by omega) (by omega)
  rw [at_M Try.func50 1043455 (by decide) 20 (by decide) (by kernel_rfl) []]
  by_cases q0 : a ≤ 1152921504606846976
  rotate_left 1
  · have q0' : (a ≤ 1152921504606846976) = False := eq_false q0
    exact ⟨_, by simp [Try.f50, t1, t5, tk, hA, ldVar, w1, q0']; rfl, by simp [q0']⟩
  exact ⟨_, by simp [Try.f50, t1, t5, tk, hA, ldVar, w1, q0]; rfl, by simp [q0]⟩
theorem fiF_24 {a b c : Int} {fin : Bool} {d t r : AV} {dl tl : Nat} {A : Nat} {H : AH} (ht : ∀ h, lenA Try.prog 34 t h = some (.int .i64 tl))
    (hA : H.get A = some (.cells 72 false (frC 24 a b c fin d t r))) (m : Nat) (τ : Tm) (S : FiS τ A 24 dl) (hl : dl ≤ 1048576) :
    ∃ τ', evAt Try.prog (ev Try.prog m) m 50 4173823 τ H = some (.ret, τ', H) ∧ τ' 2 = .bool (decide (b ≤ a ∧ 1 ≤ (dl : Int) ∧ (dl : Int) ≤ 8 ∧ (tl : Int) = 8)) := by
  obtain ⟨t1, t5, tk⟩ := S
  simp only [frC] at hA
  have w1 : IntKind.i64.wrap (4611686018427387903 - (dl : Int)) = 4611686018427387903 - (dl : Int) := wrap_i64 (n := 4611686018427387903 - (dl : Int)) (by omega) (by omega)
  rw [at_M Try.func50 4173823 (by decide) 22 (by decide) (by kernel_rfl) []]
  by_cases q0 : b ≤ a
  rotate_left 1
  · have q0' : (b ≤ a) = False := eq_false q0
    exact ⟨_, by simp [Try.f50, t1, t5, tk, hA, ldVar, w1, ht, q0']; rfl, by simp [q0']⟩
  by_cases q1 : 1 ≤ (dl : Int)
  rotate_left 1
  · have q1' : (1 ≤ (dl : Int)) = False := eq_false q1
    exact ⟨_, by simp [Try.f50, t1, t5, tk, hA, ldVar, w1, ht, q0, q1']; rfl, by simp [q1']⟩
  by_cases q2 : (dl : Int) ≤ 8
  rotate_left 1
  · have q2' : ((dl : Int) ≤ 8) = False := eq_false q2
    exact ⟨_, by simp [Try.f50, t1, t5, tk, hA, ldVar, w1, ht, q0, q1, q2']; rfl, by simp [q2']⟩
  by_cases ql : (tl : Int) = 8
  · exact ⟨_, by simp [Try.f50, t1, t5, tk, hA, ldVar, w1, ht, q0, q1, q2, ql]; rfl, by simp [ql, q0, q1, q2]⟩
  · have ql' : ((tl : Int) == 8) = false := by simpa using ql
    exact ⟨_, by simp [Try.f50, t1, t5, tk, hA, ldVar, w1, ht, q0, q1, q2, ql']; rfl, by simp [ql, q0, q1, q2]⟩
theorem fiF_26 {a b c : Int} {fin : Bool} {d t r : AV} {dl : Nat} {A : Nat} {H : AH}
    (hA : H.get A = some (.cells 72 false (frC 26 a b c fin d t r))) (m : Nat) (τ : Tm) (S : FiS τ A 26 dl) (hl : dl ≤ 1048576) :
    ∃ τ', evAt Try.prog (ev Try.prog m) m 50 16695295 τ H = some (.ret, τ', H) ∧ τ' 2 = .bool (decide ((dl : Int) = 8)) := by
  obtain ⟨t1, t5, tk⟩ := S
  simp only [frC] at hA
  have w1 : IntKind.i64.wrap (4611686018427387903 - (dl : Int)) = 4611686018427387903 - (dl : Int) := wrap_i64 (n := 4611686018427387903 - (dl : Int)) (by omega) (by omega)
  rw [at_M Try.func50 16695295 (by decide) 24 (by decide) (by kernel_rfl) []]
  by_cases ql : (dl : Int) = 8
  · exact ⟨_, by simp [Try.f50, t1, t5, tk, hA, ldVar, w1, ql]; rfl, by simp [ql]⟩
  · have ql' : ((dl : Int) == 8) = false := by simpa using ql
    exact ⟨_, by simp [Try.f50, t1, t5, tk, hA, ldVar, w1, ql']; rfl, by simp [ql]⟩
theorem fiF_27 {a b c : Int} {fin : Bool} {d t r : AV} {dl : Nat} {A : Nat} {H : AH}
    (hA : H.get A = some (.cells 72 false (frC 27 a b c fin d t r))) (m : Nat) (τ : Tm) (S : FiS τ A 27 dl) (hl : dl ≤ 1048576) :
    ∃ τ', evAt Try.prog (ev Try.prog m) m 50 16695295 τ H = some (.ret, τ', H) ∧ τ' 2 = .bool (decide ((dl : Int) = 8)) := by
  obtain ⟨t1, t5, tk⟩ := S
  simp only [frC] at hA
  have w1 : IntKind.i64.wrap (4611686018427387903 - (dl : Int)) = 4611686018427387903 - (dl : Int) := wrap_i64 (n := 4611686018427387903 - (dl : Int)) (by omega) (by omega)
  rw [at_M Try.func50 16695295 (by decide) 24 (by decide) (by kernel_rfl) []]
  by_cases ql : (dl : Int) = 8
  · exact ⟨_, by simp [Try.f50, t1, t5, tk, hA, ldVar, w1, ql]; rfl, by simp [ql]⟩
  · have ql' : ((dl : Int) == 8) = false := by simpa using ql
    exact ⟨_, by simp [Try.f50, t1, t5, tk, hA, ldVar, w1, ql']; rfl, by simp [ql]⟩
theorem fiF_28 {a b c : Int} {fin : Bool} {d t r : AV} {dl : Nat} {A : Nat} {H : AH}
    (hA : H.get A = some (.cells 72 false (frC 28 a b c fin d t r))) (m : Nat) (τ : Tm) (S : FiS τ A 28 dl) (hl : dl ≤ 1048576) :
    ∃ τ', evAt Try.prog (ev Try.prog m) m 50 66781183 τ H = some (.ret, τ', H) ∧ τ' 2 = .bool (decide ((dl : Int) ≤ 200)) := by
  obtain ⟨t1, t5, tk⟩ := S
  simp only [frC] at hA
  have w1 : IntKind.i64.wrap (4611686018427387903 - (dl : Int)) = 4611686018427387903 - (dl : Int) := wrap_i64 (n := 4611686018427387903 - (dl : Int)) (by omega) (by omega)
  rw [at_M Try.func50 66781183 (by decide) 26 (by decide) (by kernel_rfl) []]
  exact ⟨_, by simp [Try.f50, t1, t5, tk, hA, ldVar, w1]; rfl, by simp⟩
theorem fiF_29 {a b c : Int} {fin : Bool} {d t r : AV} {dl : Nat} {A : Nat} {H : AH}
    (hA : H.get A = some (.cells 72 false (frC 29 a b c fin d t r))) (m : Nat) (τ : Tm) (S : FiS τ A 29 dl) (hl : dl ≤ 1048576) :
    ∃ τ', evAt Try.prog (ev Try.prog m) m 50 66781183 τ H = some (.ret, τ', H) ∧ τ' 2 = .bool (decide ((dl : Int) ≤ 200)) := by
  obtain ⟨t1, t5, tk⟩ := S
  simp only [frC] at hA
  have w1 : IntKind.i64.wrap (4611686018427387903 - (dl : Int)) = 4611686018427387903 - (dl : Int) := wrap_i64 (n := 4611686018427387903 - (dl : Int)) (by omega) (by omega)
  rw [at_M Try.func50 66781183 (by decide) 26 (by decide) (by kernel_rfl) []]
  exact ⟨_, by simp [Try.f50, t1, t5, tk, hA, ldVar, w1]; rfl, by simp⟩
theorem fiF_48 {a b c : Int} {fin : Bool} {d t r : AV} {dl : Nat} {A : Nat} {H : AH}
    (hA : H.get A = some (.cells 72 false (frC 48 a b c fin d t r))) (m : Nat) (τ : Tm) (S : FiS τ A 48 dl) (hl : dl ≤ 1048576) :
    ∃ τ', evAt Try.prog (ev Try.prog m) m 50 267124735 τ H = some (.ret, τ', H) ∧ τ' 2 = .bool (decide ((dl : Int) ≤ 1500)) := by
  obtain ⟨t1, t5, tk⟩ := S
  simp only [frC] at hA
  have w1 : IntKind.i64.wrap (4611686018427387903 - (dl : Int)) = 4611686018427387903 - (dl : Int) := wrap_i64 (n := 4611686018427387903 - (dl : Int)) (by omega) (by omega)
  rw [at_M Try.func50 267124735 (by decide) 28 (by decide) (by kernel_rfl) []]
  exact ⟨_, by simp [Try.f50, t1, t5, tk, hA, ldVar, w1]; rfl, by simp⟩
end Go.Ev
