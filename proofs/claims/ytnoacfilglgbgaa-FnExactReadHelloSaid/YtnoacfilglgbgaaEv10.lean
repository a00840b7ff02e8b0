/- Lemmas of an evaluator of the given code and of what the functions answer; no condition of its own. -/
import Derived.Test.YtnoacfilglgbgaaEv5
import Derived.Test.YtnoacfilglgbgaaEv9
import Derived.Test.YtnoacfilglgbgaaEv6
import Derived.Test.YtnoacfilglgbgaaEv8
import Derived.Test.YtnoacfilglgbgaaEv7
import Derived.Laws.Bits64b
/- Open orders for simp: only the states that are looked at again are kept. -/
namespace Go.Ev
open Go Go.RowKit
set_option linter.unusedSimpArgs false
set_option linter.unusedVariables false

/-- the states at places that are wanted -/
def coll {α : Type} (need : Nat → Bool) : Nat → List α → List (Nat × α) → List (Nat × α)
  | _, [], acc => acc
  | k, x :: l, acc => coll need (k + 1) l (if need k = true then (k, x) :: acc else acc)
theorem coll_get {α : Type} (need : Nat → Bool) : ∀ (l : List α) (k : Nat) (acc : List (Nat × α)) (i : Nat), need i = true → (∀ j, k ≤ j → acc.lookup j = none) →
    (coll need k l acc).lookup i = if k ≤ i ∧ i < k + l.length then l[i - k]? else acc.lookup i
  | [], k, acc, i, hn, ha => by
    simp only [coll, List.length_nil]
    rw [if_neg (by omega)]
  | x :: l, k, acc, i, hn, ha => by
    simp only [coll, List.length_cons]
    have ha' : ∀ j, k + 1 ≤ j → (if need k = true then (k, x) :: acc else acc).lookup j = none := fun j hj => by
      split
      · have : (j == k) = false := by simp; omega
        simp only [List.lookup, this]; exact ha j (by omega)
      · exact ha j (by omega)
    rw [coll_get need l (k + 1) _ i hn ha']
    by_cases hik : i = k
    · subst hik
      rw [if_neg (by omega), if_pos hn, if_pos (by omega)]
      simp [List.lookup]
    · by_cases hc : k + 1 ≤ i ∧ i < k + 1 + l.length
      · rw [if_pos hc, if_pos (by omega)]
        rw [show i - k = (i - (k + 1)) + 1 by omega]; simp
      · rw [if_neg hc, if_neg (show ¬ (k ≤ i ∧ i < k + (l.length + 1)) by omega)]
        have hf : (i == k) = false := by simpa using hik
        by_cases hk : need k = true
        · rw [if_pos hk]; simp [List.lookup, hf]
        · rw [if_neg hk]
section
variable (P : Program) (call : CallF) (ops : Array Oper)
/-! ordered effects -/
def needS (ls : List (Nat × Nat)) (k : Nat) : Bool := ls.any fun q => q.1 == k || q.2 == k
def runS (ls : List (Nat × Nat)) : Nat → List Oper → Tm → AH → List (Nat × Tm × AH) → Option (Tm × AH × List (Nat × Tm × AH))
  | k, [], τ, H, acc => some (τ, H, if needS ls k = true then (k, τ, H) :: acc else acc)
  | k, o :: l, τ, H, acc => match stepA P call ops o τ H with
    | some (τ', H') => runS ls (k + 1) l τ' H' (if needS ls k = true then (k, τ, H) :: acc else acc)
    | none => none
theorem runS_eq (ls : List (Nat × Nat)) : ∀ (l : List Oper) (k : Nat) (τ : Tm) (H : AH) (acc : List (Nat × Tm × AH)), runS P call ops ls k l τ H acc =
    match evHist P call ops l τ H with
    | some hs => match hs.getLast? with | some r => some (r.1, r.2, coll (needS ls) k hs acc) | none => none
    | none => none
  | [], k, τ, H, acc => by simp [runS, evHist, coll]
  | o :: l, k, τ, H, acc => by
    simp only [runS, evHist]
    cases hs : stepA P call ops o τ H with
    | none => rfl
    | some r =>
      simp only
      rw [runS_eq ls l (k + 1)]
      cases hh : evHist P call ops l r.1 r.2 with
      | none => rfl
      | some hs =>
        have hne : hs ≠ [] := fun e => by have := (evHist_facts hh).1; rw [e] at this; simp at this
        simp only [coll]
        rw [List.getLast?_cons_of_ne_nil hne]
def ObSS (acc : List (Nat × Tm × AH)) : List (Nat × Nat) → Prop
  | [] => True
  | q :: l => (match acc.lookup q.1, acc.lookup q.2, ops[q.1]? with
    | some (τ, H), some (_, Hp), some o => wantA ops τ o = true → evO P call o τ Hp = (evO P call o τ H).map fun r => (r.1, Hp)
    | _, _, _ => False) ∧ ObSS acc l
theorem ObSS_eq {ls : List (Nat × Nat)} {hs : List (Tm × AH)} : ∀ (l : List (Nat × Nat)), (∀ q ∈ l, q ∈ ls) → (ObSS P call ops (coll (needS ls) 0 hs []) l ↔ ObsOk P call ops hs l)
  | [], _ => Iff.rfl
  | q :: l, h => by
    have hq := h q (by simp)
    have n1 : needS ls q.1 = true := by unfold needS; rw [List.any_eq_true]; exact ⟨q, hq, by simp⟩
    have n2 : needS ls q.2 = true := by unfold needS; rw [List.any_eq_true]; exact ⟨q, hq, by simp⟩
    have e : ∀ i, needS ls i = true → (coll (needS ls) 0 hs []).lookup i = hs[i]? := fun i hi => by
      rw [coll_get _ _ _ _ _ hi (fun _ _ => rfl)]
      by_cases hl : i < hs.length
      · rw [if_pos (by omega)]; simp
      · rw [if_neg (by omega), List.getElem?_eq_none (by omega)]; rfl
    simp only [ObSS, ObsOk, ObOk, e _ n1, e _ n2]
    rw [ObSS_eq l fun q' hq' => h q' (by simp [hq'])]
    exact Iff.rfl
open Classical in
noncomputable def evSeqG (ls : List (Nat × Nat)) (τ : Tm) (H : AH) : Option (Tm × AH) := match runS P call ops ls 0 ops.toList τ H [] with
  | some (τ', H', acc) => if ObSS P call ops acc ls then some (τ', H') else none
  | none => none
open Classical in
theorem evSeqG_eq (ls : List (Nat × Nat)) (τ : Tm) (H : AH) : evSeqG P call ops ls τ H = (match evHist P call ops ops.toList τ H with
    | some hs => if ObsOk P call ops hs ls then hs.getLast? else none
    | none => none) := by
  unfold evSeqG
  rw [runS_eq]
  cases hh : evHist P call ops ops.toList τ H with
  | none => rfl
  | some hs =>
    have hlen := (evHist_facts hh).1
    cases hl : hs.getLast? with
    | none => rw [List.getLast?_eq_none_iff] at hl; rw [hl] at hlen; simp at hlen
    | some r =>
      simp only [hl]
      by_cases ho : ObsOk P call ops hs ls
      · rw [if_pos ((ObSS_eq P call ops ls fun _ h => h).2 ho), if_pos ho]
      · rw [if_neg (fun e => ho ((ObSS_eq P call ops ls fun _ h => h).1 e)), if_neg ho]
/-! what floats -/
def needG (I : FI) (k : Nat) : Bool := I.ls.any fun q => q.1 == k || q.2.1 == k
def runG (n0 : Nat) (I : FI) : Nat → List Oper → Tm → AH → Tab → List (Nat × Tm × AH × Tab) → Option (Tm × AH × Tab × List (Nat × Tm × AH × Tab))
  | k, [], τ, X, tab, acc => some (τ, X, tab, if needG I k = true then (k, τ, X, tab) :: acc else acc)
  | k, o :: l, τ, X, tab, acc => if I.fl.contains k then match fltO P o.op τ with
      | some (s, x) => runG n0 I (k + 1) l (put τ o.dst (s.av (n0 + I.fl.idxOf k))) X (tab ++ [(k, n0 + I.fl.idxOf k, x)]) (if needG I k = true then (k, τ, X, tab) :: acc else acc)
      | none => none
    else if wantA ops τ o then match evO P call o τ (plusT tab (I.ad.getD k []) X) with
      | some (v, X') => runG n0 I (k + 1) l (put τ o.dst v) (if isEff P o.op then X' else X) tab (if needG I k = true then (k, τ, X, tab) :: acc else acc)
      | none => none
    else runG n0 I (k + 1) l (put τ o.dst U) (if isEff P o.op then plusT tab (I.ad.getD k []) X else X) tab (if needG I k = true then (k, τ, X, tab) :: acc else acc)
theorem evHistF_ne {n0 : Nat} {I : FI} {k : Nat} {l : List Oper} {τ : Tm} {X : AH} {tab : Tab} {hs : List (Tm × AH × Tab)} (h : evHistF P call n0 ops I k l τ X tab = some hs) : hs ≠ [] := fun e => by
  have := (evHistF_facts h).1; rw [e] at this; simp at this
theorem runG_eq (n0 : Nat) (I : FI) : ∀ (l : List Oper) (k : Nat) (τ : Tm) (X : AH) (tab : Tab) (acc : List (Nat × Tm × AH × Tab)), runG P call ops n0 I k l τ X tab acc =
    match evHistF P call n0 ops I k l τ X tab with
    | some hs => match hs.getLast? with | some r => some (r.1, r.2.1, r.2.2, coll (needG I) k hs acc) | none => none
    | none => none
  | [], k, τ, X, tab, acc => by simp [runG, evHistF, coll]
  | o :: l, k, τ, X, tab, acc => by
    have fin : ∀ τ' X' tab', runG P call ops n0 I (k + 1) l τ' X' tab' (if needG I k = true then (k, τ, X, tab) :: acc else acc) =
        match (match evHistF P call n0 ops I (k + 1) l τ' X' tab' with | some r => some ((τ, X, tab) :: r) | none => none) with
        | some hs => match hs.getLast? with | some r => some (r.1, r.2.1, r.2.2, coll (needG I) k hs acc) | none => none
        | none => none := fun τ' X' tab' => by
      rw [runG_eq n0 I l (k + 1)]
      cases hh : evHistF P call n0 ops I (k + 1) l τ' X' tab' with
      | none => rfl
      | some hs => simp only [coll]; rw [List.getLast?_cons_of_ne_nil (evHistF_ne P call ops hh)]
    simp only [runG, evHistF]
    split
    · cases fltO P o.op τ with
      | none => rfl
      | some r => exact fin _ _ _
    · split
      · cases evO P call o τ (plusT tab (I.ad.getD k []) X) with
        | none => rfl
        | some r => exact fin _ _ _
      · exact fin _ _ _
def ObGG (I : FI) (acc : List (Nat × Tm × AH × Tab)) (tab : Tab) : List (Nat × Nat × List Nat) → Prop
  | [] => True
  | q :: l => (match acc.lookup q.1, acc.lookup q.2.1, ops[q.1]? with
    | some (τ, X, t), some (_, Xp, _), some o => wantA ops τ o = true → ∃ v A B, evO P call o τ (plusT tab q.2.2 Xp) = some (v, A) ∧ evO P call o τ (plusT t (I.ad.getD q.1 []) X) = some (v, B)
    | _, _, _ => False) ∧ ObGG I acc tab l
theorem ObGG_eq {I : FI} {hs : List (Tm × AH × Tab)} {tab : Tab} : ∀ (l : List (Nat × Nat × List Nat)), (∀ q ∈ l, q ∈ I.ls) → (ObGG P call ops I (coll (needG I) 0 hs []) tab l ↔ ObsF P call ops I hs tab l)
  | [], _ => Iff.rfl
  | q :: l, h => by
    have hq := h q (by simp)
    have n1 : needG I q.1 = true := by unfold needG; rw [List.any_eq_true]; exact ⟨q, hq, by simp⟩
    have n2 : needG I q.2.1 = true := by unfold needG; rw [List.any_eq_true]; exact ⟨q, hq, by simp⟩
    have e : ∀ i, needG I i = true → (coll (needG I) 0 hs []).lookup i = hs[i]? := fun i hi => by
      rw [coll_get _ _ _ _ _ hi (fun _ _ => rfl)]
      by_cases hl : i < hs.length
      · rw [if_pos (by omega)]; simp
      · rw [if_neg (by omega), List.getElem?_eq_none (by omega)]; rfl
    simp only [ObGG, ObsF, ObF, e _ n1, e _ n2]
    rw [ObGG_eq l fun q' hq' => h q' (by simp [hq'])]
    exact Iff.rfl
def goV (n0 : Nat) (I : FI) (k : Nat) (o : Oper) (l : List Oper) (τ : Tm) (X : AH) (tab : Tab) (acc : List (Nat × Tm × AH × Tab)) (r : Option (AV × AH)) : Option (Tm × AH × Tab × List (Nat × Tm × AH × Tab)) := match r with
  | some (v, X') => runG P call ops n0 I (k + 1) l (put τ o.dst v) (if isEff P o.op then X' else X) tab (if needG I k = true then (k, τ, X, tab) :: acc else acc)
  | none => none
def goF (n0 : Nat) (I : FI) (k : Nat) (o : Oper) (l : List Oper) (τ : Tm) (X : AH) (tab : Tab) (acc : List (Nat × Tm × AH × Tab)) (r : Option (Sh × Blk)) : Option (Tm × AH × Tab × List (Nat × Tm × AH × Tab)) := match r with
  | some (s, x) => runG P call ops n0 I (k + 1) l (put τ o.dst (s.av (n0 + I.fl.idxOf k))) X (tab ++ [(k, n0 + I.fl.idxOf k, x)]) (if needG I k = true then (k, τ, X, tab) :: acc else acc)
  | none => none
open Classical in
noncomputable def endG (I : FI) (r : Option (Tm × AH × Tab × List (Nat × Tm × AH × Tab))) : Option (Tm × AH) := match r with
  | some (τ', X, tab, acc) => if ObGG P call ops I acc tab I.ls then some (τ', plusT tab I.fin X) else none
  | none => none
def goS (ls : List (Nat × Nat)) (k : Nat) (l : List Oper) (τ : Tm) (H : AH) (acc : List (Nat × Tm × AH)) (r : Option (Tm × AH)) : Option (Tm × AH × List (Nat × Tm × AH)) := match r with
  | some (τ', H') => runS P call ops ls (k + 1) l τ' H' (if needS ls k = true then (k, τ, H) :: acc else acc)
  | none => none
open Classical in
noncomputable def endS (ls : List (Nat × Nat)) (r : Option (Tm × AH × List (Nat × Tm × AH))) : Option (Tm × AH) := match r with
  | some (τ', H', acc) => if ObSS P call ops acc ls then some (τ', H') else none
  | none => none
open Classical in
noncomputable def evFltG (I : FI) (τ : Tm) (H : AH) : Option (Tm × AH) := match runG P call ops H.next I 0 ops.toList τ (H.res I.fl.length) [] [] with
  | some (τ', X, tab, acc) => if ObGG P call ops I acc tab I.ls then some (τ', plusT tab I.fin X) else none
  | none => none
theorem evFltG_eq (I : FI) (τ : Tm) (H : AH) : evFltG P call ops I τ H = evFlt P call ops I τ H := by
  unfold evFltG evFlt
  rw [runG_eq]
  cases hh : evHistF P call H.next ops I 0 ops.toList τ (H.res I.fl.length) [] with
  | none => rfl
  | some hs =>
    simp only
    cases hl : hs.getLast? with
    | none => rfl
    | some r =>
      simp only [hl]
      by_cases ho : ObsF P call ops I hs r.2.2 I.ls
      · rw [if_pos ((ObGG_eq P call ops I.ls fun _ h => h).2 ho), if_pos ho]
      · rw [if_neg (fun e => ho ((ObGG_eq P call ops I.ls fun _ h => h).1 e)), if_neg ho]
end
section
variable {P : Program} {call : CallF} {ops : Array Oper} {n0 k : Nat} {I : FI} {o : Oper} {l : List Oper} {τ : Tm} {X H : AH} {tab : Tab} {acc : List (Nat × Tm × AH × Tab)} {ls : List (Nat × Nat)} {acs : List (Nat × Tm × AH)}
theorem runG_0 : runG P call ops n0 I k [] τ X tab acc = some (τ, X, tab, if needG I k = true then (k, τ, X, tab) :: acc else acc) := rfl
theorem runG_1 : runG P call ops n0 I k (o :: l) τ X tab acc = if I.fl.contains k = true then goF P call ops n0 I k o l τ X tab acc (fltO P o.op τ)
    else if wantA ops τ o = true then goV P call ops n0 I k o l τ X tab acc (evO P call o τ (plusT tab (I.ad.getD k []) X))
    else runG P call ops n0 I (k + 1) l (put τ o.dst U) (if isEff P o.op then plusT tab (I.ad.getD k []) X else X) tab (if needG I k = true then (k, τ, X, tab) :: acc else acc) := rfl
theorem goV_s (r : AV × AH) : goV P call ops n0 I k o l τ X tab acc (some r) = runG P call ops n0 I (k + 1) l (put τ o.dst r.1) (if isEff P o.op then r.2 else X) tab (if needG I k = true then (k, τ, X, tab) :: acc else acc) := rfl
theorem goF_s (r : Sh × Blk) : goF P call ops n0 I k o l τ X tab acc (some r) = runG P call ops n0 I (k + 1) l (put τ o.dst (r.1.av (n0 + I.fl.idxOf k))) X (tab ++ [(k, n0 + I.fl.idxOf k, r.2)]) (if needG I k = true then (k, τ, X, tab) :: acc else acc) := rfl
open Classical in
theorem endG_s (r : Tm × AH × Tab × List (Nat × Tm × AH × Tab)) : endG P call ops I (some r) = if ObGG P call ops I r.2.2.2 r.2.2.1 I.ls then some (r.1, plusT r.2.2.1 I.fin r.2.1) else none := rfl
theorem evFltG_e : evFltG P call ops I τ H = endG P call ops I (runG P call ops H.next I 0 ops.toList τ (H.res I.fl.length) [] []) := rfl
theorem runS_0 : runS P call ops ls k [] τ H acs = some (τ, H, if needS ls k = true then (k, τ, H) :: acs else acs) := rfl
theorem runS_1 : runS P call ops ls k (o :: l) τ H acs = goS P call ops ls k l τ H acs (stepA P call ops o τ H) := rfl
theorem goS_s (r : Tm × AH) : goS P call ops ls k l τ H acs (some r) = runS P call ops ls (k + 1) l r.1 r.2 (if needS ls k = true then (k, τ, H) :: acs else acs) := rfl
open Classical in
theorem endS_s (r : Tm × AH × List (Nat × Tm × AH)) : endS P call ops ls (some r) = if ObSS P call ops r.2.2 ls then some (r.1, r.2.1) else none := rfl
theorem evSeqG_e : evSeqG P call ops ls τ H = endS P call ops ls (runS P call ops ls 0 ops.toList τ H []) := rfl
end
end Go.Ev

/- The evaluator as rules for simp alone: an open test stays as a test, with both ways frozen behind it. -/
namespace Go.Ev
open Go Go.RowKit
set_option linter.unusedSimpArgs false
set_option linter.unusedVariables false

/-- an open test -/
def iteC {α : Type} (c : Prop) [Decidable c] (x y : α) : α := if c then x else y
theorem ifE {α : Type} {c : Prop} [Decidable c] {x y r : α} (hx : c → x = r) (hy : ¬ c → y = r) : iteC c x y = r := by unfold iteC; split <;> simp_all
theorem ifX {α β : Type} {c : Prop} [Decidable c] {x y : α} {r : β → α} {Q : β → Prop} (hx : c → ∃ b, x = r b ∧ Q b) (hy : ¬ c → ∃ b, y = r b ∧ Q b) : ∃ b, iteC c x y = r b ∧ Q b := by unfold iteC; split <;> simp_all
theorem ifX2 {α β γ : Type} {c : Prop} [Decidable c] {x y : α} {r : β → γ → α} {Q : β → γ → Prop} (hx : c → ∃ b d, x = r b d ∧ Q b d) (hy : ¬ c → ∃ b d, y = r b d ∧ Q b d) : ∃ b d, iteC c x y = r b d ∧ Q b d := by unfold iteC; split <;> simp_all

section
variable (P : Program) (call : CallF)
def valM (d : Option Nat) (τ : Tm) (r : Option (AV × AH)) : Option (Tm × AH) := match r with
  | some (v, H') => some (put τ d v, H')
  | none => none
@[irreducible] def valZ (o : Oper) (τ : Tm) (H : AH) : Option (Tm × AH) := valM o.dst τ (evO P call o τ H)
def wantM (b : Bool) (o : Oper) (τ : Tm) (H : AH) : Option (Tm × AH) := if b = true then valM o.dst τ (evO P call o τ H) else some (put τ o.dst U, H)
def evOpsM (ops : Array Oper) : List Oper → Tm → AH → Option (Tm × AH)
  | [], τ, H => some (τ, H)
  | o :: l, τ, H => match wantM P call (wantA ops τ o) o τ H with
    | some (τ', H') => evOpsM ops l τ' H'
    | none => none
def opsM (ops : Array Oper) (l : List Oper) (r : Option (Tm × AH)) : Option (Tm × AH) := match r with
  | some (τ', H') => evOpsM P call ops l τ' H'
  | none => none
theorem evOpsM_0 (ops : Array Oper) (τ : Tm) (H : AH) : evOpsM P call ops [] τ H = some (τ, H) := rfl
theorem evOpsM_1 (ops : Array Oper) (o : Oper) (l : List Oper) (τ : Tm) (H : AH) : evOpsM P call ops (o :: l) τ H = opsM P call ops l (wantM P call (wantA ops τ o) o τ H) := rfl
theorem evOpsM_eq (ops : Array Oper) : ∀ (l : List Oper) (τ : Tm) (H : AH), evOpsM P call ops l τ H = evOps P call ops l τ H
  | [], τ, H => rfl
  | o :: l, τ, H => by
    have hs : wantM P call (wantA ops τ o) o τ H = stepA P call ops o τ H := by
      unfold wantM stepA valM; rfl
    simp only [evOpsM, evOps, hs, evOpsM_eq ops l]
    cases stepA P call ops o τ H with
    | none => rfl
    | some r => rfl
open Classical in
noncomputable def evDM (i : DrI) (ops : Array Oper) (τ : Tm) (H : AH) : Option (Tm × AH) := match i with
  | .bad => none
  | .flt I => evFltG P call ops I τ H
  | .seq [] => evOpsM P call ops ops.toList τ H
  | .seq (q :: l) => evSeqG P call ops (q :: l) τ H
theorem evDM_eq (i : DrI) (ops : Array Oper) (τ : Tm) (H : AH) : evDM P call i ops τ H = evD P call i ops τ H := by
  unfold evDM evD; split
  · rfl
  · exact evFltG_eq P call ops _ _ _
  · exact evOpsM_eq P call ops _ _ _
  · exact evSeqG_eq P call ops _ _ _
def regM (r : Option (Tm × AH)) : Out := match r with
  | some (τ', H') => some (.normal, τ', H')
  | none => none
def unblk (id : Nat) (r : Out) : Out := match r with
  | some (.exit id', τ', H') => if id' = id then some (.normal, τ', H') else some (.exit id', τ', H')
  | r => r
def resM (rs : List ResultVar) (r : Out) : Option (AV × AH) := match r with
  | some (.normal, τ, H) => (resA P rs τ H).map fun r => (r, H)
  | some (.ret, τ, H) => (resA P rs τ H).map fun r => (r, H)
  | _ => none
variable (n : Nat) (f : FuncId) (st : List Nat)
noncomputable def evM (p : Nat) (c : Code) (τ : Tm) (H : AH) : Out := evK P call n f st p c τ H
/-- frozen -/
@[irreducible] noncomputable def evZ (p : Nat) (c : Code) (τ : Tm) (H : AH) : Out := evK P call n f st p c τ H
theorem evZ_eq (p : Nat) (c : Code) (τ : Tm) (H : AH) : evZ P call n f st p c τ H = evM P call n f st p c τ H := by unfold evZ evM; rfl
noncomputable def bindM (p : Nat) (b : Code) (r : Out) : Out := match r with
  | some (.normal, τ, H) => evM P call n f st p b τ H
  | r => r
noncomputable def condM (p : Nat) (a b : Code) (τ : Tm) (H : AH) (q : Option AV) : Out := match q with
  | some (.bool q) => if q = true then evM P call n f st (2 * p) a τ H else evM P call n f st (2 * p + 1) b τ H
  | _ => none
noncomputable def regionM (p : Nat) (ops : Array Oper) (draw : Bool) (τ : Tm) (H : AH) : Out := regM (if draw then evDM P call (dr P f p) ops τ H else evOpsM P call ops ops.toList τ H)
/-- a function for simp -/
noncomputable def evFM (fn : Func) (args : List AV) (H : AH) : Option (AV × AH) := match fn.body with
  | some c => resM P fn.results.toList (evM P call n f st 1 c (tm0 args) H)
  | none => none
end
section
variable {P : Program} {call : CallF} {n : Nat} {f : FuncId} {st : List Nat} {p : Nat} {τ : Tm} {H : AH} {c : Prop} [Decidable c] {id id' : Nat}
@[simp] theorem evM_skip : evM P call n f st p .skip τ H = some (.normal, τ, H) := rfl
@[simp] theorem evM_label (l : Nat) : evM P call n f st p (.label l) τ H = some (.normal, τ, H) := rfl
@[simp] theorem evM_region (i : Nat) (ops : Array Oper) (draw : Bool) : evM P call n f st p (.region i ops draw) τ H = if p ∈ st then evAt P call n f p τ H else regionM P call f p ops draw τ H := by
  simp only [evM, evK, regionM, evDM_eq, evOpsM_eq]; rfl
@[simp] theorem evM_seq (a b : Code) : evM P call n f st p (.seq a b) τ H = if p ∈ st then evAt P call n f p τ H else bindM P call n f st (2 * p + 1) b (evM P call n f st (2 * p) a τ H) := rfl
@[simp] theorem evM_cond (x : Operand) (a b : Code) : evM P call n f st p (.cond x a b) τ H = if p ∈ st then evAt P call n f p τ H else condM P call n f st p a b τ H (opnd τ x) := rfl
@[simp] theorem evM_block (a : Code) : evM P call n f st p (.block id a) τ H = if p ∈ st then evAt P call n f p τ H else unblk id (evM P call n f st (2 * p) a τ H) := rfl
@[simp] theorem evM_loop (a : Code) : evM P call n f st p (.loop a) τ H = evLoop P call n (lp P f p) τ H := rfl
@[simp] theorem evM_exit : evM P call n f st p (.exit id) τ H = some (.exit id, τ, H) := rfl
@[simp] theorem evM_scope (a : Code) : evM P call n f st p (.scope a) τ H = if p ∈ st then evAt P call n f p τ H else evM P call n f st (2 * p) a τ H := rfl
@[simp] theorem evM_ret : evM P call n f st p .ret τ H = some (.ret, τ, H) := rfl
@[simp] theorem bindM_n (b : Code) : bindM P call n f st p b (some (.normal, τ, H)) = evM P call n f st p b τ H := rfl
@[simp] theorem bindM_r (b : Code) : bindM P call n f st p b (some (.ret, τ, H)) = some (.ret, τ, H) := rfl
@[simp] theorem bindM_e (b : Code) : bindM P call n f st p b (some (.exit id, τ, H)) = some (.exit id, τ, H) := rfl
@[simp] theorem bindM_0 (b : Code) : bindM P call n f st p b none = none := rfl
@[simp] theorem unblk_n : unblk id (some (.normal, τ, H)) = some (.normal, τ, H) := rfl
@[simp] theorem unblk_r : unblk id (some (.ret, τ, H)) = some (.ret, τ, H) := rfl
@[simp] theorem unblk_e : unblk id (some (.exit id', τ, H)) = if id' = id then some (.normal, τ, H) else some (.exit id', τ, H) := rfl
@[simp] theorem unblk_0 : unblk id none = none := rfl
@[simp] theorem condM_t (a b : Code) : condM P call n f st p a b τ H (some (.bool true)) = evM P call n f st (2 * p) a τ H := rfl
@[simp] theorem condM_f (a b : Code) : condM P call n f st p a b τ H (some (.bool false)) = evM P call n f st (2 * p + 1) b τ H := rfl
@[simp] theorem condM_d (a b : Code) : condM P call n f st p a b τ H (some (.bool (decide c))) = iteC c (evZ P call n f st (2 * p) a τ H) (evZ P call n f st (2 * p + 1) b τ H) := by
  unfold iteC; by_cases h : c <;> simp [condM, h, evZ_eq]
@[simp] theorem condM_nd (a b : Code) : condM P call n f st p a b τ H (some (.bool (!decide c))) = iteC c (evZ P call n f st (2 * p + 1) b τ H) (evZ P call n f st (2 * p) a τ H) := by
  unfold iteC; by_cases h : c <;> simp [condM, h, evZ_eq]
theorem condM_b (a b : Code) (q : Bool) : condM P call n f st p a b τ H (some (.bool q)) = iteC (q = true) (evZ P call n f st (2 * p) a τ H) (evZ P call n f st (2 * p + 1) b τ H) := by
  unfold iteC; cases q <;> simp [condM, evZ_eq]
@[simp] theorem regM_s (r : Tm × AH) : regM (some r) = some (.normal, r.1, r.2) := rfl
@[simp] theorem regM_0 : regM none = none := rfl
@[simp] theorem opsM_s (ops : Array Oper) (l : List Oper) (r : Tm × AH) : opsM P call ops l (some r) = evOpsM P call ops l r.1 r.2 := rfl
@[simp] theorem opsM_0 (ops : Array Oper) (l : List Oper) : opsM P call ops l none = none := rfl
@[simp] theorem valM_s {d : Option Nat} (r : AV × AH) : valM d τ (some r) = some (put τ d r.1, r.2) := rfl
@[simp] theorem valM_0 {d : Option Nat} : valM d τ none = none := rfl
@[simp] theorem wantM_t (o : Oper) : wantM P call true o τ H = valM o.dst τ (evO P call o τ H) := rfl
@[simp] theorem wantM_f (o : Oper) : wantM P call false o τ H = some (put τ o.dst U, H) := rfl
@[simp] theorem wantM_d (o : Oper) : wantM P call (decide c) o τ H = iteC c (valZ P call o τ H) (some (put τ o.dst U, H)) := by
  unfold iteC valZ; by_cases h : c <;> simp [wantM, h]
@[simp] theorem wantM_nd (o : Oper) : wantM P call (!decide c) o τ H = iteC c (some (put τ o.dst U, H)) (valZ P call o τ H) := by
  unfold iteC valZ; by_cases h : c <;> simp [wantM, h]
@[simp] theorem resM_n (rs : List ResultVar) : resM P rs (some (.normal, τ, H)) = (resA P rs τ H).map fun r => (r, H) := rfl
@[simp] theorem resM_r (rs : List ResultVar) : resM P rs (some (.ret, τ, H)) = (resA P rs τ H).map fun r => (r, H) := rfl
/-! a test is pulled ahead -/
theorem bindM_i (b : Code) (x y : Out) : bindM P call n f st p b (iteC c x y) = iteC c (bindM P call n f st p b x) (bindM P call n f st p b y) := by unfold iteC; split <;> rfl
theorem unblk_i (x y : Out) : unblk id (iteC c x y) = iteC c (unblk id x) (unblk id y) := by unfold iteC; split <;> rfl
theorem regM_i (x y : Option (Tm × AH)) : regM (iteC c x y) = iteC c (regM x) (regM y) := by unfold iteC; split <;> rfl
theorem opsM_i (ops : Array Oper) (l : List Oper) (x y : Option (Tm × AH)) : opsM P call ops l (iteC c x y) = iteC c (opsM P call ops l x) (opsM P call ops l y) := by unfold iteC; split <;> rfl
theorem valM_i {d : Option Nat} (x y : Option (AV × AH)) : valM d τ (iteC c x y) = iteC c (valM d τ x) (valM d τ y) := by unfold iteC; split <;> rfl
theorem resM_i (rs : List ResultVar) (x y : Out) : resM P rs (iteC c x y) = iteC c (resM P rs x) (resM P rs y) := by unfold iteC; split <;> rfl
theorem valZ_eq (o : Oper) : valZ P call o τ H = valM o.dst τ (evO P call o τ H) := by unfold valZ; rfl
end
theorem ev_M {P : Program} {f : FuncId} {fn : Func} (hf : P.funcs[f]? = some fn) (hok : goodFn fn = true) (st : List Nat) (n : Nat) (args : List AV) (H : AH) (hl : args.length ≤ fn.ntmps) : ev P (n + 1) f args H = evFM P (ev P n) n f st fn args H := by
  rw [ev_cut hf hok st n args H hl]; rfl
theorem at_M {P : Program} {f : FuncId} {fn : Func} (hf : P.funcs[f]? = some fn) (p : Nat) (h1 : 1 ≤ p) (k : Nat) (hk : p < 2 ^ k) (hd : decide (k + depth (sub (fn.body.getD .skip) 200 p) ≤ 198) = true) (st : List Nat) (call : CallF) (n : Nat) (τ : Tm) (H : AH) :
    evAt P call n f p τ H = evM P call n f st p (sub (fn.body.getD .skip) 200 p) τ H := at_cut hf p h1 k hk hd st call n τ H
theorem lp_M {P : Program} {f : FuncId} {fn : Func} (hf : P.funcs[f]? = some fn) (p : Nat) (h1 : 1 ≤ p) (k : Nat) (hk : p < 2 ^ k) (hd : decide (k + 1 + depth (sub (fn.body.getD .skip) 200 (2 * p)) ≤ 198) = true) (st : List Nat) (call : CallF) (n : Nat) (τ : Tm) (H : AH) :
    evCode P call n (lp P f p) τ H = evM P call n f st (2 * p) (sub (fn.body.getD .skip) 200 (2 * p)) τ H := lp_cut hf p h1 k hk hd st call n τ H
attribute [simp] evFM regionM evOpsM_0 evOpsM_1 evDM
theorem res_get (H : AH) (n b : Nat) : (H.res n).get b = if H.next ≤ b ∧ b < H.next + n then some .res else H.get b := rfl
theorem res_next (H : AH) (n : Nat) : (H.res n).next = H.next + n := rfl
attribute [simp] List.lookup_cons List.getElem?_cons_zero List.idxOf_cons List.idxOf_nil res_get res_next evFltG_e runG_0 runG_1 goV_s goF_s endG_s evSeqG_e runS_0 runS_1 goS_s endS_s needG needS ObSS ObGG plusT fltO Sh.av isEff
/-! tests that arithmetic decides (for a discharger) -/
theorem beqT {a b : Int} (h : a = b) : (a == b) = true := by simpa using h
theorem beqF {a b : Int} (h : ¬ a = b) : (a == b) = false := by simpa using h
theorem decT {p : Prop} [Decidable p] (h : p) : decide p = true := decide_eq_true h
theorem decF {p : Prop} [Decidable p] (h : ¬ p) : decide p = false := decide_eq_false h
section
variable {P : Program} {call : CallF} {n : Nat} {f : FuncId} {st : List Nat} {p : Nat} {τ : Tm} {H : AH}
@[simp] theorem condM_q (a b : Code) (x y : Int) : condM P call n f st p a b τ H (some (.bool (x == y))) = iteC (x = y) (evZ P call n f st (2 * p) a τ H) (evZ P call n f st (2 * p + 1) b τ H) := by
  unfold iteC; by_cases h : x = y <;> simp [condM, h, evZ_eq]
@[simp] theorem condM_nq (a b : Code) (x y : Int) : condM P call n f st p a b τ H (some (.bool (!(x == y)))) = iteC (x = y) (evZ P call n f st (2 * p + 1) b τ H) (evZ P call n f st (2 * p) a τ H) := by
  unfold iteC; by_cases h : x = y <;> simp [condM, h, evZ_eq]
@[simp] theorem condM_bq (a b : Code) (x y : Bool) : condM P call n f st p a b τ H (some (.bool (x == y))) = iteC (x = y) (evZ P call n f st (2 * p) a τ H) (evZ P call n f st (2 * p + 1) b τ H) := by
  unfold iteC; by_cases h : x = y <;> simp [condM, h, evZ_eq]
@[simp] theorem wantM_q (o : Oper) (x y : Int) : wantM P call (x == y) o τ H = iteC (x = y) (valZ P call o τ H) (some (put τ o.dst U, H)) := by
  unfold iteC valZ; by_cases h : x = y <;> simp [wantM, h]
@[simp] theorem wantM_nq (o : Oper) (x y : Int) : wantM P call (!(x == y)) o τ H = iteC (x = y) (some (put τ o.dst U, H)) (valZ P call o τ H) := by
  unfold iteC valZ; by_cases h : x = y <;> simp [wantM, h]
end
/-- whole numbers that need no wrapping -/
theorem wrapI {n : Int} (h : -9223372036854775808 ≤ n ∧ n ≤ 9223372036854775807) : IntKind.i64.wrap n = n := wrap_i64 h.1 h.2
theorem tmodI {a b : Int} (h : 0 ≤ a) : a.tmod b = a % b := Int.tmod_eq_emod_of_nonneg h
theorem tdivI {a b : Int} (h : 0 ≤ a) : a.tdiv b = a / b := Int.tdiv_eq_ediv_of_nonneg h
end Go.Ev

/- Versions of a hello: whether they can be. -/
namespace Go.Ev
open Go Go.Proofs
set_option linter.unusedSimpArgs false
set_option linter.unusedVariables false

def verIn (v : Int) : Prop := 1 ≤ v ∧ v ≤ 4294967295
instance (v : Int) : Decidable (verIn v) := by unfold verIn; infer_instance
theorem versionOK_ev (v : Int) (H : AH) (m : Nat) (hm : 1 ≤ m) : ev Try.prog m 243 [.int .i64 v] H = some (.bool (decide (verIn v)), H) := by
  obtain ⟨m, rfl⟩ : ∃ k, m = k + 1 := ⟨m - 1, by omega⟩
  rw [ev_M Try.func243 ok243 [] m _ H (by simp [Try.f243])]
  by_cases h0 : 1 ≤ v
  · by_cases h1 : v ≤ 4294967295 <;> simp [Try.f243, tm0, h0, h1, verIn]
  · simp [Try.f243, tm0, h0, verIn]
theorem verNot_ev (v : Int) (H : AH) (m : Nat) (hm : 2 ≤ m) : ev Try.prog m 280 [.int .i64 v] H = some (.bool (!decide (verIn v)), H) := by
  obtain ⟨m, rfl⟩ : ∃ k, m = k + 1 := ⟨m - 1, by omega⟩
  have a := versionOK_ev v H m (by omega)
  rw [ev_M Try.func280 ok280 [] m _ H (by simp [Try.f280])]
  simp [Try.f280, tm0, a]
theorem intAt' {rw : Bool} {H : AH} {r : AV} {l : List Int} {bs : List Nat} (hr : (Ty.sl 3 (.int .i64)).R rw H [r] l bs) {k : Nat} (hk : k < l.length) :
    ∃ b o, idxA Try.prog 60 r (.int .i64 k) = some (.ptr b o) ∧ b < H.next ∧ ∀ X : AH, X.get b = H.get b → ldVar Try.prog 3 b o X = some (.int .i64 l[k]) := by
  obtain ⟨b, o, ro, x1, c, x2, bk, u1, u2, u3, u4, u5, u6, u7, u8⟩ := Ty.R.at_ hr (P := Try.prog) (T := 60) (by simp) (by simp [Ty.n]) (k := k) hk
  obtain ⟨rfl, _⟩ := u5
  subst u4
  exact ⟨b, _, u1, u2, fun X hX => by simp [ldVar, hX, u3]⟩
def IxI (r f : AV) (l : List Int) (H : AH) (d : Nat) (τ : Tm) (h : AH) : Prop := h = H ∧ ∃ k : Nat, k + d = l.length ∧ τ 0 = r ∧ τ 1 = f ∧ τ 7 = .int .i64 l.length ∧ τ 8 = .int .i64 k ∧ ∀ j (hj : j < l.length), j < k → verIn l[j]
set_option maxRecDepth 20000 in
theorem anyBad_ev {rw : Bool} {H : AH} {r : AV} {l : List Int} {bs : List Nat} (hr : (Ty.sl 3 (.int .i64)).R rw H [r] l bs) (hl : l.length ≤ 1000) (m : Nat) (hm : 1010 ≤ m) :
    ev Try.prog m 279 [r, .func 280 [] []] H = some (.bool (!decide (∀ v ∈ l, verIn v)), H) := by
  obtain ⟨m, rfl⟩ : ∃ k, m = k + 1 := ⟨m - 1, by omega⟩
  obtain ⟨m, rfl⟩ : ∃ k, m = k + 1 := ⟨m - 1, by omega⟩
  have L1 := hr.lenA (P := Try.prog) (T := 60) (by simp)
  have key : ∃ x : Int, ev Try.prog (m + 1) 277 [r, .func 280 [] []] H = some (.int .i64 x, H) ∧ ((x = -1 ∧ ∀ v ∈ l, verIn v) ∨ (0 ≤ x ∧ ¬ ∀ v ∈ l, verIn v)) := by
    rw [ev_M Try.func277 ok277 [] _ _ H (by simp [Try.f277])]
    simp [Try.f277, tm0, L1]
    generalize hLo : evLoop _ _ _ _ _ _ = R
    obtain ⟨e, τ', H', rfl, rfl, g⟩ := loop_at hLo (loop_rule (d := l.length) (IxI r (.func 280 [] []) l H) (fun e τ h => h = H ∧ ((e = .exit 0 ∧ ∀ v ∈ l, verIn v) ∨ (e = .ret ∧ ∃ x : Int, τ 4 = .int .i64 x ∧ 0 ≤ x ∧ ¬ ∀ v ∈ l, verIn v))) (by
      rintro d τ h ⟨rfl, k, hk, t0, t1, t7, t8, hin⟩
      rw [lp_M Try.func277 26 (by decide) 5 (by decide) (by kernel_rfl) []]
      by_cases hd0 : d = 0
      · subst hd0
        have hkl : ¬ ((k : Int) < l.length) := by omega
        simp [Try.f277, t7, t8, hkl]
        intro v hv
        obtain ⟨j, hj, rfl⟩ := List.getElem_of_mem hv
        exact hin j hj (by omega)
      · have hlt : k < l.length := by omega
        have hlt' : (k : Int) < l.length := by omega
        obtain ⟨b, o, u1, u2, u3⟩ := intAt' hr hlt
        have u3 := u3 h rfl
        have a := verNot_ev l[k] h m (by omega)
        have w1 : IntKind.i64.wrap ((k : Int) + 1) = (k : Int) + 1 := wrap_i64 (n := (k : Int) + 1) (by omega) (by omega)
        by_cases c : verIn l[k]
        · simp [Try.f277, t0, t1, t7, t8, hlt, hlt', u1, u3, a, c, w1]
          exact ⟨d - 1, by omega, rfl, k + 1, by omega, by simp [t0], by simp [t1], by simp [t7], by simp, fun j hj hjk => by
            by_cases e : j = k
            · subst e; exact c
            · exact hin j hj (by omega)⟩
        · simp [Try.f277, t0, t1, t7, t8, hlt, hlt', u1, u3, a, c, w1]
          exact ⟨l[k], List.getElem_mem hlt, c⟩) ⟨rfl, 0, by simp, by simp, by simp, by simp, by simp, by simp⟩ (by omega))
    rcases g with ⟨rfl, g⟩ | ⟨rfl, x, g1, g2, g3⟩
    · exact ⟨-1, by simp [Try.f277], .inl ⟨rfl, g⟩⟩
    · exact ⟨x, by simp [g1], .inr ⟨g2, by simpa using g3⟩⟩
  obtain ⟨x, e, g⟩ := key
  rw [ev_M Try.func279 ok279 [] _ _ H (by simp [Try.f279])]
  rcases g with ⟨rfl, g⟩ | ⟨g1, g2⟩
  · simp [Try.f279, tm0, e]
    exact g
  · simp [Try.f279, tm0, e, g1, g2]
/-! seen numbers in a map -/
def seenI (xs : List Int) : List (AV × AV) := xs.map fun x => (.int .i64 x, .bool true)
theorem find_seen (v : Int) : ∀ (xs : List Int) (i : Nat), (v ∉ xs ∧ findA (.int .i64 v) (seenI xs) i = some none) ∨ (v ∈ xs ∧ ∃ j, findA (.int .i64 v) (seenI xs) i = some (some (j, .bool true)))
  | [], i => .inl ⟨by simp, rfl⟩
  | x :: l, i => by
    by_cases c : v = x
    · subst c
      exact .inr ⟨by simp, i, by simp [seenI, findA, sameK]⟩
    · have hs : findA (.int .i64 v) (seenI (x :: l)) i = findA (.int .i64 v) (seenI l) (i + 1) := by
        have : (v == x) = false := by simpa using c
        simp [seenI, findA, sameK, this]
      rw [hs]
      rcases find_seen v l (i + 1) with ⟨h1, h2⟩ | ⟨h1, h2⟩
      · exact .inl ⟨by simp [c, h1], h2⟩
      · exact .inr ⟨by simp [h1], h2⟩
theorem look_seen {X : AH} {p : Nat} {xs : List Int} (g : X.get p = some (.map (seenI xs))) (v : Int) : lookA Try.prog 243 (.map p) (.int .i64 v) X false = some (.bool (decide (v ∈ xs))) := by
  rcases find_seen v xs 0 with ⟨h1, h2⟩ | ⟨h1, j, h2⟩ <;> simp [lookA, mapT, keyOk, g, h2, h1]
theorem put_seen {X : AH} {p : Nat} {xs : List Int} (g : X.get p = some (.map (seenI xs))) {v : Int} (hv : v ∉ xs) : updA Try.prog 243 (.map p) (.int .i64 v) (.bool true) X = some (X.set p (.map (seenI (xs ++ [v])))) := by
  rcases find_seen v xs 0 with ⟨h1, h2⟩ | ⟨h1, j, h2⟩
  · simp [updA, mapT, keyOk, g, mapPut, h2]
    simp [seenI]
  · exact absurd h1 hv
def UnI (r : AV) (l : List Int) (H0 H : AH) (d : Nat) (τ : Tm) (h : AH) : Prop := ∃ k : Nat, k + d = l.length ∧ τ 3 = .map H0.next ∧ τ 7 = r ∧ τ 8 = .int .i64 l.length ∧ τ 9 = .int .i64 k ∧ h.get H0.next = some (.map (seenI (l.take k))) ∧ (l.take k).Nodup ∧ h.next = H0.next + 1 ∧ ∀ b, b < H0.next → h.get b = H0.get b
set_option maxRecDepth 20000 in
theorem unlikeI_ev {rw : Bool} {H : AH} {r : AV} {l : List Int} {bs : List Nat} (hr : (Ty.sl 3 (.int .i64)).R rw H [r] l bs) (hl : l.length ≤ 1000) (m : Nat) (hm : 1010 ≤ m) :
    ∃ H', ev Try.prog m 281 [r] H = some (.bool (decide l.Nodup), H') ∧ Kp H H' := by
  obtain ⟨m, rfl⟩ : ∃ k, m = k + 1 := ⟨m - 1, by omega⟩
  have L1 := hr.lenA (P := Try.prog) (T := 60) (by simp)
  rw [ev_M Try.func281 ok281 [] _ _ H (by simp [Try.f281])]
  simp [Try.f281, tm0, L1]
  generalize hLo : evLoop _ _ _ _ _ _ = R
  obtain ⟨e, τ', H', rfl, hKp, g⟩ := loop_at hLo (loop_rule (d := l.length) (UnI r l H H) (fun e τ h => Kp H h ∧ ((e = .exit 0 ∧ l.Nodup) ∨ (e = .ret ∧ τ 2 = .bool false ∧ ¬ l.Nodup))) (by
    rintro d τ h ⟨k, hk, t3, t7, t8, t9, g, nd, hn, hb⟩
    have KK : Kp H h := ⟨by omega, hb⟩
    rw [lp_M Try.func281 58 (by decide) 6 (by decide) (by kernel_rfl) []]
    by_cases hd0 : d = 0
    · subst hd0
      have hkl : ¬ ((k : Int) < l.length) := by omega
      simp [Try.f281, t8, t9, hkl]
      rw [List.take_of_length_le (by omega)] at nd
      exact ⟨KK, nd⟩
    · have hlt : k < l.length := by omega
      have hlt' : (k : Int) < l.length := by omega
      obtain ⟨b, o, u1, u2, u3⟩ := intAt' hr hlt
      have u3 := u3 h (hb b u2)
      have lk := look_seen g l[k]
      have w1 : IntKind.i64.wrap ((k : Int) + 1) = (k : Int) + 1 := wrap_i64 (n := (k : Int) + 1) (by omega) (by omega)
      have htk : l.take (k + 1) = l.take k ++ [l[k]] := by rw [List.take_succ_eq_append_getElem hlt]
      by_cases c : l[k] ∈ l.take k
      · have hnd : ¬ l.Nodup := by
          intro hh
          have : (l.take (k + 1)).Nodup := hh.sublist (List.take_sublist _ _)
          rw [htk, List.nodup_append] at this
          exact this.2.2 _ c _ (by simp) rfl
        simp [Try.f281, t3, t7, t8, t9, hlt, hlt', u1, u3, lk, c]
        exact ⟨KK, hnd⟩
      · have pt := put_seen g c
        simp [Try.f281, t3, t7, t8, t9, hlt, hlt', u1, u3, lk, c, pt, w1]
        refine ⟨d - 1, by omega, k + 1, by omega, by simp [t3], by simp [t7], by simp [t8], by simp, by rw [htk]; simp, ?_, by simpa using hn, fun z hz => by rw [AH.set_getN _ _ (by omega)]; exact hb z hz⟩
        rw [htk, List.nodup_append]
        exact ⟨nd, by simp, fun x hx y hy e => by simp at hy; subst hy; subst e; exact c hx⟩) ⟨0, by simp, by simp, by simp, by simp, by simp, by simp [seenI], by simp, by simp, fun b hb => by rw [AH.push_get, if_neg (by omega)]⟩ (by omega))
  rcases g with ⟨rfl, g⟩ | ⟨rfl, g1, g2⟩
  · exact ⟨H', by simp [Try.f281, g], hKp⟩
  · exact ⟨H', by simp [g1, g2], hKp⟩
def versL (l : List Int) : Prop := 1 ≤ l.length ∧ l.length ≤ 8 ∧ (∀ v ∈ l, verIn v) ∧ l.Nodup
noncomputable instance (l : List Int) : Decidable (versL l) := Classical.propDecidable _
end Go.Ev

/- Names of a hello: whether they can be. -/
namespace Go.Ev
open Go Go.Proofs
set_option linter.unusedSimpArgs false
set_option linter.unusedVariables false

theorem baE (a : ByteArray) : (a == a) = true := by rw [beq_toListBytes]; simp
theorem baN {a b : ByteArray} (h : a ≠ b) : (a == b) = false := by
  rw [beq_toListBytes]
  simp only [beq_eq_false_iff_ne, ne_eq]
  intro e
  apply h
  obtain ⟨⟨x⟩⟩ := a
  obtain ⟨⟨y⟩⟩ := b
  rw [ByteArray.toList_eq, ByteArray.toList_eq] at e
  simp at e
  rw [e]
noncomputable instance (v : ByteArray) (xs : List ByteArray) : Decidable (v ∈ xs) := Classical.propDecidable _
set_option maxRecDepth 20000 in
theorem versionsOK_ev {rw : Bool} {H : AH} {r : AV} {l : List Int} {bs : List Nat} (hr : (Ty.sl 3 (.int .i64)).R rw H [r] l bs) (hl : l.length ≤ 100000) (m : Nat) (hm : 1020 ≤ m) :
    ∃ H', ev Try.prog m 241 [r] H = some (.bool (decide (versL l)), H') ∧ Kp H H' := by
  obtain ⟨m, rfl⟩ : ∃ k, m = k + 1 := ⟨m - 1, by omega⟩
  have L1 := hr.lenA (P := Try.prog) (T := 60) (by simp)
  rw [ev_M Try.func241 ok241 [] _ _ H (by simp [Try.f241])]
  by_cases c1 : 1 ≤ l.length
  · have c1' : (1 : Int) ≤ l.length := by omega
    by_cases c2 : l.length ≤ 8
    · have c2' : (l.length : Int) ≤ 8 := by omega
      have a := anyBad_ev hr (by omega) m (by omega)
      by_cases c3 : ∀ v ∈ l, verIn v
      · obtain ⟨H', b1, b2⟩ := unlikeI_ev hr (by omega) m (by omega)
        rw [decide_eq_true c3] at a
        by_cases c4 : l.Nodup
        · have hv : versL l := ⟨c1, c2, c3, c4⟩
          exact ⟨H', by simp [Try.f241, tm0, L1, c1, c1', c2, c2', a, b1, c4, hv], b2⟩
        · have hv : ¬ versL l := fun h => c4 h.2.2.2
          exact ⟨H', by simp [Try.f241, tm0, L1, c1, c1', c2, c2', a, b1, c4, hv], b2⟩
      · have hv : ¬ versL l := fun h => c3 h.2.2.1
        rw [decide_eq_false c3] at a
        exact ⟨H, by simp [Try.f241, tm0, L1, c1, c1', c2, c2', a, hv], Kp.refl H⟩
    · have c2' := eq_false (show ¬ ((l.length : Int) ≤ 8) by omega)
      have hv : ¬ versL l := fun h => c2 h.2.1
      have c2'' := eq_false c2
      exact ⟨H, by simp [Try.f241, tm0, L1, c1, c1', c2', c2'', hv], Kp.refl H⟩
  · have c1' := eq_false (show ¬ ((1 : Int) ≤ l.length) by omega)
    have hv : ¬ versL l := fun h => c1 h.1
    have c1'' := eq_false c1
    exact ⟨H, by simp [Try.f241, tm0, L1, c1', c1'', hv], Kp.refl H⟩
/-! names -/
def nameIn (s : ByteArray) : Prop := 1 ≤ s.size ∧ s.size ≤ 16
instance (s : ByteArray) : Decidable (nameIn s) := by unfold nameIn; infer_instance
theorem nameNot_ev (s : ByteArray) (H : AH) (m : Nat) (hm : 2 ≤ m) : ev Try.prog m 283 [.str s] H = some (.bool (!decide (nameIn s)), H) := by
  obtain ⟨m, rfl⟩ : ∃ k, m = k + 1 := ⟨m - 1, by omega⟩
  rw [ev_M Try.func283 ok283 [] m _ H (by simp [Try.f283])]
  by_cases h0 : 1 ≤ s.size
  · have h0' := eq_false (show ¬ ((s.size : Int) < 1) by omega)
    by_cases h1 : s.size ≤ 16
    · have h1' := eq_false (show ¬ ((16 : Int) < s.size) by omega)
      simp [Try.f283, tm0, lenA, h0', h1', nameIn, h0, h1]
    · have h1' := eq_true (show ((16 : Int) < s.size) by omega)
      simp [Try.f283, tm0, lenA, h0', h1', nameIn, h0, h1]
  · have h0' := eq_true (show ((s.size : Int) < 1) by omega)
    simp [Try.f283, tm0, lenA, h0', nameIn, h0]
theorem strAt {rw : Bool} {H : AH} {r : AV} {l : List ByteArray} {bs : List Nat} (hr : (Ty.sl 9 .str).R rw H [r] l bs) {k : Nat} (hk : k < l.length) :
    ∃ b o, idxA Try.prog 118 r (.int .i64 k) = some (.ptr b o) ∧ b < H.next ∧ ∀ X : AH, X.get b = H.get b → ldVar Try.prog 9 b o X = some (.str l[k]) := by
  obtain ⟨b, o, ro, x1, c, x2, bk, u1, u2, u3, u4, u5, u6, u7, u8⟩ := Ty.R.at_ hr (P := Try.prog) (T := 118) (by simp) (by simp [Ty.n]) (k := k) hk
  obtain ⟨rfl, _⟩ := u5
  subst u4
  exact ⟨b, _, u1, u2, fun X hX => by simp [ldVar, hX, u3]⟩
def IxN (r f : AV) (l : List ByteArray) (H : AH) (d : Nat) (τ : Tm) (h : AH) : Prop := h = H ∧ ∃ k : Nat, k + d = l.length ∧ τ 0 = r ∧ τ 1 = f ∧ τ 7 = .int .i64 l.length ∧ τ 8 = .int .i64 k ∧ ∀ j (hj : j < l.length), j < k → nameIn l[j]
set_option maxRecDepth 20000 in
theorem anyBadN_ev {rw : Bool} {H : AH} {r : AV} {l : List ByteArray} {bs : List Nat} (hr : (Ty.sl 9 .str).R rw H [r] l bs) (hl : l.length ≤ 1000) (m : Nat) (hm : 1010 ≤ m) :
    ev Try.prog m 282 [r, .func 283 [] []] H = some (.bool (!decide (∀ v ∈ l, nameIn v)), H) := by
  obtain ⟨m, rfl⟩ : ∃ k, m = k + 1 := ⟨m - 1, by omega⟩
  obtain ⟨m, rfl⟩ : ∃ k, m = k + 1 := ⟨m - 1, by omega⟩
  have L1 := hr.lenA (P := Try.prog) (T := 118) (by simp)
  have key : ∃ x : Int, ev Try.prog (m + 1) 297 [r, .func 283 [] []] H = some (.int .i64 x, H) ∧ ((x = -1 ∧ ∀ v ∈ l, nameIn v) ∨ (0 ≤ x ∧ ¬ ∀ v ∈ l, nameIn v)) := by
    rw [ev_M Try.func297 ok297 [] _ _ H (by simp [Try.f297])]
    simp [Try.f297, tm0, L1]
    generalize hLo : evLoop _ _ _ _ _ _ = R
    obtain ⟨e, τ', H', rfl, rfl, g⟩ := loop_at hLo (loop_rule (d := l.length) (IxN r (.func 283 [] []) l H) (fun e τ h => h = H ∧ ((e = .exit 0 ∧ ∀ v ∈ l, nameIn v) ∨ (e = .ret ∧ ∃ x : Int, τ 4 = .int .i64 x ∧ 0 ≤ x ∧ ¬ ∀ v ∈ l, nameIn v))) (by
      rintro d τ h ⟨rfl, k, hk, t0, t1, t7, t8, hin⟩
      rw [lp_M Try.func297 26 (by decide) 5 (by decide) (by kernel_rfl) []]
      by_cases hd0 : d = 0
      · subst hd0
        have hkl : ¬ ((k : Int) < l.length) := by omega
        simp [Try.f297, t7, t8, hkl]
        intro v hv
        obtain ⟨j, hj, rfl⟩ := List.getElem_of_mem hv
        exact hin j hj (by omega)
      · have hlt : k < l.length := by omega
        have hlt' : (k : Int) < l.length := by omega
        obtain ⟨b, o, u1, u2, u3⟩ := strAt hr hlt
        have u3 := u3 h rfl
        have a := nameNot_ev l[k] h m (by omega)
        have w1 : IntKind.i64.wrap ((k : Int) + 1) = (k : Int) + 1 := wrap_i64 (n := (k : Int) + 1) (by omega) (by omega)
        by_cases c : nameIn l[k]
        · simp [Try.f297, t0, t1, t7, t8, hlt, hlt', u1, u3, a, c, w1]
          exact ⟨d - 1, by omega, rfl, k + 1, by omega, by simp [t0], by simp [t1], by simp [t7], by simp, fun j hj hjk => by
            by_cases e : j = k
            · subst e; exact c
            · exact hin j hj (by omega)⟩
        · simp [Try.f297, t0, t1, t7, t8, hlt, hlt', u1, u3, a, c, w1]
          exact ⟨l[k], List.getElem_mem hlt, c⟩) ⟨rfl, 0, by simp, by simp, by simp, by simp, by simp, by simp⟩ (by omega))
    rcases g with ⟨rfl, g⟩ | ⟨rfl, x, g1, g2, g3⟩
    · exact ⟨-1, by simp [Try.f297], .inl ⟨rfl, g⟩⟩
    · exact ⟨x, by simp [g1], .inr ⟨g2, by simpa using g3⟩⟩
  obtain ⟨x, e, g⟩ := key
  rw [ev_M Try.func282 ok282 [] _ _ H (by simp [Try.f282])]
  rcases g with ⟨rfl, g⟩ | ⟨g1, g2⟩
  · simp [Try.f282, tm0, e]
    exact g
  · simp [Try.f282, tm0, e, g1, g2]
def seenN (xs : List ByteArray) : List (AV × AV) := xs.map fun x => (.str x, .bool true)
theorem find_seenN (v : ByteArray) : ∀ (xs : List ByteArray) (i : Nat), (v ∉ xs ∧ findA (.str v) (seenN xs) i = some none) ∨ (v ∈ xs ∧ ∃ j, findA (.str v) (seenN xs) i = some (some (j, .bool true)))
  | [], i => .inl ⟨by simp, rfl⟩
  | x :: l, i => by
    by_cases c : v = x
    · subst c
      exact .inr ⟨by simp, i, by simp [seenN, findA, sameK, baE]⟩
    · have hs : findA (.str v) (seenN (x :: l)) i = findA (.str v) (seenN l) (i + 1) := by
        have : (v == x) = false := baN c
        simp [seenN, findA, sameK, this]
      rw [hs]
      rcases find_seenN v l (i + 1) with ⟨h1, h2⟩ | ⟨h1, h2⟩
      · exact .inl ⟨by simp [c, h1], h2⟩
      · exact .inr ⟨by simp [h1], h2⟩
theorem look_seenN {X : AH} {p : Nat} {xs : List ByteArray} (g : X.get p = some (.map (seenN xs))) (v : ByteArray) : lookA Try.prog 336 (.map p) (.str v) X false = some (.bool (decide (v ∈ xs))) := by
  rcases find_seenN v xs 0 with ⟨h1, h2⟩ | ⟨h1, j, h2⟩ <;> simp [lookA, mapT, keyOk, g, h2, h1]
theorem put_seenN {X : AH} {p : Nat} {xs : List ByteArray} (g : X.get p = some (.map (seenN xs))) {v : ByteArray} (hv : v ∉ xs) : updA Try.prog 336 (.map p) (.str v) (.bool true) X = some (X.set p (.map (seenN (xs ++ [v])))) := by
  rcases find_seenN v xs 0 with ⟨h1, h2⟩ | ⟨h1, j, h2⟩
  · simp [updA, mapT, keyOk, g, mapPut, h2]
    simp [seenN]
  · exact absurd h1 hv
def UnN (r : AV) (l : List ByteArray) (H0 H : AH) (d : Nat) (τ : Tm) (h : AH) : Prop := ∃ k : Nat, k + d = l.length ∧ τ 3 = .map H0.next ∧ τ 7 = r ∧ τ 8 = .int .i64 l.length ∧ τ 9 = .int .i64 k ∧ h.get H0.next = some (.map (seenN (l.take k))) ∧ (l.take k).Nodup ∧ h.next = H0.next + 1 ∧ ∀ b, b < H0.next → h.get b = H0.get b
set_option maxRecDepth 20000 in
theorem unlikeN_ev {rw : Bool} {H : AH} {r : AV} {l : List ByteArray} {bs : List Nat} (hr : (Ty.sl 9 .str).R rw H [r] l bs) (hl : l.length ≤ 1000) (m : Nat) (hm : 1010 ≤ m) :
    ∃ H', ev Try.prog m 284 [r] H = some (.bool (decide l.Nodup), H') ∧ Kp H H' := by
  obtain ⟨m, rfl⟩ : ∃ k, m = k + 1 := ⟨m - 1, by omega⟩
  have L1 := hr.lenA (P := Try.prog) (T := 118) (by simp)
  rw [ev_M Try.func284 ok284 [] _ _ H (by simp [Try.f284])]
  simp [Try.f284, tm0, L1]
  generalize hLo : evLoop _ _ _ _ _ _ = R
  obtain ⟨e, τ', H', rfl, hKp, g⟩ := loop_at hLo (loop_rule (d := l.length) (UnN r l H H) (fun e τ h => Kp H h ∧ ((e = .exit 0 ∧ l.Nodup) ∨ (e = .ret ∧ τ 2 = .bool false ∧ ¬ l.Nodup))) (by
    rintro d τ h ⟨k, hk, t3, t7, t8, t9, g, nd, hn, hb⟩
    have KK : Kp H h := ⟨by omega, hb⟩
    rw [lp_M Try.func284 58 (by decide) 6 (by decide) (by kernel_rfl) []]
    by_cases hd0 : d = 0
    · subst hd0
      have hkl : ¬ ((k : Int) < l.length) := by omega
      simp [Try.f284, t8, t9, hkl]
      rw [List.take_of_length_le (by omega)] at nd
      exact ⟨KK, nd⟩
    · have hlt : k < l.length := by omega
      have hlt' : (k : Int) < l.length := by omega
      obtain ⟨b, o, u1, u2, u3⟩ := strAt hr hlt
      have u3 := u3 h (hb b u2)
      have lk := look_seenN g l[k]
      have w1 : IntKind.i64.wrap ((k : Int) + 1) = (k : Int) + 1 := wrap_i64 (n := (k : Int) + 1) (by omega) (by omega)
      have htk : l.take (k + 1) = l.take k ++ [l[k]] := by rw [List.take_succ_eq_append_getElem hlt]
      by_cases c : l[k] ∈ l.take k
      · have hnd : ¬ l.Nodup := by
          intro hh
          have : (l.take (k + 1)).Nodup := hh.sublist (List.take_sublist _ _)
          rw [htk, List.nodup_append] at this
          exact this.2.2 _ c _ (by simp) rfl
        simp [Try.f284, t3, t7, t8, t9, hlt, hlt', u1, u3, lk, c]
        exact ⟨KK, hnd⟩
      · have pt := put_seenN g c
        simp [Try.f284, t3, t7, t8, t9, hlt, hlt', u1, u3, lk, c, pt, w1]
        refine ⟨d - 1, by omega, k + 1, by omega, by simp [t3], by simp [t7], by simp [t8], by simp, by rw [htk]; simp, ?_, by simpa using hn, fun z hz => by rw [AH.set_getN _ _ (by omega)]; exact hb z hz⟩
        rw [htk, List.nodup_append]
        exact ⟨nd, by simp, fun x hx y hy e => by simp at hy; subst hy; subst e; exact c hx⟩) ⟨0, by simp, by simp, by simp, by simp, by simp, by simp [seenN], by simp, by simp, fun b hb => by rw [AH.push_get, if_neg (by omega)]⟩ (by omega))
  rcases g with ⟨rfl, g⟩ | ⟨rfl, g1, g2⟩
  · exact ⟨H', by simp [Try.f284, g], hKp⟩
  · exact ⟨H', by simp [g1, g2], hKp⟩
def namesL (l : List ByteArray) (most : Int) : Prop := 1 ≤ l.length ∧ (l.length : Int) ≤ most ∧ (∀ v ∈ l, nameIn v) ∧ l.Nodup
noncomputable instance (l : List ByteArray) (most : Int) : Decidable (namesL l most) := Classical.propDecidable _
set_option maxRecDepth 20000 in
theorem namesOK_ev {rw : Bool} {H : AH} {r : AV} {l : List ByteArray} {bs : List Nat} (hr : (Ty.sl 9 .str).R rw H [r] l bs) (most : Int) (hmo : most ≤ 4) (m : Nat) (hm : 1020 ≤ m) :
    ∃ H', ev Try.prog m 242 [r, .int .i64 most] H = some (.bool (decide (namesL l most)), H') ∧ Kp H H' := by
  obtain ⟨m, rfl⟩ : ∃ k, m = k + 1 := ⟨m - 1, by omega⟩
  have L1 := hr.lenA (P := Try.prog) (T := 118) (by simp)
  rw [ev_M Try.func242 ok242 [] _ _ H (by simp [Try.f242])]
  by_cases c1 : 1 ≤ l.length
  · have c1' : (1 : Int) ≤ l.length := by omega
    by_cases c2 : (l.length : Int) ≤ most
    · have a := anyBadN_ev hr (by omega) m (by omega)
      by_cases c3 : ∀ v ∈ l, nameIn v
      · obtain ⟨H', b1, b2⟩ := unlikeN_ev hr (by omega) m (by omega)
        rw [decide_eq_true c3] at a
        by_cases c4 : l.Nodup
        · have hv : namesL l most := ⟨c1, c2, c3, c4⟩
          exact ⟨H', by simp [Try.f242, tm0, L1, c1, c1', c2, a, b1, c4, hv], b2⟩
        · have hv : ¬ namesL l most := fun h => c4 h.2.2.2
          exact ⟨H', by simp [Try.f242, tm0, L1, c1, c1', c2, a, b1, c4, hv], b2⟩
      · have hv : ¬ namesL l most := fun h => c3 h.2.2.1
        rw [decide_eq_false c3] at a
        exact ⟨H, by simp [Try.f242, tm0, L1, c1, c1', c2, a, hv], Kp.refl H⟩
    · have hv : ¬ namesL l most := fun h => c2 h.2.1
      have c2'' := eq_false c2
      exact ⟨H, by simp [Try.f242, tm0, L1, c1, c1', c2'', hv], Kp.refl H⟩
  · have c1' := eq_false (show ¬ ((1 : Int) ≤ l.length) by omega)
    have hv : ¬ namesL l most := fun h => c1 h.1
    have c1'' := eq_false c1
    exact ⟨H, by simp [Try.f242, tm0, L1, c1', c1'', hv], Kp.refl H⟩
end Go.Ev

/- Parameters: the program's table of numbers, whether parameters can be. -/
namespace Go.Ev
open Go Go.Proofs
set_option linter.unusedSimpArgs false
set_option linter.unusedVariables false

/-- number, least, greatest, missing -/
def pnL : List (Int × Int × Int × Int) := [(1, 0, 1000000000000, 0), (3, 1200, 2000, 2000), (4, 1, 16384, 4096), (5, 1, 16384, 1024), (8, 0, 64, 4), (9, 0, 64, 4), (11, 0, 1000000, 25000), (14, 2, 16, 2), (32, 0, 1500, 0)]
def pnE (k : Nat) (x : Int × Int × Int × Int) : List AV := [.int .i64 x.1, .func (247 + k) [] [], .int .i64 x.2.1, .int .i64 x.2.2.1, .int .i64 x.2.2.2]
def pnC : List AV := pnE 0 (1, 0, 1000000000000, 0) ++ pnE 1 (3, 1200, 2000, 2000) ++ pnE 2 (4, 1, 16384, 4096) ++ pnE 3 (5, 1, 16384, 1024) ++ pnE 4 (8, 0, 64, 4) ++ pnE 5 (9, 0, 64, 4) ++ pnE 6 (11, 0, 1000000, 25000) ++ pnE 7 (14, 2, 16, 2) ++ pnE 8 (32, 0, 1500, 0)
theorem pn_at : ∀ k : Nat, (hk : k < 9) → (pnC.drop (k * 5)).take 5 = pnE k (pnL[k]'hk)
  | 0, _ => rfl
  | 1, _ => rfl
  | 2, _ => rfl
  | 3, _ => rfl
  | 4, _ => rfl
  | 5, _ => rfl
  | 6, _ => rfl
  | 7, _ => rfl
  | 8, _ => rfl
set_option maxRecDepth 20000 in
theorem paramNumbers_ev (H : AH) (m : Nat) (hm : 1 ≤ m) : ev Try.prog m 179 [] H = some (.slice H.next 0 9, H.push (.cells 236 false pnC)) := by
  obtain ⟨m, rfl⟩ : ∃ k, m = k + 1 := ⟨m - 1, by omega⟩
  rw [ev_M Try.func179 ok179 [] m _ H (by simp [Try.f179])]
  simp [Try.f179, tm0, fillA, zerosA, spl, pnC, pnE]
theorem pnF_ev (k : Nat) (hk : k < 9) (p : Nat) (H : AH) (m : Nat) (hm : 1 ≤ m) : ev Try.prog m (247 + k) [.ptr p 0] H = some (.ptr p k, H) := by
  obtain ⟨m, rfl⟩ : ∃ k, m = k + 1 := ⟨m - 1, by omega⟩
  rcases k with _ | _ | _ | _ | _ | _ | _ | _ | _ | k
  · rw [ev_M Try.func247 ok247 [] m _ H (by simp [Try.f247])]; simp [Try.f247, tm0]
  · rw [ev_M Try.func248 ok248 [] m _ H (by simp [Try.f248])]; simp [Try.f248, tm0]
  · rw [ev_M Try.func249 ok249 [] m _ H (by simp [Try.f249])]; simp [Try.f249, tm0]
  · rw [ev_M Try.func250 ok250 [] m _ H (by simp [Try.f250])]; simp [Try.f250, tm0]
  · rw [ev_M Try.func251 ok251 [] m _ H (by simp [Try.f251])]; simp [Try.f251, tm0]
  · rw [ev_M Try.func252 ok252 [] m _ H (by simp [Try.f252])]; simp [Try.f252, tm0]
  · rw [ev_M Try.func253 ok253 [] m _ H (by simp [Try.f253])]; simp [Try.f253, tm0]
  · rw [ev_M Try.func254 ok254 [] m _ H (by simp [Try.f254])]; simp [Try.f254, tm0]
  · rw [ev_M Try.func255 ok255 [] m _ H (by simp [Try.f255])]; simp [Try.f255, tm0]
  · omega
/-- parameters' cells -/
def pmC (F : List Int) (nm : Bool) (a b c : AV) : List AV := F.map (.int .i64) ++ [.bool nm, a, b, c]
theorem pmC_num (F : List Int) (hF : F.length = 9) (nm : Bool) (a b c : AV) (k : Nat) (hk : k < 9) : (pmC F nm a b c)[k]? = some (.int .i64 (F[k]'(by omega))) := by
  unfold pmC
  rw [List.getElem?_append_left (by simp; omega)]
  simp [hF, hk]
theorem pmC_rest (F : List Int) (hF : F.length = 9) (nm : Bool) (a b c : AV) : (pmC F nm a b c)[9]? = some (.bool nm) ∧ (pmC F nm a b c)[10]? = some a ∧ (pmC F nm a b c)[11]? = some b ∧ (pmC F nm a b c)[12]? = some c ∧ (pmC F nm a b c).length = 13 := by
  unfold pmC
  refine ⟨?_, ?_, ?_, ?_, by simp [hF]⟩ <;> rw [List.getElem?_append_right (by simp; omega)] <;> simp [hF]
def prmOK (F : List Int) (o t f : Nat) (sv : Bool) : Prop := (∀ k (hk : k < 9) (hk' : k < F.length), (pnL[k]'hk).2.1 ≤ F[k] ∧ F[k] ≤ (pnL[k]'hk).2.2.1) ∧ (f ≤ 8 ∧ o ≤ 8 ∧ (t = 0 ∨ t = 8)) ∧ (sv = true ∨ (o = 0 ∧ t = 0))
noncomputable instance (F : List Int) (o t f : Nat) (sv : Bool) : Decidable (prmOK F o t f sv) := Classical.propDecidable _
structure PoI (F : List Int) (p2 p8 : Nat) (cs : AV) (H1 : AH) (k : Nat) (τ : Tm) (h : AH) : Prop where
  t1 : τ 1 = cs
  t2 : τ 2 = .ptr p2 0
  t8 : τ 8 = .slice p8 0 9
  t9 : τ 9 = .int .i64 9
  t10 : τ 10 = .int .i64 k
  K : Kp H1 h
  ok : ∀ j (hj : j < 9) (hj' : j < F.length), j < k → (pnL[j]'hj).2.1 ≤ F[j] ∧ F[j] ≤ (pnL[j]'hj).2.2.1
def PoL (F : List Int) (p2 p8 : Nat) (cs : AV) (H1 : AH) (d : Nat) (τ : Tm) (h : AH) : Prop := ∃ k : Nat, k + d = 9 ∧ PoI F p2 p8 cs H1 k τ h
set_option maxRecDepth 20000 in
theorem poLoop {F : List Int} (hF : F.length = 9) {p2 p8 : Nat} {nm : Bool} {a b c : AV} {H1 : AH} (g2 : H1.get p2 = some (.cells 120 false (pmC F nm a b c))) (g8 : H1.get p8 = some (.cells 236 false pnC)) (n2 : p2 < H1.next) (n8 : p8 < H1.next) (m : Nat) (hm : 20 ≤ m) (τ : Tm) (h0 : AH) (t1v : AV) (hI : PoL F p2 p8 t1v H1 9 τ h0) :
    ∃ e τ' H', evLoop Try.prog (ev Try.prog m) m (lp Try.prog 84 26) τ h0 = some (e, τ', H') ∧ Kp H1 H' ∧ ((e = .exit 0 ∧ τ' 1 = t1v ∧ τ' 2 = .ptr p2 0 ∧ ∀ k (hk : k < 9) (hk' : k < F.length), (pnL[k]'hk).2.1 ≤ F[k] ∧ F[k] ≤ (pnL[k]'hk).2.2.1) ∨ (e = .ret ∧ τ' 4 = .bool false ∧ ¬ ∀ k (hk : k < 9) (hk' : k < F.length), (pnL[k]'hk).2.1 ≤ F[k] ∧ F[k] ≤ (pnL[k]'hk).2.2.1)) := by
  refine loop_rule (d := 9) (PoL F p2 p8 t1v H1) (fun e τ h => Kp H1 h ∧ ((e = .exit 0 ∧ τ 1 = t1v ∧ τ 2 = .ptr p2 0 ∧ ∀ k (hk : k < 9) (hk' : k < F.length), (pnL[k]'hk).2.1 ≤ F[k] ∧ F[k] ≤ (pnL[k]'hk).2.2.1) ∨ (e = .ret ∧ τ 4 = .bool false ∧ ¬ ∀ k (hk : k < 9) (hk' : k < F.length), (pnL[k]'hk).2.1 ≤ F[k] ∧ F[k] ≤ (pnL[k]'hk).2.2.1))) ?_ hI (by omega)
  rintro d τ h ⟨k, hk, t1, t2, t8, t9, t10, K, ok⟩
  rw [lp_M Try.func84 26 (by decide) 5 (by decide) (by kernel_rfl) []]
  by_cases hd0 : d = 0
  · subst hd0
    have hkl := eq_false (show ¬ ((k : Int) < 9) by omega)
    have hkl' := eq_false (show ¬ (k < 9) by omega)
    simp [Try.f84, t9, t10, hkl, hkl']
    exact ⟨K, by simp [t1], by simp [t2], fun j hj hj' => ok j hj hj' (by omega)⟩
  · have hk9 : k < 9 := by omega
    have hkl := eq_true (show ((k : Int) < 9) by omega)
    have hkl' := eq_true hk9
    have gh := (K.get p8 n8).trans g8
    have gp := (K.get p2 n2).trans g2
    have hKn := K.next
    have hn8 : ¬ (p8 = h.next) := by omega
    have hn2 : ¬ (p2 = h.next) := by omega
    have ix : idxA Try.prog 232 (.slice p8 0 9) (.int .i64 k) = some (.ptr p8 (k * 5)) := by simp [idxA]; omega
    have l5 : ldVar Try.prog 236 p8 (k * 5) h = some (.agg (pnE k (pnL[k]'hk9))) := by
      have hl : k * 5 + 5 ≤ pnC.length := by
        have : pnC.length = 45 := by rfl
        omega
      simp [ldVar, gh, hl, pn_at k hk9]
    have hF9 : k < F.length := by omega
    have cl := fun X => pnF_ev k hk9 p2 X m (by omega)
    have hv := pmC_num F hF nm a b c k hk9
    generalize hx : pnL[k]'hk9 = x at *
    obtain ⟨x1, x2, x3, x4⟩ := x
    generalize hy : F[k]'hF9 = y at *
    have P := K.push (.cells 236 false (pnE k (x1, x2, x3, x4)))
    have hX : (h.push (.cells 236 false (pnE k (x1, x2, x3, x4)))).get p2 = some (.cells 120 false (pmC F nm a b c)) := by rw [AH.push_get, if_neg hn2]; exact gp
    have lv : ldVar Try.prog 3 p2 k (h.push (.cells 236 false (pnE k (x1, x2, x3, x4)))) = some (.int .i64 y) := by unfold ldVar; rw [hX]; simp [hv]
    have w1 : IntKind.i64.wrap ((k : Int) + 1) = (k : Int) + 1 := wrap_i64 (n := (k : Int) + 1) (by omega) (by omega)
    simp only [pnE] at l5 lv P
    have f1 : ldVar Try.prog 234 h.next 1 (h.push (.cells 236 false [.int .i64 x1, .func (247 + k) [] [], .int .i64 x2, .int .i64 x3, .int .i64 x4])) = some (.func (247 + k) [] []) := by simp [ldVar]
    have f2 : ldVar Try.prog 3 h.next 2 (h.push (.cells 236 false [.int .i64 x1, .func (247 + k) [] [], .int .i64 x2, .int .i64 x3, .int .i64 x4])) = some (.int .i64 x2) := by simp [ldVar]
    have f3 : ldVar Try.prog 3 h.next 3 (h.push (.cells 236 false [.int .i64 x1, .func (247 + k) [] [], .int .i64 x2, .int .i64 x3, .int .i64 x4])) = some (.int .i64 x3) := by simp [ldVar]
    by_cases c1 : y < x2
    · have bad : ¬ ∀ k (hk : k < 9) (hk' : k < F.length), (pnL[k]'hk).2.1 ≤ F[k] ∧ F[k] ≤ (pnL[k]'hk).2.2.1 := fun hh => by have := hh k hk9 hF9; rw [hx, hy] at this; simp only at this; omega
      simp [Try.f84, t2, t8, t9, t10, hkl, hkl', ix, l5, stVar, spl, f1, f2, f3, cl, lv, c1]
      exact ⟨P, by simpa using bad⟩
    · have c1' := eq_false c1
      by_cases c2 : x3 < y
      · have bad : ¬ ∀ k (hk : k < 9) (hk' : k < F.length), (pnL[k]'hk).2.1 ≤ F[k] ∧ F[k] ≤ (pnL[k]'hk).2.2.1 := fun hh => by have := hh k hk9 hF9; rw [hx, hy] at this; simp only at this; omega
        simp [Try.f84, t2, t8, t9, t10, hkl, hkl', ix, l5, stVar, spl, f1, f2, f3, cl, lv, c1', c2]
        exact ⟨P, by simpa using bad⟩
      · have c2' := eq_false c2
        simp [Try.f84, t2, t8, t9, t10, hkl, hkl', ix, l5, stVar, spl, f1, f2, f3, cl, lv, c1', c2', w1]
        refine ⟨d - 1, by omega, k + 1, by omega, ⟨by simp [t1], by simp [t2], by simp [t8], by simp [t9], by simp, P, fun j hj hj' hjk => ?_⟩⟩
        by_cases e : j = k
        · subst e; rw [hx, hy]; exact ⟨by simp only; omega, by simp only; omega⟩
        · exact ok j hj hj' (by omega)
end Go.Ev

/- Parameters: whether they can be (program). -/
namespace Go.Ev
open Go Go.Proofs
set_option linter.unusedSimpArgs false
set_option linter.unusedVariables false

theorem pmC_one {F : List Int} {nm : Bool} {a b c : AV} (ha : a.one = true) (hb : b.one = true) (hc : c.one = true) : (pmC F nm a b c).all AV.one = true := by
  unfold pmC
  rw [List.all_append]
  simp only [List.all_cons, ha, hb, hc]
  simp [AV.one]
set_option maxRecDepth 20000 in
theorem ParamsOKI_ev {F : List Int} (hF : F.length = 9) {nm : Bool} {a b c : AV} {la lb lc : Nat} (ha : ∀ h, lenA Try.prog 34 a h = some (.int .i64 la)) (hb : ∀ h, lenA Try.prog 34 b h = some (.int .i64 lb)) (hc : ∀ h, lenA Try.prog 34 c h = some (.int .i64 lc)) (oa : a.one = true) (ob : b.one = true) (oc : c.one = true) (sv : Bool) (H : AH) (m : Nat) (hm : 30 ≤ m) :
    ∃ H', ev Try.prog m 84 [.agg (pmC F nm a b c), .bool sv] H = some (.bool (decide (prmOK F la lb lc sv)), H') ∧ Kp H H' := by
  obtain ⟨m, rfl⟩ : ∃ k, m = k + 1 := ⟨m - 1, by omega⟩
  have hone := pmC_one (F := F) (nm := nm) oa ob oc
  let A : AH := H.push (.cells 120 false (pmC F nm a b c))
  have hA : H.push (.cells 120 false (pmC F nm a b c)) = A := rfl
  have KA : Kp H A := (Kp.refl H).push _
  have nA : A.next = H.next + 1 := by simp [A]
  have gA : A.get H.next = some (.cells 120 false (pmC F nm a b c)) := by simp [A]
  clear_value A
  have pn := paramNumbers_ev A m (by omega)
  let B : AH := A.push (.cells 236 false pnC)
  have hB : A.push (.cells 236 false pnC) = B := rfl
  have KB : Kp A B := (Kp.refl A).push _
  have nB : B.next = A.next + 1 := by simp [B]
  have gB : B.get A.next = some (.cells 236 false pnC) := by simp [B]
  have gB2 := (KB.get H.next (by omega)).trans gA
  rw [hB] at pn
  clear_value B
  have lB : ∀ h, lenA Try.prog 232 (.slice A.next 0 9) h = some (.int .i64 9) := fun h => by simp [lenA]
  rw [ev_M Try.func84 ok84 [7] m _ H (by simp [Try.f84])]
  simp [Try.f84, tm0, hone, hA, pn, lB]
  generalize hLo : evLoop _ _ _ _ _ _ = R
  obtain ⟨e, τ', H', rfl, K', g⟩ := loop_at hLo (poLoop hF gB2 gB (by omega) (by omega) m (by omega) _ B (.bool sv) ⟨0, by omega, ⟨by simp, by simp, by simp, by simp, by simp, Kp.refl B, fun j hj hj' h => by omega⟩⟩)
  have KK := (KA.trans KB).trans K'
  rcases g with ⟨rfl, t1', t2, hall⟩ | ⟨rfl, t4, hno⟩
  · simp
    refine ⟨H', ?_, KK⟩
    have gh := (K'.get H.next (by omega)).trans gB2
    obtain ⟨r9, r10, r11, r12, rl⟩ := pmC_rest F hF nm a b c
    have l10 : ldVar Try.prog 34 H.next 10 H' = some a := by unfold ldVar; rw [gh]; simp [r10]
    have l11 : ldVar Try.prog 34 H.next 11 H' = some b := by unfold ldVar; rw [gh]; simp [r11]
    have l12 : ldVar Try.prog 34 H.next 12 H' = some c := by unfold ldVar; rw [gh]; simp [r12]
    rw [at_M Try.func84 7 (by decide) 3 (by decide) (by kernel_rfl) []]
    by_cases c1 : lc ≤ 8
    · have d1 := eq_false (show ¬ ((8 : Int) < lc) by omega)
      have d1' := eq_false (show ¬ (8 < lc) by omega)
      by_cases c2 : la ≤ 8
      · have d2 := eq_false (show ¬ ((8 : Int) < la) by omega)
        have d2' := eq_false (show ¬ (8 < la) by omega)
        by_cases c3 : lb = 0
        · subst c3
          cases sv with
          | true =>
            have hv : prmOK F la 0 lc true := ⟨hall, ⟨c1, c2, .inl rfl⟩, .inl rfl⟩
            simp [Try.f84, U, t1', t2, l10, l11, l12, ha, hb, hc, d1, d1', d2, d2', hv]
          | false =>
            by_cases c4 : la = 0
            · subst c4
              have hv : prmOK F 0 0 lc false := ⟨hall, ⟨c1, c2, .inl rfl⟩, .inr ⟨rfl, rfl⟩⟩
              simp [Try.f84, U, t1', t2, l10, l11, l12, ha, hb, hc, d1, d1', d2, d2', hv]
            · have hv : ¬ prmOK F la 0 lc false := fun h => by rcases h.2.2 with h | h; simp at h; exact c4 h.1
              have d4 : ((la : Int) == 0) = false := by simp; omega
              simp [Try.f84, U, t1', t2, l10, l11, l12, ha, hb, hc, d1, d1', d2, d2', d4, hv]
        · have d3 : ((lb : Int) == 0) = false := by simp; omega
          have d3' : ((lb : Int) != 0) = true := by simp; omega
          by_cases c5 : lb = 8
          · subst c5
            cases sv with
            | true =>
              have hv : prmOK F la 8 lc true := ⟨hall, ⟨c1, c2, .inr rfl⟩, .inl rfl⟩
              simp [Try.f84, U, t1', t2, l10, l11, l12, ha, hb, hc, d1, d1', d2, d2', hv]
            | false =>
              have hv : ¬ prmOK F la 8 lc false := fun h => by rcases h.2.2 with h | h; simp at h; exact c3 h.2
              by_cases c4 : la = 0
              · subst c4
                simp [Try.f84, U, t1', t2, l10, l11, l12, ha, hb, hc, d1, d1', d2, d2', hv]
              · have d4 : ((la : Int) == 0) = false := by simp; omega
                simp [Try.f84, U, t1', t2, l10, l11, l12, ha, hb, hc, d1, d1', d2, d2', d4, hv]
          · have d5' : ((lb : Int) != 8) = true := by simp; omega
            have hv : ¬ prmOK F la lb lc sv := fun h => by rcases h.2.1.2.2 with h | h; exact c3 h; exact c5 h
            simp [Try.f84, U, t1', t2, l10, l11, l12, ha, hb, hc, d1, d1', d2, d2', d3', d5', hv]
      · have d2 := eq_true (show ((8 : Int) < la) by omega)
        have d2' := eq_true (show (8 < la) by omega)
        have hv : ¬ prmOK F la lb lc sv := fun h => c2 h.2.1.2.1
        simp [Try.f84, U, t1', t2, l10, l11, l12, ha, hb, hc, d1, d1', d2, d2', hv]
    · have d1 := eq_true (show ((8 : Int) < lc) by omega)
      have d1' := eq_true (show (8 < lc) by omega)
      have hv : ¬ prmOK F la lb lc sv := fun h => c1 h.2.1.1
      simp [Try.f84, U, t1', t2, l10, l11, l12, ha, hb, hc, d1, d1', hv]
  · have hv : ¬ prmOK F la lb lc sv := fun h => hno h.1
    exact ⟨H', by simp [t4, hv], KK⟩
end Go.Ev

/- Bytes: the laws' helpers. -/
namespace Go.Ev
open Go Go.Proofs
set_option linter.unusedSimpArgs false
set_option linter.unusedVariables false

/-- s shows the bytes l -/
abbrev Bs (H : AH) (s : AV) (l : List Int) : Prop := Sl Try.prog 34 5 H s (u8L l)
theorem Bs.len {H : AH} {s : AV} {l : List Int} (h : Bs H s l) (h' : AH) : lenA Try.prog 34 s h' = some (.int .i64 l.length) := by
  have := Sl.len h h'
  simpa [u8L] using this
theorem Bs.at_ {H : AH} {s : AV} {l : List Int} (h : Bs H s l) : ∃ b o, (0 < l.length → b < H.next) ∧ (∀ i : Nat, i < l.length → idxA Try.prog 34 s (.int .i64 i) = some (.ptr b (o + i))) ∧
    ∀ h' : AH, h'.get b = H.get b → ∀ i (hi : i < l.length), ldVar Try.prog 5 b (o + i) h' = some (.int .u8 l[i]) := by
  obtain ⟨b, o, h1, h2, h3⟩ := Sl.at_ h
  have hl : (u8L l).length = l.length := by simp [u8L]
  refine ⟨b, o, by rw [hl] at h1; exact h1, fun i hi => h2 i (by rw [hl]; exact hi), fun h' hh i hi => ?_⟩
  rw [h3 h' hh i (by rw [hl]; exact hi)]
  simp [u8L]
theorem Bs.mk' {H : AH} {b : Nat} {ro : Bool} {l : List Int} (hb : H.get b = some (.cells 5 ro (u8L l))) (hn : b < H.next) : Bs H (.slice b 0 l.length) l := by
  have := Sl.whole (P := Try.prog) (t := 34) (e := 5) (by simp) (by simp) (by simp) hb hn
  rw [u8L_len] at this; exact this

/-! toByteS -/
theorem toByteS_loop {s : AV} {l : List Int} {H : AH} (hs : Bs H s l) (hl : l.length ≤ 70368744177664) (call : CallF) (m : Nat) (hm : l.length + 1 ≤ m) (τ : Tm) (h : AH)
    (t0 : τ 0 = s) (t3 : τ 3 = .slice H.next 0 l.length) (t4 : τ 4 = .int .i64 0) (hK : Kp H h) (hN : h.next = H.next + 1) (hg : h.get H.next = some (.cells 5 false (List.replicate l.length (.int .u8 0)))) :
    ∃ e τ' H', evLoop Try.prog call m (lp Try.prog 40 58) τ h = some (e, τ', H') ∧ e = .exit 0 ∧ τ' 3 = .slice H.next 0 l.length ∧ Kp H H' ∧ H'.next = H.next + 1 ∧ H'.get H.next = some (.cells 5 false (u8L l)) := by
  refine loop_rule
    (fun d τ h => ∃ k : Nat, k + d = l.length ∧ τ 0 = s ∧ τ 3 = .slice H.next 0 l.length ∧ τ 4 = .int .i64 k ∧ Kp H h ∧ h.next = H.next + 1 ∧ h.get H.next = some (.cells 5 false (u8L (l.take k) ++ List.replicate d (.int .u8 0))))
    (fun e τ h => e = .exit 0 ∧ τ 3 = .slice H.next 0 l.length ∧ Kp H h ∧ h.next = H.next + 1 ∧ h.get H.next = some (.cells 5 false (u8L l)))
    ?_ (d := l.length) ⟨0, Nat.zero_add _, t0, t3, t4, hK, hN, by simpa [u8L] using hg⟩ (by omega)
  rintro d τ h ⟨k, hk, t0, t3, t4, hK, hN, hg⟩
  obtain ⟨b, o, a1, a2, a3⟩ := hs.at_
  by_cases hd : d = 0
  · subst hd
    have : k = l.length := by omega
    subst this
    rewrite [lp40_58]
    simp [Try.f40, t0, t3, t4, hs.len]
    exact ⟨hK, hN, by simpa using hg⟩
  · have hlt : k < l.length := by omega
    have hbn := a1 (by omega)
    have hbk := hK.get b hbn
    have hd0 : 1 ≤ d := by omega
    have hix : idxA Try.prog 34 (.slice H.next 0 l.length) (.int .i64 k) = some (.ptr H.next k) := by simp [idxA, hlt]
    have hst := st_one (P := Try.prog) (t := 5) (o := k) (v := .int .u8 l[k]) hg (by simp) rfl (by simp [u8L]; omega)
    rewrite [lp40_58]
    simp [Try.f40, t0, t3, t4, hs.len, hlt, a2 k hlt, a3 h hbk k hlt, hix, hst, wrap_i64 (n := (k : Int) + 1) (by omega) (by omega)]
    refine ⟨d - 1, by omega, k + 1, by omega, by simp, hK.set (Nat.le_refl _) _, hN, ?_⟩
    obtain ⟨q, rfl⟩ : ∃ q, d = q + 1 := ⟨d - 1, by omega⟩
    rw [List.set_append_right _ _ (by simp [u8L]; omega)]
    have hmin : min k l.length = k := by omega
    simp [u8L, List.replicate_succ, hmin]
    rw [List.take_add_one]
    simp [hlt]
theorem toByteS_ev {s : AV} {l : List Int} {H : AH} (hs : Bs H s l) (hl : l.length ≤ 70368744177664) (m : Nat) (hm : l.length + 1 ≤ m) :
    ∃ H', ev Try.prog (m + 1) 40 [s] H = some (.slice H.next 0 l.length, H') ∧ Kp H H' ∧ H'.next = H.next + 1 ∧ H'.get H.next = some (.cells 5 false (u8L l)) := by
  rw [ev_eq Try.func40 ok40 m _ H (by simp [Try.f40])]
  have h1 : 0 ≤ (l.length : Int) ∧ (l.length : Int) ≤ 281474976710656 := by omega
  simp [Try.f40, h1, hs.len]
  generalize hL : evLoop _ _ _ _ _ _ = R
  obtain ⟨e, τ', H', rfl, rfl, g3, g4, g5, g6⟩ := loop_at hL (toByteS_loop hs hl _ m hm _ _ (by simp) (by simp) (by simp) ((Kp.refl H).push _) rfl (by simp [zerosA_one_eq]))
  simp [g3]
  exact ⟨g4, g5, g6⟩

/-! eqByteS -/
theorem eqByteS_loop {s1 s2 : AV} {l1 l2 : List Int} {H : AH} (h1 : Bs H s1 l1) (h2 : Bs H s2 l2) (hlen : l1.length = l2.length) (hl : l1.length ≤ 70368744177664) (call : CallF) (m : Nat) (hm : l1.length + 1 ≤ m) (τ : Tm)
    (t0 : τ 0 = s1) (t1 : τ 1 = s2) (t5 : τ 5 = .int .i64 0) :
    ∃ e τ' H', evLoop Try.prog call m (lp Try.prog 43 58) τ H = some (e, τ', H') ∧ H' = H ∧ ((e = .exit 0 ∧ l1 = l2) ∨ (e = .ret ∧ τ' 4 = .bool false ∧ l1 ≠ l2)) := by
  refine loop_rule
    (fun d τ h => h = H ∧ ∃ k : Nat, k + d = l1.length ∧ τ 0 = s1 ∧ τ 1 = s2 ∧ τ 5 = .int .i64 k ∧ l1.take k = l2.take k)
    (fun e τ h => h = H ∧ ((e = .exit 0 ∧ l1 = l2) ∨ (e = .ret ∧ τ 4 = .bool false ∧ l1 ≠ l2)))
    ?_ (d := l1.length) ⟨rfl, 0, Nat.zero_add _, t0, t1, t5, by simp⟩ (by omega)
  rintro d τ h ⟨rfl, k, hk, t0, t1, t5, hg⟩
  obtain ⟨b, o, a1, a2, a3⟩ := h1.at_
  obtain ⟨b', o', c1, c2, c3⟩ := h2.at_
  by_cases hd : d = 0
  · subst hd
    have : k = l1.length := by omega
    subst this
    rewrite [lp43_58]
    simp [Try.f43, t0, t1, t5, h1.len, h2.len]
    rw [List.take_length, hlen, List.take_length] at hg; exact hg
  · have hlt : k < l1.length := by omega
    have hlt2 : k < l2.length := by omega
    by_cases he : l1[k] = l2[k]
    · rewrite [lp43_58]
      simp [Try.f43, t0, t1, t5, h1.len, h2.len, hlt, a2 k hlt, a3 h rfl k hlt, c2 k hlt2, c3 h rfl k hlt2, he, wrap_i64 (n := (k : Int) + 1) (by omega) (by omega)]
      refine ⟨d - 1, by omega, k + 1, by omega, by simp, ?_⟩
      rw [List.take_add_one, List.take_add_one, hg]; simp [hlt, hlt2, he]
    · rewrite [lp43_58]
      simp [Try.f43, t0, t1, t5, h1.len, h2.len, hlt, a2 k hlt, a3 h rfl k hlt, c2 k hlt2, c3 h rfl k hlt2, he]
      intro h; apply he; subst h; rfl
theorem eqByteS_ev {s1 s2 : AV} {l1 l2 : List Int} {H : AH} (h1 : Bs H s1 l1) (h2 : Bs H s2 l2) (hl : l1.length ≤ 70368744177664) (m : Nat) (hm : l1.length + 2 ≤ m) :
    ev Try.prog m 43 [s1, s2] H = some (.bool (decide (l1 = l2)), H) := by
  obtain ⟨m, rfl⟩ : ∃ k, m = k + 1 := ⟨m - 1, by omega⟩
  rw [ev_eq Try.func43 ok43 m _ H (by simp [Try.f43])]
  by_cases hlen : l1.length = l2.length
  · simp [Try.f43, h1.len, h2.len, hlen]
    generalize hL : evLoop _ _ _ _ _ _ = R
    obtain ⟨e, τ', H', rfl, rfl, ⟨rfl, g⟩ | ⟨rfl, g, g2⟩⟩ := loop_at hL (eqByteS_loop h1 h2 hlen hl _ m (by omega) _ (by simp) (by simp) (by simp))
    · simp [g]
    · simp [g, g2]
  · have hne : l1 ≠ l2 := fun h => hlen (by rw [h])
    have hlen' : ¬ ((l1.length : Int) = l2.length) := by omega
    simp [Try.f43, h1.len, h2.len, hlen', hne]

/-! markByteS, heldByteS -/
/-- what mark writes -/
def marks (k : Int) (n : Nat) : List Int := (List.range n).map fun (i : Nat) => (k + (i : Int)) % 256
theorem marks_len (k : Int) (n : Nat) : (marks k n).length = n := by simp [marks]
theorem marks_get (k : Int) (n i : Nat) (h : i < n) : (marks k n)[i]'(by simp [marks_len, h]) = (k + i) % 256 := by simp [marks]
theorem marks_succ (k : Int) (n : Nat) : marks k (n + 1) = marks k n ++ [(k + n) % 256] := by simp [marks, List.range_succ]
/-- s is a block of its own, in the span lo .. hi -/
def Ow (lo hi : Nat) (H : AH) (s : AV) (l : List Int) : Prop :=
  (s = .nilSlice ∧ l = []) ∨ ∃ b, lo ≤ b ∧ b < hi ∧ hi ≤ H.next ∧ s = .slice b 0 l.length ∧ H.get b = some (.cells 5 false (u8L l))
theorem Ow.bs {lo hi : Nat} {H : AH} {s : AV} {l : List Int} (h : Ow lo hi H s l) : Bs H s l := by
  rcases h with ⟨rfl, rfl⟩ | ⟨b, h1, h2, h3, rfl, h4⟩
  · exact ⟨by simp, by simp, by simp, .inl ⟨rfl, rfl⟩⟩
  · exact Bs.mk' h4 (by omega)
/-- nothing but the blocks of the span has turned -/
structure Ko (lo hi : Nat) (H H' : AH) : Prop where
  next : H.next ≤ H'.next
  get : ∀ b, b < H.next → (b < lo ∨ hi ≤ b) → H'.get b = H.get b
theorem wrap_u8 (n : Int) : IntKind.u8.wrap n = n % 256 := by rw [IntKind.wrap_u8]
theorem Ow.mark_loop {lo hi b : Nat} {l : List Int} {H : AH} (hb : H.get b = some (.cells 5 false (u8L l))) (hn : b < H.next) (hlo : lo ≤ b) (hhi : b < hi) (hl : l.length ≤ 70368744177664) (k0 : Int) (hk0 : 0 ≤ k0) (hk1 : k0 ≤ 70368744177664)
    (call : CallF) (m : Nat) (hm : l.length + 1 ≤ m) (τ : Tm) (t0 : τ 0 = .slice b 0 l.length) (t1 : τ 1 = .int .i64 k0) (t3 : τ 5 = .int .i64 0) :
    ∃ e τ' H', evLoop Try.prog call m (lp Try.prog 44 26) τ H = some (e, τ', H') ∧ e = .exit 0 ∧ τ' 1 = .int .i64 (k0 + l.length) ∧ Ko lo hi H H' ∧ H'.next = H.next ∧ H'.get b = some (.cells 5 false (u8L (marks k0 l.length))) := by
  refine loop_rule
    (fun d τ h => ∃ k : Nat, k + d = l.length ∧ τ 0 = .slice b 0 l.length ∧ τ 1 = .int .i64 (k0 + k) ∧ τ 5 = .int .i64 k ∧ Ko lo hi H h ∧ h.next = H.next ∧ h.get b = some (.cells 5 false (u8L (marks k0 k ++ l.drop k))))
    (fun e τ h => e = .exit 0 ∧ τ 1 = .int .i64 (k0 + l.length) ∧ Ko lo hi H h ∧ h.next = H.next ∧ h.get b = some (.cells 5 false (u8L (marks k0 l.length))))
    ?_ (d := l.length) ⟨0, Nat.zero_add _, t0, by simp [t1], t3, ⟨Nat.le_refl _, fun _ _ _ => rfl⟩, rfl, by simpa [marks] using hb⟩ (by omega)
  rintro d τ h ⟨k, hk, t0, t1, t3, hK, hN, hg⟩
  by_cases hd : d = 0
  · subst hd
    have : k = l.length := by omega
    subst this
    rewrite [lp44_26]
    simp [Try.f44, t0, t1, t3]
    exact ⟨hK, hN, by simpa using hg⟩
  · have hlt : k < l.length := by omega
    have hd0 : 1 ≤ d := by omega
    have hix : idxA Try.prog 34 (.slice b 0 l.length) (.int .i64 k) = some (.ptr b k) := by simp [idxA, hlt]
    have hst := st_one (P := Try.prog) (t := 5) (o := k) (v := .int .u8 ((k0 + k) % 256)) hg (by simp) rfl (by simp [u8L, marks_len]; omega)
    rewrite [lp44_26]
    simp [Try.f44, t0, t1, t3, hlt, hix, hst, convA, wrap_u8, wrap_i64 (n := (k : Int) + 1) (by omega) (by omega), wrap_i64 (n := k0 + (k : Int) + 1) (by omega) (by omega)]
    refine ⟨d - 1, by omega, k + 1, by omega, by simp; omega, by simp, ⟨hK.next, fun c hc hcc => ?_⟩, hN, ?_⟩
    · rw [AH.set_get, if_neg (by omega)]; exact hK.get c hc hcc
    · obtain ⟨q, rfl⟩ : ∃ q, d = q + 1 := ⟨d - 1, by omega⟩
      rw [marks_succ]
      have hml : (marks k0 k).length = k := marks_len _ _
      simp [u8L, List.set_append_right, hml]
      rw [List.drop_eq_getElem_cons (by simpa using hlt)]
      simp
theorem markByteS_ev {lo hi : Nat} {s : AV} {l : List Int} {H : AH} (h : Ow lo hi H s l) (hl : l.length ≤ 70368744177664) (k0 : Int) (hk0 : 0 ≤ k0) (hk1 : k0 ≤ 70368744177664) (m : Nat) (hm : l.length + 2 ≤ m) :
    ∃ H', ev Try.prog m 44 [s, .int .i64 k0] H = some (.int .i64 (k0 + l.length), H') ∧ Ko lo hi H H' ∧ H'.next = H.next ∧ Ow lo hi H' s (marks k0 l.length) := by
  obtain ⟨m, rfl⟩ : ∃ k, m = k + 1 := ⟨m - 1, by omega⟩
  rcases h with ⟨rfl, rfl⟩ | ⟨b, h1, h2, h3, rfl, h4⟩
  · refine ⟨H, ?_, ⟨Nat.le_refl _, fun _ _ _ => rfl⟩, rfl, .inl ⟨rfl, rfl⟩⟩
    rw [ev_eq Try.func44 ok44 m _ H (by simp [Try.f44])]
    simp [Try.f44]
    generalize hL : evLoop _ _ _ _ _ _ = R
    obtain ⟨e, τ', H', rfl, rfl, rfl, g⟩ := loop_at hL (loop_rule (d := 0) (fun d τ h => h = H ∧ τ 0 = .nilSlice ∧ τ 1 = .int .i64 k0 ∧ τ 5 = .int .i64 0) (fun e τ h => e = .exit 0 ∧ h = H ∧ τ 1 = .int .i64 k0)
      (by
        rintro d τ h ⟨rfl, t0, t1, t5⟩
        rewrite [lp44_26]
        simp [Try.f44, t0, t1, t5]) ⟨rfl, by simp, by simp, by simp⟩ (by simp at hm; omega))
    simp [g]
  · rw [ev_eq Try.func44 ok44 m _ H (by simp [Try.f44])]
    simp [Try.f44]
    generalize hL : evLoop _ _ _ _ _ _ = R
    obtain ⟨e, τ', H', rfl, rfl, g1, g2, g3, g4⟩ := loop_at hL (Ow.mark_loop h4 (by omega) h1 h2 hl k0 hk0 hk1 _ m (by omega) _ (by simp) (by simp) (by simp))
    simp [g1]
    exact ⟨g2, g3, .inr ⟨b, h1, h2, by omega, by simp [marks_len], g4⟩⟩
theorem heldByteS_ev {s : AV} {H : AH} (k0 : Int) (n : Nat) (h : Bs H s (marks k0 n)) (hl : n ≤ 70368744177664) (hk0 : 0 ≤ k0) (hk1 : k0 ≤ 70368744177664) (m : Nat) (hm : n + 2 ≤ m) :
    ev Try.prog m 129 [s, .int .i64 k0] H = some (.int .i64 (k0 + n), H) := by
  obtain ⟨m, rfl⟩ : ∃ k, m = k + 1 := ⟨m - 1, by omega⟩
  rw [ev_eq Try.func129 ok129 m _ H (by simp [Try.f129])]
  simp [Try.f129]
  generalize hL : evLoop _ _ _ _ _ _ = R
  obtain ⟨e, τ', H', rfl, rfl, rfl, g⟩ := loop_at hL (loop_rule (d := n) (fun d τ h => h = H ∧ ∃ k : Nat, k + d = n ∧ τ 0 = s ∧ τ 1 = .int .i64 (k0 + k) ∧ τ 5 = .int .i64 k) (fun e τ h => e = .exit 0 ∧ h = H ∧ τ 1 = .int .i64 (k0 + n))
    (by
      rintro d τ h' ⟨rfl, k, hk, t0, t1, t5⟩
      obtain ⟨b, o, a1, a2, a3⟩ := h.at_
      simp only [marks_len] at a1 a2 a3
      by_cases hd : d = 0
      · subst hd
        have : k = n := by omega
        subst this
        rewrite [lp129_26]
        simp [Try.f129, t0, t1, t5, h.len, marks_len]
      · have hlt : k < n := by omega
        have hd0 : 1 ≤ d := by omega
        rewrite [lp129_26]
        simp [Try.f129, t0, t1, t5, h.len, marks_len, hlt, a2 k hlt, a3 h' rfl k hlt, marks_get, convA, wrap_u8, wrap_i64 (n := (k : Int) + 1) (by omega) (by omega), wrap_i64 (n := k0 + (k : Int) + 1) (by omega) (by omega)]
        exact ⟨d - 1, by omega, k + 1, by omega, by simp; omega, by simp⟩) ⟨rfl, 0, by simp, by simp, by simp, by simp⟩ (by omega))
  simp [g]

theorem Bs.kp {H H' : AH} {s : AV} {l : List Int} (h : Bs H s l) (hK : Kp H H') : Bs H' s l := Sl.kp h hK
theorem Bs.nil (H : AH) : Bs H .nilSlice [] := ⟨by simp, by simp, by simp, .inl ⟨rfl, rfl⟩⟩
theorem Ow.kp {lo hi : Nat} {H H' : AH} {s : AV} {l : List Int} (h : Ow lo hi H s l) (hK : Kp H H') : Ow lo hi H' s l := by
  rcases h with h | ⟨b, h1, h2, h3, h4, h5⟩
  · exact .inl h
  · exact .inr ⟨b, h1, h2, Nat.le_trans h3 hK.next, h4, by rw [hK.get b (by omega)]; exact h5⟩
theorem Ow.ko {lo hi lo' hi' : Nat} {H H' : AH} {s : AV} {l : List Int} (h : Ow lo hi H s l) (hK : Ko lo' hi' H H') (hd : hi ≤ lo' ∨ hi' ≤ lo) : Ow lo hi H' s l := by
  rcases h with h | ⟨b, h1, h2, h3, h4, h5⟩
  · exact .inl h
  · exact .inr ⟨b, h1, h2, Nat.le_trans h3 hK.next, h4, by rw [hK.get b (by omega) (by omega)]; exact h5⟩
theorem Ow.wide {lo hi lo' hi' : Nat} {H : AH} {s : AV} {l : List Int} (h : Ow lo hi H s l) (h1 : lo' ≤ lo) (h2 : hi ≤ hi') (h3 : hi' ≤ H.next) : Ow lo' hi' H s l := by
  rcases h with h | ⟨b, g1, g2, g3, g4, g5⟩
  · exact .inl h
  · exact .inr ⟨b, by omega, by omega, h3, g4, g5⟩
theorem Ko.kp {lo hi : Nat} {A H H' : AH} (h : Kp A H) (k : Ko lo hi H H') (hlo : A.next ≤ lo) : Kp A H' :=
  ⟨Nat.le_trans h.next k.next, fun b hb => by rw [k.get b (by have := h.next; omega) (by omega)]; exact h.get b hb⟩

theorem appBytes {H : AH} {s : AV} {l : List Int} (hs : Bs H s l) (hl : l.length ≤ 70368744177664) {h : AH} (hK : Kp H h) :
    ∃ r H', appA Try.prog 34 34 (.slice h.next 0 0) s (h.push (.cells 5 false [])) = some (r, H') ∧ Kp h H' ∧ Ow h.next H'.next H' r l := by
  have hs' : Bs (h.push (.cells 5 false [])) s l := hs.kp (hK.push _)
  have hn := hs'.news
  rw [u8L_len] at hn
  unfold appA
  simp only [tyE34, tyS5, tyB5, tyZ5, hn]
  by_cases h0 : l.length = 0
  · have : l = [] := List.eq_nil_of_length_eq_zero h0
    subst this
    refine ⟨_, _, rfl, (Kp.refl h).push _, .inr ⟨h.next, Nat.le_refl _, by simp, Nat.le_refl _, rfl, by simp [u8L]⟩⟩
  · simp [h0, hl]
    refine ⟨_, _, ⟨rfl, rfl⟩, ?_, .inr ⟨h.next + 1, by omega, by simp, by simp, rfl, by simp⟩⟩
    exact (((Kp.refl h).push _).kill (Nat.le_refl _)).push _
theorem copied_ev {Hb H : AH} {s : AV} {l : List Int} (hs : Bs Hb s l) (hK : Kp Hb H) (hl : l.length ≤ 70368744177664) (m : Nat) (hm : 1 ≤ m) :
    ∃ r H', ev Try.prog m 163 [s] H = some (r, H') ∧ Kp H H' ∧ Ow H.next H'.next H' r l := by
  obtain ⟨m, rfl⟩ : ∃ k, m = k + 1 := ⟨m - 1, by omega⟩
  obtain ⟨r, H', h1, h2, h3⟩ := appBytes hs hl hK
  refine ⟨r, H', ?_, h2, h3⟩
  rw [ev_eq Try.func163 ok163 m _ H (by simp [Try.f163])]
  simp [Try.f163, h1]
theorem l03Copy_ev {Hb H : AH} {s : AV} {l : List Int} (hs : Bs Hb s l) (hK : Kp Hb H) (hl : l.length ≤ 70368744177664) (m : Nat) (hm : 1 ≤ m) :
    ∃ r H', ev Try.prog m 153 [s] H = some (r, H') ∧ Kp H H' ∧ Ow H.next H'.next H' r l := by
  obtain ⟨m, rfl⟩ : ∃ k, m = k + 1 := ⟨m - 1, by omega⟩
  obtain ⟨r, H', h1, h2, h3⟩ := appBytes hs hl hK
  refine ⟨r, H', ?_, h2, h3⟩
  rw [ev_eq Try.func153 ok153 m _ H (by simp [Try.f153])]
  simp [Try.f153, h1]
theorem tooLong_ev {H : AH} {s : AV} {l : List Int} (hs : Bs H s l) (h : AH) (m : Nat) (hm : 1 ≤ m) :
    ev Try.prog m 125 [s] h = some (.bool (decide (65536 < (l.length : Int))), h) := by
  obtain ⟨m, rfl⟩ : ∃ k, m = k + 1 := ⟨m - 1, by omega⟩
  rw [ev_eq Try.func125 ok125 m _ h (by simp [Try.f125])]
  simp [Try.f125, hs.len]


/-- the number of some bytes, the highest first -/
def valP (l : List Int) : Int := l.foldl (fun v x => v * 256 + x) 0
def By (l : List Int) : Prop := ∀ x ∈ l, 0 ≤ x ∧ x < 256
theorem valP_snoc (l : List Int) (x : Int) : valP (l ++ [x]) = valP l * 256 + x := by simp [valP]
theorem valF_lt : ∀ (l : List Int) (v : Int), By l → 0 ≤ v → 0 ≤ l.foldl (fun v x => v * 256 + x) v ∧ l.foldl (fun v x => v * 256 + x) v < (v + 1) * 256 ^ l.length
  | [], v, _, hv => by simp; omega
  | x :: l, v, h, hv => by
    have h2 := h x (by simp)
    have h1 := valF_lt l (v * 256 + x) (fun y hy => h y (by simp [hy])) (by omega)
    refine ⟨h1.1, Int.lt_of_lt_of_le h1.2 ?_⟩
    rw [List.length_cons, Int.pow_succ]
    have h3 : (0 : Int) ≤ 256 ^ l.length := Int.pow_nonneg (by decide)
    have h4 : (v * 256 + x + 1) * 256 ^ l.length ≤ ((v + 1) * 256) * 256 ^ l.length := Int.mul_le_mul_of_nonneg_right (by omega) h3
    have h5 : (v + 1) * (256 ^ l.length * 256) = ((v + 1) * 256) * 256 ^ l.length := by rw [Int.mul_comm (256 ^ l.length) 256, Int.mul_assoc]
    rw [h5]; exact h4
theorem valP_lt (l : List Int) (h : By l) : 0 ≤ valP l ∧ valP l < 256 ^ l.length := by
  have := valF_lt l 0 h (by omega)
  unfold valP
  simpa using this
theorem By.take {l : List Int} (h : By l) (k : Nat) : By (l.take k) := fun x hx => h x (List.mem_of_mem_take hx)
theorem By.drop {l : List Int} (h : By l) (k : Nat) : By (l.drop k) := fun x hx => h x (List.mem_of_mem_drop hx)
theorem By.at_ {l : List Int} (h : By l) (k : Nat) (hk : k < l.length) : 0 ≤ l[k] ∧ l[k] < 256 := h _ (List.getElem_mem hk)
theorem valP_take_lt {l : List Int} (h : By l) (k n : Nat) (hk : k ≤ n) : 0 ≤ valP (l.take k) ∧ valP (l.take k) < 256 ^ n := by
  have h1 := valP_lt _ (h.take k)
  refine ⟨h1.1, Int.lt_of_lt_of_le h1.2 ?_⟩
  have : (256 : Nat) ^ (l.take k).length ≤ 256 ^ n := Nat.pow_le_pow_right (by omega) (by simp; omega)
  have h3 := Int.ofNat_le.mpr this
  rw [Int.natCast_pow, Int.natCast_pow] at h3
  exact h3
theorem valP_take_succ {l : List Int} (k : Nat) (hk : k < l.length) : valP (l.take (k + 1)) = valP (l.take k) * 256 + l[k] := by
  rw [List.take_add_one, List.getElem?_eq_getElem hk]; exact valP_snoc _ _


abbrev tB : Ty := .sl 5 (.int .u8)
theorem u8_mm : IntKind.min .u8 = 0 ∧ IntKind.max .u8 = 255 := by decide
theorem By.iff (l : List Int) : By l ↔ ∀ d ∈ l, IntKind.min .u8 ≤ d ∧ d ≤ IntKind.max .u8 := by
  rw [u8_mm.1, u8_mm.2]
  constructor
  · intro h d hd; have := h d hd; omega
  · intro h d hd; have := h d hd; omega
theorem tB_bs {H : AH} {s : AV} {l : List Int} {rw : Bool} {bs : List Nat} (h : tB.R rw H [s] l bs) : Bs H s l ∧ By l := by
  rcases h with ⟨h1, h2, h3⟩ | ⟨b, o, ro, xs, b', h1, h2, h3, h4, h5, h6, h7⟩
  · simp only [List.cons.injEq, and_true] at h1; subst h1 h2
    exact ⟨Bs.nil _, by simp [By]⟩
  · simp only [List.cons.injEq, and_true] at h1; subst h1
    simp only [Ty.n, Nat.mul_one] at h6 h7
    obtain ⟨g1, g2, g3⟩ := rows_int.1 h7
    refine ⟨⟨by simp, by simp, by simp, .inr ⟨b, o, ro, xs, by simp [u8L], h3, h4, by simpa [u8L] using h6, by simpa [u8L] using g1⟩⟩, (By.iff l).2 g3⟩
theorem bs_tB {H : AH} {s : AV} {l : List Int} (h : Bs H s l) (hb : By l) : ∃ bs, tB.R false H [s] l bs := by
  rcases h.lie with ⟨rfl, h2⟩ | ⟨b, o, ro, xs, rfl, hn, hb', hl, hx⟩
  · have : l = [] := by simpa [u8L] using h2
    subst this
    exact ⟨[], .inl ⟨rfl, rfl, rfl⟩⟩
  · simp only [u8L_len] at *
    refine ⟨[b], .inr ⟨b, o, ro, xs, [], rfl, rfl, hn, hb', by simp, by simpa [Ty.n] using hl, ?_⟩⟩
    simp only [Ty.n, Nat.mul_one]
    exact rows_int.2 ⟨hx, rfl, (By.iff l).1 hb⟩
theorem tB_one {H : AH} {s : AV} {l : List Int} {bs : List Nat} (h : tB.R true H [s] l bs) : (s = .nilSlice ∧ l = [] ∧ bs = []) ∨ ∃ b, bs = [b] ∧ s = .slice b 0 l.length ∧ b < H.next ∧ H.get b = some (.cells 5 false (u8L l)) := by
  rcases h with ⟨h1, h2, h3⟩ | ⟨b, o, ro, xs, b', h1, h2, h3, h4, h5, h6, h7⟩
  · simp only [List.cons.injEq, and_true] at h1; subst h1 h2 h3
    exact .inl ⟨rfl, rfl, rfl⟩
  · simp only [List.cons.injEq, and_true] at h1; subst h1
    obtain ⟨rfl, rfl, hw⟩ := h5 rfl
    simp only [Ty.n, Nat.mul_one] at h6 h7 hw
    obtain ⟨g1, g2, g3⟩ := rows_int.1 h7
    rw [List.drop_zero, ← hw, List.take_length] at g1
    subst g1 g2
    exact .inr ⟨b, by rw [h2], rfl, h3, h4⟩
theorem one_tB {H : AH} {l : List Int} {b : Nat} (hn : b < H.next) (hg : H.get b = some (.cells 5 false (u8L l))) (hb : By l) : tB.R true H [.slice b 0 l.length] l [b] := by
  refine .inr ⟨b, 0, false, u8L l, [], rfl, rfl, hn, hg, fun _ => ⟨rfl, rfl, by simp [u8L, Ty.n]⟩, by simp [u8L, Ty.n], ?_⟩
  simp only [Ty.n, Nat.mul_one, List.drop_zero]
  have : (u8L l).take l.length = u8L l := by rw [← u8L_len, List.take_length]
  rw [this]
  exact rows_int.2 ⟨rfl, rfl, (By.iff l).1 hb⟩
theorem ow_tB {lo hi : Nat} {H : AH} {s : AV} {l : List Int} (h : Ow lo hi H s l) (hb : By l) : ∃ bs, tB.R true H [s] l bs ∧ bs.Nodup ∧ ∀ b ∈ bs, lo ≤ b ∧ b < hi := by
  rcases h with ⟨rfl, rfl⟩ | ⟨b, h1, h2, h3, rfl, h4⟩
  · exact ⟨[], .inl ⟨rfl, rfl, rfl⟩, by simp, by simp⟩
  · exact ⟨[b], one_tB (by omega) h4 hb, by simp, by simp; omega⟩
theorem marks_by (k : Int) (n : Nat) : By (marks k n) := by
  intro x hx
  simp only [marks, List.mem_map] at hx
  obtain ⟨i, _, rfl⟩ := hx
  omega
theorem mk_tB : ∀ (l : List Int) (k : Int), tB.mk false k l = marks k l.length
  | [], k => rfl
  | d :: l, k => by
    have h := mk_tB l (k + 1)
    have e : tB.mk false k (d :: l) = (k % 256) :: tB.mk false (k + 1) l := by
      show mkRow _ _ _ _ = _
      simp only [mkRow, Ty.mk, Ty.cnt]
      simp [IntKind.wrap_u8]
    rw [e, h, List.length_cons, marks, marks, List.range_succ_eq_map]
    simp
    intro a _; congr 1; omega
theorem cnt_tB (l : List Int) : tB.cnt false l = l.length := cnt_int _ l
/-- markByteS -/
theorem markB {H : AH} {s : AV} {l : List Int} {bs : List Nat} (h : tB.R true H [s] l bs) (hl : l.length ≤ 70368744177664) (k : Int) (hk0 : 0 ≤ k) (hk1 : k ≤ 70368744177664) (m : Nat) (hm : l.length + 2 ≤ m) :
    ∃ H', ev Try.prog m 44 [s, .int .i64 k] H = some (.int .i64 (k + (tB.cnt false l : Nat)), H') ∧ KoL bs H H' ∧ tB.R true H' [s] (tB.mk false k l) bs := by
  rw [mk_tB, cnt_tB]
  rcases tB_one h with ⟨rfl, rfl, rfl⟩ | ⟨b, rfl, rfl, hn, hg⟩
  · obtain ⟨H', g1, g2, g3, g4⟩ := markByteS_ev (lo := H.next) (hi := H.next) (H := H) (s := .nilSlice) (l := []) (.inl ⟨rfl, rfl⟩) (by simp) k hk0 hk1 m hm
    exact ⟨H', g1, ⟨g3, fun b hb _ => g2.get b hb (by omega)⟩, .inl ⟨rfl, rfl, rfl⟩⟩
  · obtain ⟨H', g1, g2, g3, g4⟩ := markByteS_ev (lo := b) (hi := b + 1) (.inr ⟨b, Nat.le_refl _, by omega, by omega, rfl, hg⟩) hl k hk0 hk1 m hm
    refine ⟨H', g1, ⟨g3, fun c hc hcb => g2.get c hc (by simp at hcb; omega)⟩, ?_⟩
    rcases g4 with ⟨e1, e2⟩ | ⟨b', q1, q2, q3, q4, q5⟩
    · simp at e1
    · have : b' = b := by omega
      subst this
      have := one_tB (by omega) q5 (marks_by _ _)
      rw [marks_len] at this
      exact this
/-- heldByteS -/
theorem heldB {H : AH} {s : AV} {l : List Int} {bs : List Nat} {rw : Bool} {k : Int} (h : tB.R rw H [s] (tB.mk false k l) bs) (hl : l.length ≤ 70368744177664) (hk0 : 0 ≤ k) (hk1 : k ≤ 70368744177664) (m : Nat) (hm : l.length + 2 ≤ m) :
    ev Try.prog m 129 [s, .int .i64 k] H = some (.int .i64 (k + (tB.cnt false l : Nat)), H) := by
  rw [mk_tB] at h
  rw [cnt_tB]
  exact heldByteS_ev k l.length (tB_bs h).1 hl hk0 hk1 m hm
theorem eqB {H : AH} {s1 s2 : AV} {l1 l2 : List Int} {b1 b2 : List Nat} {r1 r2 : Bool} (h1 : tB.R r1 H [s1] l1 b1) (h2 : tB.R r2 H [s2] l2 b2) (hl : l1.length ≤ 70368744177664) (m : Nat) (hm : l1.length + 2 ≤ m) :
    ev Try.prog m 43 [s1, s2] H = some (.bool (decide (l1 = l2)), H) := eqByteS_ev (tB_bs h1).1 (tB_bs h2).1 hl m hm
theorem toByteS_evm {s : AV} {l : List Int} {Hb H : AH} (hs : Bs Hb s l) (hK : Kp Hb H) (hl : l.length ≤ 1048576) (m : Nat) (hm : l.length + 2 ≤ m) :
    ∃ r H', ev Try.prog m 40 [s] H = some (r, H') ∧ Kp H H' ∧ Ow H.next H'.next H' r l := by
  obtain ⟨m, rfl⟩ : ∃ k, m = k + 1 := ⟨m - 1, by omega⟩
  obtain ⟨H', h1, h2, h3, h4⟩ := toByteS_ev (hs.kp hK) (by omega) m (by omega)
  exact ⟨_, H', h1, h2, .inr ⟨H.next, Nat.le_refl _, by omega, Nat.le_refl _, rfl, h4⟩⟩
/-- toByteS, by kinds -/
theorem toB {s : AV} {l : List Int} {Hb H : AH} (hs : Bs Hb s l) (hb : By l) (hK : Kp Hb H) (hl : l.length ≤ 1048576) (m : Nat) (hm : l.length + 2 ≤ m) :
    ∃ r H' bs, ev Try.prog m 40 [s] H = some (r, H') ∧ Kp H H' ∧ tB.R true H' [r] l bs ∧ bs.Nodup ∧ ∀ b ∈ bs, H.next ≤ b := by
  obtain ⟨r, H', h1, h2, h3⟩ := toByteS_evm hs hK hl m hm
  obtain ⟨bs, g1, g2, g3⟩ := ow_tB h3 hb
  exact ⟨r, H', bs, h1, h2, g1, g2, fun b hb => (g3 b hb).1⟩
theorem cntL_take_succ {α : Type} (c : α → Nat) (l : List α) (k : Nat) (hk : k < l.length) : cntL c (l.take (k + 1)) = cntL c (l.take k) + c l[k] := by
  rw [List.take_add_one, List.getElem?_eq_getElem hk, cntL_app]; simp [cntL]
theorem cntL_take_le {α : Type} (c : α → Nat) (l : List α) (k : Nat) : cntL c (l.take k) ≤ cntL c l := by
  conv => rhs; rw [← List.take_append_drop k l]
  rw [cntL_app]; omega
theorem mkRow_set {α : Type} (f : Int → α → α) (c : α → Nat) (k0 : Int) (l : List α) (k : Nat) (hk : k < l.length) :
    (mkRow f c k0 (l.take k) ++ l.drop k).set k (f (k0 + (cntL c (l.take k) : Nat)) l[k]) = mkRow f c k0 (l.take (k + 1)) ++ l.drop (k + 1) := by
  have hl : (mkRow f c k0 (l.take k)).length = k := by rw [mkRow_len]; simp; omega
  rw [List.set_append_right _ _ (by omega), hl, Nat.sub_self, List.drop_eq_getElem_cons hk, List.set_cons_zero, List.take_add_one, List.getElem?_eq_getElem hk, mkRow_app]
  simp [mkRow]
theorem mkRow_at {α : Type} (f : Int → α → α) (c : α → Nat) (k0 : Int) (l : List α) (k : Nat) (hk : k < l.length) (hk' : k < (mkRow f c k0 (l.take k) ++ l.drop k).length) : (mkRow f c k0 (l.take k) ++ l.drop k)[k] = l[k] := by
  have hl : (mkRow f c k0 (l.take k)).length = k := by rw [mkRow_len]; simp; omega
  rw [List.getElem_append_right (by omega)]
  simp [hl]
theorem mkRow_get {α : Type} (f : Int → α → α) (c : α → Nat) : ∀ (l : List α) (k0 : Int) (k : Nat) (hk : k < l.length) (hk' : k < (mkRow f c k0 l).length), (mkRow f c k0 l)[k] = f (k0 + (cntL c (l.take k) : Nat)) l[k]
  | d :: l, k0, 0, hk, hk' => by simp [mkRow, cntL]
  | d :: l, k0, k + 1, hk, hk' => by
    simp only [mkRow, List.getElem_cons_succ]
    rw [mkRow_get f c l (k0 + c d) k (by simpa using hk)]
    simp only [List.take_succ_cons, cntL]
    congr 1; push_cast; omega

end Go.Ev

/- Bits: some laws of whole numbers. -/
namespace Go.Ev
open Go Go.RowKit
theorem or_byte {u x : Int} (hu : 0 ≤ u) (hu2 : u < 72057594037927936) (hx : 0 ≤ x) (hx2 : x < 256) : bits .or .u64 (u * 256) x = u * 256 + x := by
  obtain ⟨a, rfl⟩ := Int.eq_ofNat_of_zero_le hu
  obtain ⟨b, rfl⟩ := Int.eq_ofNat_of_zero_le hx
  have h := bits_or_u64_nat (2 ^ 8 * a) b (by omega) (by omega)
  rw [← Nat.two_pow_add_eq_or_of_lt (by omega : b < 2 ^ 8)] at h
  have e1 : ((2 ^ 8 * a : Nat) : Int) = (a : Int) * 256 := by omega
  rw [e1] at h
  rw [h]; omega
theorem and_mask {v : Int} (k : Nat) (hk : k ≤ 62) : bits .and .i64 v (2 ^ k - 1) = v % 2 ^ k := by
  have hm : ((2 : Int) ^ k - 1) = ((2 ^ k - 1 : Nat) : Int) := by
    have : 1 ≤ 2 ^ k := Nat.one_le_two_pow
    rw [Int.ofNat_sub this]; simp
  show IntKind.i64.wrap ((BitVec.ofInt 64 v &&& BitVec.ofInt 64 (2 ^ k - 1)).toNat : Int) = _
  have h2 : (BitVec.ofInt 64 (2 ^ k - 1)).toNat = 2 ^ k - 1 := by
    rw [hm, BitVec.ofInt_natCast, BitVec.toNat_ofNat]
    refine Nat.mod_eq_of_lt ?_
    have : 2 ^ k ≤ 2 ^ 62 := Nat.pow_le_pow_right (by omega) hk
    omega
  rw [BitVec.toNat_and, h2, Nat.and_two_pow_sub_one_eq_mod]
  have h3 : ((BitVec.ofInt 64 v).toNat : Int) = v % 18446744073709551616 := by
    rw [BitVec.toNat_ofInt]
    have := Int.emod_nonneg v (by decide : (18446744073709551616 : Int) ≠ 0)
    simp
    omega
  have hp : (2 : Int) ^ k ≤ 2 ^ 62 := by
    have : 2 ^ k ≤ 2 ^ 62 := Nat.pow_le_pow_right (by omega) hk
    exact_mod_cast this
  have hp0 : (0 : Int) < 2 ^ k := by
    have : 0 < 2 ^ k := Nat.two_pow_pos k
    exact_mod_cast this
  have h4 : ((((BitVec.ofInt 64 v).toNat % 2 ^ k : Nat)) : Int) = v % 2 ^ k := by
    rw [Int.natCast_emod, h3]
    have hd : (2 : Int) ^ k ∣ 18446744073709551616 := by
      have : (18446744073709551616 : Int) = 2 ^ k * 2 ^ (64 - k) := by
        rw [← Int.pow_add, show k + (64 - k) = 64 by omega]; rfl
      exact ⟨_, this⟩
    have hc : ((2 ^ k : Nat) : Int) = (2 : Int) ^ k := by norm_cast
    rw [hc]
    exact Int.emod_emod_of_dvd _ hd
  rw [h4, IntKind.wrap_i64]
  have h5 := Int.emod_nonneg v (Int.ne_of_gt hp0)
  have h6 := Int.emod_lt_of_pos v hp0
  have h7 : (2 : Int) ^ 62 = 4611686018427387904 := by decide
  omega
theorem and_m6 (v : Int) : bits .and .i64 (IntKind.i64.wrap v) 63 = v % 64 := by
  rw [show (63 : Int) = 2 ^ 6 - 1 by decide, and_mask 6 (by decide), IntKind.wrap_i64]; omega
theorem and_m14 (v : Int) : bits .and .i64 (IntKind.i64.wrap v) 16383 = v % 16384 := by
  rw [show (16383 : Int) = 2 ^ 14 - 1 by decide, and_mask 14 (by decide), IntKind.wrap_i64]; omega
theorem and_m30 (v : Int) : bits .and .i64 (IntKind.i64.wrap v) 1073741823 = v % 1073741824 := by
  rw [show (1073741823 : Int) = 2 ^ 30 - 1 by decide, and_mask 30 (by decide), IntKind.wrap_i64]; omega
theorem and_m62 (v : Int) : bits .and .i64 (IntKind.i64.wrap v) 4611686018427387903 = v % 4611686018427387904 := by
  rw [show (4611686018427387903 : Int) = 2 ^ 62 - 1 by decide, and_mask 62 (by decide), IntKind.wrap_i64]; omega
end Go.Ev

/- Numbers of bytes: seat a's text with this seat's numbers (port.py). -/
namespace Go.Ev
open Go Go.Proofs
set_option linter.unusedSimpArgs false
set_option linter.unusedVariables false
theorem unfixed_ev {Hb H : AH} {s : AV} {l : List Int} (hs : Bs Hb s l) (hK : Kp Hb H) (hb : By l) (hl : l.length ≤ 8) (m : Nat) (hm : 10 ≤ m) :
    ev Try.prog m 162 [s] H = some (.int .i64 (IntKind.i64.wrap (valP l)), H) := by
  obtain ⟨m, rfl⟩ : ∃ k, m = k + 1 := ⟨m - 1, by omega⟩
  have hs := hs.kp hK
  rw [ev_eq Try.func162 ok162 m _ H (by simp [Try.f162])]
  simp [Try.f162, hs.len]
  generalize hL : evLoop _ _ _ _ _ _ = R
  obtain ⟨e, τ', H', rfl, rfl, rfl, g⟩ := loop_at hL (loop_rule (d := l.length) (fun d τ h => h = H ∧ ∃ k : Nat, k + d = l.length ∧ τ 6 = s ∧ τ 7 = .int .i64 l.length ∧ τ 8 = .int .i64 k ∧ τ 3 = .int .u64 (valP (l.take k))) (fun e τ h => e = .exit 0 ∧ h = H ∧ τ 3 = .int .u64 (valP l))
    (by
      rintro d τ h' ⟨rfl, k, hk, t6, t7, t8, t3⟩
      obtain ⟨b, o, a1, a2, a3⟩ := hs.at_
      by_cases hd : d = 0
      · subst hd
        have : k = l.length := by omega
        subst this
        rewrite [lp162_58]
        simp [Try.f162, t6, t7, t8, t3]
      · have hlt : k < l.length := by omega
        have hd0 : 1 ≤ d := by omega
        have hv := valP_take_lt hb k 7 (by omega)
        have hx := hb.at_ k hlt
        have w1 : IntKind.u64.wrap (valP (l.take k) * 256) = valP (l.take k) * 256 := by rw [IntKind.wrap_u64]; omega
        have w2 : IntKind.u64.wrap l[k] = l[k] := by rw [IntKind.wrap_u64]; omega
        have w3 := or_byte (u := valP (l.take k)) (x := l[k]) hv.1 (by simpa using hv.2) hx.1 hx.2
        rewrite [lp162_58]
        simp [Try.f162, t6, t7, t8, t3, hlt, a2 k hlt, a3 h' rfl k hlt, convA, IntKind.bits, w1, w2, w3, wrap_i64 (n := (k : Int) + 1) (by omega) (by omega)]
        exact ⟨d - 1, by omega, k + 1, by omega, by simp, by rw [valP_take_succ k hlt]⟩) ⟨rfl, 0, by simp, by simp, by simp, by simp, by simp [valP]⟩ (by omega))
  simp [g, convA]
theorem l01Value_ev {Hb H : AH} {s : AV} {l : List Int} (hs : Bs Hb s l) (hK : Kp Hb H) (hb : By l) (hl : l.length ≤ 4) (m : Nat) (hm : 10 ≤ m) :
    ev Try.prog m 214 [s] H = some (.int .i64 (valP l), H) := by
  obtain ⟨m, rfl⟩ : ∃ k, m = k + 1 := ⟨m - 1, by omega⟩
  have hs := hs.kp hK
  rw [ev_eq Try.func214 ok214 m _ H (by simp [Try.f214])]
  simp [Try.f214]
  generalize hL : evLoop _ _ _ _ _ _ = R
  obtain ⟨e, τ', H', rfl, rfl, rfl, g⟩ := loop_at hL (loop_rule (d := l.length) (fun d τ h => h = H ∧ ∃ k : Nat, k + d = l.length ∧ τ 0 = s ∧ τ 4 = .int .i64 k ∧ τ 3 = .int .i64 (valP (l.take k))) (fun e τ h => e = .exit 0 ∧ h = H ∧ τ 3 = .int .i64 (valP l))
    (by
      rintro d τ h' ⟨rfl, k, hk, t0, t4, t3⟩
      obtain ⟨b, o, a1, a2, a3⟩ := hs.at_
      by_cases hd : d = 0
      · subst hd
        have : k = l.length := by omega
        subst this
        rewrite [lp214_58]
        simp [Try.f214, t0, t4, t3, hs.len]
      · have hlt : k < l.length := by omega
        have hd0 : 1 ≤ d := by omega
        have hv := valP_take_lt hb k 3 (by omega)
        have hx := hb.at_ k hlt
        rewrite [lp214_58]
        simp [Try.f214, t0, t4, t3, hs.len, hlt, a2 k hlt, a3 h' rfl k hlt, convA, wrap_i64 (n := valP (l.take k) * 256) (by omega) (by omega), wrap_i64 (n := l[k]) (by omega) (by omega), wrap_i64 (n := valP (l.take k) * 256 + l[k]) (by omega) (by omega), wrap_i64 (n := (k : Int) + 1) (by omega) (by omega)]
        exact ⟨d - 1, by omega, k + 1, by omega, by simp, by rw [valP_take_succ k hlt]⟩) ⟨rfl, 0, by simp, by simp, by simp, by simp [valP]⟩ (by omega))
  simp [g]
end Go.Ev

/- The program's GetVar: seat a's text with this seat's numbers (port.py). -/
namespace Go.Ev
open Go Go.Proofs
set_option linter.unusedSimpArgs false
set_option linter.unusedVariables false

def gvN (x : Int) : Nat := 2 ^ (x / 64).toNat
/-- value, end, code -/
def getVarP (l : List Int) (at_ : Nat) : Int × Int × Int :=
  if at_ = l.length then (0, 0, 2)
  else if (l.length : Int) - at_ < gvN (l.getD at_ 0) then (0, 0, 2)
  else (valP ((l.drop at_).take (gvN (l.getD at_ 0))) % 2 ^ (8 * gvN (l.getD at_ 0) - 2), at_ + gvN (l.getD at_ 0), 0)

theorem valF_eq : ∀ (l : List Int) (v : Int), l.foldl (fun v x => v * 256 + x) v = v * 256 ^ l.length + valP l
  | [], v => by simp [valP]
  | x :: l, v => by
    have h1 := valF_eq l (v * 256 + x)
    have h2 := valF_eq l x
    have h3 : valP (x :: l) = l.foldl (fun v x => v * 256 + x) x := by simp [valP]
    rw [h3, h2, List.foldl_cons, h1, List.length_cons, Int.pow_succ, Int.add_mul, Int.mul_comm (256 ^ l.length) 256, ← Int.mul_assoc]
    omega
theorem valP_cons (x : Int) (l : List Int) : valP (x :: l) = x * 256 ^ l.length + valP l := by
  have h3 : valP (x :: l) = l.foldl (fun v x => v * 256 + x) x := by simp [valP]
  rw [h3, valF_eq]

theorem GetVarI_ev {Hb H : AH} {s : AV} {l : List Int} (hs : Bs Hb s l) (hK : Kp Hb H) (hb : By l) (hl : l.length ≤ 65536) (a : Nat) (ha : a ≤ l.length) (m : Nat) (hm : 20 ≤ m) :
    ev Try.prog m 187 [s, .int .i64 a] H = some (.tuple [.int .i64 (getVarP l a).1, .int .i64 (getVarP l a).2.1, .int .i64 (getVarP l a).2.2], H) := by
  obtain ⟨m, rfl⟩ : ∃ k, m = k + 1 := ⟨m - 1, by omega⟩
  have hs := hs.kp hK
  have c1 := tooLong_ev hs H m (by omega)
  have n1 : ¬ (65536 < (l.length : Int)) := by omega
  have n2 : ¬ ((a : Int) < 0) := by omega
  have n3 : ¬ ((l.length : Int) < a) := by omega
  simp only [n1, decide_false] at c1
  rw [ev_eq Try.func187 ok187 m _ H (by simp [Try.f187])]
  by_cases he : a = l.length
  · subst he
    simp [Try.f187, hs.len, c1, getVarP]
  · have hlt : a < l.length := by omega
    have he' : ¬ ((a : Int) = l.length) := by omega
    have hx := hb.at_ a hlt
    have hD : l.getD a 0 = l[a] := by simp [List.getD_eq_getElem?_getD, hlt]
    obtain ⟨b, o, a1, a2, a3⟩ := hs.at_
    obtain ⟨Q, hQ⟩ : ∃ Q : Nat, l[a] / 64 = Q := ⟨(l[a] / 64).toNat, by omega⟩
    have hf : l[a].fdiv 64 = Q := by rw [Int.fdiv_eq_ediv_of_nonneg _ (by decide)]; exact hQ
    have hN : gvN l[a] = 2 ^ Q := by unfold gvN; rw [hQ]; rfl
    have w0 : IntKind.i64.wrap ((l.length : Int) - a) = l.length - a := wrap_i64 (by omega) (by omega)
    have main : ∀ (n : Nat) (N : Int), N = n → (n = 1 ∨ n = 2 ∨ n = 4 ∨ n = 8) → ¬ ((l.length : Int) - a < N) → ∃ s', cutA Try.prog 34 s (some (some (.int .i64 a))) (some (some (.int .i64 (a + N)))) H = some s' ∧ ev Try.prog m 162 [s'] H = some (.int .i64 (IntKind.i64.wrap (valP ((l.drop a).take n))), H) := by
      intro n N hN hn hle
      subst hN
      obtain ⟨s', k1, k2⟩ := hs.cut a (a + n) (by omega) (by rw [u8L_len]; omega) (lo := some (some (.int .i64 a))) (hi := some (some (.int .i64 (a + n)))) (by simp) (by simp)
      refine ⟨s', k1, ?_⟩
      have k3 : Bs H s' ((l.drop a).take n) := by
        have : (List.take (a + n) (u8L l)).drop a = u8L ((l.drop a).take n) := by
          simp [u8L, List.drop_take]
        rw [this] at k2; exact k2
      exact unfixed_ev k3 (Kp.refl H) ((hb.drop a).take n) (by simp; omega) m (by omega)
    have hQ4 : Q = 0 ∨ Q = 1 ∨ Q = 2 ∨ Q = 3 := by omega
    simp only [getVarP, hD, hN, he]
    rcases hQ4 with rfl | rfl | rfl | rfl
    · by_cases hle : (l.length : Int) - a < 1
      · simp [Try.f187, hs.len, c1, n2, n3, he', hlt, a2 a hlt, a3 H rfl a hlt, hf, IntKind.bits, w0, hle, wrap_i64 (n := 1) (by omega) (by omega)]
      · obtain ⟨s', k1, k2⟩ := main 1 1 rfl (by omega) hle
        have w1 : IntKind.i64.wrap ((a : Int) + 1) = a + 1 := wrap_i64 (by omega) (by omega)
        simp [Try.f187, hs.len, c1, n2, n3, he', hlt, a2 a hlt, a3 H rfl a hlt, hf, IntKind.bits, w0, hle, wrap_i64 (n := 1) (by omega) (by omega), evHist, ObsOk, ObOk, w1, k1, k2, wrap_i64 (n := 8) (by omega) (by omega), wrap_i64 (n := 6) (by omega) (by omega), wrap_i64 (n := 64) (by omega) (by omega), wrap_i64 (n := 63) (by omega) (by omega), and_m6]
    · by_cases hle : (l.length : Int) - a < 2
      · simp [Try.f187, hs.len, c1, n2, n3, he', hlt, a2 a hlt, a3 H rfl a hlt, hf, IntKind.bits, w0, hle, wrap_i64 (n := 2) (by omega) (by omega)]
      · obtain ⟨s', k1, k2⟩ := main 2 2 rfl (by omega) hle
        have w1 : IntKind.i64.wrap ((a : Int) + 2) = a + 2 := wrap_i64 (by omega) (by omega)
        simp [Try.f187, hs.len, c1, n2, n3, he', hlt, a2 a hlt, a3 H rfl a hlt, hf, IntKind.bits, w0, hle, wrap_i64 (n := 2) (by omega) (by omega), evHist, ObsOk, ObOk, w1, k1, k2, wrap_i64 (n := 16) (by omega) (by omega), wrap_i64 (n := 14) (by omega) (by omega), wrap_i64 (n := 16384) (by omega) (by omega), wrap_i64 (n := 16383) (by omega) (by omega), and_m14]
    · by_cases hle : (l.length : Int) - a < 4
      · simp [Try.f187, hs.len, c1, n2, n3, he', hlt, a2 a hlt, a3 H rfl a hlt, hf, IntKind.bits, w0, hle, wrap_i64 (n := 4) (by omega) (by omega)]
      · obtain ⟨s', k1, k2⟩ := main 4 4 rfl (by omega) hle
        have w1 : IntKind.i64.wrap ((a : Int) + 4) = a + 4 := wrap_i64 (by omega) (by omega)
        simp [Try.f187, hs.len, c1, n2, n3, he', hlt, a2 a hlt, a3 H rfl a hlt, hf, IntKind.bits, w0, hle, wrap_i64 (n := 4) (by omega) (by omega), evHist, ObsOk, ObOk, w1, k1, k2, wrap_i64 (n := 32) (by omega) (by omega), wrap_i64 (n := 30) (by omega) (by omega), wrap_i64 (n := 1073741824) (by omega) (by omega), wrap_i64 (n := 1073741823) (by omega) (by omega), and_m30]
    · by_cases hle : (l.length : Int) - a < 8
      · simp [Try.f187, hs.len, c1, n2, n3, he', hlt, a2 a hlt, a3 H rfl a hlt, hf, IntKind.bits, w0, hle, wrap_i64 (n := 8) (by omega) (by omega)]
      · obtain ⟨s', k1, k2⟩ := main 8 8 rfl (by omega) hle
        have w1 : IntKind.i64.wrap ((a : Int) + 8) = a + 8 := wrap_i64 (by omega) (by omega)
        simp [Try.f187, hs.len, c1, n2, n3, he', hlt, a2 a hlt, a3 H rfl a hlt, hf, IntKind.bits, w0, hle, wrap_i64 (n := 8) (by omega) (by omega), evHist, ObsOk, ObOk, w1, k1, k2, wrap_i64 (n := 64) (by omega) (by omega), wrap_i64 (n := 62) (by omega) (by omega), wrap_i64 (n := 4611686018427387904) (by omega) (by omega), wrap_i64 (n := 4611686018427387903) (by omega) (by omega), and_m62]
end Go.Ev

/- The specification's GetVar: seat a's text with this seat's numbers (port.py). -/
namespace Go.Ev
open Go Go.Proofs
set_option linter.unusedSimpArgs false
set_option linter.unusedVariables false

theorem gv_loop1 (Q : Nat) (hQ : Q ≤ 3) (call : CallF) (m : Nat) (hm : 10 ≤ m) (τ : Tm) (H : AH) (t8 : τ 8 = .int .i64 Q) (t7 : τ 7 = .int .i64 1) (s a : AV) (t0 : τ 0 = s) (t1 : τ 1 = a) :
    ∃ e τ' H', evLoop Try.prog call m (lp Try.prog 271 506) τ H = some (e, τ', H') ∧ e = .exit 0 ∧ H' = H ∧ τ' 7 = .int .i64 (2 ^ Q : Nat) ∧ τ' 0 = s ∧ τ' 1 = a := by
  refine loop_rule (d := Q) (fun d τ h => h = H ∧ d ≤ Q ∧ τ 8 = .int .i64 d ∧ τ 7 = .int .i64 (2 ^ (Q - d) : Nat) ∧ τ 0 = s ∧ τ 1 = a) (fun e τ h => e = .exit 0 ∧ h = H ∧ τ 7 = .int .i64 (2 ^ Q : Nat) ∧ τ 0 = s ∧ τ 1 = a)
    ?_ ⟨rfl, Nat.le_refl _, t8, by simp [t7], t0, t1⟩ (by omega)
  rintro d τ h' ⟨rfl, hd, t8, t7, t0, t1⟩
  by_cases h0 : d = 0
  · subst h0
    rewrite [lp271_506]
    simp [Try.f271, t7, t8, t0, t1]
  · have h1 : 0 < d := by omega
    have hp : ((2 ^ (Q - (d - 1)) : Nat) : Int) = 2 * (2 ^ (Q - d) : Nat) := by
      rw [show Q - (d - 1) = (Q - d) + 1 by omega, Nat.pow_succ]; omega
    have hb : (2 ^ (Q - d) : Nat) ≤ 8 := by
      have : 2 ^ (Q - d) ≤ 2 ^ 3 := Nat.pow_le_pow_right (by omega) (by omega)
      omega
    have w2 : IntKind.i64.wrap ((d : Int) - 1) = (d - 1 : Nat) := by rw [wrap_i64 (by omega) (by omega)]; omega
    generalize hX : (2 ^ (Q - d) : Nat) = X at *
    generalize hY : (2 ^ (Q - (d - 1)) : Nat) = Y at *
    have w1 : IntKind.i64.wrap (2 * (X : Int)) = (Y : Int) := by rw [hp, wrap_i64 (by omega) (by omega)]
    rewrite [lp271_506]
    simp [Try.f271, t7, t8, t0, t1, h1, w1, w2]
    exact ⟨d - 1, by omega, by omega, rfl, by rw [← hY]; simp⟩
theorem gv_loop2 {s : AV} {l : List Int} {H : AH} (hs : Bs H s l) (hb : By l) (hl : l.length ≤ 65536) (a : Nat) (n : Nat) (hn1 : 1 ≤ n) (hn : n ≤ 8) (ha : a + n ≤ l.length) (x : Int) (hx0 : 0 ≤ x) (hx1 : x < 64) (call : CallF) (m : Nat) (hm : 10 ≤ m) (τ : Tm)
    (t0 : τ 0 = s) (t1 : τ 1 = .int .i64 a) (t7 : τ 7 = .int .i64 n) (t9 : τ 9 = .int .i64 x) (t10 : τ 10 = .int .i64 1) :
    ∃ e τ' H', evLoop Try.prog call m (lp Try.prog 271 4090) τ H = some (e, τ', H') ∧ e = .exit 2 ∧ H' = H ∧ τ' 9 = .int .i64 (((l.drop (a + 1)).take (n - 1)).foldl (fun v x => v * 256 + x) x) ∧ τ' 1 = .int .i64 a ∧ τ' 7 = .int .i64 n := by
  refine loop_rule (d := n - 1) (fun d τ h => h = H ∧ ∃ k : Nat, k + d = n - 1 ∧ τ 0 = s ∧ τ 1 = .int .i64 a ∧ τ 7 = .int .i64 n ∧ τ 10 = .int .i64 (k + 1 : Nat) ∧ τ 9 = .int .i64 (((l.drop (a + 1)).take k).foldl (fun v x => v * 256 + x) x))
    (fun e τ h => e = .exit 2 ∧ h = H ∧ τ 9 = .int .i64 (((l.drop (a + 1)).take (n - 1)).foldl (fun v x => v * 256 + x) x) ∧ τ 1 = .int .i64 a ∧ τ 7 = .int .i64 n)
    ?_ ⟨rfl, 0, by omega, t0, t1, t7, by simp [t10], by simp [t9]⟩ (by omega)
  rintro d τ h' ⟨rfl, k, hk, t0, t1, t7, t10, t9⟩
  obtain ⟨b, o, a1, a2, a3⟩ := hs.at_
  by_cases h0 : d = 0
  · subst h0
    have hkn : k = n - 1 := by omega
    subst hkn
    rw [show n - 1 + 1 = n by omega] at t10
    rewrite [lp271_4090]
    simp [Try.f271, t7, t9, t0, t1, t10]
  · have hd0 : 1 ≤ d := by omega
    have hlt : a + (k + 1) < l.length := by omega
    have hv := valF_lt ((l.drop (a + 1)).take k) x ((hb.drop _).take _) hx0
    have hpk : (256 : Int) ^ ((l.drop (a + 1)).take k).length ≤ 256 ^ 6 := by
      have : (256 : Nat) ^ ((l.drop (a + 1)).take k).length ≤ 256 ^ 6 := Nat.pow_le_pow_right (by omega) (by simp; omega)
      have h3 := Int.ofNat_le.mpr this
      rw [Int.natCast_pow, Int.natCast_pow] at h3
      exact h3
    have hvb : ((l.drop (a + 1)).take k).foldl (fun v x => v * 256 + x) x < 64 * 256 ^ 6 := by
      refine Int.lt_of_lt_of_le hv.2 ?_
      refine Int.le_trans (Int.mul_le_mul_of_nonneg_left hpk (by omega)) ?_
      have : (x + 1) * 256 ^ 6 ≤ 64 * 256 ^ 6 := Int.mul_le_mul_of_nonneg_right (by omega) (by decide)
      exact this
    have hvb' : ((l.drop (a + 1)).take k).foldl (fun v x => v * 256 + x) x < 18014398509481984 := hvb
    have hg : ((l.drop (a + 1)).take (k + 1)).foldl (fun v x => v * 256 + x) x = ((l.drop (a + 1)).take k).foldl (fun v x => v * 256 + x) x * 256 + l[a + (k + 1)] := by
      rw [List.take_add_one, List.getElem?_drop, List.getElem?_eq_getElem (by omega)]
      simp only [Option.toList_some, List.foldl_append, List.foldl_cons, List.foldl_nil]
      congr 2; omega
    have hy := hb.at_ _ hlt
    generalize hV : ((l.drop (a + 1)).take k).foldl (fun v x => v * 256 + x) x = V at *
    have hc : ((k + 1 : Nat) : Int) < (n : Int) := by omega
    have w1 : IntKind.i64.wrap ((a : Int) + ((k + 1 : Nat) : Int)) = (a + (k + 1) : Nat) := by rw [wrap_i64 (by omega) (by omega)]; omega
    have w2 : IntKind.i64.wrap (V * 256) = V * 256 := wrap_i64 (by omega) (by omega)
    have w3 : IntKind.i64.wrap (l[a + (k + 1)]) = l[a + (k + 1)] := wrap_i64 (by omega) (by omega)
    have w4 : IntKind.i64.wrap (V * 256 + l[a + (k + 1)]) = V * 256 + l[a + (k + 1)] := wrap_i64 (by omega) (by omega)
    have w5 : IntKind.i64.wrap (((k + 1 : Nat) : Int) + 1) = (k + 1 + 1 : Nat) := by rw [wrap_i64 (by omega) (by omega)]; omega
    have i1 := a2 _ hlt
    have i2 := a3 h' rfl _ hlt
    generalize hX : (k + 1 : Nat) = X at *
    rw [Int.natCast_add] at i1 w1
    rewrite [lp271_4090]
    simp [Try.f271, t7, t9, t0, t1, t10, hc, w1, i1, i2, w2, w3, w4, w5, convA]
    exact ⟨d - 1, by omega, X, by omega, by omega, by rw [hg]⟩
theorem gv_val {l : List Int} (hb : By l) (a n : Nat) (hn : n = 1 ∨ n = 2 ∨ n = 4 ∨ n = 8) (ha : a + n ≤ l.length) (h : a < l.length) :
    ((l.drop (a + 1)).take (n - 1)).foldl (fun v x => v * 256 + x) (l[a] % 64) = valP ((l.drop a).take n) % 2 ^ (8 * n - 2) := by
  have h1 : (l.drop a).take n = l[a] :: (l.drop (a + 1)).take (n - 1) := by
    obtain ⟨k, rfl⟩ : ∃ k, n = k + 1 := ⟨n - 1, by omega⟩
    rw [List.drop_eq_getElem_cons h, List.take_succ_cons]
    rfl
  have hx := hb.at_ a h
  have hr := valP_lt _ ((hb.drop (a + 1)).take (n - 1))
  have hlen : ((l.drop (a + 1)).take (n - 1)).length = n - 1 := by simp; omega
  rw [h1, valP_cons, valF_eq]
  rw [hlen] at hr ⊢
  generalize valP ((l.drop (a + 1)).take (n - 1)) = V at *
  generalize l[a] = x at *
  rcases hn with rfl | rfl | rfl | rfl
  · simp at hr ⊢; omega
  · simp at hr ⊢; omega
  · simp at hr ⊢; omega
  · simp at hr ⊢; omega
theorem GetVarS_ev {Hb H : AH} {s : AV} {l : List Int} (hs : Bs Hb s l) (hK : Kp Hb H) (hb : By l) (hl : l.length ≤ 65536) (a : Nat) (ha : a ≤ l.length) (m : Nat) (hm : 20 ≤ m) :
    ev Try.prog m 271 [s, .int .i64 a] H = some (.tuple [.int .i64 (getVarP l a).1, .int .i64 (getVarP l a).2.1, .int .i64 (getVarP l a).2.2], H) := by
  obtain ⟨m, rfl⟩ : ∃ k, m = k + 1 := ⟨m - 1, by omega⟩
  have hs := hs.kp hK
  have n1 : ¬ (65536 < (l.length : Int)) := by omega
  have n3 : ¬ ((l.length : Int) < a) := by omega
  rw [ev_eq Try.func271 ok271 m _ H (by simp [Try.f271])]
  by_cases he : a = l.length
  · subst he
    simp [Try.f271, hs.len, n1, getVarP]
  · have hlt : a < l.length := by omega
    have he' : ¬ ((a : Int) = l.length) := by omega
    have hx := hb.at_ a hlt
    have hD : l.getD a 0 = l[a] := by simp [List.getD_eq_getElem?_getD, hlt]
    obtain ⟨b, o, a1, a2, a3⟩ := hs.at_
    obtain ⟨Q, hQ⟩ : ∃ Q : Nat, l[a] / 64 = Q := ⟨(l[a] / 64).toNat, by omega⟩
    have hQ3 : Q ≤ 3 := by omega
    have hf : IntKind.i64.wrap (l[a].tdiv 64) = Q := by rw [Int.tdiv_eq_ediv_of_nonneg hx.1, hQ, wrap_i64 (by omega) (by omega)]
    have hr : IntKind.i64.wrap (l[a].tmod 64) = l[a] % 64 := by rw [Int.tmod_eq_emod_of_nonneg hx.1, wrap_i64 (by omega) (by omega)]
    have hr' : l[a].tmod 64 = l[a] % 64 := by rw [Int.tmod_eq_emod_of_nonneg hx.1]
    have hw : IntKind.i64.wrap l[a] = l[a] := wrap_i64 (by omega) (by omega)
    have hN : gvN l[a] = 2 ^ Q := by unfold gvN; rw [hQ]; rfl
    have hN4 : 2 ^ Q = 1 ∨ 2 ^ Q = 2 ∨ 2 ^ Q = 4 ∨ 2 ^ Q = 8 := by
      have : Q = 0 ∨ Q = 1 ∨ Q = 2 ∨ Q = 3 := by omega
      rcases this with rfl | rfl | rfl | rfl <;> simp
    have w0 : IntKind.i64.wrap ((l.length : Int) - a) = l.length - a := wrap_i64 (by omega) (by omega)
    have hgv := getVarP
    simp [Try.f271, hs.len, n1, n3, he', hlt, a2 a hlt, a3 H rfl a hlt, hf, hw, convA]
    generalize hL : evLoop _ _ _ _ _ _ = R
    obtain ⟨e, τ', H', rfl, rfl, rfl, g7, g0, g1⟩ := loop_at hL (gv_loop1 Q hQ3 _ m (by omega) _ _ (by simp) (by simp) s (.int .i64 a) (by simp) (by simp))
    clear hL
    simp only [getVarP, hD, hN, he]
    generalize hn : 2 ^ Q = n at *
    by_cases hle : (l.length : Int) - a < n
    · simp [g7, g0, g1, hs.len, w0, hle]
    · simp [g7, g0, g1, hs.len, w0, hle, hlt, a2 a hlt, a3 H' rfl a hlt, hw, hr, hr']
      generalize hL : evLoop _ _ _ _ _ _ = R
      obtain ⟨e, τ'', H', rfl, rfl, rfl, k9, k1, k7⟩ := loop_at hL (gv_loop2 hs hb hl a n (by omega) (by omega) (by omega) (l[a] % 64) (by omega) (by omega) _ m (by omega) _ (by simp [g0]) (by simp [g1]) (by simp [g7]) (by simp) (by simp))
      clear hL
      have w3 : IntKind.i64.wrap ((a : Int) + n) = a + n := wrap_i64 (by omega) (by omega)
      simp [k9, k1, k7, w3]
      exact gv_val hb a n hN4 (by omega) hlt
end Go.Ev

/- The scanner: seat a's text with this seat's numbers (port.py). -/
namespace Go.Ev
open Go Go.Proofs
set_option linter.unusedSimpArgs false
set_option linter.unusedVariables false

/-- all that was there is as it was, but for q -/
structure Kx (q : Nat) (H H' : AH) : Prop where
  next : H.next ≤ H'.next
  get : ∀ b, b < H.next → b ≠ q → H'.get b = H.get b
theorem Kx.refl (q : Nat) (H : AH) : Kx q H H := ⟨Nat.le_refl _, fun _ _ _ => rfl⟩
theorem Kx.trans {q : Nat} {A B C : AH} (h : Kx q A B) (k : Kx q B C) : Kx q A C := ⟨Nat.le_trans h.next k.next, fun b hb hq => (k.get b (Nat.lt_of_lt_of_le hb h.next) hq).trans (h.get b hb hq)⟩
theorem Kx.of {q : Nat} {A B : AH} (h : Kp A B) : Kx q A B := ⟨h.next, fun b hb _ => h.get b hb⟩
theorem Kx.set {A B : AH} {q : Nat} (h : Kx q A B) (x : Blk) : Kx q A (B.set q x) := ⟨h.next, fun c hc hq => by
  rw [AH.set_get, if_neg hq]; exact h.get c hc hq⟩
theorem Kx.kp {A H H' : AH} {q : Nat} (h : Kp A H) (k : Kx q H H') (hq : A.next ≤ q) : Kp A H' :=
  ⟨Nat.le_trans h.next k.next, fun b hb => by rw [k.get b (Nat.lt_of_lt_of_le hb h.next) (by omega)]; exact h.get b hb⟩
theorem Ow.kx {lo hi q : Nat} {H H' : AH} {s : AV} {l : List Int} (h : Ow lo hi H s l) (hK : Kx q H H') (hd : q < lo ∨ hi ≤ q) : Ow lo hi H' s l := by
  rcases h with h | ⟨b, h1, h2, h3, h4, h5⟩
  · exact .inl h
  · exact .inr ⟨b, h1, h2, Nat.le_trans h3 hK.next, h4, by rw [hK.get b (by omega) (by omega)]; exact h5⟩

/-! the scanner -/
def scB (s : AV) (a : Nat) (c : Int) : Blk := .cells 188 false [s, .int .i64 a, .int .i64 c]
/-- the bytes, the place, the code -/
def takeI (l : List Int) (a : Nat) (c : Int) (n : Int) : List Int × Nat × Int :=
  if c ≠ 0 then ([], a, c) else if n < 0 ∨ (l.length : Int) - a < n then ([], a, 2) else ((l.drop a).take n.toNat, a + n.toNat, 0)
theorem fail_ev {H : AH} {q a : Nat} {s : AV} {c e : Int} (hq : H.get q = some (scB s a c)) (m : Nat) (hm : 1 ≤ m) :
    ev Try.prog m 220 [.ptr q 0, .int .i64 e] H = some (U, if c = 0 then H.set q (scB s a e) else H) := by
  obtain ⟨m, rfl⟩ : ∃ k, m = k + 1 := ⟨m - 1, by omega⟩
  unfold scB at *
  rw [ev_eq Try.func220 ok220 m _ H (by simp [Try.f220])]
  by_cases hc : c = 0
  · simp [Try.f220, ldVar, stVar, hq, hc, U]
  · simp [Try.f220, ldVar, stVar, hq, hc, U]
theorem cutBs {Hb : AH} {s : AV} {l : List Int} (hs : Bs Hb s l) (a n : Nat) (h : a + n ≤ l.length) {A N : Int} (hA : A = a) (hN : N = a + n) :
    ∃ s', (∀ H, Kp Hb H → cutA Try.prog 34 s (some (some (.int .i64 A))) (some (some (.int .i64 N))) H = some s') ∧ Bs Hb s' ((l.drop a).take n) := by
  subst hA; subst hN
  have h1 : (List.take (a + n) (u8L l)).drop a = u8L ((l.drop a).take n) := by simp [u8L, List.drop_take]
  obtain ⟨s', k1, k2⟩ := hs.cut a (a + n) (by omega) (by rw [u8L_len]; omega) (lo := some (some (.int .i64 a))) (hi := some (some (.int .i64 (a + n)))) (by simp) (by simp)
  rw [h1] at k2
  refine ⟨s', fun H hK => ?_, k2⟩
  rcases hs.lie with ⟨rfl, _⟩ | ⟨b, o, ro, xs, rfl, hn, hg, _⟩
  · rw [← k1]; simp [cutA]
  · rw [← k1]; simp only [cutA, tyU34, tyS5, hK.get b hn]
theorem take_ev {Hb H : AH} {q a : Nat} {s : AV} {l : List Int} {c : Int} (hs : Bs Hb s l) (hK : Kp Hb H) (hqb : Hb.next ≤ q) (hq : H.get q = some (scB s a c)) (ha : a ≤ l.length) (hl : l.length ≤ 65536) (n : Int) (hn0 : -281474976710 ≤ n) (m : Nat) (hm : 2 ≤ m) :
    ∃ r H', ev Try.prog m 164 [.ptr q 0, .int .i64 n] H = some (r, H') ∧ Kx q H H' ∧ H'.next = H.next ∧ Bs Hb r (takeI l a c n).1 ∧ H'.get q = some (scB s (takeI l a c n).2.1 (takeI l a c n).2.2) ∧ (takeI l a c n).2.1 ≤ l.length := by
  obtain ⟨m, rfl⟩ : ∃ k, m = k + 1 := ⟨m - 1, by omega⟩
  have hf := fail_ev (e := (2)) hq m (by omega)
  have hs' := hs.kp hK
  have hq0 := hq
  unfold scB at hq
  rw [ev_eq Try.func164 ok164 m _ H (by simp [Try.f164])]
  by_cases hc : c = 0
  · subst hc
    have w0 : IntKind.i64.wrap ((l.length : Int) - a) = l.length - a := wrap_i64 (by omega) (by omega)
    by_cases h1 : n < 0
    · refine ⟨.nilSlice, H.set q (scB s a 2), ?_, (Kx.refl q H).set _, rfl, ?_⟩
      · simp [Try.f164, ldVar, hq, h1, hf]
      · simp [takeI, h1, ha, Bs.nil]
    · by_cases h2 : (l.length : Int) - a < n
      · refine ⟨.nilSlice, H.set q (scB s a 2), ?_, (Kx.refl q H).set _, rfl, ?_⟩
        · simp [Try.f164, ldVar, hq, h1, hf, hs'.len, w0, h2]
        · simp [takeI, h1, h2, ha, Bs.nil]
      · obtain ⟨N, rfl⟩ := Int.eq_ofNat_of_zero_le (by omega : 0 ≤ n)
        have w1 : IntKind.i64.wrap ((a : Int) + N) = a + N := wrap_i64 (by omega) (by omega)
        obtain ⟨s', k1, k2⟩ := cutBs hs a N (by omega) rfl rfl
        refine ⟨s', H.set q (scB s (a + N) 0), ?_, (Kx.refl q H).set _, rfl, ?_⟩
        · simp [Try.f164, ldVar, stVar, hq, h1, hs'.len, w0, h2, w1, k1 H hK, scB, evHist, ObsOk, ObOk, hs.one]
        · simp [takeI, h1, h2]
          exact ⟨k2, by omega⟩
  · refine ⟨.nilSlice, H, ?_, Kx.refl q H, rfl, ?_⟩
    · simp [Try.f164, ldVar, hq, hc]
    · simp [takeI, hc, ha, Bs.nil, hq0]

def octV : List Int → Int
  | [x] => x
  | _ => 0
def octetI (l : List Int) (a : Nat) (c : Int) : Int × Nat × Int := (octV (takeI l a c 1).1, (takeI l a c 1).2)
theorem takeI_by {l : List Int} (hb : By l) (a : Nat) (c n : Int) : By (takeI l a c n).1 := by
  unfold takeI; split
  · intro x hx; simp at hx
  · split
    · intro x hx; simp at hx
    · exact (hb.drop _).take _
theorem takeI_len (l : List Int) (a : Nat) (c n : Int) : (takeI l a c n).1.length ≤ n.toNat ∧ (takeI l a c n).1.length ≤ l.length := by
  unfold takeI; split
  · simp
  · split
    · simp
    · simp; omega
theorem octV_by {l : List Int} (hb : By l) : 0 ≤ octV l ∧ octV l < 256 := by
  unfold octV; split
  · exact hb _ (by simp)
  · omega
theorem octet_ev {Hb H : AH} {q a : Nat} {s : AV} {l : List Int} {c : Int} (hs : Bs Hb s l) (hb : By l) (hK : Kp Hb H) (hqb : Hb.next ≤ q) (hq : H.get q = some (scB s a c)) (ha : a ≤ l.length) (hl : l.length ≤ 65536) (m : Nat) (hm : 3 ≤ m) :
    ∃ H', ev Try.prog m 165 [.ptr q 0] H = some (.int .i64 (octetI l a c).1, H') ∧ Kx q H H' ∧ H'.next = H.next ∧ H'.get q = some (scB s (octetI l a c).2.1 (octetI l a c).2.2) ∧ (octetI l a c).2.1 ≤ l.length := by
  obtain ⟨m, rfl⟩ : ∃ k, m = k + 1 := ⟨m - 1, by omega⟩
  obtain ⟨r, H', k1, k2, k3, k4, k5, k6⟩ := take_ev hs hK hqb hq ha hl 1 (by omega) m (by omega)
  refine ⟨H', ?_, k2, k3, k5, k6⟩
  have hby := takeI_by hb a c 1
  have hln := (takeI_len l a c 1).1
  rw [ev_eq Try.func165 ok165 m _ H (by simp [Try.f165])]
  have k4' := k4.kp (k2.kp hK hqb)
  unfold octetI
  generalize (takeI l a c 1).1 = t at *
  obtain ⟨b, o, a1, a2, a3⟩ := k4'.at_
  match t, hln with
  | [], _ => simp [Try.f165, k1, k4'.len, octV]
  | [x], _ =>
    have i1 := a2 0 (by simp)
    have i2 := a3 H' rfl 0 (by simp)
    have hx := hby x (by simp)
    simp at i1 i2
    simp [Try.f165, k1, k4'.len, octV, i1, i2, convA, wrap_i64 (n := x) (by omega) (by omega)]
  | x :: y :: t, h => simp at h

def numberI (l : List Int) (a : Nat) (c : Int) : Int × Nat × Int :=
  if c ≠ 0 then (0, a, c) else if (getVarP l a).2.2 ≠ 0 then (0, a, (getVarP l a).2.2) else ((getVarP l a).1, (getVarP l a).2.1.toNat, 0)
theorem getVarP_end {l : List Int} {a : Nat} (h : (getVarP l a).2.2 = 0) : ∃ e : Nat, (getVarP l a).2.1 = e ∧ a ≤ e ∧ e ≤ l.length := by
  unfold getVarP at h ⊢
  by_cases h1 : a = l.length
  · simp [h1] at h
  · by_cases h2 : (l.length : Int) - a < gvN (l.getD a 0)
    · rw [if_neg h1, if_pos h2] at h; simp at h
    · rw [if_neg h1, if_neg h2]
      exact ⟨a + gvN (l.getD a 0), by simp, by omega, by omega⟩
theorem getVarP_code (l : List Int) (a : Nat) : (getVarP l a).2.2 = 0 ∨ (getVarP l a).2.2 = 2 := by
  unfold getVarP
  split
  · simp
  · split <;> simp
theorem number_ev {Hb H : AH} {q a : Nat} {s : AV} {l : List Int} {c : Int} (hs : Bs Hb s l) (hb : By l) (hK : Kp Hb H) (hqb : Hb.next ≤ q) (hq : H.get q = some (scB s a c)) (ha : a ≤ l.length) (hl : l.length ≤ 65536) (m : Nat) (hm : 21 ≤ m) :
    ∃ H', ev Try.prog m 186 [.ptr q 0] H = some (.int .i64 (numberI l a c).1, H') ∧ Kx q H H' ∧ H'.next = H.next ∧ H'.get q = some (scB s (numberI l a c).2.1 (numberI l a c).2.2) ∧ (numberI l a c).2.1 ≤ l.length := by
  obtain ⟨m, rfl⟩ : ∃ k, m = k + 1 := ⟨m - 1, by omega⟩
  rw [ev_eq Try.func186 ok186 m _ H (by simp [Try.f186])]
  have hq0 := hq
  unfold scB at hq
  have hg := GetVarI_ev hs hK hb hl a ha m (by omega)
  by_cases hc : c = 0
  · subst hc
    by_cases h2 : (getVarP l a).2.2 = 0
    · obtain ⟨e, h3, h4, h5⟩ := getVarP_end h2
      refine ⟨H.set q (scB s e 0), ?_, (Kx.refl q H).set _, rfl, ?_⟩
      · simp [Try.f186, ldVar, stVar, hq, hg, h2, h3, numberI, scB, hs.one]
      · simp [numberI, h2, h3, h5]
    · have hf := fail_ev (e := (getVarP l a).2.2) hq0 m (by omega)
      refine ⟨H.set q (scB s a (getVarP l a).2.2), ?_, (Kx.refl q H).set _, rfl, ?_⟩
      · simp [Try.f186, ldVar, stVar, hq, hg, h2, numberI, hf, hs.one]
      · simp [numberI, h2, ha]
  · refine ⟨H, ?_, Kx.refl q H, rfl, ?_⟩
    · simp [Try.f186, ldVar, hq, hc, numberI]
    · simp [numberI, hc, ha, hq0]

end Go.Ev

/- The specification's reader: seat a's text with this seat's numbers (port.py). -/
namespace Go.Ev
open Go Go.Proofs
set_option linter.unusedSimpArgs false
set_option linter.unusedVariables false

def rdB (s : AV) (a : Nat) (sh : Bool) : Blk := .cells 183 false [s, .int .i64 a, .bool sh]
def takeS (l : List Int) (a : Nat) (sh : Bool) (n : Int) : List Int × Nat × Bool :=
  if sh = true ∨ (l.length : Int) - a < n then ([], a, true) else ((l.drop a).take n.toNat, a + n.toNat, false)
theorem takeS_by {l : List Int} (hb : By l) (a : Nat) (sh : Bool) (n : Int) : By (takeS l a sh n).1 := by
  unfold takeS; split
  · intro x hx; simp at hx
  · exact (hb.drop _).take _
theorem takeS_len (l : List Int) (a : Nat) (sh : Bool) (n : Int) : (takeS l a sh n).1.length ≤ n.toNat ∧ (takeS l a sh n).1.length ≤ l.length := by
  unfold takeS; split
  · simp
  · simp; omega
theorem takeR_ev {Hb H : AH} {q a : Nat} {s : AV} {l : List Int} {sh : Bool} (hs : Bs Hb s l) (hK : Kp Hb H) (hqb : Hb.next ≤ q) (hqn : q < H.next) (hq : H.get q = some (rdB s a sh)) (ha : a ≤ l.length) (hl : l.length ≤ 65536) (n : Int) (hn0 : 0 ≤ n) (hn1 : n ≤ 4611686018427387904) (m : Nat) (hm : 2 ≤ m) :
    ∃ r H', ev Try.prog m 157 [.ptr q 0, .int .i64 n] H = some (r, H') ∧ Kx q H H' ∧ Ow H.next H'.next H' r (takeS l a sh n).1 ∧ H'.get q = some (rdB s (takeS l a sh n).2.1 (takeS l a sh n).2.2) ∧ (takeS l a sh n).2.1 ≤ l.length := by
  obtain ⟨m, rfl⟩ : ∃ k, m = k + 1 := ⟨m - 1, by omega⟩
  have hs' := hs.kp hK
  have hne : ¬ (q = H.next) := by omega
  unfold rdB at *
  rw [ev_eq Try.func157 ok157 m _ H (by simp [Try.f157])]
  have w0 : IntKind.i64.wrap ((l.length : Int) - a) = l.length - a := wrap_i64 (by omega) (by omega)
  have fin : Kx q H ((H.set q (rdB s a true)).push (.cells 5 false [])) := ⟨by simp, fun b hb hbq => by simp [hbq]; intro h; omega⟩
  cases sh with
  | true =>
    refine ⟨.slice H.next 0 0, (H.set q (rdB s a true)).push (.cells 5 false []), ?_, fin, .inr ⟨H.next, Nat.le_refl _, by simp, by simp, ?_, ?_⟩, ?_⟩
    · simp [Try.f157, ldVar, stVar, hq, hne, rdB, hs.one]
    · simp [takeS]
    · simp [takeS, u8L]
    · simp [takeS, hne, rdB, ha]
  | false =>
    by_cases h2 : (l.length : Int) - a < n
    · refine ⟨.slice H.next 0 0, (H.set q (rdB s a true)).push (.cells 5 false []), ?_, fin, .inr ⟨H.next, Nat.le_refl _, by simp, by simp, ?_, ?_⟩, ?_⟩
      · simp [Try.f157, ldVar, stVar, hq, hne, rdB, hs.one, hs'.len, w0, h2]
      · simp [takeS, h2]
      · simp [takeS, h2, u8L]
      · simp [takeS, h2, hne, rdB, ha]
    · obtain ⟨N, rfl⟩ := Int.eq_ofNat_of_zero_le hn0
      have w1 : IntKind.i64.wrap ((a : Int) + N) = a + N := wrap_i64 (by omega) (by omega)
      have w2 : IntKind.i64.wrap (a : Int) = a := wrap_i64 (by omega) (by omega)
      obtain ⟨s', k1, k2⟩ := cutBs hs a N (by omega) rfl rfl
      have K2 : Kp Hb (H.set q (rdB s (a + N) false)) := hK.set hqb _
      have k3 := k1 _ K2
      obtain ⟨r, H', y1, y2, y3⟩ := l03Copy_ev k2 K2 (by simp; omega) m (by omega)
      have hn := y2.next
      simp only [AH.set_next] at hn y3
      refine ⟨r, H', ?_, ⟨hn, fun b hb hbq => ?_⟩, ?_, ?_⟩
      · simp only [rdB] at *
        push_cast at y1 k3
        simp [Try.f157, ldVar, stVar, hq, hne, hs.one, hs'.len, w0, h2, w1, w2, k3, y1]
      · rw [y2.get b (by simpa using hb), AH.set_get, if_neg hbq]
      · simp [takeS, h2]; exact y3
      · simp [takeS, h2]
        exact ⟨by rw [y2.get q (by simpa using hqn)]; simp [rdB], by omega⟩
theorem fixed_ev {Hb H : AH} {q a : Nat} {s : AV} {l : List Int} {sh : Bool} (hs : Bs Hb s l) (hb : By l) (hK : Kp Hb H) (hqb : Hb.next ≤ q) (hqn : q < H.next) (hq : H.get q = some (rdB s a sh)) (ha : a ≤ l.length) (hl : l.length ≤ 65536) (n : Int) (hn0 : 0 ≤ n) (hn1 : n ≤ 4) (m : Nat) (hm : 11 ≤ m) :
    ∃ H', ev Try.prog m 122 [.ptr q 0, .int .i64 n] H = some (.int .i64 (valP (takeS l a sh n).1), H') ∧ Kx q H H' ∧ H'.get q = some (rdB s (takeS l a sh n).2.1 (takeS l a sh n).2.2) ∧ (takeS l a sh n).2.1 ≤ l.length := by
  obtain ⟨m, rfl⟩ : ∃ k, m = k + 1 := ⟨m - 1, by omega⟩
  obtain ⟨r, H', k1, k2, k3, k4, k5⟩ := takeR_ev hs hK hqb hqn hq ha hl n hn0 (by omega) m (by omega)
  have hv := l01Value_ev k3.bs (Kp.refl H') (takeS_by hb _ _ _) (by have := (takeS_len l a sh n).1; omega) m (by omega)
  refine ⟨H', ?_, k2, k4, k5⟩
  rw [ev_eq Try.func122 ok122 m _ H (by simp [Try.f122])]
  simp [Try.f122, k1, hv]
def varS (l : List Int) (a : Nat) (sh : Bool) : Int × Nat × Bool :=
  if sh = true then (0, a, true) else if (getVarP l a).2.2 ≠ 0 then (0, a, true) else ((getVarP l a).1, (getVarP l a).2.1.toNat, false)
theorem getVarP_nn {l : List Int} (a : Nat) : 0 ≤ (getVarP l a).1 := by
  simp only [getVarP]
  split
  · simp
  · split
    · simp
    · simp only
      exact Int.emod_nonneg _ (Int.pow_ne_zero (by decide))
theorem gvN_cases {l : List Int} (hb : By l) (a : Nat) : gvN (l.getD a 0) ≤ 8 := by
  have hx : 0 ≤ l.getD a 0 ∧ l.getD a 0 < 256 := by
    rw [List.getD_eq_getElem?_getD]
    cases h : l[a]? with
    | none => simp
    | some x => exact hb x (List.mem_of_getElem? h)
  unfold gvN
  have : (l.getD a 0 / 64).toNat ≤ 3 := by omega
  have h2 : 2 ^ (l.getD a 0 / 64).toNat ≤ 2 ^ 3 := Nat.pow_le_pow_right (by omega) this
  omega
theorem getVarP_lt {l : List Int} (hb : By l) (a : Nat) : (getVarP l a).1 ≤ 4611686018427387904 := by
  simp only [getVarP]
  split
  · simp
  · split
    · simp
    · simp only
      have h1 := gvN_cases hb a
      generalize gvN (l.getD a 0) = g at *
      have hp : (0 : Int) < 2 ^ (8 * g - 2) := Int.pow_pos (by decide)
      have h2 := Int.emod_lt_of_pos (valP ((l.drop a).take g)) hp
      have h3 : 2 ^ (8 * g - 2) ≤ 2 ^ 62 := Nat.pow_le_pow_right (by omega) (by omega)
      have h4 := Int.ofNat_le.mpr h3
      rw [Int.natCast_pow, Int.natCast_pow] at h4
      have h5 : ((2 : Nat) : Int) ^ 62 = 4611686018427387904 := by decide
      have h6 : ((2 : Nat) : Int) = 2 := rfl
      rw [h5, h6] at h4
      omega
theorem varS_rng {l : List Int} (hb : By l) (a : Nat) (sh : Bool) : 0 ≤ (varS l a sh).1 ∧ (varS l a sh).1 ≤ 4611686018427387904 := by
  unfold varS
  split
  · simp
  · split
    · simp
    · exact ⟨getVarP_nn a, getVarP_lt hb a⟩
theorem var_ev {Hb H : AH} {q a : Nat} {s : AV} {l : List Int} {sh : Bool} (hs : Bs Hb s l) (hb : By l) (hK : Kp Hb H) (hqb : Hb.next ≤ q) (hqn : q < H.next) (hq : H.get q = some (rdB s a sh)) (ha : a ≤ l.length) (hl : l.length ≤ 65536) (m : Nat) (hm : 21 ≤ m) :
    ∃ H', ev Try.prog m 216 [.ptr q 0] H = some (.int .i64 (varS l a sh).1, H') ∧ Kx q H H' ∧ H'.next = H.next ∧ H'.get q = some (rdB s (varS l a sh).2.1 (varS l a sh).2.2) ∧ (varS l a sh).2.1 ≤ l.length := by
  obtain ⟨m, rfl⟩ : ∃ k, m = k + 1 := ⟨m - 1, by omega⟩
  rw [ev_eq Try.func216 ok216 m _ H (by simp [Try.f216])]
  have hq0 := hq
  unfold rdB at hq
  have hg := GetVarS_ev hs hK hb hl a ha m (by omega)
  cases sh with
  | false =>
    by_cases h2 : (getVarP l a).2.2 = 0
    · obtain ⟨e, h3, h4, h5⟩ := getVarP_end h2
      refine ⟨H.set q (rdB s e false), ?_, (Kx.refl q H).set _, rfl, ?_⟩
      · simp [Try.f216, ldVar, stVar, hq, hg, h2, h3, varS, rdB, hs.one]
      · simp [varS, h2, h3, h5]
    · refine ⟨H.set q (rdB s a true), ?_, (Kx.refl q H).set _, rfl, ?_⟩
      · simp [Try.f216, ldVar, stVar, hq, hg, h2, varS, rdB, hs.one]
      · simp [varS, h2, ha]
  | true =>
    refine ⟨H, ?_, Kx.refl q H, rfl, ?_⟩
    · simp [Try.f216, ldVar, hq, varS]
    · simp [varS, ha, hq0]
end Go.Ev
