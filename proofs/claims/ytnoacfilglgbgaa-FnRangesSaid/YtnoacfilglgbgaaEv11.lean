/- Lemmas of an evaluator of the given code and of what the functions answer; no condition of its own. -/
import Derived.Test.YtnoacfilglgbgaaEv5
import Derived.Test.YtnoacfilglgbgaaEv10
import Derived.Test.YtnoacfilglgbgaaEv9
/- Open orders for simp: only the states that are looked at again are kept. -/
namespace Go.Ev
open Go Go.RowKit
set_option linter.unusedSimpArgs false
set_option linter.unusedVariables false

/-- the states at places that are wanted -/
def coll {α : Type} (need : Nat → Bool) : Nat → List α → List (Nat × α) → List (Nat × α)
  | _, [], acc => acc
  | k, x :: l, acc => coll need (k + 1) l (if need k = true then (k, x) :: acc else acc)
theorem coll_get {α : Type} (need : Nat → Bool) : ∀ (l : List α) (k : Nat) (acc : List (Nat × α)) (i : Nat), need i = true → (∀ j, k ≤ j → acc.lookup j = none) →
    (coll need k l acc).lookup i = if k ≤ i ∧ i < k + l.length then l[i - k]? else acc.lookup i
  | [], k, acc, i, hn, ha => by
    simp only [coll, List.length_nil]
    rw [if_neg (by omega)]
  | x :: l, k, acc, i, hn, ha => by
    simp only [coll, List.length_cons]
    have ha' : ∀ j, k + 1 ≤ j → (if need k = true then (k, x) :: acc else acc).lookup j = none := fun j hj => by
      split
      · have : (j == k) = false := by simp; omega
        simp only [List.lookup, this]; exact ha j (by omega)
      · exact ha j (by omega)
    rw [coll_get need l (k + 1) _ i hn ha']
    by_cases hik : i = k
    · subst hik
      rw [if_neg (by omega), if_pos hn, if_pos (by omega)]
      simp [List.lookup]
    · by_cases hc : k + 1 ≤ i ∧ i < k + 1 + l.length
      · rw [if_pos hc, if_pos (by omega)]
        rw [show i - k = (i - (k + 1)) + 1 by omega]; simp
      · rw [if_neg hc, if_neg (show ¬ (k ≤ i ∧ i < k + (l.length + 1)) by omega)]
        have hf : (i == k) = false := by simpa using hik
        by_cases hk : need k = true
        · rw [if_pos hk]; simp [List.lookup, hf]
        · rw [if_neg hk]
section
variable (P : Program) (call : CallF) (ops : Array Oper)
/-! ordered effects -/
def needS (ls : List (Nat × Nat)) (k : Nat) : Bool := ls.any fun q => q.1 == k || q.2 == k
def runS (ls : List (Nat × Nat)) : Nat → List Oper → Tm → AH → List (Nat × Tm × AH) → Option (Tm × AH × List (Nat × Tm × AH))
  | k, [], τ, H, acc => some (τ, H, if needS ls k = true then (k, τ, H) :: acc else acc)
  | k, o :: l, τ, H, acc => match stepA P call ops o τ H with
    | some (τ', H') => runS ls (k + 1) l τ' H' (if needS ls k = true then (k, τ, H) :: acc else acc)
    | none => none
theorem runS_eq (ls : List (Nat × Nat)) : ∀ (l : List Oper) (k : Nat) (τ : Tm) (H : AH) (acc : List (Nat × Tm × AH)), runS P call ops ls k l τ H acc =
    match evHist P call ops l τ H with
    | some hs => match hs.getLast? with | some r => some (r.1, r.2, coll (needS ls) k hs acc) | none => none
    | none => none
  | [], k, τ, H, acc => by simp [runS, evHist, coll]
  | o :: l, k, τ, H, acc => by
    simp only [runS, evHist]
    cases hs : stepA P call ops o τ H with
    | none => rfl
    | some r =>
      simp only
      rw [runS_eq ls l (k + 1)]
      cases hh : evHist P call ops l r.1 r.2 with
      | none => rfl
      | some hs =>
        have hne : hs ≠ [] := fun e => by have := (evHist_facts hh).1; rw [e] at this; simp at this
        simp only [coll]
        rw [List.getLast?_cons_of_ne_nil hne]
def ObSS (acc : List (Nat × Tm × AH)) : List (Nat × Nat) → Prop
  | [] => True
  | q :: l => (match acc.lookup q.1, acc.lookup q.2, ops[q.1]? with
    | some (τ, H), some (_, Hp), some o => wantA ops τ o = true → evO P call o τ Hp = (evO P call o τ H).map fun r => (r.1, Hp)
    | _, _, _ => False) ∧ ObSS acc l
theorem ObSS_eq {ls : List (Nat × Nat)} {hs : List (Tm × AH)} : ∀ (l : List (Nat × Nat)), (∀ q ∈ l, q ∈ ls) → (ObSS P call ops (coll (needS ls) 0 hs []) l ↔ ObsOk P call ops hs l)
  | [], _ => Iff.rfl
  | q :: l, h => by
    have hq := h q (by simp)
    have n1 : needS ls q.1 = true := by unfold needS; rw [List.any_eq_true]; exact ⟨q, hq, by simp⟩
    have n2 : needS ls q.2 = true := by unfold needS; rw [List.any_eq_true]; exact ⟨q, hq, by simp⟩
    have e : ∀ i, needS ls i = true → (coll (needS ls) 0 hs []).lookup i = hs[i]? := fun i hi => by
      rw [coll_get _ _ _ _ _ hi (fun _ _ => rfl)]
      by_cases hl : i < hs.length
      · rw [if_pos (by omega)]; simp
      · rw [if_neg (by omega), List.getElem?_eq_none (by omega)]; rfl
    simp only [ObSS, ObsOk, ObOk, e _ n1, e _ n2]
    rw [ObSS_eq l fun q' hq' => h q' (by simp [hq'])]
    exact Iff.rfl
open Classical in
noncomputable def evSeqG (ls : List (Nat × Nat)) (τ : Tm) (H : AH) : Option (Tm × AH) := match runS P call ops ls 0 ops.toList τ H [] with
  | some (τ', H', acc) => if ObSS P call ops acc ls then some (τ', H') else none
  | none => none
open Classical in
theorem evSeqG_eq (ls : List (Nat × Nat)) (τ : Tm) (H : AH) : evSeqG P call ops ls τ H = (match evHist P call ops ops.toList τ H with
    | some hs => if ObsOk P call ops hs ls then hs.getLast? else none
    | none => none) := by
  unfold evSeqG
  rw [runS_eq]
  cases hh : evHist P call ops ops.toList τ H with
  | none => rfl
  | some hs =>
    have hlen := (evHist_facts hh).1
    cases hl : hs.getLast? with
    | none => rw [List.getLast?_eq_none_iff] at hl; rw [hl] at hlen; simp at hlen
    | some r =>
      simp only [hl]
      by_cases ho : ObsOk P call ops hs ls
      · rw [if_pos ((ObSS_eq P call ops ls fun _ h => h).2 ho), if_pos ho]
      · rw [if_neg (fun e => ho ((ObSS_eq P call ops ls fun _ h => h).1 e)), if_neg ho]
/-! what floats -/
def needG (I : FI) (k : Nat) : Bool := I.ls.any fun q => q.1 == k || q.2.1 == k
def runG (n0 : Nat) (I : FI) : Nat → List Oper → Tm → AH → Tab → List (Nat × Tm × AH × Tab) → Option (Tm × AH × Tab × List (Nat × Tm × AH × Tab))
  | k, [], τ, X, tab, acc => some (τ, X, tab, if needG I k = true then (k, τ, X, tab) :: acc else acc)
  | k, o :: l, τ, X, tab, acc => if I.fl.contains k then match fltO P o.op τ with
      | some (s, x) => runG n0 I (k + 1) l (put τ o.dst (s.av (n0 + I.fl.idxOf k))) X (tab ++ [(k, n0 + I.fl.idxOf k, x)]) (if needG I k = true then (k, τ, X, tab) :: acc else acc)
      | none => none
    else if wantA ops τ o then match evO P call o τ (plusT tab (I.ad.getD k []) X) with
      | some (v, X') => runG n0 I (k + 1) l (put τ o.dst v) (if isEff P o.op then X' else X) tab (if needG I k = true then (k, τ, X, tab) :: acc else acc)
      | none => none
    else runG n0 I (k + 1) l (put τ o.dst U) (if isEff P o.op then plusT tab (I.ad.getD k []) X else X) tab (if needG I k = true then (k, τ, X, tab) :: acc else acc)
theorem evHistF_ne {n0 : Nat} {I : FI} {k : Nat} {l : List Oper} {τ : Tm} {X : AH} {tab : Tab} {hs : List (Tm × AH × Tab)} (h : evHistF P call n0 ops I k l τ X tab = some hs) : hs ≠ [] := fun e => by
  have := (evHistF_facts h).1; rw [e] at this; simp at this
theorem runG_eq (n0 : Nat) (I : FI) : ∀ (l : List Oper) (k : Nat) (τ : Tm) (X : AH) (tab : Tab) (acc : List (Nat × Tm × AH × Tab)), runG P call ops n0 I k l τ X tab acc =
    match evHistF P call n0 ops I k l τ X tab with
    | some hs => match hs.getLast? with | some r => some (r.1, r.2.1, r.2.2, coll (needG I) k hs acc) | none => none
    | none => none
  | [], k, τ, X, tab, acc => by simp [runG, evHistF, coll]
  | o :: l, k, τ, X, tab, acc => by
    have fin : ∀ τ' X' tab', runG P call ops n0 I (k + 1) l τ' X' tab' (if needG I k = true then (k, τ, X, tab) :: acc else acc) =
        match (match evHistF P call n0 ops I (k + 1) l τ' X' tab' with | some r => some ((τ, X, tab) :: r) | none => none) with
        | some hs => match hs.getLast? with | some r => some (r.1, r.2.1, r.2.2, coll (needG I) k hs acc) | none => none
        | none => none := fun τ' X' tab' => by
      rw [runG_eq n0 I l (k + 1)]
      cases hh : evHistF P call n0 ops I (k + 1) l τ' X' tab' with
      | none => rfl
      | some hs => simp only [coll]; rw [List.getLast?_cons_of_ne_nil (evHistF_ne P call ops hh)]
    simp only [runG, evHistF]
    split
    · cases fltO P o.op τ with
      | none => rfl
      | some r => exact fin _ _ _
    · split
      · cases evO P call o τ (plusT tab (I.ad.getD k []) X) with
        | none => rfl
        | some r => exact fin _ _ _
      · exact fin _ _ _
def ObGG (I : FI) (acc : List (Nat × Tm × AH × Tab)) (tab : Tab) : List (Nat × Nat × List Nat) → Prop
  | [] => True
  | q :: l => (match acc.lookup q.1, acc.lookup q.2.1, ops[q.1]? with
    | some (τ, X, t), some (_, Xp, _), some o => wantA ops τ o = true → ∃ v A B, evO P call o τ (plusT tab q.2.2 Xp) = some (v, A) ∧ evO P call o τ (plusT t (I.ad.getD q.1 []) X) = some (v, B)
    | _, _, _ => False) ∧ ObGG I acc tab l
theorem ObGG_eq {I : FI} {hs : List (Tm × AH × Tab)} {tab : Tab} : ∀ (l : List (Nat × Nat × List Nat)), (∀ q ∈ l, q ∈ I.ls) → (ObGG P call ops I (coll (needG I) 0 hs []) tab l ↔ ObsF P call ops I hs tab l)
  | [], _ => Iff.rfl
  | q :: l, h => by
    have hq := h q (by simp)
    have n1 : needG I q.1 = true := by unfold needG; rw [List.any_eq_true]; exact ⟨q, hq, by simp⟩
    have n2 : needG I q.2.1 = true := by unfold needG; rw [List.any_eq_true]; exact ⟨q, hq, by simp⟩
    have e : ∀ i, needG I i = true → (coll (needG I) 0 hs []).lookup i = hs[i]? := fun i hi => by
      rw [coll_get _ _ _ _ _ hi (fun _ _ => rfl)]
      by_cases hl : i < hs.length
      · rw [if_pos (by omega)]; simp
      · rw [if_neg (by omega), List.getElem?_eq_none (by omega)]; rfl
    simp only [ObGG, ObsF, ObF, e _ n1, e _ n2]
    rw [ObGG_eq l fun q' hq' => h q' (by simp [hq'])]
    exact Iff.rfl
def goV (n0 : Nat) (I : FI) (k : Nat) (o : Oper) (l : List Oper) (τ : Tm) (X : AH) (tab : Tab) (acc : List (Nat × Tm × AH × Tab)) (r : Option (AV × AH)) : Option (Tm × AH × Tab × List (Nat × Tm × AH × Tab)) := match r with
  | some (v, X') => runG P call ops n0 I (k + 1) l (put τ o.dst v) (if isEff P o.op then X' else X) tab (if needG I k = true then (k, τ, X, tab) :: acc else acc)
  | none => none
def goF (n0 : Nat) (I : FI) (k : Nat) (o : Oper) (l : List Oper) (τ : Tm) (X : AH) (tab : Tab) (acc : List (Nat × Tm × AH × Tab)) (r : Option (Sh × Blk)) : Option (Tm × AH × Tab × List (Nat × Tm × AH × Tab)) := match r with
  | some (s, x) => runG P call ops n0 I (k + 1) l (put τ o.dst (s.av (n0 + I.fl.idxOf k))) X (tab ++ [(k, n0 + I.fl.idxOf k, x)]) (if needG I k = true then (k, τ, X, tab) :: acc else acc)
  | none => none
open Classical in
noncomputable def endG (I : FI) (r : Option (Tm × AH × Tab × List (Nat × Tm × AH × Tab))) : Option (Tm × AH) := match r with
  | some (τ', X, tab, acc) => if ObGG P call ops I acc tab I.ls then some (τ', plusT tab I.fin X) else none
  | none => none
def goS (ls : List (Nat × Nat)) (k : Nat) (l : List Oper) (τ : Tm) (H : AH) (acc : List (Nat × Tm × AH)) (r : Option (Tm × AH)) : Option (Tm × AH × List (Nat × Tm × AH)) := match r with
  | some (τ', H') => runS P call ops ls (k + 1) l τ' H' (if needS ls k = true then (k, τ, H) :: acc else acc)
  | none => none
open Classical in
noncomputable def endS (ls : List (Nat × Nat)) (r : Option (Tm × AH × List (Nat × Tm × AH))) : Option (Tm × AH) := match r with
  | some (τ', H', acc) => if ObSS P call ops acc ls then some (τ', H') else none
  | none => none
open Classical in
noncomputable def evFltG (I : FI) (τ : Tm) (H : AH) : Option (Tm × AH) := match runG P call ops H.next I 0 ops.toList τ (H.res I.fl.length) [] [] with
  | some (τ', X, tab, acc) => if ObGG P call ops I acc tab I.ls then some (τ', plusT tab I.fin X) else none
  | none => none
theorem evFltG_eq (I : FI) (τ : Tm) (H : AH) : evFltG P call ops I τ H = evFlt P call ops I τ H := by
  unfold evFltG evFlt
  rw [runG_eq]
  cases hh : evHistF P call H.next ops I 0 ops.toList τ (H.res I.fl.length) [] with
  | none => rfl
  | some hs =>
    simp only
    cases hl : hs.getLast? with
    | none => rfl
    | some r =>
      simp only [hl]
      by_cases ho : ObsF P call ops I hs r.2.2 I.ls
      · rw [if_pos ((ObGG_eq P call ops I.ls fun _ h => h).2 ho), if_pos ho]
      · rw [if_neg (fun e => ho ((ObGG_eq P call ops I.ls fun _ h => h).1 e)), if_neg ho]
end
section
variable {P : Program} {call : CallF} {ops : Array Oper} {n0 k : Nat} {I : FI} {o : Oper} {l : List Oper} {τ : Tm} {X H : AH} {tab : Tab} {acc : List (Nat × Tm × AH × Tab)} {ls : List (Nat × Nat)} {acs : List (Nat × Tm × AH)}
theorem runG_0 : runG P call ops n0 I k [] τ X tab acc = some (τ, X, tab, if needG I k = true then (k, τ, X, tab) :: acc else acc) := rfl
theorem runG_1 : runG P call ops n0 I k (o :: l) τ X tab acc = if I.fl.contains k = true then goF P call ops n0 I k o l τ X tab acc (fltO P o.op τ)
    else if wantA ops τ o = true then goV P call ops n0 I k o l τ X tab acc (evO P call o τ (plusT tab (I.ad.getD k []) X))
    else runG P call ops n0 I (k + 1) l (put τ o.dst U) (if isEff P o.op then plusT tab (I.ad.getD k []) X else X) tab (if needG I k = true then (k, τ, X, tab) :: acc else acc) := rfl
theorem goV_s (r : AV × AH) : goV P call ops n0 I k o l τ X tab acc (some r) = runG P call ops n0 I (k + 1) l (put τ o.dst r.1) (if isEff P o.op then r.2 else X) tab (if needG I k = true then (k, τ, X, tab) :: acc else acc) := rfl
theorem goF_s (r : Sh × Blk) : goF P call ops n0 I k o l τ X tab acc (some r) = runG P call ops n0 I (k + 1) l (put τ o.dst (r.1.av (n0 + I.fl.idxOf k))) X (tab ++ [(k, n0 + I.fl.idxOf k, r.2)]) (if needG I k = true then (k, τ, X, tab) :: acc else acc) := rfl
open Classical in
theorem endG_s (r : Tm × AH × Tab × List (Nat × Tm × AH × Tab)) : endG P call ops I (some r) = if ObGG P call ops I r.2.2.2 r.2.2.1 I.ls then some (r.1, plusT r.2.2.1 I.fin r.2.1) else none := rfl
theorem evFltG_e : evFltG P call ops I τ H = endG P call ops I (runG P call ops H.next I 0 ops.toList τ (H.res I.fl.length) [] []) := rfl
theorem runS_0 : runS P call ops ls k [] τ H acs = some (τ, H, if needS ls k = true then (k, τ, H) :: acs else acs) := rfl
theorem runS_1 : runS P call ops ls k (o :: l) τ H acs = goS P call ops ls k l τ H acs (stepA P call ops o τ H) := rfl
theorem goS_s (r : Tm × AH) : goS P call ops ls k l τ H acs (some r) = runS P call ops ls (k + 1) l r.1 r.2 (if needS ls k = true then (k, τ, H) :: acs else acs) := rfl
open Classical in
theorem endS_s (r : Tm × AH × List (Nat × Tm × AH)) : endS P call ops ls (some r) = if ObSS P call ops r.2.2 ls then some (r.1, r.2.1) else none := rfl
theorem evSeqG_e : evSeqG P call ops ls τ H = endS P call ops ls (runS P call ops ls 0 ops.toList τ H []) := rfl
end
end Go.Ev

/- The evaluator as rules for simp alone: an open test stays as a test, with both ways frozen behind it. -/
namespace Go.Ev
open Go Go.RowKit
set_option linter.unusedSimpArgs false
set_option linter.unusedVariables false

/-- an open test -/
def iteC {α : Type} (c : Prop) [Decidable c] (x y : α) : α := if c then x else y
theorem ifE {α : Type} {c : Prop} [Decidable c] {x y r : α} (hx : c → x = r) (hy : ¬ c → y = r) : iteC c x y = r := by unfold iteC; split <;> simp_all
theorem ifX {α β : Type} {c : Prop} [Decidable c] {x y : α} {r : β → α} {Q : β → Prop} (hx : c → ∃ b, x = r b ∧ Q b) (hy : ¬ c → ∃ b, y = r b ∧ Q b) : ∃ b, iteC c x y = r b ∧ Q b := by unfold iteC; split <;> simp_all
theorem ifX2 {α β γ : Type} {c : Prop} [Decidable c] {x y : α} {r : β → γ → α} {Q : β → γ → Prop} (hx : c → ∃ b d, x = r b d ∧ Q b d) (hy : ¬ c → ∃ b d, y = r b d ∧ Q b d) : ∃ b d, iteC c x y = r b d ∧ Q b d := by unfold iteC; split <;> simp_all

section
variable (P : Program) (call : CallF)
def valM (d : Option Nat) (τ : Tm) (r : Option (AV × AH)) : Option (Tm × AH) := match r with
  | some (v, H') => some (put τ d v, H')
  | none => none
@[irreducible] def valZ (o : Oper) (τ : Tm) (H : AH) : Option (Tm × AH) := valM o.dst τ (evO P call o τ H)
def wantM (b : Bool) (o : Oper) (τ : Tm) (H : AH) : Option (Tm × AH) := if b = true then valM o.dst τ (evO P call o τ H) else some (put τ o.dst U, H)
def evOpsM (ops : Array Oper) : List Oper → Tm → AH → Option (Tm × AH)
  | [], τ, H => some (τ, H)
  | o :: l, τ, H => match wantM P call (wantA ops τ o) o τ H with
    | some (τ', H') => evOpsM ops l τ' H'
    | none => none
def opsM (ops : Array Oper) (l : List Oper) (r : Option (Tm × AH)) : Option (Tm × AH) := match r with
  | some (τ', H') => evOpsM P call ops l τ' H'
  | none => none
theorem evOpsM_0 (ops : Array Oper) (τ : Tm) (H : AH) : evOpsM P call ops [] τ H = some (τ, H) := rfl
theorem evOpsM_1 (ops : Array Oper) (o : Oper) (l : List Oper) (τ : Tm) (H : AH) : evOpsM P call ops (o :: l) τ H = opsM P call ops l (wantM P call (wantA ops τ o) o τ H) := rfl
theorem evOpsM_eq (ops : Array Oper) : ∀ (l : List Oper) (τ : Tm) (H : AH), evOpsM P call ops l τ H = evOps P call ops l τ H
  | [], τ, H => rfl
  | o :: l, τ, H => by
    have hs : wantM P call (wantA ops τ o) o τ H = stepA P call ops o τ H := by
      unfold wantM stepA valM; rfl
    simp only [evOpsM, evOps, hs, evOpsM_eq ops l]
    cases stepA P call ops o τ H with
    | none => rfl
    | some r => rfl
open Classical in
noncomputable def evDM (i : DrI) (ops : Array Oper) (τ : Tm) (H : AH) : Option (Tm × AH) := match i with
  | .bad => none
  | .flt I => evFltG P call ops I τ H
  | .seq [] => evOpsM P call ops ops.toList τ H
  | .seq (q :: l) => evSeqG P call ops (q :: l) τ H
theorem evDM_eq (i : DrI) (ops : Array Oper) (τ : Tm) (H : AH) : evDM P call i ops τ H = evD P call i ops τ H := by
  unfold evDM evD; split
  · rfl
  · exact evFltG_eq P call ops _ _ _
  · exact evOpsM_eq P call ops _ _ _
  · exact evSeqG_eq P call ops _ _ _
def regM (r : Option (Tm × AH)) : Out := match r with
  | some (τ', H') => some (.normal, τ', H')
  | none => none
def unblk (id : Nat) (r : Out) : Out := match r with
  | some (.exit id', τ', H') => if id' = id then some (.normal, τ', H') else some (.exit id', τ', H')
  | r => r
def resM (rs : List ResultVar) (r : Out) : Option (AV × AH) := match r with
  | some (.normal, τ, H) => (resA P rs τ H).map fun r => (r, H)
  | some (.ret, τ, H) => (resA P rs τ H).map fun r => (r, H)
  | _ => none
variable (n : Nat) (f : FuncId) (st : List Nat)
noncomputable def evM (p : Nat) (c : Code) (τ : Tm) (H : AH) : Out := evK P call n f st p c τ H
/-- frozen -/
@[irreducible] noncomputable def evZ (p : Nat) (c : Code) (τ : Tm) (H : AH) : Out := evK P call n f st p c τ H
theorem evZ_eq (p : Nat) (c : Code) (τ : Tm) (H : AH) : evZ P call n f st p c τ H = evM P call n f st p c τ H := by unfold evZ evM; rfl
noncomputable def bindM (p : Nat) (b : Code) (r : Out) : Out := match r with
  | some (.normal, τ, H) => evM P call n f st p b τ H
  | r => r
noncomputable def condM (p : Nat) (a b : Code) (τ : Tm) (H : AH) (q : Option AV) : Out := match q with
  | some (.bool q) => if q = true then evM P call n f st (2 * p) a τ H else evM P call n f st (2 * p + 1) b τ H
  | _ => none
noncomputable def regionM (p : Nat) (ops : Array Oper) (draw : Bool) (τ : Tm) (H : AH) : Out := regM (if draw then evDM P call (dr P f p) ops τ H else evOpsM P call ops ops.toList τ H)
/-- a function for simp -/
noncomputable def evFM (fn : Func) (args : List AV) (H : AH) : Option (AV × AH) := match fn.body with
  | some c => resM P fn.results.toList (evM P call n f st 1 c (tm0 args) H)
  | none => none
end
section
variable {P : Program} {call : CallF} {n : Nat} {f : FuncId} {st : List Nat} {p : Nat} {τ : Tm} {H : AH} {c : Prop} [Decidable c] {id id' : Nat}
@[simp] theorem evM_skip : evM P call n f st p .skip τ H = some (.normal, τ, H) := rfl
@[simp] theorem evM_label (l : Nat) : evM P call n f st p (.label l) τ H = some (.normal, τ, H) := rfl
@[simp] theorem evM_region (i : Nat) (ops : Array Oper) (draw : Bool) : evM P call n f st p (.region i ops draw) τ H = if p ∈ st then evAt P call n f p τ H else regionM P call f p ops draw τ H := by
  simp only [evM, evK, regionM, evDM_eq, evOpsM_eq]; rfl
@[simp] theorem evM_seq (a b : Code) : evM P call n f st p (.seq a b) τ H = if p ∈ st then evAt P call n f p τ H else bindM P call n f st (2 * p + 1) b (evM P call n f st (2 * p) a τ H) := rfl
@[simp] theorem evM_cond (x : Operand) (a b : Code) : evM P call n f st p (.cond x a b) τ H = if p ∈ st then evAt P call n f p τ H else condM P call n f st p a b τ H (opnd τ x) := rfl
@[simp] theorem evM_block (a : Code) : evM P call n f st p (.block id a) τ H = if p ∈ st then evAt P call n f p τ H else unblk id (evM P call n f st (2 * p) a τ H) := rfl
@[simp] theorem evM_loop (a : Code) : evM P call n f st p (.loop a) τ H = evLoop P call n (lp P f p) τ H := rfl
@[simp] theorem evM_exit : evM P call n f st p (.exit id) τ H = some (.exit id, τ, H) := rfl
@[simp] theorem evM_scope (a : Code) : evM P call n f st p (.scope a) τ H = if p ∈ st then evAt P call n f p τ H else evM P call n f st (2 * p) a τ H := rfl
@[simp] theorem evM_ret : evM P call n f st p .ret τ H = some (.ret, τ, H) := rfl
@[simp] theorem bindM_n (b : Code) : bindM P call n f st p b (some (.normal, τ, H)) = evM P call n f st p b τ H := rfl
@[simp] theorem bindM_r (b : Code) : bindM P call n f st p b (some (.ret, τ, H)) = some (.ret, τ, H) := rfl
@[simp] theorem bindM_e (b : Code) : bindM P call n f st p b (some (.exit id, τ, H)) = some (.exit id, τ, H) := rfl
@[simp] theorem bindM_0 (b : Code) : bindM P call n f st p b none = none := rfl
@[simp] theorem unblk_n : unblk id (some (.normal, τ, H)) = some (.normal, τ, H) := rfl
@[simp] theorem unblk_r : unblk id (some (.ret, τ, H)) = some (.ret, τ, H) := rfl
@[simp] theorem unblk_e : unblk id (some (.exit id', τ, H)) = if id' = id then some (.normal, τ, H) else some (.exit id', τ, H) := rfl
@[simp] theorem unblk_0 : unblk id none = none := rfl
@[simp] theorem condM_t (a b : Code) : condM P call n f st p a b τ H (some (.bool true)) = evM P call n f st (2 * p) a τ H := rfl
@[simp] theorem condM_f (a b : Code) : condM P call n f st p a b τ H (some (.bool false)) = evM P call n f st (2 * p + 1) b τ H := rfl
@[simp] theorem condM_d (a b : Code) : condM P call n f st p a b τ H (some (.bool (decide c))) = iteC c (evZ P call n f st (2 * p) a τ H) (evZ P call n f st (2 * p + 1) b τ H) := by
  unfold iteC; by_cases h : c <;> simp [condM, h, evZ_eq]
@[simp] theorem condM_nd (a b : Code) : condM P call n f st p a b τ H (some (.bool (!decide c))) = iteC c (evZ P call n f st (2 * p + 1) b τ H) (evZ P call n f st (2 * p) a τ H) := by
  unfold iteC; by_cases h : c <;> simp [condM, h, evZ_eq]
theorem condM_b (a b : Code) (q : Bool) : condM P call n f st p a b τ H (some (.bool q)) = iteC (q = true) (evZ P call n f st (2 * p) a τ H) (evZ P call n f st (2 * p + 1) b τ H) := by
  unfold iteC; cases q <;> simp [condM, evZ_eq]
@[simp] theorem regM_s (r : Tm × AH) : regM (some r) = some (.normal, r.1, r.2) := rfl
@[simp] theorem regM_0 : regM none = none := rfl
@[simp] theorem opsM_s (ops : Array Oper) (l : List Oper) (r : Tm × AH) : opsM P call ops l (some r) = evOpsM P call ops l r.1 r.2 := rfl
@[simp] theorem opsM_0 (ops : Array Oper) (l : List Oper) : opsM P call ops l none = none := rfl
@[simp] theorem valM_s {d : Option Nat} (r : AV × AH) : valM d τ (some r) = some (put τ d r.1, r.2) := rfl
@[simp] theorem valM_0 {d : Option Nat} : valM d τ none = none := rfl
@[simp] theorem wantM_t (o : Oper) : wantM P call true o τ H = valM o.dst τ (evO P call o τ H) := rfl
@[simp] theorem wantM_f (o : Oper) : wantM P call false o τ H = some (put τ o.dst U, H) := rfl
@[simp] theorem wantM_d (o : Oper) : wantM P call (decide c) o τ H = iteC c (valZ P call o τ H) (some (put τ o.dst U, H)) := by
  unfold iteC valZ; by_cases h : c <;> simp [wantM, h]
@[simp] theorem wantM_nd (o : Oper) : wantM P call (!decide c) o τ H = iteC c (some (put τ o.dst U, H)) (valZ P call o τ H) := by
  unfold iteC valZ; by_cases h : c <;> simp [wantM, h]
@[simp] theorem resM_n (rs : List ResultVar) : resM P rs (some (.normal, τ, H)) = (resA P rs τ H).map fun r => (r, H) := rfl
@[simp] theorem resM_r (rs : List ResultVar) : resM P rs (some (.ret, τ, H)) = (resA P rs τ H).map fun r => (r, H) := rfl
/-! a test is pulled ahead -/
theorem bindM_i (b : Code) (x y : Out) : bindM P call n f st p b (iteC c x y) = iteC c (bindM P call n f st p b x) (bindM P call n f st p b y) := by unfold iteC; split <;> rfl
theorem unblk_i (x y : Out) : unblk id (iteC c x y) = iteC c (unblk id x) (unblk id y) := by unfold iteC; split <;> rfl
theorem regM_i (x y : Option (Tm × AH)) : regM (iteC c x y) = iteC c (regM x) (regM y) := by unfold iteC; split <;> rfl
theorem opsM_i (ops : Array Oper) (l : List Oper) (x y : Option (Tm × AH)) : opsM P call ops l (iteC c x y) = iteC c (opsM P call ops l x) (opsM P call ops l y) := by unfold iteC; split <;> rfl
theorem valM_i {d : Option Nat} (x y : Option (AV × AH)) : valM d τ (iteC c x y) = iteC c (valM d τ x) (valM d τ y) := by unfold iteC; split <;> rfl
theorem resM_i (rs : List ResultVar) (x y : Out) : resM P rs (iteC c x y) = iteC c (resM P rs x) (resM P rs y) := by unfold iteC; split <;> rfl
theorem valZ_eq (o : Oper) : valZ P call o τ H = valM o.dst τ (evO P call o τ H) := by unfold valZ; rfl
end
theorem ev_M {P : Program} {f : FuncId} {fn : Func} (hf : P.funcs[f]? = some fn) (hok : goodFn fn = true) (st : List Nat) (n : Nat) (args : List AV) (H : AH) (hl : args.length ≤ fn.ntmps) : ev P (n + 1) f args H = evFM P (ev P n) n f st fn args H := by
  rw [ev_cut hf hok st n args H hl]; rfl
theorem at_M {P : Program} {f : FuncId} {fn : Func} (hf : P.funcs[f]? = some fn) (p : Nat) (h1 : 1 ≤ p) (k : Nat) (hk : p < 2 ^ k) (hd : decide (k + depth (sub (fn.body.getD .skip) 200 p) ≤ 198) = true) (st : List Nat) (call : CallF) (n : Nat) (τ : Tm) (H : AH) :
    evAt P call n f p τ H = evM P call n f st p (sub (fn.body.getD .skip) 200 p) τ H := at_cut hf p h1 k hk hd st call n τ H
theorem lp_M {P : Program} {f : FuncId} {fn : Func} (hf : P.funcs[f]? = some fn) (p : Nat) (h1 : 1 ≤ p) (k : Nat) (hk : p < 2 ^ k) (hd : decide (k + 1 + depth (sub (fn.body.getD .skip) 200 (2 * p)) ≤ 198) = true) (st : List Nat) (call : CallF) (n : Nat) (τ : Tm) (H : AH) :
    evCode P call n (lp P f p) τ H = evM P call n f st (2 * p) (sub (fn.body.getD .skip) 200 (2 * p)) τ H := lp_cut hf p h1 k hk hd st call n τ H
attribute [simp] evFM regionM evOpsM_0 evOpsM_1 evDM
theorem res_get (H : AH) (n b : Nat) : (H.res n).get b = if H.next ≤ b ∧ b < H.next + n then some .res else H.get b := rfl
theorem res_next (H : AH) (n : Nat) : (H.res n).next = H.next + n := rfl
attribute [simp] List.lookup_cons List.getElem?_cons_zero List.idxOf_cons List.idxOf_nil res_get res_next evFltG_e runG_0 runG_1 goV_s goF_s endG_s evSeqG_e runS_0 runS_1 goS_s endS_s needG needS ObSS ObGG plusT fltO Sh.av isEff
/-! tests that arithmetic decides (for a discharger) -/
theorem beqT {a b : Int} (h : a = b) : (a == b) = true := by simpa using h
theorem beqF {a b : Int} (h : ¬ a = b) : (a == b) = false := by simpa using h
theorem decT {p : Prop} [Decidable p] (h : p) : decide p = true := decide_eq_true h
theorem decF {p : Prop} [Decidable p] (h : ¬ p) : decide p = false := decide_eq_false h
section
variable {P : Program} {call : CallF} {n : Nat} {f : FuncId} {st : List Nat} {p : Nat} {τ : Tm} {H : AH}
@[simp] theorem condM_q (a b : Code) (x y : Int) : condM P call n f st p a b τ H (some (.bool (x == y))) = iteC (x = y) (evZ P call n f st (2 * p) a τ H) (evZ P call n f st (2 * p + 1) b τ H) := by
  unfold iteC; by_cases h : x = y <;> simp [condM, h, evZ_eq]
@[simp] theorem condM_nq (a b : Code) (x y : Int) : condM P call n f st p a b τ H (some (.bool (!(x == y)))) = iteC (x = y) (evZ P call n f st (2 * p + 1) b τ H) (evZ P call n f st (2 * p) a τ H) := by
  unfold iteC; by_cases h : x = y <;> simp [condM, h, evZ_eq]
@[simp] theorem condM_bq (a b : Code) (x y : Bool) : condM P call n f st p a b τ H (some (.bool (x == y))) = iteC (x = y) (evZ P call n f st (2 * p) a τ H) (evZ P call n f st (2 * p + 1) b τ H) := by
  unfold iteC; by_cases h : x = y <;> simp [condM, h, evZ_eq]
@[simp] theorem wantM_q (o : Oper) (x y : Int) : wantM P call (x == y) o τ H = iteC (x = y) (valZ P call o τ H) (some (put τ o.dst U, H)) := by
  unfold iteC valZ; by_cases h : x = y <;> simp [wantM, h]
@[simp] theorem wantM_nq (o : Oper) (x y : Int) : wantM P call (!(x == y)) o τ H = iteC (x = y) (some (put τ o.dst U, H)) (valZ P call o τ H) := by
  unfold iteC valZ; by_cases h : x = y <;> simp [wantM, h]
end
/-- whole numbers that need no wrapping -/
theorem wrapI {n : Int} (h : -9223372036854775808 ≤ n ∧ n ≤ 9223372036854775807) : IntKind.i64.wrap n = n := wrap_i64 h.1 h.2
theorem tmodI {a b : Int} (h : 0 ≤ a) : a.tmod b = a % b := Int.tmod_eq_emod_of_nonneg h
theorem tdivI {a b : Int} (h : 0 ≤ a) : a.tdiv b = a / b := Int.tdiv_eq_ediv_of_nonneg h
end Go.Ev

/- Frames in plain: which fields a kind has; whether a frame is right. -/
namespace Go.Ev
open Go Go.Proofs
set_option linter.unusedSimpArgs false
set_option linter.unusedVariables false

/-- the fields that a kind has: A, B, Fin, Data, Token, Ranges -/
def shapeL : List (Int × (Bool × Bool × Bool × Bool × Bool × Bool)) :=
  [(0, true, false, false, false, false, false), (1, false, false, false, false, false, false), (2, true, false, false, false, false, true), (4, true, true, false, false, false, false),
   (5, true, true, false, false, false, false), (6, true, false, false, true, false, false), (7, false, false, false, true, false, false), (8, true, true, true, true, false, false),
   (16, true, false, false, false, false, false), (17, true, true, false, false, false, false), (18, true, true, false, false, false, false), (20, true, false, false, false, false, false),
   (21, true, true, false, false, false, false), (22, true, true, false, false, false, false), (24, true, true, false, true, true, false), (25, true, false, false, false, false, false),
   (26, false, false, false, true, false, false), (27, false, false, false, true, false, false), (28, true, true, false, true, false, false), (29, true, false, false, true, false, false),
   (30, false, false, false, false, false, false), (48, false, false, false, true, false, false)]
def shC (s : Bool × Bool × Bool × Bool × Bool × Bool) : AV := .agg [.bool s.1, .bool s.2.1, .bool s.2.2.1, .bool s.2.2.2.1, .bool s.2.2.2.2.1, .bool s.2.2.2.2.2]
def shN : Bool × Bool × Bool × Bool × Bool × Bool := (false, false, false, false, false, false)
def inV (x : Int) : Prop := 0 ≤ x ∧ x ≤ 4611686018427387903
instance (x : Int) : Decidable (inV x) := by unfold inV; infer_instance
theorem findA_ints (k : Int) : ∀ (L : List (Int × AV)) (i : Nat), findA (.int .i64 k) (L.map fun q => (AV.int .i64 q.1, q.2)) i = some (match L.lookup k with | some v => some (i + (L.map (·.1)).idxOf k, v) | none => none)
  | [], i => rfl
  | (x, v) :: L, i => by
    simp only [List.map_cons, findA, sameK, if_true, List.lookup_cons]
    by_cases h : k = x
    · subst h; simp
    · have h1 : (k == x) = false := by simpa using h
      have h2 : (x == k) = false := by simpa using fun e => h e.symm
      simp only [h1, findA_ints k L (i + 1)]
      cases L.lookup k with
      | none => rfl
      | some w => simp [List.idxOf_cons, h2]; omega
theorem look_ints {P : Program} {H : AH} {b : Nat} {t kt et : TypeId} {z : AV} {k : Int} {L : List (Int × AV)} (hm : mapT P t (.int .i64 k) = some (kt, et)) (hz : zeroV P et = some z) (hb : H.get b = some (.map (L.map fun q => (AV.int .i64 q.1, q.2)))) :
    lookA P t (.map b) (.int .i64 k) H true = some (.tuple (match L.lookup k with | some v => [v, .bool true] | none => [z, .bool false])) := by
  unfold lookA
  simp only [hm, hb, findA_ints]
  cases L.lookup k with
  | none => simp [hz]
  | some v => simp
theorem mapT_i64 (k : Int) : mapT Try.prog 288 (.int .i64 k) = some (3, 197) := by simp [mapT, keyOk]
def shV : List (Int × AV) := shapeL.map fun q => (q.1, shC q.2)
theorem shV_look (k : Int) : shV.lookup k = (shapeL.lookup k).map shC := by
  unfold shV
  induction shapeL with
  | nil => rfl
  | cons q l ih =>
    obtain ⟨x, s⟩ := q
    simp only [List.map_cons, List.lookup_cons]
    cases k == x with
    | true => rfl
    | false => exact ih
set_option maxRecDepth 20000 in
set_option maxHeartbeats 2000000 in
theorem shapeOf_ev (k : Int) (H : AH) (m : Nat) (hm : 1 ≤ m) : ∃ H', ev Try.prog m 137 [.int .i64 k] H = some (.tuple [shC ((shapeL.lookup k).getD shN), .bool (shapeL.lookup k).isSome], H') ∧ Kp H H' := by
  obtain ⟨m, rfl⟩ : ∃ k, m = k + 1 := ⟨m - 1, by omega⟩
  rw [ev_M Try.func137 ok137 [7] m _ H (by simp [Try.f137])]
  have h7 : ∀ (τ : Tm) (X : AH), τ 0 = .int .i64 k → τ 2 = .ptr H.next 0 → τ 4 = .map (H.next + 1) → X.get H.next = some (.cells 197 false [.bool false, .bool false, .bool false, .bool false, .bool false, .bool false]) →
      X.get (H.next + 1) = some (.map (shV.map fun q => (AV.int .i64 q.1, q.2))) → X.next = H.next + 2 → (∀ b, b < H.next → X.get b = H.get b) →
      ∃ τ' H', evAt Try.prog (ev Try.prog m) m 137 7 τ X = some (.ret, τ', H') ∧ τ' 2 = .ptr H.next 0 ∧ H'.get H.next = some (.cells 197 false (shC ((shapeL.lookup k).getD shN)).cells) ∧ τ' 3 = .bool (shapeL.lookup k).isSome ∧ Kp H H' := by
    intro τ X t0 t2 t4 g0 g1 gn gk
    have hl := look_ints (mapT_i64 k) (z := shC shN) (by simp [shC, shN]) g1
    rw [shV_look] at hl
    rw [at_M Try.func137 7 (by decide) 3 (by decide) (by kernel_rfl) []]
    have fin : ∀ (s : Bool × Bool × Bool × Bool × Bool × Bool) (q : Bool), lookA Try.prog 288 (.map (H.next + 1)) (.int .i64 k) X true = some (.tuple [shC s, .bool q]) →
        ∃ τ' H', evM Try.prog (ev Try.prog m) m 137 [] 7 (sub (Try.f137.body.getD .skip) 200 7) τ X = some (.ret, τ', H') ∧ τ' 2 = .ptr H.next 0 ∧ H'.get H.next = some (.cells 197 false (shC s).cells) ∧ τ' 3 = .bool q ∧ Kp H H' := by
      intro s q hl
      have n0 : ¬ (H.next = X.next) := by omega
      have n1 : ¬ (X.next = H.next) := by omega
      simp only [shC] at hl ⊢
      refine ⟨_, _, by simp [Try.f137, t0, t2, t4, hl, g0, n0, n1, ldVar, stVar, spl]; exact ⟨rfl, rfl⟩, by simp [t2], by simp, by simp, ⟨by simp; omega, fun b hb => ?_⟩⟩
      simp only [AH.set_get, AH.push_get]
      rw [if_neg (by omega), if_neg (by omega)]; exact gk b hb
    cases hk : shapeL.lookup k with
    | none => rw [hk] at hl; exact fin _ _ hl
    | some s => rw [hk] at hl; exact fin _ _ hl
  have h8 : ∀ (τ : Tm) (X : AH), τ 0 = .int .i64 k → τ 2 = .ptr H.next 0 → τ 4 = .map (H.next + 1) → X.get H.next = some (.cells 197 false [.bool false, .bool false, .bool false, .bool false, .bool false, .bool false]) →
      X.get (H.next + 1) = some (.map (shV.map fun q => (AV.int .i64 q.1, q.2))) → X.next = H.next + 2 → (∀ b, b < H.next → X.get b = H.get b) →
      ∃ H', resM Try.prog [.cell 2 197, .tmp 3] (evAt Try.prog (ev Try.prog m) m 137 7 τ X) = some (.tuple [shC ((shapeL.lookup k).getD shN), .bool (shapeL.lookup k).isSome], H') ∧ Kp H H' := by
    intro τ X t0 t2 t4 g0 g1 gn gk
    obtain ⟨τ', H', e1, e2, e3, e4, e5⟩ := h7 τ X t0 t2 t4 g0 g1 gn gk
    rw [e1]
    refine ⟨H', ?_, e5⟩
    simp only [shC, AV.cells] at e3
    simp [e2, e4, ldVar, e3, shC]
  simp [Try.f137, updA, mapT, keyOk, mapPut, findA, sameK, fillA, spl]
  refine h8 _ _ (by simp [tm0]) (by simp) (by simp) (by simp) (by simp [shV, shapeL, shC]) (by simp) (fun b hb => ?_)
  have n1 : ¬ (b = H.next) := by omega
  have n2 : ¬ (b = H.next + 1) := by omega
  simp [n1, n2]
end Go.Ev

/- Ranges of a frame: whether they are right. -/
namespace Go.Ev
open Go Go.Proofs
set_option linter.unusedSimpArgs false
set_option linter.unusedVariables false

theorem inVar_ev (x : Int) (H : AH) (m : Nat) (hm : 1 ≤ m) : ev Try.prog m 138 [.int .i64 x] H = some (.bool (decide (inV x)), H) := by
  obtain ⟨m, rfl⟩ : ∃ k, m = k + 1 := ⟨m - 1, by omega⟩
  rw [ev_M Try.func138 ok138 [] m _ H (by simp [Try.f138])]
  by_cases h0 : 0 ≤ x
  · by_cases h1 : x ≤ 4611686018427387903
    · have hv : inV x := ⟨h0, h1⟩
      simp [Try.f138, tm0, h0, h1, hv]
    · have hv : ¬ inV x := fun h => h1 h.2
      simp [Try.f138, tm0, h0, h1, hv]
  · have hv : ¬ inV x := fun h => h0 h.1
    simp [Try.f138, tm0, h0, hv]
theorem l05Var_ev (x : Int) (H : AH) (m : Nat) (hm : 1 ≤ m) : ev Try.prog m 142 [.int .i64 x] H = some (.bool (decide (inV x)), H) := by
  obtain ⟨m, rfl⟩ : ∃ k, m = k + 1 := ⟨m - 1, by omega⟩
  rw [ev_M Try.func142 ok142 [] m _ H (by simp [Try.f142])]
  by_cases h0 : 0 ≤ x
  · by_cases h1 : x ≤ 4611686018427387903
    · have hv : inV x := ⟨h0, h1⟩
      simp [Try.f142, tm0, h0, h1, hv]
    · have hv : ¬ inV x := fun h => h1 h.2
      simp [Try.f142, tm0, h0, h1, hv]
  · have hv : ¬ inV x := fun h => h0 h.1
    simp [Try.f142, tm0, h0, hv]
/-- a range behind another -/
def rgO (p : Option (Int × Int)) (x : Int × Int) : Prop := x.1 ≤ x.2 ∧ inV x.1 ∧ inV x.2 ∧ (∀ q, p = some q → q.2 + 1 < x.1)
def rgL : Option (Int × Int) → List (Int × Int) → Prop
  | _, [] => True
  | p, x :: l => rgO p x ∧ rgL (some x) l
def rgOK (rs : List (Int × Int)) : Prop := rs.length ≤ 64 ∧ rgL none rs
noncomputable instance (rs : List (Int × Int)) : Decidable (rgOK rs) := Classical.propDecidable _
theorem rgAt {rw : Bool} {H : AH} {r : AV} {rs : List (Int × Int)} {bs : List Nat} (hr : (Ty.sl 94 tT94).R rw H [r] rs bs) {k : Nat} (hk : k < rs.length) :
    ∃ b o ro L, idxA Try.prog 70 r (.int .i64 k) = some (.ptr b o) ∧ b < H.next ∧ H.get b = some (.cells 94 ro L) ∧ o + 2 ≤ L.length ∧ (L.drop o).take 2 = [.int .i64 rs[k].1, .int .i64 rs[k].2] ∧ L[o]? = some (.int .i64 rs[k].1) ∧ L[o + 1]? = some (.int .i64 rs[k].2) ∧ InK .i64 rs[k].1 ∧ InK .i64 rs[k].2 := by
  obtain ⟨b, o, ro, x1, c, x2, bk, u1, u2, u3, u4, u5, u6, u7, u8⟩ := Ty.R.at_ hr (P := Try.prog) (T := 70) (by simp) (by simp [Ty.n]) (k := k) hk
  rcases hx : rs[k] with ⟨X, Y⟩
  rw [hx] at u5
  obtain ⟨rfl, _, i1, i2⟩ := o94 u5
  subst u4
  exact ⟨b, _, ro, _, u1, u2, u3, by simp, by simp, by simp, by simp, i1, i2⟩
def RgI (r : AV) (rs : List (Int × Int)) (H : AH) (d : Nat) (τ : Tm) (h : AH) : Prop :=
  ∃ (k : Nat), k + d = rs.length ∧ τ 0 = r ∧ τ 8 = r ∧ τ 9 = .int .i64 rs.length ∧ τ 10 = .int .i64 k ∧ Kp H h ∧ (rgL none rs ↔ rgL (if k = 0 then none else rs[k - 1]?) (rs.drop k)) ∧ (∀ q, 0 < k → rs[k - 1]? = some q → inV q.2)
set_option maxRecDepth 20000 in
theorem rgLoop {rw : Bool} {Hb H : AH} {r : AV} {rs : List (Int × Int)} {bs : List Nat} (hr : (Ty.sl 94 tT94).R rw Hb [r] rs bs) (hK : Kp Hb H) (hl : rs.length ≤ 64) (m : Nat) (hm : 70 ≤ m) (τ : Tm) (hI : RgI r rs H rs.length τ H) :
    ∃ e τ' H', evLoop Try.prog (ev Try.prog m) m (lp Try.prog 139 58) τ H = some (e, τ', H') ∧ Kp H H' ∧ ((e = .exit 0 ∧ rgL none rs) ∨ (e = .ret ∧ τ' 2 = .bool false ∧ ¬ rgL none rs)) := by
  refine loop_rule (d := rs.length) (RgI r rs H) (fun e τ h => Kp H h ∧ ((e = .exit 0 ∧ rgL none rs) ∨ (e = .ret ∧ τ 2 = .bool false ∧ ¬ rgL none rs))) ?_ hI (by omega)
  intro d τ h ⟨k, hk, t0, t8, t9, t10, hKh, hrg, hpq⟩
  rw [lp_M Try.func139 58 (by decide) 6 (by decide) (by kernel_rfl) []]
  by_cases hd0 : d = 0
  · subst hd0
    have hkl : ¬ ((k : Int) < rs.length) := by omega
    simp [Try.f139, t9, t10, hkl]
    refine ⟨hKh, ?_⟩
    rw [hrg, List.drop_eq_nil_of_le (by omega)]; trivial
  · have hlt : k < rs.length := by omega
    have hlt' : (k : Int) < rs.length := by omega
    have hKK := hK.trans hKh
    obtain ⟨b, o, ro, L, u1, u2, u3, L1, L2, L3, L4, i1, i2⟩ := rgAt (hr.kp hKK) hlt
    rcases hx : rs[k] with ⟨X, Y⟩
    rw [hx] at L2 L3 L4 i1 i2
    simp only at L2 L3 L4 i1 i2
    have c1 := fun H => inVar_ev X H m (by omega)
    have c2 := fun H => inVar_ev Y H m (by omega)
    have hdr : rs.drop k = (X, Y) :: rs.drop (k + 1) := by rw [List.drop_eq_getElem_cons hlt, hx]
    have w1 : IntKind.i64.wrap ((k : Int) + 1) = (k : Int) + 1 := wrap_i64 (n := (k : Int) + 1) (by omega) (by omega)
    have kp1 : ∀ B, Kp H (h.push B) := fun B => hKh.push _
    have bad : ¬ rgO (if k = 0 then none else rs[k - 1]?) (X, Y) → ¬ rgL none rs := by
      intro hb hh
      rw [hrg, hdr] at hh
      exact hb hh.1
    have nb : ¬ (h.next = b) := by omega
    by_cases q1 : X ≤ Y
    · have hn1 : (Y < X) = False := eq_false (by omega)
      by_cases q2 : inV X
      · by_cases q3 : inV Y
        · have good : (∀ q, (if k = 0 then none else rs[k - 1]?) = some q → q.2 + 1 < X) → (rgL none rs ↔ rgL (if k + 1 = 0 then none else rs[k + 1 - 1]?) (rs.drop (k + 1))) := by
            intro hq
            rw [hrg, hdr]
            simp [rgL, rgO, q1, q2, q3, hlt, hx]
            intro _ a b hn hq'
            exact hq (a, b) (by simp [hn, hq'])
          have pq' : ∀ q, 0 < k + 1 → rs[k + 1 - 1]? = some q → inV q.2 := by
            intro q _ hq
            simp [hlt, hx] at hq
            subst hq; exact q3
          by_cases hk0 : k = 0
          · subst hk0
            have u1' : idxA Try.prog 70 r (.int .i64 0) = some (.ptr b o) := u1
            simp (disch := omega) [Try.f139, t0, t8, t9, t10, hlt, hlt', u1', u3, L1, L2, ldVar, stVar, spl, c1, c2, q1, q2, q3, hn1]
            exact ⟨d - 1, by omega, 1, by omega, by simp [t0], by simp [t8], by simp [t9], by simp; decide, kp1 _, good (by simp), pq'⟩
          · obtain ⟨b', o', ro', L', v1, v2, v3, M1, M2, M3, M4, j1, j2⟩ := rgAt (hr.kp hKK) (k := k - 1) (by omega)
            have hk1 : rs[k - 1]? = some rs[k - 1] := List.getElem?_eq_getElem (by omega)
            have hpv := hpq _ (by omega) hk1
            rcases hy : rs[k - 1] with ⟨X', Y'⟩
            rw [hy] at M2 M3 M4 j1 j2 hpv hk1
            simp only at M2 M3 M4 j1 j2 hpv
            obtain ⟨_, M5⟩ := List.getElem?_eq_some_iff.1 M4
            have nb' : ¬ (b' = h.next) := by omega
            have w0 : IntKind.i64.wrap ((k : Int) - 1) = ((k - 1 : Nat) : Int) := by rw [wrap_i64 (n := (k : Int) - 1) (by omega) (by omega)]; omega
            have w2 : IntKind.i64.wrap (Y' + 1) = Y' + 1 := wrap_i64 (n := Y' + 1) (by have := hpv.1; omega) (by have := hpv.2; omega)
            have k0 : (0 : Int) < k := by omega
            have k0' : 0 < k := by omega
            by_cases q4 : X ≤ Y' + 1
            · simp (disch := omega) [Try.f139, t0, t8, t9, t10, hlt, hlt', u1, u3, L1, L2, v1, v3, M4, M5, nb', ldVar, stVar, spl, c1, c2, q1, q2, q3, q4, hn1, w0, w2, k0, k0']
              refine ⟨kp1 _, bad fun h => ?_⟩
              have := h.2.2.2 (X', Y') (by simp [hk0, hk1])
              simp only at this; omega
            · have q4' : (X ≤ Y' + 1) = False := eq_false q4
              simp (disch := omega) [Try.f139, t0, t8, t9, t10, hlt, hlt', u1, u3, L1, L2, v1, v3, M4, M5, nb', ldVar, stVar, spl, c1, c2, q1, q2, q3, q4', hn1, w0, w2, k0, k0']
              exact ⟨d - 1, by omega, k + 1, by omega, by simp [t0], by simp [t8], by simp [t9], by simp [w1], kp1 _, good (by simp [hk0, hk1]; omega), pq'⟩
        · simp (disch := omega) [Try.f139, t0, t8, t9, t10, hlt, hlt', u1, u3, L1, L2, ldVar, stVar, spl, c1, c2, q1, q2, q3, hn1]
          exact ⟨kp1 _, rfl, bad fun h => q3 h.2.2.1⟩
      · simp (disch := omega) [Try.f139, t0, t8, t9, t10, hlt, hlt', u1, u3, L1, L2, ldVar, stVar, spl, c1, c2, q1, q2, hn1]
        exact ⟨kp1 _, rfl, bad fun h => q2 h.2.1⟩
    · have q1' : (X ≤ Y) = False := eq_false q1
      have q1'' : Y < X := by omega
      simp (disch := omega) [Try.f139, t0, t8, t9, t10, hlt, hlt', u1, u3, L1, L2, ldVar, stVar, spl, q1', q1'']
      exact ⟨kp1 _, rfl, bad fun h => q1 h.1⟩
theorem rangesOK_ev {rw : Bool} {Hb H : AH} {r : AV} {rs : List (Int × Int)} {bs : List Nat} (hr : (Ty.sl 94 tT94).R rw Hb [r] rs bs) (hK : Kp Hb H) (hl : rs.length ≤ 1048576) (m : Nat) (hm : 71 ≤ m) :
    ∃ H', ev Try.prog m 139 [r] H = some (.bool (decide (rgOK rs)), H') ∧ Kp H H' := by
  obtain ⟨m, rfl⟩ : ∃ k, m = k + 1 := ⟨m - 1, by omega⟩
  rw [ev_M Try.func139 ok139 [] m _ H (by simp [Try.f139])]
  have e1 := Ty.R.lenA hr (P := Try.prog) (T := 70) (by simp)
  by_cases h64 : rs.length ≤ 64
  · have h64' : ((64 : Int) < rs.length) = False := eq_false (by omega)
    simp (disch := omega) [Try.f139, tm0, e1, h64']
    generalize hLo : evLoop _ _ _ _ _ _ = R
    obtain ⟨e, τ', H', rfl, hKp, g⟩ := loop_at hLo (rgLoop hr hK h64 m (by omega) _ ⟨0, by simp, by simp, by simp, by simp, by simp, Kp.refl H, by simp, by simp⟩)
    rcases g with ⟨rfl, hg⟩ | ⟨rfl, hg, hb⟩
    · refine ⟨H', ?_, hKp⟩
      have : rgOK rs := ⟨h64, hg⟩
      simp [this]
    · refine ⟨H', ?_, hKp⟩
      have : ¬ rgOK rs := fun h => hb h.2
      simp [this, hg]
  · have h64' : ((64 : Int) < rs.length) = True := eq_true (by omega)
    have : ¬ rgOK rs := fun h => h64 h.1
    refine ⟨H, ?_, Kp.refl H⟩
    simp (disch := omega) [Try.f139, tm0, e1, h64', this]
end Go.Ev

/- A number put to a list of ranges, plain: both ways, and what the list then holds. -/
namespace Go.Ev
open Go Go.Proofs
set_option linter.unusedSimpArgs false
set_option linter.unusedVariables false

abbrev Rg := Int × Int
def inR (L : List Rg) (m : Int) : Prop := ∃ r ∈ L, r.1 ≤ m ∧ m ≤ r.2
theorem inR_nil (m : Int) : ¬ inR [] m := by rintro ⟨r, h, _⟩; simp at h
theorem inR_cons (r : Rg) (l : List Rg) (m : Int) : inR (r :: l) m ↔ (r.1 ≤ m ∧ m ≤ r.2) ∨ inR l m := by
  unfold inR; simp
theorem rgL_all : ∀ {l : List Rg} {p : Rg}, rgL (some p) l → p.1 ≤ p.2 → ∀ r ∈ l, p.2 + 1 < r.1 ∧ r.1 ≤ r.2
  | x :: l, p, h, hp, r, hr => by
    have h1 := h.1
    have h2 := h1.2.2.2 p rfl
    rcases List.mem_cons.1 hr with rfl | hr
    · exact ⟨h2, h1.1⟩
    · have := rgL_all h.2 h1.1 r hr
      have := h1.1
      exact ⟨by omega, by omega⟩
theorem rgL_weak {q p : Option Rg} : ∀ {l : List Rg}, rgL p l → (∀ x, x ∈ l → ∀ y, q = some y → y.2 + 1 < x.1) → rgL q l
  | [], _, _ => trivial
  | x :: l, h, hq => ⟨⟨h.1.1, h.1.2.1, h.1.2.2.1, fun y hy => hq x (by simp) y hy⟩, h.2⟩
/-- the program's way -/
def adI (S : List Rg × Rg × Bool) (r : Rg) : List Rg × Rg × Bool :=
  if r.2 < S.2.1.1 - 1 then (S.1 ++ [r], S.2.1, S.2.2)
  else if S.2.1.2 + 1 < r.1 then ((S.1 ++ (if S.2.2 = true then [] else [S.2.1])) ++ [r], S.2.1, true)
  else (S.1, (min S.2.1.1 r.1, max S.2.1.2 r.2), S.2.2)
def fiI (S : List Rg × Rg × Bool) : List Rg := S.1 ++ (if S.2.2 = true then [] else [S.2.1])
def cut64 (o : List Rg) : List Rg := if 64 < o.length then o.drop 1 else o
/-- the reference's way -/
def adS (n : Int) (S : List Rg × Bool) (r : Rg) : List Rg × Bool := ((S.1 ++ (if S.2 = false ∧ n < r.1 then [(n, n)] else [])) ++ [r], if S.2 = false ∧ n < r.1 then true else S.2)
def fiS (n : Int) (S : List Rg × Bool) : List Rg := S.1 ++ (if S.2 = true then [] else [(n, n)])
def jn (out : List Rg) (r : Rg) : List Rg := match out.getLast? with
  | some p => if r.1 ≤ p.2 + 1 then out.dropLast ++ [(p.1, max p.2 r.2)] else out ++ [r]
  | none => out ++ [r]
/-- both -/
def addR (one : Rg) : List Rg → List Rg
  | [] => [one]
  | r :: l => if r.2 < one.1 - 1 then r :: addR one l else if one.2 + 1 < r.1 then one :: r :: l else addR (min one.1 r.1, max one.2 r.2) l
def adP (L : List Rg) (n : Int) : List Rg := cut64 (addR (n, n) L)
theorem foldI_done : ∀ (l : List Rg) (out : List Rg) (one : Rg), (∀ r ∈ l, one.2 + 1 < r.1 ∧ r.1 ≤ r.2) → one.1 ≤ one.2 → fiI (l.foldl adI (out, one, true)) = out ++ l
  | [], out, one, _, _ => by simp [fiI]
  | r :: l, out, one, h, ho => by
    have h1 := h r (by simp)
    simp only [List.foldl_cons]
    rw [show adI (out, one, true) r = (out ++ [r], one, true) by unfold adI; simp only; rw [if_neg (by omega), if_pos h1.1]; simp]
    rw [foldI_done l _ _ (fun x hx => h x (by simp [hx])) ho]; simp
theorem foldI : ∀ (l : List Rg) (q : Option Rg) (out : List Rg) (one : Rg), rgL q l → one.1 ≤ one.2 → fiI (l.foldl adI (out, one, false)) = out ++ addR one l
  | [], q, out, one, _, _ => by simp [fiI, addR]
  | r :: l, q, out, one, h, ho => by
    have h1 := h.1.1
    simp only [List.foldl_cons, addR]
    by_cases c1 : r.2 < one.1 - 1
    · rw [if_pos c1, show adI (out, one, false) r = (out ++ [r], one, false) by unfold adI; rw [if_pos c1], foldI l _ _ _ h.2 ho]; simp
    · rw [if_neg c1]
      by_cases c2 : one.2 + 1 < r.1
      · rw [if_pos c2, show adI (out, one, false) r = ((out ++ [one]) ++ [r], one, true) by unfold adI; rw [if_neg c1, if_pos c2]; simp, foldI_done]
        · simp
        · intro x hx; have := rgL_all h.2 h1 x hx; exact ⟨by omega, this.2⟩
        · exact ho
      · rw [if_neg c2, show adI (out, one, false) r = (out, (min one.1 r.1, max one.2 r.2), false) by unfold adI; rw [if_neg c1, if_neg c2], foldI l _ _ _ h.2 (by simp only; omega)]
def insR (n : Int) : List Rg → List Rg
  | [] => [(n, n)]
  | r :: l => if n < r.1 then (n, n) :: r :: l else r :: insR n l
def joinR (p : Rg) : List Rg → List Rg
  | [] => [p]
  | r :: l => if r.1 ≤ p.2 + 1 then joinR (p.1, max p.2 r.2) l else p :: joinR r l
theorem foldS_done (n : Int) : ∀ (l out : List Rg), l.foldl (adS n) (out, true) = (out ++ l, true)
  | [], out => by simp
  | r :: l, out => by simp only [List.foldl_cons, adS]; simp; rw [foldS_done n l]; simp
theorem foldS (n : Int) : ∀ (l out : List Rg), fiS n (l.foldl (adS n) (out, false)) = out ++ insR n l
  | [], out => by simp [fiS, insR]
  | r :: l, out => by
    simp only [List.foldl_cons, insR]
    by_cases c : n < r.1
    · rw [if_pos c, show adS n (out, false) r = (out ++ [(n, n)] ++ [r], true) by simp [adS, c], foldS_done]; simp [fiS]
    · rw [if_neg c, show adS n (out, false) r = (out ++ [r], false) by simp [adS, c], foldS n l]; simp
theorem foldJ : ∀ (l out : List Rg) (p : Rg), l.foldl jn (out ++ [p]) = out ++ joinR p l
  | [], out, p => by simp [joinR]
  | r :: l, out, p => by
    simp only [List.foldl_cons, joinR]
    by_cases c : r.1 ≤ p.2 + 1
    · rw [if_pos c, show jn (out ++ [p]) r = out ++ [(p.1, max p.2 r.2)] by simp [jn, c], foldJ l]
    · rw [if_neg c, show jn (out ++ [p]) r = (out ++ [p]) ++ [r] by simp [jn, c], foldJ l]; simp
theorem join_ok : ∀ (l : List Rg) (p : Rg), rgL (some p) l → joinR p l = p :: l
  | [], p, _ => rfl
  | r :: l, p, h => by
    have := h.1.2.2.2 p rfl
    rw [joinR, if_neg (by omega), join_ok l r h.2]
theorem add_join : ∀ (l : List Rg) (q : Option Rg) (one : Rg), rgL q l → one.1 ≤ one.2 → (∀ r ∈ l, one.1 ≤ r.1) → joinR one l = addR one l
  | [], q, one, _, _, _ => rfl
  | r :: l, q, one, h, ho, hl => by
    have h1 := hl r (by simp)
    have h2 := h.1.1
    rw [addR, joinR, if_neg (show ¬ (r.2 < one.1 - 1) by omega)]
    by_cases c : one.2 + 1 < r.1
    · rw [if_pos c, if_neg (by omega), join_ok l r h.2]
    · rw [if_neg c, if_pos (by omega), add_join l _ _ h.2 (by simp only; omega) (fun x hx => by simp only; exact hl x (by simp [hx])), show min one.1 r.1 = one.1 by omega]
theorem ins_ne (n : Int) (l : List Rg) : ∃ x y, insR n l = x :: y ∧ (x = (n, n) ∨ ∃ y', l = x :: y') := by
  cases l with
  | nil => exact ⟨_, _, rfl, .inl rfl⟩
  | cons r l =>
    unfold insR
    split
    · exact ⟨_, _, rfl, .inl rfl⟩
    · exact ⟨_, _, rfl, .inr ⟨_, rfl⟩⟩
theorem ins_join (n : Int) : ∀ (l : List Rg) (q : Option Rg), rgL q l → (insR n l).foldl jn [] = addR (n, n) l
  | [], q, _ => by simp [insR, addR, jn]
  | r :: l, q, h => by
    have h1 := h.1.1
    have ha := rgL_all h.2 h1
    unfold insR
    by_cases c : n < r.1
    · rw [if_pos c]
      have : ((n, n) :: r :: l).foldl jn [] = joinR (n, n) (r :: l) := by
        simp only [List.foldl_cons]; rw [show jn [] (n, n) = [] ++ [(n, n)] by rfl]
        rw [show jn ([] ++ [(n, n)]) r = ([r] : List Rg).foldl jn ([] ++ [(n, n)]) by rfl, ← List.foldl_append]
        exact foldJ (r :: l) [] (n, n)
      rw [this, add_join _ q _ h (Int.le_refl _)]
      intro x hx
      rcases List.mem_cons.1 hx with rfl | hx
      · simp only; omega
      · have := ha x hx; simp only; omega
    · rw [if_neg c]
      have e1 : (r :: insR n l).foldl jn [] = joinR r (insR n l) := by
        simp only [List.foldl_cons]; rw [show jn [] r = [] ++ [r] by rfl, foldJ]; simp
      rw [e1, addR]
      by_cases c2 : r.2 < n - 1
      · rw [if_pos (by simpa using c2)]
        obtain ⟨x, y, hxy, hx⟩ := ins_ne n l
        have hx1 : ¬ (x.1 ≤ r.2 + 1) := by
          rcases hx with rfl | ⟨y', rfl⟩
          · simp only; omega
          · have := ha x (by simp); omega
        have ih := ins_join n l _ h.2
        rw [hxy] at ih ⊢
        rw [joinR, if_neg hx1]
        simp only [List.foldl_cons] at ih
        rw [show jn [] x = [] ++ [x] by rfl, foldJ] at ih
        simp at ih
        rw [ih]
      · rw [if_neg (by simpa using c2), if_neg (by simp only; omega)]
        have e2 : insR n l = (n, n) :: l := by
          cases l with
          | nil => rfl
          | cons r' l' => have := ha r' (by simp); rw [insR, if_pos (by omega)]
        rw [e2, joinR, if_pos (by simp only; omega), add_join l _ _ h.2 (by simp only; omega) (fun x hx => by have := ha x hx; simp only; omega)]
        simp only
        rw [show max r.2 n = max n r.2 by omega, show min n r.1 = r.1 by omega]
/-- what it holds -/
theorem addR_ok : ∀ (l : List Rg) (q : Option Rg) (one : Rg), rgL q l → rgO q one → rgL q (addR one l)
  | [], q, one, _, h => ⟨h, trivial⟩
  | r :: l, q, one, h, ho => by
    have h1 := h.1.1
    unfold addR
    by_cases c1 : r.2 < one.1 - 1
    · rw [if_pos c1]
      exact ⟨h.1, addR_ok l _ _ h.2 ⟨ho.1, ho.2.1, ho.2.2.1, fun y hy => by cases hy; omega⟩⟩
    · rw [if_neg c1]
      by_cases c2 : one.2 + 1 < r.1
      · rw [if_pos c2]
        exact ⟨ho, ⟨h1, h.1.2.1, h.1.2.2.1, fun y hy => by cases hy; exact c2⟩, h.2⟩
      · rw [if_neg c2]
        have a1 := ho.1; have a2 := ho.2.1; have a3 := ho.2.2.1; have b2 := h.1.2.1; have b3 := h.1.2.2.1
        unfold inV at a2 a3 b2 b3
        refine addR_ok l q _ (rgL_weak h.2 fun x hx y hy => ?_) ⟨by simp only; omega, by simp only; exact ⟨by omega, by omega⟩, by simp only; exact ⟨by omega, by omega⟩, fun y hy => ?_⟩
        · have := rgL_all h.2 h1 x hx
          have := h.1.2.2.2 y hy
          omega
        · have := h.1.2.2.2 y hy
          have := ho.2.2.2 y hy
          simp only; omega
theorem addR_in : ∀ (l : List Rg) (q : Option Rg) (one : Rg) (m : Int), rgL q l → one.1 ≤ one.2 → (inR (addR one l) m ↔ inR l m ∨ (one.1 ≤ m ∧ m ≤ one.2))
  | [], q, one, m, _, _ => by simp [addR, inR]
  | r :: l, q, one, m, h, ho => by
    have h1 := h.1.1
    unfold addR
    by_cases c1 : r.2 < one.1 - 1
    · rw [if_pos c1, inR_cons, inR_cons, addR_in l _ one m h.2 ho, or_assoc]
    · rw [if_neg c1]
      by_cases c2 : one.2 + 1 < r.1
      · rw [if_pos c2, inR_cons, or_comm]
      · rw [if_neg c2, addR_in l _ _ m h.2 (by simp only; omega), inR_cons]
        simp only
        constructor
        · rintro (h | h)
          · exact .inl (.inr h)
          · by_cases q1 : one.1 ≤ m ∧ m ≤ one.2
            · exact .inr q1
            · exact .inl (.inl ⟨by omega, by omega⟩)
        · rintro ((h | h) | h)
          · exact .inr ⟨by omega, by omega⟩
          · exact .inl h
          · exact .inr ⟨by omega, by omega⟩
theorem addR_len : ∀ (l : List Rg) (one : Rg), (addR one l).length ≤ l.length + 1 ∧ 1 ≤ (addR one l).length
  | [], one => by simp [addR]
  | r :: l, one => by
    unfold addR
    split
    · have := addR_len l one; simp; omega
    · split
      · simp
      · have := addR_len l (min one.1 r.1, max one.2 r.2); simp; omega
theorem rgL_head {x : Rg} {l : List Rg} {q : Option Rg} (h : rgL q (x :: l)) (m : Int) (hm : inR (x :: l) m) : x.1 ≤ m := by
  rcases (inR_cons x l m).1 hm with h1 | ⟨r, hr, h1, h2⟩
  · exact h1.1
  · have h3 := h.1.1
    have := rgL_all h.2 h3 r hr; omega
theorem adP_law {L : List Rg} {n : Int} (h : rgOK L) (hn : inV n) : rgOK (adP L n) ∧ ∃ x l, adP L n = x :: l ∧ ∀ m, inR (x :: l) m ↔ (inR L m ∨ m = n) ∧ x.1 ≤ m := by
  obtain ⟨h1, h2⟩ := h
  have a1 := addR_ok L none (n, n) h2 ⟨Int.le_refl _, hn, hn, by simp⟩
  have a2 := fun m => addR_in L none (n, n) m h2 (Int.le_refl _)
  have a3 := addR_len L (n, n)
  unfold adP cut64
  generalize addR (n, n) L = M at *
  have e : ∀ m : Int, (n ≤ m ∧ m ≤ n) ↔ m = n := fun m => by omega
  cases M with
  | nil => simp at a3
  | cons x l =>
    by_cases c : 64 < (x :: l).length
    · rw [if_pos c]
      cases l with
      | nil => simp at c
      | cons y l =>
        simp only [List.drop_one, List.tail_cons]
        refine ⟨⟨by simp at a3 ⊢; omega, rgL_weak a1.2 (by simp)⟩, y, l, rfl, fun m => ?_⟩
        have b := a2 m
        simp only [e] at b
        rw [← b, inR_cons x]
        have hy := a1.2.1.2.2.2 x rfl
        constructor
        · intro hm
          exact ⟨.inr hm, rgL_head a1.2 m hm⟩
        · rintro ⟨h | h, h'⟩
          · omega
          · exact h
    · rw [if_neg c]
      refine ⟨⟨by omega, a1⟩, x, l, rfl, fun m => ?_⟩
      have b := a2 m
      simp only [e] at b
      rw [← b]
      exact ⟨fun hm => ⟨hm, rgL_head a1 m hm⟩, fun hm => hm.1⟩
end Go.Ev

/- Rows: a row appended to a row; rows of ranges. -/
namespace Go.Ev
open Go Go.Proofs
set_option linter.unusedSimpArgs false
set_option linter.unusedVariables false

section
variable {P : Program}
/-- what is appended is told by its cells -/
theorem Ty.R.appN {H : AH} {e T TX : TypeId} {t : Ty} {s x : AV} {c : List AV} {ds es : List t.D} {bs b1 : List Nat} (h : (Ty.sl e t).R true H [s] ds bs) (hnews : newsA P t.n TX x H = some (es.length, c)) (hv : Rows (t.R true H) t.n c es b1) (hnd : (bs ++ b1).Nodup)
    (hT' : sliceT P T = some e) (hs : sizeT P e = some t.n) {by_ : Nat} (hb : bytesT P e = some by_) {z : List AV} (hz : zeroT P e = some z) (hzl : z.length = t.n)
    (h1 : (ds.length + es.length) * by_ ≤ 70368744177664) (h2 : ds.length + es.length ≤ 70368744177664) :
    ∃ s' H' bs', appA P T TX s x H = some (s', H') ∧ (Ty.sl e t).R true H' [s'] (ds ++ es) bs' ∧ bs'.Nodup ∧ (∀ b ∈ bs', b ∈ bs ∨ b ∈ b1 ∨ H.next ≤ b) ∧ KoS bs H H' := by
  have hc : c.length = es.length * t.n := hv.len
  have ht : c.take (es.length * t.n) = c := by rw [← hc, List.take_length]
  have hmem := Rows.mem (fun c d bs h => Ty.R.mem h) hv
  unfold appA
  simp only [hT', hs, hb, hz, hnews, if_pos hzl]
  by_cases hes : es.length = 0
  · have : es = [] := List.length_eq_zero_iff.1 hes
    subst this
    have hh := h
    rw [List.nodup_append] at hnd
    rcases h with ⟨g1, g2, g3⟩ | ⟨b, o, ro, xs, b', g1, g2, g3, g4, g5, g6, g7⟩
    · simp only [List.cons.injEq, and_true] at g1; subst g1
      exact ⟨.nilSlice, H, bs, by simp, by simpa using hh, hnd.1, fun b hb => .inl hb, KoS.refl _ _⟩
    · simp only [List.cons.injEq, and_true] at g1; subst g1
      exact ⟨.slice b o ds.length, H, bs, by simp, by simpa using hh, hnd.1, fun b hb => .inl hb, KoS.refl _ _⟩
  rcases h with ⟨g1, g2, g3⟩ | ⟨b, o, ro, xs, b', g1, g2, g3, g4, g5, g6, g7⟩
  · simp only [List.cons.injEq, and_true] at g1; subst g1 g2 g3
    simp only [List.length_nil, Nat.zero_add] at h1 h2
    refine ⟨.slice H.next 0 es.length, H.push (.cells e false c), H.next :: b1, by rw [if_neg hes]; simp [h1, h2], .inr ⟨H.next, 0, false, c, b1, by simp, rfl, by simp, by simp, fun _ => ⟨rfl, rfl, by simp [hc]⟩, by simp [hc], ?_⟩, ?_, ?_, ?_⟩
    · simp only [List.nil_append, List.drop_zero, ht]
      exact hv.imp fun c d b3 _ hb h => h.stay (by simp) fun x hx => by
        have := h.mem x hx
        rw [AH.push_get, if_neg (by omega)]
    · rw [List.nodup_cons]
      exact ⟨fun hx => by have := hmem _ hx; omega, by simpa using hnd⟩
    · intro x hx
      rcases List.mem_cons.1 hx with rfl | hx
      · right; right; omega
      · exact .inr (.inl hx)
    · exact ⟨by simp, fun x hx _ => by rw [AH.push_get, if_neg (by omega)]⟩
  · simp only [List.cons.injEq, and_true] at g1; subst g1
    obtain ⟨rfl, rfl, hw⟩ := g5 rfl
    have hxs : (xs.drop 0).take (ds.length * t.n) = xs := by rw [List.drop_zero, ← hw, List.take_length]
    rw [hxs] at g7
    subst g2
    have hnd' := hnd
    rw [List.nodup_append, List.nodup_cons] at hnd
    obtain ⟨⟨n1, n2⟩, n3, n4⟩ := hnd
    have hst : ∀ x, x < H.next → x ≠ b → ((H.kill b).push (.cells e false (xs ++ c))).get x = H.get x := by
      intro x hx hxb
      rw [AH.push_get, if_neg (by simp; omega), AH.kill_get, if_neg hxb]
    refine ⟨.slice H.next 0 (ds.length + es.length), (H.kill b).push (.cells e false (xs ++ c)), H.next :: (b' ++ b1), ?_, .inr ⟨H.next, 0, false, xs ++ c, b' ++ b1, by simp, rfl, by simp, by simp, fun _ => ⟨rfl, rfl, ?_⟩, ?_, ?_⟩, ?_, ?_, ?_⟩
    · simp only [g4]
      rw [if_neg hes, if_pos ⟨trivial, by omega, h1, h2⟩, hxs]
    · rw [List.length_append, hc, hw, List.length_append, Nat.add_mul]
    · rw [List.length_append, List.length_append, hc, hw, Nat.add_mul]; omega
    · have : ((xs ++ c).drop 0).take ((ds ++ es).length * t.n) = xs ++ c := by
        rw [List.drop_zero, List.length_append, Nat.add_mul, ← hw, ← hc, ← List.length_append, List.take_length]
      rw [this]
      refine (g7.imp fun c d b3 _ hb h => h.stay (by simp) fun x hx => hst x (h.mem x hx) fun e => n1 (by rw [← e]; exact hb x hx)).app (hv.imp fun c d b3 _ hb h => h.stay (by simp) fun x hx => hst x (h.mem x hx) fun e => n4 b (by simp) x (hb x hx) e.symm)
    · rw [List.nodup_cons, List.nodup_append]
      refine ⟨fun hx => ?_, n2, n3, fun x hx y hy => n4 x (by simp [hx]) y hy⟩
      rcases List.mem_append.1 hx with hx | hx
      · have := Rows.mem (fun c d bs h => Ty.R.mem h) g7 _ hx; omega
      · have := hmem _ hx; omega
    · intro x hx
      rcases List.mem_cons.1 hx with rfl | hx
      · right; right; omega
      · rcases List.mem_append.1 hx with hx | hx
        · exact .inl (by simp [hx])
        · exact .inr (.inl hx)
    · exact ⟨by simp, fun x hx hxb => hst x hx fun e => hxb (by simp [e])⟩
/-- a row's cells -/
theorem Ty.R.news {rw : Bool} {H : AH} {e T : TypeId} {t : Ty} {s : AV} {ds : List t.D} {bs : List Nat} (h : (Ty.sl e t).R rw H [s] ds bs) (hT : P.underlying T = some (.slice e)) :
    ∃ c b1, newsA P t.n T s H = some (ds.length, c) ∧ Rows (t.R rw H) t.n c ds b1 ∧ (∀ b ∈ b1, b ∈ bs) := by
  rcases h with ⟨g1, g2, g3⟩ | ⟨b, o, ro, xs, b', g1, g2, g3, g4, g5, g6, g7⟩
  · simp only [List.cons.injEq, and_true] at g1; subst g1 g2
    exact ⟨[], [], by simp [newsA, hT], ⟨rfl, rfl⟩, by simp⟩
  · simp only [List.cons.injEq, and_true] at g1; subst g1
    exact ⟨_, b', by simp [newsA, hT, rowOf, g4, g6], g7, fun x hx => by rw [g2]; simp [hx]⟩
end
theorem empty94 {X : AH} {b : Nat} (hb : b < X.next) (g : X.get b = some (.cells 94 false [])) : (Ty.sl 94 tT94).R true X [.slice b 0 0] [] [b] :=
  .inr ⟨b, 0, false, [], [], rfl, rfl, hb, g, fun _ => ⟨rfl, rfl, by simp⟩, by simp, rfl, rfl⟩
theorem flat94 {rw rw' : Bool} {H H' : AH} : ∀ {l : List (Int × Int)} {c : List AV} {bs : List Nat}, Rows (tT94.R rw H) tT94.n c l bs → Rows (tT94.R rw' H') tT94.n c l []
  | [], c, bs, h => ⟨h.1, rfl⟩
  | (a, b) :: l, c, bs, ⟨c1, r, b1, b2, h1, h2, h3, h4, h5⟩ => by
    obtain ⟨rfl, _, i1, i2⟩ := o94 h4
    exact ⟨_, r, [], [], h1, h2, rfl, i94 i1 i2, flat94 h5⟩
theorem ap94 {X : AH} {v : AV} {l : List (Int × Int)} {bs : List Nat} {a b : Int} (h : (Ty.sl 94 tT94).R true X [v] l bs) (hnd : bs.Nodup) (ia : InK .i64 a) (ib : InK .i64 b) (hl : l.length ≤ 1000000) :
    ∃ v' X' bs', appA Try.prog 70 70 v (.slice X.next 0 1) (X.push (.cells 94 false [.int .i64 a, .int .i64 b])) = some (v', X') ∧ (Ty.sl 94 tT94).R true X' [v'] (l ++ [(a, b)]) bs' ∧ bs'.Nodup ∧ (∀ b ∈ bs', b ∈ bs ∨ X.next ≤ b) ∧ KoS bs X X' := by
  obtain ⟨v', X', bs', h1, h2, h3, h4, h5⟩ := Ty.R.app1 (P := Try.prog) (T := 70) h (i94 (rw := true) (H := X) ia ib) (by simpa using hnd) (by simp) (by simp) (by simp [Ty.n]) (by_ := 16) (by simp) (z := [.int .i64 0, .int .i64 0]) (by simp) (by simp [Ty.n]) (by omega) (by omega)
  exact ⟨v', X', bs', h1, h2, h3, fun b hb => by rcases h4 b hb with h | h | h <;> simp_all, h5⟩
theorem app94s {X : AH} {v x : AV} {l es : List (Int × Int)} {bs bx : List Nat} {rx : Bool} (h : (Ty.sl 94 tT94).R true X [v] l bs) (hnd : bs.Nodup) (hx : (Ty.sl 94 tT94).R rx X [x] es bx) (hl : l.length ≤ 1000000) (hl' : es.length ≤ 1000000) :
    ∃ v' X' bs', appA Try.prog 70 70 v x X = some (v', X') ∧ (Ty.sl 94 tT94).R true X' [v'] (l ++ es) bs' ∧ bs'.Nodup ∧ (∀ b ∈ bs', b ∈ bs ∨ X.next ≤ b) ∧ KoS bs X X' := by
  obtain ⟨c, b1, n1, n2, _⟩ := hx.news (P := Try.prog) (T := 70) (by simp)
  obtain ⟨v', X', bs', h1, h2, h3, h4, h5⟩ := Ty.R.appN (P := Try.prog) (T := 70) (TX := 70) (b1 := []) h n1 (flat94 n2) (by simpa using hnd) (by simp) (by simp [Ty.n]) (by_ := 16) (by simp) (z := [.int .i64 0, .int .i64 0]) (by simp) (by simp [Ty.n]) (by omega) (by omega)
  exact ⟨v', X', bs', h1, h2, h3, fun b hb => by rcases h4 b hb with h | h | h <;> simp_all, h5⟩
end Go.Ev

/- The program puts a number to ranges. -/
namespace Go.Ev
open Go Go.Proofs
set_option linter.unusedSimpArgs false
set_option linter.unusedVariables false

theorem cut94 {rw : Bool} {H : AH} {v : AV} {x : Int × Int} {l : List (Int × Int)} {bs : List Nat} (h : (Ty.sl 94 tT94).R rw H [v] (x :: l) bs) :
    ∃ v', cutA Try.prog 70 v (some (some (.int .i64 1))) (some none) H = some v' ∧ (Ty.sl 94 tT94).R false H [v'] l bs := by
  rcases h with ⟨g1, g2, g3⟩ | ⟨b, o, ro, xs, b', g1, g2, g3, g4, g5, g6, g7⟩
  · simp at g2
  · simp only [List.cons.injEq, and_true] at g1; subst g1
    have hn : tT94.n = 2 := by simp [Ty.n]
    rw [hn] at g6 g7
    have g7' : Rows (tT94.R rw H) tT94.n ((xs.drop o).take ((x :: l).length * 2)) (x :: l) b' := by rw [hn]; exact g7
    simp only [List.length_cons] at g6 g7
    obtain ⟨c, r, b1, b2, e1, e2, e3, e4, e5⟩ := g7
    have hr : r = (xs.drop (o + 2)).take (l.length * 2) := by
      have : ((xs.drop o).take ((l.length + 1) * 2)).drop 2 = r := by rw [e1, ← e2, List.drop_left]
      rw [← this, List.drop_take, List.drop_drop]
      congr 1; omega
    have e6 : Rows (tT94.R false H) 2 r l [] := by have := flat94 (rw' := false) (H' := H) (by rw [hn]; exact e5); rwa [hn] at this
    refine ⟨.slice b (o + 2) l.length, by simp [cutA, g4]; omega, .inr ⟨b, o + 2, ro, xs, [], rfl, ?_, g3, g4, by simp, by rw [hn]; omega, by rw [hn, ← hr]; exact e6⟩⟩
    have : b' = [] := by
      have := flat94 (rw' := rw) (H' := H) g7'
      clear this
      obtain ⟨x1, x2⟩ := x
      obtain ⟨_, q, _, _⟩ := o94 e4
      have h5 : ∀ {l : List (Int × Int)} {c : List AV} {bs : List Nat}, Rows (tT94.R rw H) tT94.n c l bs → bs = [] := by
        intro l
        induction l with
        | nil => intro c bs h; exact h.2
        | cons y l ih =>
          intro c bs h
          obtain ⟨c1, r1, q1, q2, _, _, p3, p4, p5⟩ := h
          obtain ⟨y1, y2⟩ := y
          obtain ⟨_, q', _, _⟩ := o94 p4
          rw [p3, ← q', ih p5]; rfl
      exact h5 g7'
    rw [g2, this]
def inS (S : List Rg × Rg × Bool) : Prop := inV S.2.1.1 ∧ inV S.2.1.2
structure AdT (τ : Tm) (r v5 : AV) (p6 : Nat) (done : Bool) (n : Nat) (k : Nat) : Prop where
  t5 : τ 5 = v5
  t6 : τ 6 = .ptr p6 0
  t7 : τ 7 = .bool done
  t14 : τ 14 = r
  t15 : τ 15 = .int .i64 n
  t16 : τ 16 = .int .i64 k
structure AdH (H h : AH) (S : List Rg × Rg × Bool) (v5 : AV) (b5 : List Nat) (p6 : Nat) (k : Nat) : Prop where
  R : (Ty.sl 94 tT94).R true h [v5] S.1 b5
  nd : b5.Nodup
  lo : ∀ b ∈ b5, H.next ≤ b
  pb : p6 ∉ b5
  pn : H.next ≤ p6 ∧ p6 < h.next
  g6 : h.get p6 = some (.cells 94 false [.int .i64 S.2.1.1, .int .i64 S.2.1.2])
  K : Kp H h
  i : inS S
  l : S.1.length ≤ 2 * k
def AdI (L : List Rg) (N : Int) (r : AV) (H : AH) (d : Nat) (τ : Tm) (h : AH) : Prop :=
  ∃ (k : Nat) (v5 : AV) (b5 : List Nat) (p6 : Nat), k + d = L.length ∧ AdT τ r v5 p6 ((L.take k).foldl adI ([], (N, N), false)).2.2 L.length k ∧ AdH H h ((L.take k).foldl adI ([], (N, N), false)) v5 b5 p6 k
set_option maxRecDepth 20000 in
theorem adLoop {rw : Bool} {Hb H h0 : AH} {r : AV} {L : List Rg} {N : Int} {bs : List Nat} (hr : (Ty.sl 94 tT94).R rw Hb [r] L bs) (hKb : Kp Hb H) (hl : L.length ≤ 64) (hi : ∀ x ∈ L, inV x.1 ∧ inV x.2) (m : Nat) (hm : 70 ≤ m) (τ : Tm) (hI : AdI L N r H L.length τ h0) :
    ∃ e τ' H', evLoop Try.prog (ev Try.prog m) m (lp Try.prog 140 250) τ h0 = some (e, τ', H') ∧ e = .exit 0 ∧ AdI L N r H 0 τ' H' := by
  refine loop_rule (d := L.length) (AdI L N r H) (fun e τ h => e = .exit 0 ∧ AdI L N r H 0 τ h) ?_ hI (by omega)
  rintro d τ h ⟨k, v5, b5, p6, hk, T, X⟩
  have T0 := T
  obtain ⟨t5, t6, t7, t14, t15, t16⟩ := T
  rw [lp_M Try.func140 250 (by decide) 8 (by decide) (by kernel_rfl) []]
  by_cases hd0 : d = 0
  · subst hd0
    have hkl : ¬ ((k : Int) < L.length) := by omega
    simp [Try.f140, t15, t16, hkl]
    exact ⟨k, v5, b5, p6, hk, ⟨by simp [t5], by simp [t6], by simp [t7], by simp [t14], by simp [t15], by simp [t16]⟩, X⟩
  · have hlt : k < L.length := by omega
    have hlt' : (k : Int) < L.length := by omega
    obtain ⟨b, o, ro, xs, u1, u2, u3, u4, u5, u6, u7, i1, i2⟩ := rgAt (hr.kp (hKb.trans X.K)) hlt
    have htk : (L.take (k + 1)).foldl adI ([], (N, N), false) = adI ((L.take k).foldl adI ([], (N, N), false)) L[k] := by
      rw [List.take_succ_eq_append_getElem hlt, List.foldl_append]; rfl
    have hx := hi L[k] (List.getElem_mem hlt)
    have goal : ∀ (τ' : Tm) (h' : AH) (v5' : AV) (b5' : List Nat) (p6' : Nat), AdT τ' r v5' p6' (adI ((L.take k).foldl adI ([], (N, N), false)) L[k]).2.2 L.length (k + 1) → AdH H h' (adI ((L.take k).foldl adI ([], (N, N), false)) L[k]) v5' b5' p6' (k + 1) → ∃ d', d' < d ∧ AdI L N r H d' τ' h' :=
      fun τ' h' v5' b5' p6' a1 a2 => ⟨d - 1, by omega, k + 1, v5', b5', p6', by omega, by rw [htk]; exact a1, by rw [htk]; exact a2⟩
    generalize (L.take k).foldl adI ([], (N, N), false) = S at *
    generalize L[k] = x at *
    obtain ⟨out, ⟨lo, hi'⟩, done⟩ := S
    obtain ⟨x1, x2⟩ := x
    obtain ⟨R, nd, hlo, pb, p6n, g6, K, hS, hol⟩ := X
    simp only [inS] at hS
    simp only at *
    have w1 : IntKind.i64.wrap ((k : Int) + 1) = ((k + 1 : Nat) : Int) := by rw [wrap_i64 (n := (k : Int) + 1) (by omega) (by omega)]; omega
    have w2 : IntKind.i64.wrap (lo - 1) = lo - 1 := wrap_i64 (by have := hS.1.1; omega) (by have := hS.1.2; omega)
    have w3 : IntKind.i64.wrap (hi' + 1) = hi' + 1 := wrap_i64 (by have := hS.2.1; omega) (by have := hS.2.2; omega)
    have hne : ¬ (b = h.next) := by omega
    have hn6 : ¬ (p6 = h.next) := by omega
    have hn6' : ¬ (h.next = p6) := by omega
    have hKn := K.next
    have P := (Kp.refl h).push (.cells 94 false [.int .i64 x1, .int .i64 x2])
    have hPn : (h.push (.cells 94 false [.int .i64 x1, .int .i64 x2])).next = h.next + 1 := by simp
    have b5n : ∀ b ∈ b5, b < h.next := fun b hb => R.mem b hb
    by_cases c1 : x2 < lo - 1
    · obtain ⟨v', X', b', q1, q2, q3, q4, q5⟩ := ap94 (R.kp P) nd i1 i2 (by omega)
      simp only [AH.push_next] at q1
      simp [Try.f140, t5, t6, t14, t15, t16, u1, u3, u4, u5, u6, u7, g6, hne, hn6, hn6', hlt, hlt', w1, w2, c1, q1, ldVar, stVar, spl, fillA, zerosA]
      have e : adI (out, (lo, hi'), done) (x1, x2) = (out ++ [(x1, x2)], (lo, hi'), done) := by unfold adI; simp only; rw [if_pos c1]
      rw [e] at goal
      refine goal _ _ v' b' p6 ⟨by simp, by simp [t6], by simp [t7], by simp [t14], by simp [t15], by simp⟩ ⟨q2, q3, ?_, ?_, ⟨p6n.1, by have := q5.next; omega⟩, ?_, ?_, hS, by simp; omega⟩
      · intro z hz; rcases q4 z hz with h' | h'; exact hlo z h'; omega
      · intro hz; rcases q4 _ hz with h' | h'; exact pb h'; omega
      · rw [q5.get p6 (by omega) pb, P.get p6 p6n.2]; exact g6
      · exact KoS.kp (K.trans P) q5 hlo
    · have c1' := eq_false c1
      by_cases c2 : hi' + 1 < x1
      · cases done with
        | true =>
          obtain ⟨v', X', b', q1, q2, q3, q4, q5⟩ := ap94 (R.kp P) nd i1 i2 (by omega)
          simp only [AH.push_next] at q1
          simp [Try.f140, t5, t6, t7, t14, t15, t16, u1, u3, u4, u5, u6, u7, g6, hne, hn6, hn6', hlt, hlt', w1, w2, w3, c1', c2, q1, ldVar, stVar, spl, fillA, zerosA]
          have e : adI (out, (lo, hi'), true) (x1, x2) = (out ++ [(x1, x2)], (lo, hi'), true) := by unfold adI; simp only; rw [if_neg c1, if_pos c2]; simp
          rw [e] at goal
          refine goal _ _ v' b' p6 ⟨by simp, by simp [t6], by simp [t7], by simp [t14], by simp [t15], by simp⟩ ⟨q2, q3, ?_, ?_, ⟨p6n.1, by have := q5.next; omega⟩, ?_, ?_, hS, by simp; omega⟩
          · intro z hz; rcases q4 z hz with h' | h'; exact hlo z h'; omega
          · intro hz; rcases q4 _ hz with h' | h'; exact pb h'; omega
          · rw [q5.get p6 (by omega) pb, P.get p6 p6n.2]; exact g6
          · exact KoS.kp (K.trans P) q5 hlo
        | false =>
          obtain ⟨v', X', b', q1, q2, q3, q4, q5⟩ := ap94 (R.kp P) nd (a := lo) (b := hi') (InK.i64 (by have := hS.1.1; omega) (by have := hS.1.2; omega)) (InK.i64 (by have := hS.2.1; omega) (by have := hS.2.2; omega)) (by omega)
          have hq5n := q5.next
          obtain ⟨v2, X2, b2, r1, r2, r3, r4, r5⟩ := ap94 q2 q3 i1 i2 (by simp; omega)
          simp only [AH.push_next] at q1
          have k6 : X'.get p6 = some (.cells 94 false [.int .i64 lo, .int .i64 hi']) := by rw [q5.get p6 (by omega) pb, P.get p6 p6n.2]; exact g6
          have k9 : X'.get h.next = some (.cells 94 false [.int .i64 x1, .int .i64 x2]) := by rw [q5.get h.next (by omega) (fun hz => by have := b5n _ hz; omega)]; simp
          have hn2 : ¬ (h.next = X'.next) := by omega
          have pb' : p6 ∉ b' := fun hz => by rcases q4 _ hz with h' | h'; exact pb h'; omega
          simp [Try.f140, t5, t6, t7, t14, t15, t16, u1, u3, u4, u5, u6, u7, g6, k6, k9, hne, hn2, hn6, hn6', hlt, hlt', w1, w2, w3, c1', c2, q1, r1, ldVar, stVar, spl, fillA, zerosA]
          have e : adI (out, (lo, hi'), false) (x1, x2) = ((out ++ [(lo, hi')]) ++ [(x1, x2)], (lo, hi'), true) := by unfold adI; simp only; rw [if_neg c1, if_pos c2]; simp
          rw [e] at goal
          refine goal _ _ v2 b2 p6 ⟨by simp, by simp [t6], by simp, by simp [t14], by simp [t15], by simp⟩ ⟨r2, r3, ?_, ?_, ⟨p6n.1, by have := r5.next; omega⟩, ?_, ?_, hS, by simp; omega⟩
          · intro z hz
            rcases r4 z hz with h' | h'
            · rcases q4 z h' with h' | h'
              · exact hlo z h'
              · omega
            · omega
          · intro hz; rcases r4 _ hz with h' | h'; exact pb' h'; omega
          · rw [r5.get p6 (by omega) pb']; exact k6
          · refine KoS.kp (KoS.kp (K.trans P) q5 hlo) r5 fun z hz => ?_
            rcases q4 z hz with h' | h'; exact hlo z h'; omega
      · have c2' := eq_false c2
        have hm1 : (if x1 < lo then x1 else lo) = min lo x1 := by split <;> omega
        have hm2 : (if hi' < x2 then x2 else hi') = max hi' x2 := by split <;> omega
        have e : adI (out, (lo, hi'), done) (x1, x2) = (out, (min lo x1, max hi' x2), done) := by unfold adI; simp only; rw [if_neg c1, if_neg c2]
        rw [e] at goal
        simp [Try.f140, t5, t6, t7, t14, t15, t16, u1, u3, u4, u5, u6, u7, g6, hne, hn6, hn6', hlt, hlt', w1, w2, w3, c1', c2', hm1, hm2, ldVar, stVar, spl, fillA, zerosA]
        refine goal _ _ v5 b5 p6 ⟨by simp [t5], by simp [t6], by simp [t7], by simp [t14], by simp [t15], by simp⟩ ⟨?_, nd, hlo, pb, ⟨p6n.1, by simp; omega⟩, by simp, ?_, ?_, by simp only; omega⟩
        · exact (R.kp P).stay (by simp) fun z hz => AH.set_getN _ _ (fun e => pb (by rw [← e]; exact hz))
        · exact ⟨by simp; omega, fun z hz => by rw [AH.set_getN _ _ (by omega)]; exact (K.trans P).get z hz⟩
        · simp only [inS, inV] at hS hx ⊢; omega
end Go.Ev

/- The program puts a number to ranges, whole. -/
namespace Go.Ev
open Go Go.Proofs
set_option linter.unusedSimpArgs false
set_option linter.unusedVariables false

theorem rgL_in : ∀ {l : List Rg} {q : Option Rg}, rgL q l → ∀ x ∈ l, inV x.1 ∧ inV x.2
  | x :: l, q, h, y, hy => by
    rcases List.mem_cons.1 hy with rfl | hy
    · exact ⟨h.1.2.1, h.1.2.2.1⟩
    · exact rgL_in h.2 y hy
theorem i64V {x : Int} (h : inV x) : InK .i64 x := InK.i64 (by have := h.1; omega) (by have := h.2; omega)
theorem cutR_ev {H : AH} {v : AV} {o : List Rg} {bs : List Nat} (h : (Ty.sl 94 tT94).R true H [v] o bs) : ∃ v', (if 64 < o.length then cutA Try.prog 70 v (some (some (.int .i64 1))) (some none) H = some v' else v' = v) ∧ (Ty.sl 94 tT94).R false H [v'] (cut64 o) bs := by
  unfold cut64
  by_cases c : 64 < o.length
  · rw [if_pos c]
    simp only [if_pos c]
    cases o with
    | nil => simp at c
    | cons x l => exact cut94 h
  · rw [if_neg c]
    simp only [if_neg c]
    exact ⟨v, rfl, h.weak⟩
set_option maxRecDepth 20000 in
theorem rangesAdd_ev {rw : Bool} {Hb H : AH} {r : AV} {L : List Rg} {N : Int} {bs : List Nat} (hr : (Ty.sl 94 tT94).R rw Hb [r] L bs) (hK : Kp Hb H) (hL : rgOK L) (hN : inV N) (m : Nat) (hm : 72 ≤ m) :
    ∃ v' H' b', ev Try.prog m 140 [r, .int .i64 N] H = some (v', H') ∧ (Ty.sl 94 tT94).R false H' [v'] (adP L N) b' ∧ Kp H H' := by
  obtain ⟨m, rfl⟩ : ∃ k, m = k + 1 := ⟨m - 1, by omega⟩
  have hLn := hr.lenA (P := Try.prog) (T := 70) (by simp)
  have hi := rgL_in hL.2
  let A : AH := (H.push (.cells 94 false [])).push (.cells 94 false [.int .i64 N, .int .i64 N])
  have nA : A.next = H.next + 2 := by simp [A]
  have KA : Kp H A := ((Kp.refl H).push _).push _
  have hN' : N ≤ N := Int.le_refl _
  have X0 : AdH H A ([], (N, N), false) (.slice H.next 0 0) [H.next] (H.next + 1) 0 :=
    ⟨empty94 (by omega) (by simp [A]), by simp, by simp, by simp, ⟨by omega, by omega⟩, by simp [A], KA, ⟨hN, hN⟩, by simp⟩
  have hA : ((H.push (.cells 94 false [])).push (.cells 94 false [.int .i64 0, .int .i64 0])).set (H.next + 1) (.cells 94 false [.int .i64 N, .int .i64 N]) = A := push_set _ _ (by simp)
  have hl64 := hL.1
  clear_value A
  rw [ev_M Try.func140 ok140 [63] m _ H (by simp [Try.f140])]
  simp [Try.f140, tm0, hLn, ldVar, stVar, spl, fillA, zerosA, hA]
  generalize hLo : evLoop _ _ _ _ _ _ = R
  obtain ⟨e, τ', H', rfl, rfl, k, v5, b5, p6, hk, T, X⟩ := loop_at hLo (adLoop hr hK hL.1 hi m (by omega) _ ⟨0, .slice H.next 0 0, [H.next], H.next + 1, by omega, ⟨by simp, by simp, by simp, by simp, by simp, by simp⟩, X0⟩)
  have hk' : L.take k = L := List.take_of_length_le (by omega)
  rw [hk'] at T X
  have hf := foldI L none [] (N, N) hL.2 hN'
  simp only [List.nil_append] at hf
  unfold adP
  rw [← hf]
  clear hf
  generalize L.foldl adI ([], (N, N), false) = S at *
  obtain ⟨out, ⟨lo, hi'⟩, done⟩ := S
  obtain ⟨t5, t6, t7, t14, t15, t16⟩ := T
  obtain ⟨R, nd, hlo, pb, p6n, g6, K, hS, hol⟩ := X
  simp only [inS] at *
  simp
  have main : ∃ τ2 v2 H2 b2, evAt Try.prog (ev Try.prog m) m 140 63 τ' H' = evAt Try.prog (ev Try.prog m) m 140 127 τ2 H2 ∧ τ2 5 = v2 ∧ (Ty.sl 94 tT94).R true H2 [v2] (fiI (out, (lo, hi'), done)) b2 ∧ Kp H H2 := by
    rw [at_M Try.func140 63 (by decide) 6 (by decide) (by kernel_rfl) [127]]
    cases done with
    | true => exact ⟨_, v5, H', b5, by simp [Try.f140, t7]; rfl, by simp [t5], by simpa [fiI] using R, K⟩
    | false =>
      obtain ⟨v', X', b', q1, q2, q3, q4, q5⟩ := ap94 R nd (i64V hS.1) (i64V hS.2) (by omega)
      exact ⟨_, v', X', b', by simp [Try.f140, t5, t6, t7, g6, q1, ldVar, fillA, zerosA, spl]; rfl, by simp, by simpa [fiI] using q2, KoS.kp K q5 hlo⟩
  obtain ⟨τ2, v2, H2, b2, e1, u5, R2, K2⟩ := main
  generalize fiI (out, (lo, hi'), done) = o at *
  obtain ⟨v3, hc, R3⟩ := cutR_ev R2
  have hLo := R2.lenA (P := Try.prog) (T := 70) (by simp) H2
  refine ⟨v3, H2, ?_, ⟨b2, R3⟩, K2⟩
  rw [e1, at_M Try.func140 127 (by decide) 7 (by decide) (by kernel_rfl) []]
  by_cases c : 64 < o.length
  · have c' : (64 : Int) < o.length := by omega
    rw [if_pos c] at hc
    simp [Try.f140, u5, hLo, c, c', hc]
  · have c' := eq_false (show ¬ ((64 : Int) < o.length) by omega)
    rw [if_neg c] at hc
    subst hc
    simp [Try.f140, u5, hLo, c, c']
set_option maxRecDepth 20000 in
theorem RangesAddI_ev {rw : Bool} {Hb H : AH} {r : AV} {L : List Rg} {N : Int} {bs : List Nat} (hr : (Ty.sl 94 tT94).R rw Hb [r] L bs) (hK : Kp Hb H) (hL : rgOK L) (hN : inV N) (m : Nat) (hm : 80 ≤ m) :
    ∃ v' H' b', ev Try.prog m 55 [r, .int .i64 N] H = some (.tuple [v', .int .i64 0], H') ∧ (Ty.sl 94 tT94).R true H' [v'] (adP L N) b' ∧ Kp H H' ∧ ∀ b ∈ b', H.next ≤ b := by
  obtain ⟨m, rfl⟩ : ∃ k, m = k + 1 := ⟨m - 1, by omega⟩
  obtain ⟨H1, a1, a2⟩ := rangesOK_ev hr hK (by have := hL.1; omega) m (by omega)
  have a3 := inVar_ev N H1 m (by omega)
  let A : AH := H1.push (.cells 94 false [])
  have hA : H1.push (.cells 94 false []) = A := rfl
  have KA : Kp H1 A := (Kp.refl H1).push _
  have nA : A.next = H1.next + 1 := by simp [A]
  have eA : (Ty.sl 94 tT94).R true A [.slice H1.next 0 0] [] [H1.next] := empty94 (by omega) (by simp [A])
  clear_value A
  obtain ⟨v, H2, b2, c1, c2, c3⟩ := rangesAdd_ev hr ((hK.trans a2).trans KA) hL hN m (by omega)
  have hl := (adP_law hL hN).1.1
  obtain ⟨v', X', b', q1, q2, q3, q4, q5⟩ := app94s (eA.kp c3) (by simp) c2 (by simp) (by omega)
  simp only [List.nil_append] at q2
  have K2 := ((a2.trans KA).trans c3)
  have h1n := a2.next
  have h2n := c3.next
  refine ⟨v', X', b', ?_, q2, KoS.kp K2 q5 (by simp; exact a2.next), fun z hz => by
    rcases q4 z hz with h | h
    · simp at h; omega
    · omega⟩
  rw [ev_M Try.func55 ok55 [] m _ H (by simp [Try.f55])]
  simp [Try.f55, tm0, a1, a3, hL, hN, hA, c1, q1, zerosA, fillA]
end Go.Ev

/- Ranges of a frame in the reference. -/
namespace Go.Ev
open Go Go.Proofs
set_option linter.unusedSimpArgs false
set_option linter.unusedVariables false

def RgJ (r : AV) (rs : List (Int × Int)) (H : AH) (d : Nat) (τ : Tm) (h : AH) : Prop :=
  ∃ (k : Nat), k + d = rs.length ∧ τ 0 = r ∧ τ 3 = .int .i64 k ∧ Kp H h ∧ (rgL none rs ↔ rgL (if k = 0 then none else rs[k - 1]?) (rs.drop k)) ∧ (∀ q, 0 < k → rs[k - 1]? = some q → inV q.2)
set_option maxRecDepth 20000 in
theorem rgLoopS {rw : Bool} {Hb H : AH} {r : AV} {rs : List (Int × Int)} {bs : List Nat} (hr : (Ty.sl 94 tT94).R rw Hb [r] rs bs) (hK : Kp Hb H) (hl : rs.length ≤ 64) (m : Nat) (hm : 70 ≤ m) (τ : Tm) (hI : RgJ r rs H rs.length τ H) :
    ∃ e τ' H', evLoop Try.prog (ev Try.prog m) m (lp Try.prog 141 58) τ H = some (e, τ', H') ∧ Kp H H' ∧ ((e = .exit 0 ∧ rgL none rs) ∨ (e = .ret ∧ τ' 2 = .bool false ∧ ¬ rgL none rs)) := by
  refine loop_rule (d := rs.length) (RgJ r rs H) (fun e τ h => Kp H h ∧ ((e = .exit 0 ∧ rgL none rs) ∨ (e = .ret ∧ τ 2 = .bool false ∧ ¬ rgL none rs))) ?_ hI (by omega)
  have e1 := Ty.R.lenA hr (P := Try.prog) (T := 70) (by simp)
  intro d τ h ⟨k, hk, t0, t3, hKh, hrg, hpq⟩
  rw [lp_M Try.func141 58 (by decide) 6 (by decide) (by kernel_rfl) []]
  by_cases hd0 : d = 0
  · subst hd0
    have hkl : ¬ ((k : Int) < rs.length) := by omega
    simp [Try.f141, t0, t3, e1, hkl]
    refine ⟨hKh, ?_⟩
    rw [hrg, List.drop_eq_nil_of_le (by omega)]; trivial
  · have hlt : k < rs.length := by omega
    have hlt' : (k : Int) < rs.length := by omega
    have hKK := hK.trans hKh
    obtain ⟨b, o, ro, L, u1, u2, u3, L1, L2, L3, L4, i1, i2⟩ := rgAt (hr.kp hKK) hlt
    rcases hx : rs[k] with ⟨X, Y⟩
    rw [hx] at L2 L3 L4 i1 i2
    simp only at L2 L3 L4 i1 i2
    have hdr : rs.drop k = (X, Y) :: rs.drop (k + 1) := by rw [List.drop_eq_getElem_cons hlt, hx]
    have w1 : IntKind.i64.wrap ((k : Int) + 1) = (k : Int) + 1 := wrap_i64 (n := (k : Int) + 1) (by omega) (by omega)
    have kp1 : ∀ B, Kp H (h.push B) := fun B => hKh.push _
    have bad : ¬ rgO (if k = 0 then none else rs[k - 1]?) (X, Y) → ¬ rgL none rs := by
      intro hb hh
      rw [hrg, hdr] at hh
      exact hb hh.1
    have nb : ¬ (h.next = b) := by omega
    by_cases p0 : X < 0
    · simp (disch := omega) [Try.f141, t0, t3, e1, hlt, hlt', u1, u3, L1, L2, ldVar, stVar, spl, p0]
      exact ⟨kp1 _, rfl, bad fun h => by have := h.2.1.1; omega⟩
    · have y0 : (X < 0) = False := eq_false p0
      by_cases p1 : 4611686018427387903 < Y
      · simp (disch := omega) [Try.f141, t0, t3, e1, hlt, hlt', u1, u3, L1, L2, ldVar, stVar, spl, y0, p1]
        exact ⟨kp1 _, rfl, bad fun h => by have := h.2.2.1.2; omega⟩
      · have y1 : (4611686018427387903 < Y) = False := eq_false p1
        by_cases q1 : Y < X
        · simp (disch := omega) [Try.f141, t0, t3, e1, hlt, hlt', u1, u3, L1, L2, ldVar, stVar, spl, y0, y1, q1]
          exact ⟨kp1 _, rfl, bad fun h => by have := h.1; omega⟩
        · have hn1 : (Y < X) = False := eq_false q1
          have q2 : inV X := ⟨by omega, by omega⟩
          have q3 : inV Y := ⟨by omega, by omega⟩
          have q1' : X ≤ Y := by omega
          have good : (∀ q, (if k = 0 then none else rs[k - 1]?) = some q → q.2 + 1 < X) → (rgL none rs ↔ rgL (if k + 1 = 0 then none else rs[k + 1 - 1]?) (rs.drop (k + 1))) := by
            intro hq
            rw [hrg, hdr]
            simp [rgL, rgO, q1', q2, q3, hlt, hx]
            intro _ a b hn hq'
            exact hq (a, b) (by simp [hn, hq'])
          have pq' : ∀ q, 0 < k + 1 → rs[k + 1 - 1]? = some q → inV q.2 := by
            intro q _ hq
            simp [hlt, hx] at hq
            subst hq; exact q3
          by_cases hk0 : k = 0
          · subst hk0
            have u1' : idxA Try.prog 70 r (.int .i64 0) = some (.ptr b o) := u1
            simp (disch := omega) [Try.f141, t0, t3, e1, hlt, hlt', u1', u3, L1, L2, ldVar, stVar, spl, y0, y1, hn1]
            exact ⟨d - 1, by omega, 1, by omega, by simp [t0], by simp; decide, kp1 _, good (by simp), pq'⟩
          · obtain ⟨b', o', ro', L', v1, v2, v3, M1, M2, M3, M4, j1, j2⟩ := rgAt (hr.kp hKK) (k := k - 1) (by omega)
            have hk1 : rs[k - 1]? = some rs[k - 1] := List.getElem?_eq_getElem (by omega)
            have hpv := hpq _ (by omega) hk1
            rcases hy : rs[k - 1] with ⟨X', Y'⟩
            rw [hy] at M2 M3 M4 j1 j2 hpv hk1
            simp only at M2 M3 M4 j1 j2 hpv
            obtain ⟨_, M5⟩ := List.getElem?_eq_some_iff.1 M4
            have nb' : ¬ (b' = h.next) := by omega
            have w0 : IntKind.i64.wrap ((k : Int) - 1) = ((k - 1 : Nat) : Int) := by rw [wrap_i64 (n := (k : Int) - 1) (by omega) (by omega)]; omega
            have w2 : IntKind.i64.wrap (Y' + 1) = Y' + 1 := wrap_i64 (n := Y' + 1) (by have := hpv.1; omega) (by have := hpv.2; omega)
            have k0 : (0 : Int) < k := by omega
            have k0' : 0 < k := by omega
            by_cases q4 : X ≤ Y' + 1
            · simp (disch := omega) [Try.f141, t0, t3, e1, hlt, hlt', u1, u3, L1, L2, v1, v3, M4, M5, nb', ldVar, stVar, spl, y0, y1, q4, hn1, w0, w2, k0, k0']
              refine ⟨kp1 _, bad fun h => ?_⟩
              have := h.2.2.2 (X', Y') (by simp [hk0, hk1])
              simp only at this; omega
            · have q4' : (X ≤ Y' + 1) = False := eq_false q4
              simp (disch := omega) [Try.f141, t0, t3, e1, hlt, hlt', u1, u3, L1, L2, v1, v3, M4, M5, nb', ldVar, stVar, spl, y0, y1, q4', hn1, w0, w2, k0, k0']
              exact ⟨d - 1, by omega, k + 1, by omega, by simp [t0], by simp [w1], kp1 _, good (by simp [hk0, hk1]; omega), pq'⟩
theorem l05RangesOK_ev {rw : Bool} {Hb H : AH} {r : AV} {rs : List (Int × Int)} {bs : List Nat} (hr : (Ty.sl 94 tT94).R rw Hb [r] rs bs) (hK : Kp Hb H) (hl : rs.length ≤ 1048576) (m : Nat) (hm : 71 ≤ m) :
    ∃ H', ev Try.prog m 141 [r] H = some (.bool (decide (rgOK rs)), H') ∧ Kp H H' := by
  obtain ⟨m, rfl⟩ : ∃ k, m = k + 1 := ⟨m - 1, by omega⟩
  rw [ev_M Try.func141 ok141 [] m _ H (by simp [Try.f141])]
  have e1 := Ty.R.lenA hr (P := Try.prog) (T := 70) (by simp)
  by_cases h64 : rs.length ≤ 64
  · have h64' : ((64 : Int) < rs.length) = False := eq_false (by omega)
    simp (disch := omega) [Try.f141, tm0, e1, h64']
    generalize hLo : evLoop _ _ _ _ _ _ = R
    obtain ⟨e, τ', H', rfl, hKp, g⟩ := loop_at hLo (rgLoopS hr hK h64 m (by omega) _ ⟨0, by simp, by simp, by simp, Kp.refl H, by simp, by simp⟩)
    rcases g with ⟨rfl, hg⟩ | ⟨rfl, hg, hb⟩
    · refine ⟨H', ?_, hKp⟩
      have : rgOK rs := ⟨h64, hg⟩
      simp [this]
    · refine ⟨H', ?_, hKp⟩
      have : ¬ rgOK rs := fun h => hb h.2
      simp [this, hg]
  · have h64' : ((64 : Int) < rs.length) = True := eq_true (by omega)
    have : ¬ rgOK rs := fun h => h64 h.1
    refine ⟨H, ?_, Kp.refl H⟩
    simp (disch := omega) [Try.f141, tm0, e1, h64', this]
end Go.Ev

/- The reference puts a number to ranges: joining. -/
namespace Go.Ev
open Go Go.Proofs
set_option linter.unusedSimpArgs false
set_option linter.unusedVariables false

theorem st94 {H : AH} {b o : Nat} {x1 x2 : List AV} {lo hi : AV} {y : Int} (g : H.get b = some (.cells 94 false (x1 ++ [lo, hi] ++ x2))) (ho : x1.length = o) : stVar Try.prog 3 b (o + 1) (.int .i64 y) H = some (H.set b (.cells 94 false (x1 ++ [lo, .int .i64 y] ++ x2))) := by
  subst ho
  have e1 : (x1 ++ (lo :: hi :: x2)).take (x1.length + 1) = x1 ++ [lo] := by rw [List.take_append, List.take_of_length_le (by omega)]; simp
  have e2 : (x1 ++ (lo :: hi :: x2)).drop (x1.length + 2) = x2 := by rw [List.drop_append, List.drop_eq_nil_of_le (by omega)]; simp
  simp [stVar, g, spl, e1, e2]; omega
theorem jn_snoc (out : List Rg) (p r : Rg) : jn (out ++ [p]) r = if r.1 ≤ p.2 + 1 then out ++ [(p.1, max p.2 r.2)] else (out ++ [p]) ++ [r] := by simp [jn]
theorem jn_nil (r : Rg) : jn [] r = [r] := rfl
structure JnI (L : List Rg) (r : AV) (H h : AH) (k : Nat) (τ : Tm) (v3 : AV) (b3 : List Nat) (out : List Rg) : Prop where
  t0 : τ 0 = r
  t3 : τ 3 = v3
  t4 : τ 4 = .int .i64 k
  R : (Ty.sl 94 tT94).R true h [v3] out b3
  nd : b3.Nodup
  lo : ∀ b ∈ b3, H.next ≤ b
  K : Kp H h
  i : ∀ x ∈ out, inV x.1 ∧ inV x.2
  l : out.length ≤ k
def JnL (L : List Rg) (r : AV) (H : AH) (d : Nat) (τ : Tm) (h : AH) : Prop :=
  ∃ (k : Nat) (v3 : AV) (b3 : List Nat), k + d = L.length ∧ JnI L r H h k τ v3 b3 ((L.take k).foldl jn [])
set_option maxRecDepth 20000 in
theorem jnLoop {rw : Bool} {Hb H h0 : AH} {r : AV} {L : List Rg} {bs : List Nat} (hr : (Ty.sl 94 tT94).R rw Hb [r] L bs) (hKb : Kp Hb H) (hl : L.length ≤ 65) (hi : ∀ x ∈ L, inV x.1 ∧ inV x.2) (m : Nat) (hm : 70 ≤ m) (τ : Tm) (hI : JnL L r H L.length τ h0) :
    ∃ e τ' H', evLoop Try.prog (ev Try.prog m) m (lp Try.prog 143 58) τ h0 = some (e, τ', H') ∧ e = .exit 0 ∧ JnL L r H 0 τ' H' := by
  refine loop_rule (d := L.length) (JnL L r H) (fun e τ h => e = .exit 0 ∧ JnL L r H 0 τ h) ?_ hI (by omega)
  rintro d τ h ⟨k, v3, b3, hk, X⟩
  have hLn := hr.lenA (P := Try.prog) (T := 70) (by simp)
  rw [lp_M Try.func143 58 (by decide) 6 (by decide) (by kernel_rfl) []]
  by_cases hd0 : d = 0
  · subst hd0
    obtain ⟨t0, t3, t4, R, nd, hlo, K, hin, hol⟩ := X
    have hkl : ¬ ((k : Int) < L.length) := by omega
    simp [Try.f143, t0, t4, hLn, hkl]
    exact ⟨k, v3, b3, hk, ⟨by simp [t0], by simp [t3], by simp [t4], R, nd, hlo, K, hin, hol⟩⟩
  · have hlt : k < L.length := by omega
    have hlt' : (k : Int) < L.length := by omega
    obtain ⟨b, o, ro, xs, u1, u2, u3, u4, u5, u6, u7, i1, i2⟩ := rgAt (hr.kp (hKb.trans X.K)) hlt
    have htk : (L.take (k + 1)).foldl jn [] = jn ((L.take k).foldl jn []) L[k] := by
      rw [List.take_succ_eq_append_getElem hlt, List.foldl_append]; rfl
    have hx := hi L[k] (List.getElem_mem hlt)
    have goal : ∀ (τ' : Tm) (h' : AH) (v5' : AV) (b5' : List Nat), JnI L r H h' (k + 1) τ' v5' b5' (jn ((L.take k).foldl jn []) L[k]) → ∃ d', d' < d ∧ JnL L r H d' τ' h' :=
      fun τ' h' v5' b5' a2 => ⟨d - 1, by omega, k + 1, v5', b5', by omega, by rw [htk]; exact a2⟩
    generalize (L.take k).foldl jn [] = out at *
    generalize L[k] = x at *
    obtain ⟨x1, x2⟩ := x
    obtain ⟨t0, t3, t4, R, nd, hlo, K, hin, hol⟩ := X
    simp only at *
    have hbK : b < Hb.next ∨ True := .inr trivial
    have w1 : IntKind.i64.wrap ((k : Int) + 1) = ((k + 1 : Nat) : Int) := by rw [wrap_i64 (n := (k : Int) + 1) (by omega) (by omega)]; omega
    have hlo3 := R.lenA (P := Try.prog) (T := 70) (by simp)
    rcases List.eq_nil_or_concat out with rfl | ⟨init, p, rfl⟩
    · obtain ⟨v', X', b', q1, q2, q3, q4, q5⟩ := ap94 R nd i1 i2 (by simp)
      have w0 : IntKind.i64.wrap (-1) = -1 := by decide
      simp at hlo3
      simp [Try.f143, t0, t3, t4, hLn, hlo3, hlt, hlt', u1, u3, u4, u5, u6, u7, w0, w1, q1, ldVar, fillA, zerosA, spl]
      rw [jn_nil] at goal
      refine goal _ _ v' b' ⟨by simp [t0], by simp, by simp, q2, q3, fun z hz => ?_, KoS.kp K q5 hlo, by simpa using hx, by simp⟩
      rcases q4 z hz with h' | h'; exact hlo z h'; have := K.next; omega
    · simp only [List.concat_eq_append] at *
      have hp := hin p (by simp)
      have hll : ((init ++ [p] : List Rg).length : Int) = (init.length : Int) + 1 := by simp
      have w0 : IntKind.i64.wrap ((init.length : Int)) = init.length := wrap_i64 (by omega) (by simp at hol; omega)
      obtain ⟨b', o', x1', c, x2', bk, y1, y2, y3, y4, y5, y6, y7, y8, y9, y10⟩ := Ty.R.upd R nd (P := Try.prog) (T := 70) (by simp) (by simp [Ty.n]) (k := init.length) (by simp)
      rw [show (init ++ [p])[init.length]'(by simp) = p by simp] at y5
      obtain ⟨p1, p2⟩ := p
      obtain ⟨rfl, rfl, j1, j2⟩ := o94 y5
      simp only at hp
      have w2 : IntKind.i64.wrap (p2 + 1) = p2 + 1 := wrap_i64 (by have := hp.2.1; omega) (by have := hp.2.2; omega)
      have l2 : ldVar Try.prog 3 b' (o' + 1) h = some (.int .i64 p2) := by
        subst y4; simp [ldVar, y3]
      have l1 : ldVar Try.prog 3 b o h = some (.int .i64 x1) := by simp [ldVar, u3, u6]
      have l3 : ldVar Try.prog 3 b (o + 1) h = some (.int .i64 x2) := by simp [ldVar, u3, u7]
      have l4 : ldVar Try.prog 94 b o h = some (.agg [.int .i64 x1, .int .i64 x2]) := by simp [ldVar, u3, u4, u5]
      rw [hll] at hlo3
      rw [jn_snoc] at goal
      by_cases c1 : x1 ≤ p2 + 1
      · rw [if_pos c1] at goal
        simp only at goal
        have hs := fun y => st94 (y := y) y3 y4
        have hmx : (if p2 < x2 then x2 else p2) = max p2 x2 := by split <;> omega
        have hge : (0 : Int) ≤ init.length := by omega
        simp [Try.f143, t0, t3, t4, hLn, hlo3, hlt, hlt', u1, l1, l2, l3, y1, w0, w1, w2, c1, hmx, hs, hge, evHist, ObsOk, ObOk, List.getElem?_cons_zero]
        have hset : (init ++ [(p1, max p2 x2)] : List Rg) = (init ++ [(p1, p2)]).set init.length (p1, max p2 x2) := by simp
        have hm : inV (max p2 x2) := ⟨by have := hp.2.1; omega, by have := hp.2.2; have := hx.2.2; omega⟩
        refine goal _ _ v3 b3 ⟨by simp [t0], by simp [t3], by simp, ?_, nd, hlo, ?_, ?_, by simp at hol ⊢; omega⟩
        · rw [hset]
          exact y10 _ _ _ (by simp) (fun z hz hzb _ => AH.set_getN _ _ hzb) (by simp) (i94 j1 (i64V hm))
        · exact ⟨by simpa using K.next, fun z hz => by rw [AH.set_getN _ _ (by have := hlo b' y7; omega)]; exact K.get z hz⟩
        · intro z hz
          simp only [List.mem_append, List.mem_singleton] at hz
          rcases hz with hz | rfl
          · exact hin z (by simp [hz])
          · exact ⟨hp.1, hm⟩
      · have c1' := eq_false c1
        rw [if_neg c1] at goal
        have hge : (0 : Int) ≤ init.length := by omega
        obtain ⟨v', X', b'', q1, q2, q3, q4, q5⟩ := ap94 R nd i1 i2 (by simp at hol ⊢; omega)
        simp [Try.f143, t0, t3, t4, hLn, hlo3, hlt, hlt', u1, l1, l2, l3, l4, y1, w0, w1, w2, c1', hge, q1, fillA, zerosA, spl]
        refine goal _ _ v' b'' ⟨by simp [t0], by simp, by simp, by simpa using q2, q3, fun z hz => ?_, KoS.kp K q5 hlo, ?_, by simp at hol ⊢; omega⟩
        · rcases q4 z hz with h' | h'; exact hlo z h'; have := K.next; omega
        · intro z hz
          rw [List.mem_append, List.mem_singleton] at hz
          rcases hz with hz | rfl
          · exact hin z hz
          · exact hx
set_option maxRecDepth 20000 in
theorem join_ev {rw : Bool} {Hb H : AH} {r : AV} {L : List Rg} {bs : List Nat} (hr : (Ty.sl 94 tT94).R rw Hb [r] L bs) (hK : Kp Hb H) (hl : L.length ≤ 65) (hi : ∀ x ∈ L, inV x.1 ∧ inV x.2) (m : Nat) (hm : 72 ≤ m) :
    ∃ v' H' b', ev Try.prog m 143 [r] H = some (v', H') ∧ (Ty.sl 94 tT94).R true H' [v'] (L.foldl jn []) b' ∧ Kp H H' := by
  obtain ⟨m, rfl⟩ : ∃ k, m = k + 1 := ⟨m - 1, by omega⟩
  let A : AH := H.push (.cells 94 false [])
  have hA : H.push (.cells 94 false []) = A := rfl
  have KA : Kp H A := (Kp.refl H).push _
  have nA : A.next = H.next + 1 := by simp [A]
  have eA : (Ty.sl 94 tT94).R true A [.slice H.next 0 0] [] [H.next] := empty94 (by omega) (by simp [A])
  clear_value A
  rw [ev_M Try.func143 ok143 [] m _ H (by simp [Try.f143])]
  simp [Try.f143, tm0, hA, fillA, zerosA]
  generalize hLo : evLoop _ _ _ _ _ _ = R
  obtain ⟨e, τ', H', rfl, rfl, k, v3, b3, hk, X⟩ := loop_at hLo (jnLoop (H := H) hr hK hl hi m (by omega) _ ⟨0, .slice H.next 0 0, [H.next], by omega, ⟨by simp, by simp, by simp, eA, by simp, by simp, KA, by simp, by simp⟩⟩)
  have hk' : L.take k = L := List.take_of_length_le (by omega)
  have R3 := X.R
  rw [hk'] at R3
  have t3 := X.t3
  exact ⟨v3, H', by simp [t3], ⟨b3, R3⟩, X.K⟩
end Go.Ev

/- The reference puts a number to ranges, whole. -/
namespace Go.Ev
open Go Go.Proofs
set_option linter.unusedSimpArgs false
set_option linter.unusedVariables false

structure AsI (L : List Rg) (N : Int) (r : AV) (H h : AH) (k : Nat) (τ : Tm) (v6 : AV) (b6 : List Nat) (S : List Rg × Bool) : Prop where
  t0 : τ 0 = r
  t1 : τ 1 = .int .i64 N
  t6 : τ 6 = v6
  t7 : τ 7 = .bool S.2
  t8 : τ 8 = .int .i64 k
  R : (Ty.sl 94 tT94).R true h [v6] S.1 b6
  nd : b6.Nodup
  lo : ∀ b ∈ b6, H.next ≤ b
  K : Kp H h
  i : ∀ x ∈ S.1, inV x.1 ∧ inV x.2
  l : S.1.length ≤ k + (if S.2 = true then 1 else 0)
def AsL (L : List Rg) (N : Int) (r : AV) (H : AH) (d : Nat) (τ : Tm) (h : AH) : Prop :=
  ∃ (k : Nat) (v6 : AV) (b6 : List Nat), k + d = L.length ∧ AsI L N r H h k τ v6 b6 ((L.take k).foldl (adS N) ([], false))
set_option maxRecDepth 20000 in
theorem asLoop {rw : Bool} {Hb H h0 : AH} {r : AV} {L : List Rg} {N : Int} {bs : List Nat} (hr : (Ty.sl 94 tT94).R rw Hb [r] L bs) (hKb : Kp Hb H) (hl : L.length ≤ 64) (hi : ∀ x ∈ L, inV x.1 ∧ inV x.2) (hN : inV N) (m : Nat) (hm : 70 ≤ m) (τ : Tm) (hI : AsL L N r H L.length τ h0) :
    ∃ e τ' H', evLoop Try.prog (ev Try.prog m) m (lp Try.prog 56 250) τ h0 = some (e, τ', H') ∧ e = .exit 0 ∧ AsL L N r H 0 τ' H' := by
  refine loop_rule (d := L.length) (AsL L N r H) (fun e τ h => e = .exit 0 ∧ AsL L N r H 0 τ h) ?_ hI (by omega)
  rintro d τ h ⟨k, v6, b6, hk, X⟩
  have hLn := hr.lenA (P := Try.prog) (T := 70) (by simp)
  rw [lp_M Try.func56 250 (by decide) 8 (by decide) (by kernel_rfl) []]
  by_cases hd0 : d = 0
  · subst hd0
    obtain ⟨t0, t1, t6, t7, t8, R, nd, hlo, K, hin, hol⟩ := X
    have hkl : ¬ ((k : Int) < L.length) := by omega
    simp [Try.f56, t0, t8, hLn, hkl]
    exact ⟨k, v6, b6, hk, ⟨by simp [t0], by simp [t1], by simp [t6], by simp [t7], by simp [t8], R, nd, hlo, K, hin, hol⟩⟩
  · have hlt : k < L.length := by omega
    have hlt' : (k : Int) < L.length := by omega
    obtain ⟨b, o, ro, xs, u1, u2, u3, u4, u5, u6, u7, i1, i2⟩ := rgAt (hr.kp hKb) hlt
    have htk : (L.take (k + 1)).foldl (adS N) ([], false) = adS N ((L.take k).foldl (adS N) ([], false)) L[k] := by
      rw [List.take_succ_eq_append_getElem hlt, List.foldl_append]; rfl
    have hx := hi L[k] (List.getElem_mem hlt)
    have goal : ∀ (τ' : Tm) (h' : AH) (v5' : AV) (b5' : List Nat), AsI L N r H h' (k + 1) τ' v5' b5' (adS N ((L.take k).foldl (adS N) ([], false)) L[k]) → ∃ d', d' < d ∧ AsL L N r H d' τ' h' :=
      fun τ' h' v5' b5' a2 => ⟨d - 1, by omega, k + 1, v5', b5', by omega, by rw [htk]; exact a2⟩
    generalize (L.take k).foldl (adS N) ([], false) = S at *
    generalize L[k] = x at *
    obtain ⟨x1, x2⟩ := x
    obtain ⟨out, put⟩ := S
    obtain ⟨t0, t1, t6, t7, t8, R, nd, hlo, K, hin, hol⟩ := X
    simp only at *
    have w1 : IntKind.i64.wrap ((k : Int) + 1) = ((k + 1 : Nat) : Int) := by rw [wrap_i64 (n := (k : Int) + 1) (by omega) (by omega)]; omega
    have hKn := K.next
    have gb := (K.get b u2).trans u3
    have l1 : ldVar Try.prog 3 b o h = some (.int .i64 x1) := by simp [ldVar, gb, u6]
    have l4 : ∀ Y : AH, Kp H Y → ldVar Try.prog 94 b o Y = some (.agg [.int .i64 x1, .int .i64 x2]) := fun Y kY => by have := (kY.get b u2).trans u3; simp [ldVar, this, u4, u5]
    have l4h := l4 h K
    by_cases c : put = false ∧ N < x1
    · obtain ⟨rfl, c2⟩ := c
      obtain ⟨v', X', b', q1, q2, q3, q4, q5⟩ := ap94 R nd (a := N) (b := N) (i64V hN) (i64V hN) (by simp at hol; omega)
      have KX : Kp H X' := KoS.kp K q5 hlo
      obtain ⟨v2, X2, b2, r1, r2, r3, r4, r5⟩ := ap94 q2 q3 i1 i2 (by simp at hol ⊢; omega)
      have l4x := l4 X' KX
      simp [Try.f56, t0, t1, t6, t7, t8, hLn, hlt, hlt', u1, l1, l4x, w1, c2, q1, r1, fillA, zerosA, spl]
      have e : adS N (out, false) (x1, x2) = ((out ++ [(N, N)]) ++ [(x1, x2)], true) := by simp [adS, c2]
      rw [e] at goal
      refine goal _ _ v2 b2 ⟨by simp [t0], by simp [t1], by simp, by simp, by simp, r2, r3, ?_, ?_, ?_, by simp at hol ⊢; omega⟩
      · intro z hz
        have := q5.next
        rcases r4 z hz with h' | h'
        · rcases q4 z h' with h' | h'
          · exact hlo z h'
          · omega
        · omega
      · refine KoS.kp KX r5 fun z hz => ?_
        rcases q4 z hz with h' | h'; exact hlo z h'; omega
      · intro z hz
        simp only [List.mem_append, List.mem_singleton] at hz
        rcases hz with (hz | rfl) | rfl
        · exact hin z hz
        · exact ⟨hN, hN⟩
        · exact hx
    · obtain ⟨v', X', b', q1, q2, q3, q4, q5⟩ := ap94 R nd i1 i2 (by split at hol <;> omega)
      have e : adS N (out, put) (x1, x2) = (out ++ [(x1, x2)], put) := by simp only [adS, if_neg c, List.append_nil]
      rw [e] at goal
      have fin : ∀ τ' : Tm, τ' 0 = r → τ' 1 = .int .i64 N → τ' 6 = v' → τ' 7 = .bool put → τ' 8 = .int .i64 ((k + 1 : Nat) : Int) → ∃ d', d' < d ∧ AsL L N r H d' τ' X' := by
        intro τ' s0 s1 s6 s7 s8
        refine goal _ _ v' b' ⟨s0, s1, s6, s7, s8, q2, q3, fun z hz => ?_, KoS.kp K q5 hlo, ?_, by simp only [List.length_append, List.length_singleton]; omega⟩
        · rcases q4 z hz with h' | h'; exact hlo z h'; omega
        · intro z hz
          rw [List.mem_append, List.mem_singleton] at hz
          rcases hz with hz | rfl
          · exact hin z hz
          · exact hx
      cases put with
      | true =>
        simp [Try.f56, t0, t1, t6, t7, t8, hLn, hlt, hlt', u1, l1, l4h, w1, q1, fillA, zerosA, spl]
        exact fin _ (by simp [t0]) (by simp [t1]) (by simp) (by simp [t7]) (by simp)
      | false =>
        have c2 := eq_false (show ¬ (N < x1) from fun h => c ⟨rfl, h⟩)
        simp [Try.f56, t0, t1, t6, t7, t8, hLn, hlt, hlt', u1, l1, l4h, w1, c2, q1, fillA, zerosA, spl]
        exact fin _ (by simp [t0]) (by simp [t1]) (by simp) (by simp [t7]) (by simp)
set_option maxRecDepth 20000 in
theorem RangesAddS_ev {rw : Bool} {Hb H : AH} {r : AV} {L : List Rg} {N : Int} {bs : List Nat} (hr : (Ty.sl 94 tT94).R rw Hb [r] L bs) (hK : Kp Hb H) (hL : rgOK L) (hN : inV N) (m : Nat) (hm : 80 ≤ m) :
    ∃ v' H' b', ev Try.prog m 56 [r, .int .i64 N] H = some (.tuple [v', .int .i64 0], H') ∧ (Ty.sl 94 tT94).R true H' [v'] (adP L N) b' ∧ Kp H H' := by
  obtain ⟨m, rfl⟩ : ∃ k, m = k + 1 := ⟨m - 1, by omega⟩
  have hl64 := hL.1
  have hi := rgL_in hL.2
  obtain ⟨H1, a1, a2⟩ := l05RangesOK_ev hr hK (by omega) m (by omega)
  have a3 := l05Var_ev N H1 m (by omega)
  let A : AH := H1.push (.cells 94 false [])
  have hA : H1.push (.cells 94 false []) = A := rfl
  have KA : Kp H1 A := (Kp.refl H1).push _
  have nA : A.next = H1.next + 1 := by simp [A]
  have eA : (Ty.sl 94 tT94).R true A [.slice H1.next 0 0] [] [H1.next] := empty94 (by omega) (by simp [A])
  clear_value A
  rw [ev_M Try.func56 ok56 [63] m _ H (by simp [Try.f56])]
  simp [Try.f56, tm0, a1, a3, hL, hN, hA, fillA, zerosA]
  generalize hLo : evLoop _ _ _ _ _ _ = R
  obtain ⟨e, τ', H2, rfl, rfl, k, v6, b6, hk, X⟩ := loop_at hLo (asLoop (H := H1) (hr.kp hK) a2 hl64 hi hN m (by omega) _ ⟨0, .slice H1.next 0 0, [H1.next], by omega, ⟨by simp, by simp, by simp, by simp, by simp, eA, by simp, by simp, KA, by simp, by simp⟩⟩)
  have hk' : L.take k = L := List.take_of_length_le (by omega)
  rw [hk'] at X
  have hf := foldS N L []
  simp only [List.nil_append] at hf
  have hj := ins_join N L none hL.2
  have hal := addR_len L (N, N)
  unfold adP
  rw [← hj, ← hf]
  clear hj hf
  generalize L.foldl (adS N) ([], false) = S at *
  obtain ⟨out, put⟩ := S
  obtain ⟨t0, t1, t6, t7, t8, R, nd, hlo, K, hin, hol⟩ := X
  simp only at *
  simp
  have main : ∃ τ2 v2 H3 b2, evAt Try.prog (ev Try.prog m) m 56 63 τ' H2 = evAt Try.prog (ev Try.prog m) m 56 127 τ2 H3 ∧ τ2 6 = v2 ∧ (Ty.sl 94 tT94).R true H3 [v2] (fiS N (out, put)) b2 ∧ Kp H1 H3 ∧ (fiS N (out, put)).length ≤ 65 ∧ (∀ x ∈ fiS N (out, put), inV x.1 ∧ inV x.2) := by
    rw [at_M Try.func56 63 (by decide) 6 (by decide) (by kernel_rfl) [127]]
    cases put with
    | true => exact ⟨_, v6, H2, b6, by simp [Try.f56, t7]; rfl, by simp [t6], by simpa [fiS] using R, K, by simp [fiS] at hol ⊢; omega, by simpa [fiS] using hin⟩
    | false =>
      obtain ⟨v', X', b', q1, q2, q3, q4, q5⟩ := ap94 R nd (a := N) (b := N) (i64V hN) (i64V hN) (by simp at hol; omega)
      refine ⟨_, v', X', b', by simp [Try.f56, t1, t6, t7, q1, fillA, zerosA, spl]; rfl, by simp, by simpa [fiS] using q2, KoS.kp K q5 hlo, by simp [fiS] at hol ⊢; omega, fun x hx => ?_⟩
      simp only [fiS, List.mem_append] at hx
      rcases hx with hx | hx
      · exact hin x hx
      · simp at hx; subst hx; exact ⟨hN, hN⟩
  obtain ⟨τ2, v2, H3, b2, e1, s6, R2, K2, l2, i2⟩ := main
  generalize fiS N (out, put) = o at *
  obtain ⟨v3, H4, b3, j1, R3, K3⟩ := join_ev R2 (Kp.refl H3) l2 i2 m (by omega)
  obtain ⟨v4, hc, R4⟩ := cutR_ev R3
  have hLo := R3.lenA (P := Try.prog) (T := 70) (by simp) H4
  let B : AH := H4.push (.cells 94 false [])
  have hB : H4.push (.cells 94 false []) = B := rfl
  have KB : Kp H4 B := (Kp.refl H4).push _
  have nB : B.next = H4.next + 1 := by simp [B]
  have eB : (Ty.sl 94 tT94).R true B [.slice H4.next 0 0] [] [H4.next] := empty94 (by omega) (by simp [B])
  clear_value B
  have hol2 : (cut64 (o.foldl jn [])).length ≤ 1000000 := by
    have : (o.foldl jn []).length ≤ o.length := by
      have : ∀ (o out : List Rg), (o.foldl jn out).length ≤ out.length + o.length := by
        intro o
        induction o with
        | nil => intro out; simp
        | cons x o ih =>
          intro out
          have h1 := ih (jn out x)
          have h2 : (jn out x).length ≤ out.length + 1 := by
            rcases List.eq_nil_or_concat out with rfl | ⟨i, p, rfl⟩
            · simp [jn_nil]
            · rw [List.concat_eq_append, jn_snoc]; split <;> simp
          simp only [List.foldl_cons, List.length_cons]; omega
      simpa using this o []
    unfold cut64; split <;> simp <;> omega
  obtain ⟨v', X', b', q1, q2, q3, q4, q5⟩ := app94s eB (by simp) (R4.kp KB) (by simp) hol2
  simp only [List.nil_append] at q2
  have KX : Kp H1 X' := KoS.kp ((K2.trans K3).trans KB) q5 (by simp; have := K2.next; have := K3.next; omega)
  refine ⟨v', X', ?_, ⟨b', q2⟩, a2.trans KX⟩
  rw [e1, at_M Try.func56 127 (by decide) 7 (by decide) (by kernel_rfl) []]
  generalize o.foldl jn [] = o2 at *
  by_cases c : 64 < o2.length
  · have c' : (64 : Int) < o2.length := by omega
    rw [if_pos c] at hc
    simp [Try.f56, s6, j1, hLo, c, c', hc, hB, q1, zerosA, fillA]
  · have c' := eq_false (show ¬ ((64 : Int) < o2.length) by omega)
    rw [if_neg c] at hc
    subst hc
    simp [Try.f56, s6, j1, hLo, c, c', hB, q1, zerosA, fillA]
end Go.Ev

/- Ranges: alike, what they hold, how many, from a number on. -/
namespace Go.Ev
open Go Go.Proofs
set_option linter.unusedSimpArgs false
set_option linter.unusedVariables false

theorem kd94 : kindsT Try.prog 94 = some [0, 0] := by kernel_rfl
noncomputable instance (L : List Rg) (m : Int) : Decidable (inR L m) := Classical.propDecidable _
set_option maxRecDepth 20000 in
theorem sameRanges_ev {r1 r2 : Bool} {H : AH} {s1 s2 : AV} {L : List Rg} {b1 b2 : List Nat} (h1 : (Ty.sl 94 tT94).R r1 H [s1] L b1) (h2 : (Ty.sl 94 tT94).R r2 H [s2] L b2) (hl : L.length ≤ 1000000) (m : Nat) (hm : L.length + 3 ≤ m) :
    ev Try.prog m 57 [s1, s2] H = some (.bool true, H) := by
  obtain ⟨m, rfl⟩ : ∃ k, m = k + 1 := ⟨m - 1, by omega⟩
  have L1 := Ty.R.lenA h1 (P := Try.prog) (T := 70) (by simp)
  have L2 := Ty.R.lenA h2 (P := Try.prog) (T := 70) (by simp)
  rw [ev_M Try.func57 ok57 [] _ _ H (by simp [Try.f57])]
  simp [Try.f57, tm0, L1, L2]
  generalize hLo : evLoop _ _ _ _ _ _ = R
  obtain ⟨e, τ', H', rfl, rfl, rfl⟩ := loop_at hLo (loop_rule (d := L.length) (fun d τ h => h = H ∧ ∃ k : Nat, k + d = L.length ∧ τ 0 = s1 ∧ τ 1 = s2 ∧ τ 5 = .int .i64 k) (fun e τ h => e = .exit 0 ∧ h = H) (by
    rintro d τ h ⟨rfl, k, hk, t0, t1, t5⟩
    rw [lp_M Try.func57 58 (by decide) 6 (by decide) (by kernel_rfl) []]
    by_cases hd0 : d = 0
    · subst hd0
      have hkl : ¬ ((k : Int) < L.length) := by omega
      simp [Try.f57, t0, t5, L1, hkl]
    · have hlt : k < L.length := by omega
      have hlt' : (k : Int) < L.length := by omega
      obtain ⟨b, o, ro, xs, u1, u2, u3, u4, u5, u6, u7, i1, i2⟩ := rgAt h1 hlt
      obtain ⟨b', o', ro', xs', v1, v2, v3, v4, v5, v6, v7, j1, j2⟩ := rgAt h2 hlt
      have w1 : IntKind.i64.wrap ((k : Int) + 1) = (k : Int) + 1 := wrap_i64 (n := (k : Int) + 1) (by omega) (by omega)
      simp [Try.f57, t0, t1, t5, L1, hlt, hlt', u1, u3, u4, u5, v1, v3, v4, v5, w1, ldVar, kd94]
      exact ⟨d - 1, by omega, k + 1, by omega, by simp⟩) ⟨rfl, 0, by simp, by simp, by simp, by simp⟩ (by omega))
  simp [Try.f57]
def RhI (r : AV) (L : List Rg) (N : Int) (H : AH) (d : Nat) (τ : Tm) (h : AH) : Prop := Kp H h ∧ ∃ k : Nat, k + d = L.length ∧ τ 1 = .int .i64 N ∧ τ 7 = r ∧ τ 8 = .int .i64 L.length ∧ τ 9 = .int .i64 k ∧ (inR L N ↔ inR (L.drop k) N)
set_option maxRecDepth 20000 in
theorem rangesHas_ev {rw : Bool} {Hb H : AH} {r : AV} {L : List Rg} {N : Int} {bs : List Nat} (hr : (Ty.sl 94 tT94).R rw Hb [r] L bs) (hK : Kp Hb H) (hl : L.length ≤ 1000000) (m : Nat) (hm : L.length + 3 ≤ m) :
    ∃ H', ev Try.prog m 144 [r, .int .i64 N] H = some (.bool (decide (inR L N)), H') ∧ Kp H H' := by
  obtain ⟨m, rfl⟩ : ∃ k, m = k + 1 := ⟨m - 1, by omega⟩
  have L1 := Ty.R.lenA hr (P := Try.prog) (T := 70) (by simp)
  rw [ev_M Try.func144 ok144 [] _ _ H (by simp [Try.f144])]
  simp [Try.f144, tm0, L1]
  generalize hLo : evLoop _ _ _ _ _ _ = R
  obtain ⟨e, τ', H', rfl, hK', g⟩ := loop_at hLo (loop_rule (d := L.length) (RhI r L N H) (fun e τ h => Kp H h ∧ ((e = .exit 0 ∧ ¬ inR L N) ∨ (e = .ret ∧ τ 4 = .bool true ∧ inR L N))) (by
    rintro d τ h ⟨K, k, hk, t1, t7, t8, t9, hin⟩
    rw [lp_M Try.func144 26 (by decide) 5 (by decide) (by kernel_rfl) []]
    by_cases hd0 : d = 0
    · subst hd0
      have hkl : ¬ ((k : Int) < L.length) := by omega
      simp [Try.f144, t8, t9, hkl]
      refine ⟨K, ?_⟩
      rw [hin, List.drop_eq_nil_of_le (by omega)]; exact inR_nil N
    · have hlt : k < L.length := by omega
      have hlt' : (k : Int) < L.length := by omega
      obtain ⟨b, o, ro, xs, u1, u2, u3, u4, u5, u6, u7, i1, i2⟩ := rgAt (hr.kp (hK.trans K)) hlt
      rw [List.drop_eq_getElem_cons hlt, inR_cons] at hin
      generalize L[k] = x at *
      obtain ⟨x1, x2⟩ := x
      simp only at *
      have hne : ¬ (b = h.next) := by omega
      have w1 : IntKind.i64.wrap ((k : Int) + 1) = (k : Int) + 1 := wrap_i64 (n := (k : Int) + 1) (by omega) (by omega)
      have P := K.push (.cells 94 false [.int .i64 x1, .int .i64 x2])
      by_cases c1 : x1 ≤ N
      · by_cases c2 : N ≤ x2
        · simp [Try.f144, t1, t7, t8, t9, hlt, hlt', u1, u3, u4, u5, u6, u7, hne, c1, c2, ldVar, stVar, spl]
          exact ⟨P, hin.2 (.inl ⟨c1, c2⟩)⟩
        · have c2' := eq_false c2
          simp [Try.f144, t1, t7, t8, t9, hlt, hlt', u1, u3, u4, u5, u6, u7, hne, c1, c2', w1, ldVar, stVar, spl]
          exact ⟨d - 1, by omega, P, k + 1, by omega, by simp [t1], by simp [t7], by simp [t8], by simp, by rw [hin]; simp [c2]⟩
      · have c1' := eq_false c1
        simp [Try.f144, t1, t7, t8, t9, hlt, hlt', u1, u3, u4, u5, u6, u7, hne, c1', w1, ldVar, stVar, spl]
        exact ⟨d - 1, by omega, P, k + 1, by omega, by simp [t1], by simp [t7], by simp [t8], by simp, by rw [hin]; simp [c1]⟩) ⟨Kp.refl H, 0, by simp, by simp, by simp, by simp, by simp, by simp⟩ (by omega))
  rcases g with ⟨rfl, g⟩ | ⟨rfl, g1, g2⟩
  · exact ⟨H', by simp [Try.f144, g], hK'⟩
  · exact ⟨H', by simp [g1, g2], hK'⟩
theorem RangesHas_ev {rw : Bool} {Hb H : AH} {r : AV} {L : List Rg} {N : Int} {bs : List Nat} (hr : (Ty.sl 94 tT94).R rw Hb [r] L bs) (hK : Kp Hb H) (hL : rgOK L) (m : Nat) (hm : 80 ≤ m) :
    ∃ H', ev Try.prog m 59 [r, .int .i64 N] H = some (.bool (decide (inR L N)), H') ∧ Kp H H' := by
  obtain ⟨m, rfl⟩ : ∃ k, m = k + 1 := ⟨m - 1, by omega⟩
  have hl := hL.1
  obtain ⟨H1, a1, a2⟩ := rangesOK_ev hr hK (by omega) m (by omega)
  obtain ⟨H2, b1, b2⟩ := rangesHas_ev (N := N) hr (hK.trans a2) (by omega) m (by omega)
  refine ⟨H2, ?_, a2.trans b2⟩
  rw [ev_M Try.func59 ok59 [] m _ H (by simp [Try.f59])]
  simp [Try.f59, tm0, a1, hL, b1]
theorem RangesOKS_ev {rw : Bool} {Hb H : AH} {r : AV} {L : List Rg} {bs : List Nat} (hr : (Ty.sl 94 tT94).R rw Hb [r] L bs) (hK : Kp Hb H) (hl : L.length ≤ 1048576) (m : Nat) (hm : 80 ≤ m) :
    ∃ H', ev Try.prog m 58 [r] H = some (.bool (decide (rgOK L)), H') ∧ Kp H H' := by
  obtain ⟨m, rfl⟩ : ∃ k, m = k + 1 := ⟨m - 1, by omega⟩
  obtain ⟨H1, a1, a2⟩ := l05RangesOK_ev hr hK hl m (by omega)
  refine ⟨H1, ?_, a2⟩
  rw [ev_M Try.func58 ok58 [] m _ H (by simp [Try.f58])]
  simp [Try.f58, tm0, a1]
/-- how many -/
def cntR : List Rg → Int
  | [] => 0
  | r :: l => (r.2 - r.1 + 1) + cntR l
theorem cntR_app (l l' : List Rg) : cntR (l ++ l') = cntR l + cntR l' := by
  induction l with
  | nil => simp [cntR]
  | cons r l ih => simp only [List.cons_append, cntR, ih]; omega
theorem cntR_bd : ∀ (l : List Rg), (∀ r ∈ l, 0 ≤ r.1 ∧ r.1 ≤ r.2 ∧ r.2 ≤ 399) → 0 ≤ cntR l ∧ cntR l ≤ 400 * l.length
  | [], _ => by simp [cntR]
  | r :: l, h => by
    have h1 := h r (by simp)
    have h2 := cntR_bd l fun x hx => h x (by simp [hx])
    simp only [cntR, List.length_cons]; omega
def RcI (r : AV) (L : List Rg) (H1 : AH) (d : Nat) (τ : Tm) (h : AH) : Prop := Kp H1 h ∧ ∃ k : Nat, k + d = L.length ∧ τ 3 = .int .i64 (cntR (L.take k)) ∧ τ 9 = r ∧ τ 10 = .int .i64 L.length ∧ τ 11 = .int .i64 k
set_option maxRecDepth 20000 in
theorem RangesCount_ev {rw : Bool} {Hb H : AH} {r : AV} {L : List Rg} {bs : List Nat} (hr : (Ty.sl 94 tT94).R rw Hb [r] L bs) (hK : Kp Hb H) (hL : rgOK L) (hb : ∀ r ∈ L, 0 ≤ r.1 ∧ r.1 ≤ r.2 ∧ r.2 ≤ 399) (m : Nat) (hm : 80 ≤ m) :
    ∃ H', ev Try.prog m 60 [r] H = some (.int .i64 (cntR L), H') ∧ Kp H H' := by
  obtain ⟨m, rfl⟩ : ∃ k, m = k + 1 := ⟨m - 1, by omega⟩
  have hl := hL.1
  obtain ⟨H1, a1, a2⟩ := rangesOK_ev hr hK (by omega) m (by omega)
  have L1 := Ty.R.lenA hr (P := Try.prog) (T := 70) (by simp)
  rw [ev_M Try.func60 ok60 [] _ _ H (by simp [Try.f60])]
  simp [Try.f60, tm0, L1, a1, hL]
  generalize hLo : evLoop _ _ _ _ _ _ = R
  obtain ⟨e, τ', H', rfl, rfl, hK', g⟩ := loop_at hLo (loop_rule (d := L.length) (RcI r L H1) (fun e τ h => e = .exit 0 ∧ Kp H1 h ∧ τ 3 = .int .i64 (cntR L)) (by
    rintro d τ h ⟨K, k, hk, t3, t9, t10, t11⟩
    rw [lp_M Try.func60 122 (by decide) 7 (by decide) (by kernel_rfl) []]
    by_cases hd0 : d = 0
    · subst hd0
      have hkl : ¬ ((k : Int) < L.length) := by omega
      simp [Try.f60, t3, t10, t11, hkl]
      rw [List.take_of_length_le (by omega)]; exact ⟨K, rfl⟩
    · have hlt : k < L.length := by omega
      have hlt' : (k : Int) < L.length := by omega
      obtain ⟨b, o, ro, xs, u1, u2, u3, u4, u5, u6, u7, i1, i2⟩ := rgAt (hr.kp ((hK.trans a2).trans K)) hlt
      have hx := hb L[k] (List.getElem_mem hlt)
      have htk : cntR (L.take (k + 1)) = cntR (L.take k) + (L[k].2 - L[k].1 + 1) := by rw [List.take_succ_eq_append_getElem hlt, cntR_app]; simp [cntR]
      have hbd := cntR_bd (L.take k) fun x hx => hb x (List.mem_of_mem_take hx)
      have hbl : (L.take k).length ≤ 64 := by simp; omega
      generalize L[k] = x at *
      generalize cntR (L.take k) = c at *
      obtain ⟨x1, x2⟩ := x
      simp only at *
      have hne : ¬ (b = h.next) := by omega
      have w1 : IntKind.i64.wrap ((k : Int) + 1) = (k : Int) + 1 := wrap_i64 (n := (k : Int) + 1) (by omega) (by omega)
      have w2 : IntKind.i64.wrap (x2 - x1) = x2 - x1 := wrap_i64 (by omega) (by omega)
      have w3 : IntKind.i64.wrap (x2 - x1 + 1) = x2 - x1 + 1 := wrap_i64 (by omega) (by omega)
      have w4 : IntKind.i64.wrap (c + (x2 - x1 + 1)) = c + (x2 - x1 + 1) := wrap_i64 (by omega) (by omega)
      have P := K.push (.cells 94 false [.int .i64 x1, .int .i64 x2])
      simp [Try.f60, t3, t9, t10, t11, hlt, hlt', u1, u3, u4, u5, u6, u7, hne, w1, w2, w3, w4, ldVar, stVar, spl]
      exact ⟨d - 1, by omega, P, k + 1, by omega, by simp [htk], by simp [t9], by simp [t10], by simp⟩) ⟨Kp.refl H1, 0, by simp, by simp [cntR], by simp, by simp, by simp⟩ (by omega))
  exact ⟨H', by simp [Try.f60, g], a2.trans hK'⟩
end Go.Ev
