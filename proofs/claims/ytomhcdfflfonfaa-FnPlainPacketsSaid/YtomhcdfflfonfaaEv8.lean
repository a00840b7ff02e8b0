/- Lemmas of an evaluator of the given code and of what the functions answer; no condition of its own. -/
import Derived.Test.YtomhcdfflfonfaaEv5
import Derived.Test.YtomhcdfflfonfaaEv7
import Derived.Test.YtomhcdfflfonfaaEv6
/- Open orders for simp: only the states that are looked at again are kept. -/
namespace Go.Ev
open Go Go.RowKit
set_option linter.unusedSimpArgs false
set_option linter.unusedVariables false

/-- the states at places that are wanted -/
def coll {α : Type} (need : Nat → Bool) : Nat → List α → List (Nat × α) → List (Nat × α)
  | _, [], acc => acc
  | k, x :: l, acc => coll need (k + 1) l (if need k = true then (k, x) :: acc else acc)
theorem coll_get {α : Type} (need : Nat → Bool) : ∀ (l : List α) (k : Nat) (acc : List (Nat × α)) (i : Nat), need i = true → (∀ j, k ≤ j → acc.lookup j = none) →
    (coll need k l acc).lookup i = if k ≤ i ∧ i < k + l.length then l[i - k]? else acc.lookup i
  | [], k, acc, i, hn, ha => by
    simp only [coll, List.length_nil]
    rw [if_neg (by omega)]
  | x :: l, k, acc, i, hn, ha => by
    simp only [coll, List.length_cons]
    have ha' : ∀ j, k + 1 ≤ j → (if need k = true then (k, x) :: acc else acc).lookup j = none := fun j hj => by
      split
      · have : (j == k) = false := by simp; omega
        simp only [List.lookup, this]; exact ha j (by omega)
      · exact ha j (by omega)
    rw [coll_get need l (k + 1) _ i hn ha']
    by_cases hik : i = k
    · subst hik
      rw [if_neg (by omega), if_pos hn, if_pos (by omega)]
      simp [List.lookup]
    · by_cases hc : k + 1 ≤ i ∧ i < k + 1 + l.length
      · rw [if_pos hc, if_pos (by omega)]
        rw [show i - k = (i - (k + 1)) + 1 by omega]; simp
      · rw [if_neg hc, if_neg (show ¬ (k ≤ i ∧ i < k + (l.length + 1)) by omega)]
        have hf : (i == k) = false := by simpa using hik
        by_cases hk : need k = true
        · rw [if_pos hk]; simp [List.lookup, hf]
        · rw [if_neg hk]
section
variable (P : Program) (call : CallF) (ops : Array Oper)
/-! ordered effects -/
def needS (ls : List (Nat × Nat)) (k : Nat) : Bool := ls.any fun q => q.1 == k || q.2 == k
def runS (ls : List (Nat × Nat)) : Nat → List Oper → Tm → AH → List (Nat × Tm × AH) → Option (Tm × AH × List (Nat × Tm × AH))
  | k, [], τ, H, acc => some (τ, H, if needS ls k = true then (k, τ, H) :: acc else acc)
  | k, o :: l, τ, H, acc => match stepA P call ops o τ H with
    | some (τ', H') => runS ls (k + 1) l τ' H' (if needS ls k = true then (k, τ, H) :: acc else acc)
    | none => none
theorem runS_eq (ls : List (Nat × Nat)) : ∀ (l : List Oper) (k : Nat) (τ : Tm) (H : AH) (acc : List (Nat × Tm × AH)), runS P call ops ls k l τ H acc =
    match evHist P call ops l τ H with
    | some hs => match hs.getLast? with | some r => some (r.1, r.2, coll (needS ls) k hs acc) | none => none
    | none => none
  | [], k, τ, H, acc => by simp [runS, evHist, coll]
  | o :: l, k, τ, H, acc => by
    simp only [runS, evHist]
    cases hs : stepA P call ops o τ H with
    | none => rfl
    | some r =>
      simp only
      rw [runS_eq ls l (k + 1)]
      cases hh : evHist P call ops l r.1 r.2 with
      | none => rfl
      | some hs =>
        have hne : hs ≠ [] := fun e => by have := (evHist_facts hh).1; rw [e] at this; simp at this
        simp only [coll]
        rw [List.getLast?_cons_of_ne_nil hne]
def ObSS (acc : List (Nat × Tm × AH)) : List (Nat × Nat) → Prop
  | [] => True
  | q :: l => (match acc.lookup q.1, acc.lookup q.2, ops[q.1]? with
    | some (τ, H), some (_, Hp), some o => wantA ops τ o = true → evO P call o τ Hp = (evO P call o τ H).map fun r => (r.1, Hp)
    | _, _, _ => False) ∧ ObSS acc l
theorem ObSS_eq {ls : List (Nat × Nat)} {hs : List (Tm × AH)} : ∀ (l : List (Nat × Nat)), (∀ q ∈ l, q ∈ ls) → (ObSS P call ops (coll (needS ls) 0 hs []) l ↔ ObsOk P call ops hs l)
  | [], _ => Iff.rfl
  | q :: l, h => by
    have hq := h q (by simp)
    have n1 : needS ls q.1 = true := by unfold needS; rw [List.any_eq_true]; exact ⟨q, hq, by simp⟩
    have n2 : needS ls q.2 = true := by unfold needS; rw [List.any_eq_true]; exact ⟨q, hq, by simp⟩
    have e : ∀ i, needS ls i = true → (coll (needS ls) 0 hs []).lookup i = hs[i]? := fun i hi => by
      rw [coll_get _ _ _ _ _ hi (fun _ _ => rfl)]
      by_cases hl : i < hs.length
      · rw [if_pos (by omega)]; simp
      · rw [if_neg (by omega), List.getElem?_eq_none (by omega)]; rfl
    simp only [ObSS, ObsOk, ObOk, e _ n1, e _ n2]
    rw [ObSS_eq l fun q' hq' => h q' (by simp [hq'])]
    exact Iff.rfl
open Classical in
noncomputable def evSeqG (ls : List (Nat × Nat)) (τ : Tm) (H : AH) : Option (Tm × AH) := match runS P call ops ls 0 ops.toList τ H [] with
  | some (τ', H', acc) => if ObSS P call ops acc ls then some (τ', H') else none
  | none => none
open Classical in
theorem evSeqG_eq (ls : List (Nat × Nat)) (τ : Tm) (H : AH) : evSeqG P call ops ls τ H = (match evHist P call ops ops.toList τ H with
    | some hs => if ObsOk P call ops hs ls then hs.getLast? else none
    | none => none) := by
  unfold evSeqG
  rw [runS_eq]
  cases hh : evHist P call ops ops.toList τ H with
  | none => rfl
  | some hs =>
    have hlen := (evHist_facts hh).1
    cases hl : hs.getLast? with
    | none => rw [List.getLast?_eq_none_iff] at hl; rw [hl] at hlen; simp at hlen
    | some r =>
      simp only [hl]
      by_cases ho : ObsOk P call ops hs ls
      · rw [if_pos ((ObSS_eq P call ops ls fun _ h => h).2 ho), if_pos ho]
      · rw [if_neg (fun e => ho ((ObSS_eq P call ops ls fun _ h => h).1 e)), if_neg ho]
/-! what floats -/
def needG (I : FI) (k : Nat) : Bool := I.ls.any fun q => q.1 == k || q.2.1 == k
def runG (n0 : Nat) (I : FI) : Nat → List Oper → Tm → AH → Tab → List (Nat × Tm × AH × Tab) → Option (Tm × AH × Tab × List (Nat × Tm × AH × Tab))
  | k, [], τ, X, tab, acc => some (τ, X, tab, if needG I k = true then (k, τ, X, tab) :: acc else acc)
  | k, o :: l, τ, X, tab, acc => if I.fl.contains k then match fltO P o.op τ with
      | some (s, x) => runG n0 I (k + 1) l (put τ o.dst (s.av (n0 + I.fl.idxOf k))) X (tab ++ [(k, n0 + I.fl.idxOf k, x)]) (if needG I k = true then (k, τ, X, tab) :: acc else acc)
      | none => none
    else if wantA ops τ o then match evO P call o τ (plusT tab (I.ad.getD k []) X) with
      | some (v, X') => runG n0 I (k + 1) l (put τ o.dst v) (if isEff P o.op then X' else X) tab (if needG I k = true then (k, τ, X, tab) :: acc else acc)
      | none => none
    else runG n0 I (k + 1) l (put τ o.dst U) (if isEff P o.op then plusT tab (I.ad.getD k []) X else X) tab (if needG I k = true then (k, τ, X, tab) :: acc else acc)
theorem evHistF_ne {n0 : Nat} {I : FI} {k : Nat} {l : List Oper} {τ : Tm} {X : AH} {tab : Tab} {hs : List (Tm × AH × Tab)} (h : evHistF P call n0 ops I k l τ X tab = some hs) : hs ≠ [] := fun e => by
  have := (evHistF_facts h).1; rw [e] at this; simp at this
theorem runG_eq (n0 : Nat) (I : FI) : ∀ (l : List Oper) (k : Nat) (τ : Tm) (X : AH) (tab : Tab) (acc : List (Nat × Tm × AH × Tab)), runG P call ops n0 I k l τ X tab acc =
    match evHistF P call n0 ops I k l τ X tab with
    | some hs => match hs.getLast? with | some r => some (r.1, r.2.1, r.2.2, coll (needG I) k hs acc) | none => none
    | none => none
  | [], k, τ, X, tab, acc => by simp [runG, evHistF, coll]
  | o :: l, k, τ, X, tab, acc => by
    have fin : ∀ τ' X' tab', runG P call ops n0 I (k + 1) l τ' X' tab' (if needG I k = true then (k, τ, X, tab) :: acc else acc) =
        match (match evHistF P call n0 ops I (k + 1) l τ' X' tab' with | some r => some ((τ, X, tab) :: r) | none => none) with
        | some hs => match hs.getLast? with | some r => some (r.1, r.2.1, r.2.2, coll (needG I) k hs acc) | none => none
        | none => none := fun τ' X' tab' => by
      rw [runG_eq n0 I l (k + 1)]
      cases hh : evHistF P call n0 ops I (k + 1) l τ' X' tab' with
      | none => rfl
      | some hs => simp only [coll]; rw [List.getLast?_cons_of_ne_nil (evHistF_ne P call ops hh)]
    simp only [runG, evHistF]
    split
    · cases fltO P o.op τ with
      | none => rfl
      | some r => exact fin _ _ _
    · split
      · cases evO P call o τ (plusT tab (I.ad.getD k []) X) with
        | none => rfl
        | some r => exact fin _ _ _
      · exact fin _ _ _
def ObGG (I : FI) (acc : List (Nat × Tm × AH × Tab)) (tab : Tab) : List (Nat × Nat × List Nat) → Prop
  | [] => True
  | q :: l => (match acc.lookup q.1, acc.lookup q.2.1, ops[q.1]? with
    | some (τ, X, t), some (_, Xp, _), some o => wantA ops τ o = true → ∃ v A B, evO P call o τ (plusT tab q.2.2 Xp) = some (v, A) ∧ evO P call o τ (plusT t (I.ad.getD q.1 []) X) = some (v, B)
    | _, _, _ => False) ∧ ObGG I acc tab l
theorem ObGG_eq {I : FI} {hs : List (Tm × AH × Tab)} {tab : Tab} : ∀ (l : List (Nat × Nat × List Nat)), (∀ q ∈ l, q ∈ I.ls) → (ObGG P call ops I (coll (needG I) 0 hs []) tab l ↔ ObsF P call ops I hs tab l)
  | [], _ => Iff.rfl
  | q :: l, h => by
    have hq := h q (by simp)
    have n1 : needG I q.1 = true := by unfold needG; rw [List.any_eq_true]; exact ⟨q, hq, by simp⟩
    have n2 : needG I q.2.1 = true := by unfold needG; rw [List.any_eq_true]; exact ⟨q, hq, by simp⟩
    have e : ∀ i, needG I i = true → (coll (needG I) 0 hs []).lookup i = hs[i]? := fun i hi => by
      rw [coll_get _ _ _ _ _ hi (fun _ _ => rfl)]
      by_cases hl : i < hs.length
      · rw [if_pos (by omega)]; simp
      · rw [if_neg (by omega), List.getElem?_eq_none (by omega)]; rfl
    simp only [ObGG, ObsF, ObF, e _ n1, e _ n2]
    rw [ObGG_eq l fun q' hq' => h q' (by simp [hq'])]
    exact Iff.rfl
def goV (n0 : Nat) (I : FI) (k : Nat) (o : Oper) (l : List Oper) (τ : Tm) (X : AH) (tab : Tab) (acc : List (Nat × Tm × AH × Tab)) (r : Option (AV × AH)) : Option (Tm × AH × Tab × List (Nat × Tm × AH × Tab)) := match r with
  | some (v, X') => runG P call ops n0 I (k + 1) l (put τ o.dst v) (if isEff P o.op then X' else X) tab (if needG I k = true then (k, τ, X, tab) :: acc else acc)
  | none => none
def goF (n0 : Nat) (I : FI) (k : Nat) (o : Oper) (l : List Oper) (τ : Tm) (X : AH) (tab : Tab) (acc : List (Nat × Tm × AH × Tab)) (r : Option (Sh × Blk)) : Option (Tm × AH × Tab × List (Nat × Tm × AH × Tab)) := match r with
  | some (s, x) => runG P call ops n0 I (k + 1) l (put τ o.dst (s.av (n0 + I.fl.idxOf k))) X (tab ++ [(k, n0 + I.fl.idxOf k, x)]) (if needG I k = true then (k, τ, X, tab) :: acc else acc)
  | none => none
open Classical in
noncomputable def endG (I : FI) (r : Option (Tm × AH × Tab × List (Nat × Tm × AH × Tab))) : Option (Tm × AH) := match r with
  | some (τ', X, tab, acc) => if ObGG P call ops I acc tab I.ls then some (τ', plusT tab I.fin X) else none
  | none => none
def goS (ls : List (Nat × Nat)) (k : Nat) (l : List Oper) (τ : Tm) (H : AH) (acc : List (Nat × Tm × AH)) (r : Option (Tm × AH)) : Option (Tm × AH × List (Nat × Tm × AH)) := match r with
  | some (τ', H') => runS P call ops ls (k + 1) l τ' H' (if needS ls k = true then (k, τ, H) :: acc else acc)
  | none => none
open Classical in
noncomputable def endS (ls : List (Nat × Nat)) (r : Option (Tm × AH × List (Nat × Tm × AH))) : Option (Tm × AH) := match r with
  | some (τ', H', acc) => if ObSS P call ops acc ls then some (τ', H') else none
  | none => none
open Classical in
noncomputable def evFltG (I : FI) (τ : Tm) (H : AH) : Option (Tm × AH) := match runG P call ops H.next I 0 ops.toList τ (H.res I.fl.length) [] [] with
  | some (τ', X, tab, acc) => if ObGG P call ops I acc tab I.ls then some (τ', plusT tab I.fin X) else none
  | none => none
theorem evFltG_eq (I : FI) (τ : Tm) (H : AH) : evFltG P call ops I τ H = evFlt P call ops I τ H := by
  unfold evFltG evFlt
  rw [runG_eq]
  cases hh : evHistF P call H.next ops I 0 ops.toList τ (H.res I.fl.length) [] with
  | none => rfl
  | some hs =>
    simp only
    cases hl : hs.getLast? with
    | none => rfl
    | some r =>
      simp only [hl]
      by_cases ho : ObsF P call ops I hs r.2.2 I.ls
      · rw [if_pos ((ObGG_eq P call ops I.ls fun _ h => h).2 ho), if_pos ho]
      · rw [if_neg (fun e => ho ((ObGG_eq P call ops I.ls fun _ h => h).1 e)), if_neg ho]
end
section
variable {P : Program} {call : CallF} {ops : Array Oper} {n0 k : Nat} {I : FI} {o : Oper} {l : List Oper} {τ : Tm} {X H : AH} {tab : Tab} {acc : List (Nat × Tm × AH × Tab)} {ls : List (Nat × Nat)} {acs : List (Nat × Tm × AH)}
theorem runG_0 : runG P call ops n0 I k [] τ X tab acc = some (τ, X, tab, if needG I k = true then (k, τ, X, tab) :: acc else acc) := rfl
theorem runG_1 : runG P call ops n0 I k (o :: l) τ X tab acc = if I.fl.contains k = true then goF P call ops n0 I k o l τ X tab acc (fltO P o.op τ)
    else if wantA ops τ o = true then goV P call ops n0 I k o l τ X tab acc (evO P call o τ (plusT tab (I.ad.getD k []) X))
    else runG P call ops n0 I (k + 1) l (put τ o.dst U) (if isEff P o.op then plusT tab (I.ad.getD k []) X else X) tab (if needG I k = true then (k, τ, X, tab) :: acc else acc) := rfl
theorem goV_s (r : AV × AH) : goV P call ops n0 I k o l τ X tab acc (some r) = runG P call ops n0 I (k + 1) l (put τ o.dst r.1) (if isEff P o.op then r.2 else X) tab (if needG I k = true then (k, τ, X, tab) :: acc else acc) := rfl
theorem goF_s (r : Sh × Blk) : goF P call ops n0 I k o l τ X tab acc (some r) = runG P call ops n0 I (k + 1) l (put τ o.dst (r.1.av (n0 + I.fl.idxOf k))) X (tab ++ [(k, n0 + I.fl.idxOf k, r.2)]) (if needG I k = true then (k, τ, X, tab) :: acc else acc) := rfl
open Classical in
theorem endG_s (r : Tm × AH × Tab × List (Nat × Tm × AH × Tab)) : endG P call ops I (some r) = if ObGG P call ops I r.2.2.2 r.2.2.1 I.ls then some (r.1, plusT r.2.2.1 I.fin r.2.1) else none := rfl
theorem evFltG_e : evFltG P call ops I τ H = endG P call ops I (runG P call ops H.next I 0 ops.toList τ (H.res I.fl.length) [] []) := rfl
theorem runS_0 : runS P call ops ls k [] τ H acs = some (τ, H, if needS ls k = true then (k, τ, H) :: acs else acs) := rfl
theorem runS_1 : runS P call ops ls k (o :: l) τ H acs = goS P call ops ls k l τ H acs (stepA P call ops o τ H) := rfl
theorem goS_s (r : Tm × AH) : goS P call ops ls k l τ H acs (some r) = runS P call ops ls (k + 1) l r.1 r.2 (if needS ls k = true then (k, τ, H) :: acs else acs) := rfl
open Classical in
theorem endS_s (r : Tm × AH × List (Nat × Tm × AH)) : endS P call ops ls (some r) = if ObSS P call ops r.2.2 ls then some (r.1, r.2.1) else none := rfl
theorem evSeqG_e : evSeqG P call ops ls τ H = endS P call ops ls (runS P call ops ls 0 ops.toList τ H []) := rfl
end
end Go.Ev

/- The evaluator as rules for simp alone: an open test stays as a test, with both ways frozen behind it. -/
namespace Go.Ev
open Go Go.RowKit
set_option linter.unusedSimpArgs false
set_option linter.unusedVariables false

/-- an open test -/
def iteC {α : Type} (c : Prop) [Decidable c] (x y : α) : α := if c then x else y
theorem ifE {α : Type} {c : Prop} [Decidable c] {x y r : α} (hx : c → x = r) (hy : ¬ c → y = r) : iteC c x y = r := by unfold iteC; split <;> simp_all
theorem ifX {α β : Type} {c : Prop} [Decidable c] {x y : α} {r : β → α} {Q : β → Prop} (hx : c → ∃ b, x = r b ∧ Q b) (hy : ¬ c → ∃ b, y = r b ∧ Q b) : ∃ b, iteC c x y = r b ∧ Q b := by unfold iteC; split <;> simp_all
theorem ifX2 {α β γ : Type} {c : Prop} [Decidable c] {x y : α} {r : β → γ → α} {Q : β → γ → Prop} (hx : c → ∃ b d, x = r b d ∧ Q b d) (hy : ¬ c → ∃ b d, y = r b d ∧ Q b d) : ∃ b d, iteC c x y = r b d ∧ Q b d := by unfold iteC; split <;> simp_all

section
variable (P : Program) (call : CallF)
def valM (d : Option Nat) (τ : Tm) (r : Option (AV × AH)) : Option (Tm × AH) := match r with
  | some (v, H') => some (put τ d v, H')
  | none => none
@[irreducible] def valZ (o : Oper) (τ : Tm) (H : AH) : Option (Tm × AH) := valM o.dst τ (evO P call o τ H)
def wantM (b : Bool) (o : Oper) (τ : Tm) (H : AH) : Option (Tm × AH) := if b = true then valM o.dst τ (evO P call o τ H) else some (put τ o.dst U, H)
def evOpsM (ops : Array Oper) : List Oper → Tm → AH → Option (Tm × AH)
  | [], τ, H => some (τ, H)
  | o :: l, τ, H => match wantM P call (wantA ops τ o) o τ H with
    | some (τ', H') => evOpsM ops l τ' H'
    | none => none
def opsM (ops : Array Oper) (l : List Oper) (r : Option (Tm × AH)) : Option (Tm × AH) := match r with
  | some (τ', H') => evOpsM P call ops l τ' H'
  | none => none
theorem evOpsM_0 (ops : Array Oper) (τ : Tm) (H : AH) : evOpsM P call ops [] τ H = some (τ, H) := rfl
theorem evOpsM_1 (ops : Array Oper) (o : Oper) (l : List Oper) (τ : Tm) (H : AH) : evOpsM P call ops (o :: l) τ H = opsM P call ops l (wantM P call (wantA ops τ o) o τ H) := rfl
theorem evOpsM_eq (ops : Array Oper) : ∀ (l : List Oper) (τ : Tm) (H : AH), evOpsM P call ops l τ H = evOps P call ops l τ H
  | [], τ, H => rfl
  | o :: l, τ, H => by
    have hs : wantM P call (wantA ops τ o) o τ H = stepA P call ops o τ H := by
      unfold wantM stepA valM; rfl
    simp only [evOpsM, evOps, hs, evOpsM_eq ops l]
    cases stepA P call ops o τ H with
    | none => rfl
    | some r => rfl
open Classical in
noncomputable def evDM (i : DrI) (ops : Array Oper) (τ : Tm) (H : AH) : Option (Tm × AH) := match i with
  | .bad => none
  | .flt I => evFltG P call ops I τ H
  | .seq [] => evOpsM P call ops ops.toList τ H
  | .seq (q :: l) => evSeqG P call ops (q :: l) τ H
theorem evDM_eq (i : DrI) (ops : Array Oper) (τ : Tm) (H : AH) : evDM P call i ops τ H = evD P call i ops τ H := by
  unfold evDM evD; split
  · rfl
  · exact evFltG_eq P call ops _ _ _
  · exact evOpsM_eq P call ops _ _ _
  · exact evSeqG_eq P call ops _ _ _
def regM (r : Option (Tm × AH)) : Out := match r with
  | some (τ', H') => some (.normal, τ', H')
  | none => none
def unblk (id : Nat) (r : Out) : Out := match r with
  | some (.exit id', τ', H') => if id' = id then some (.normal, τ', H') else some (.exit id', τ', H')
  | r => r
def resM (rs : List ResultVar) (r : Out) : Option (AV × AH) := match r with
  | some (.normal, τ, H) => (resA P rs τ H).map fun r => (r, H)
  | some (.ret, τ, H) => (resA P rs τ H).map fun r => (r, H)
  | _ => none
variable (n : Nat) (f : FuncId) (st : List Nat)
noncomputable def evM (p : Nat) (c : Code) (τ : Tm) (H : AH) : Out := evK P call n f st p c τ H
/-- frozen -/
@[irreducible] noncomputable def evZ (p : Nat) (c : Code) (τ : Tm) (H : AH) : Out := evK P call n f st p c τ H
theorem evZ_eq (p : Nat) (c : Code) (τ : Tm) (H : AH) : evZ P call n f st p c τ H = evM P call n f st p c τ H := by unfold evZ evM; rfl
noncomputable def bindM (p : Nat) (b : Code) (r : Out) : Out := match r with
  | some (.normal, τ, H) => evM P call n f st p b τ H
  | r => r
noncomputable def condM (p : Nat) (a b : Code) (τ : Tm) (H : AH) (q : Option AV) : Out := match q with
  | some (.bool q) => if q = true then evM P call n f st (2 * p) a τ H else evM P call n f st (2 * p + 1) b τ H
  | _ => none
noncomputable def regionM (p : Nat) (ops : Array Oper) (draw : Bool) (τ : Tm) (H : AH) : Out := regM (if draw then evDM P call (dr P f p) ops τ H else evOpsM P call ops ops.toList τ H)
/-- a function for simp -/
noncomputable def evFM (fn : Func) (args : List AV) (H : AH) : Option (AV × AH) := match fn.body with
  | some c => resM P fn.results.toList (evM P call n f st 1 c (tm0 args) H)
  | none => none
end
section
variable {P : Program} {call : CallF} {n : Nat} {f : FuncId} {st : List Nat} {p : Nat} {τ : Tm} {H : AH} {c : Prop} [Decidable c] {id id' : Nat}
@[simp] theorem evM_skip : evM P call n f st p .skip τ H = some (.normal, τ, H) := rfl
@[simp] theorem evM_label (l : Nat) : evM P call n f st p (.label l) τ H = some (.normal, τ, H) := rfl
@[simp] theorem evM_region (i : Nat) (ops : Array Oper) (draw : Bool) : evM P call n f st p (.region i ops draw) τ H = if p ∈ st then evAt P call n f p τ H else regionM P call f p ops draw τ H := by
  simp only [evM, evK, regionM, evDM_eq, evOpsM_eq]; rfl
@[simp] theorem evM_seq (a b : Code) : evM P call n f st p (.seq a b) τ H = if p ∈ st then evAt P call n f p τ H else bindM P call n f st (2 * p + 1) b (evM P call n f st (2 * p) a τ H) := rfl
@[simp] theorem evM_cond (x : Operand) (a b : Code) : evM P call n f st p (.cond x a b) τ H = if p ∈ st then evAt P call n f p τ H else condM P call n f st p a b τ H (opnd τ x) := rfl
@[simp] theorem evM_block (a : Code) : evM P call n f st p (.block id a) τ H = if p ∈ st then evAt P call n f p τ H else unblk id (evM P call n f st (2 * p) a τ H) := rfl
@[simp] theorem evM_loop (a : Code) : evM P call n f st p (.loop a) τ H = evLoop P call n (lp P f p) τ H := rfl
@[simp] theorem evM_exit : evM P call n f st p (.exit id) τ H = some (.exit id, τ, H) := rfl
@[simp] theorem evM_scope (a : Code) : evM P call n f st p (.scope a) τ H = if p ∈ st then evAt P call n f p τ H else evM P call n f st (2 * p) a τ H := rfl
@[simp] theorem evM_ret : evM P call n f st p .ret τ H = some (.ret, τ, H) := rfl
@[simp] theorem bindM_n (b : Code) : bindM P call n f st p b (some (.normal, τ, H)) = evM P call n f st p b τ H := rfl
@[simp] theorem bindM_r (b : Code) : bindM P call n f st p b (some (.ret, τ, H)) = some (.ret, τ, H) := rfl
@[simp] theorem bindM_e (b : Code) : bindM P call n f st p b (some (.exit id, τ, H)) = some (.exit id, τ, H) := rfl
@[simp] theorem bindM_0 (b : Code) : bindM P call n f st p b none = none := rfl
@[simp] theorem unblk_n : unblk id (some (.normal, τ, H)) = some (.normal, τ, H) := rfl
@[simp] theorem unblk_r : unblk id (some (.ret, τ, H)) = some (.ret, τ, H) := rfl
@[simp] theorem unblk_e : unblk id (some (.exit id', τ, H)) = if id' = id then some (.normal, τ, H) else some (.exit id', τ, H) := rfl
@[simp] theorem unblk_0 : unblk id none = none := rfl
@[simp] theorem condM_t (a b : Code) : condM P call n f st p a b τ H (some (.bool true)) = evM P call n f st (2 * p) a τ H := rfl
@[simp] theorem condM_f (a b : Code) : condM P call n f st p a b τ H (some (.bool false)) = evM P call n f st (2 * p + 1) b τ H := rfl
@[simp] theorem condM_d (a b : Code) : condM P call n f st p a b τ H (some (.bool (decide c))) = iteC c (evZ P call n f st (2 * p) a τ H) (evZ P call n f st (2 * p + 1) b τ H) := by
  unfold iteC; by_cases h : c <;> simp [condM, h, evZ_eq]
@[simp] theorem condM_nd (a b : Code) : condM P call n f st p a b τ H (some (.bool (!decide c))) = iteC c (evZ P call n f st (2 * p + 1) b τ H) (evZ P call n f st (2 * p) a τ H) := by
  unfold iteC; by_cases h : c <;> simp [condM, h, evZ_eq]
theorem condM_b (a b : Code) (q : Bool) : condM P call n f st p a b τ H (some (.bool q)) = iteC (q = true) (evZ P call n f st (2 * p) a τ H) (evZ P call n f st (2 * p + 1) b τ H) := by
  unfold iteC; cases q <;> simp [condM, evZ_eq]
@[simp] theorem regM_s (r : Tm × AH) : regM (some r) = some (.normal, r.1, r.2) := rfl
@[simp] theorem regM_0 : regM none = none := rfl
@[simp] theorem opsM_s (ops : Array Oper) (l : List Oper) (r : Tm × AH) : opsM P call ops l (some r) = evOpsM P call ops l r.1 r.2 := rfl
@[simp] theorem opsM_0 (ops : Array Oper) (l : List Oper) : opsM P call ops l none = none := rfl
@[simp] theorem valM_s {d : Option Nat} (r : AV × AH) : valM d τ (some r) = some (put τ d r.1, r.2) := rfl
@[simp] theorem valM_0 {d : Option Nat} : valM d τ none = none := rfl
@[simp] theorem wantM_t (o : Oper) : wantM P call true o τ H = valM o.dst τ (evO P call o τ H) := rfl
@[simp] theorem wantM_f (o : Oper) : wantM P call false o τ H = some (put τ o.dst U, H) := rfl
@[simp] theorem wantM_d (o : Oper) : wantM P call (decide c) o τ H = iteC c (valZ P call o τ H) (some (put τ o.dst U, H)) := by
  unfold iteC valZ; by_cases h : c <;> simp [wantM, h]
@[simp] theorem wantM_nd (o : Oper) : wantM P call (!decide c) o τ H = iteC c (some (put τ o.dst U, H)) (valZ P call o τ H) := by
  unfold iteC valZ; by_cases h : c <;> simp [wantM, h]
@[simp] theorem resM_n (rs : List ResultVar) : resM P rs (some (.normal, τ, H)) = (resA P rs τ H).map fun r => (r, H) := rfl
@[simp] theorem resM_r (rs : List ResultVar) : resM P rs (some (.ret, τ, H)) = (resA P rs τ H).map fun r => (r, H) := rfl
/-! a test is pulled ahead -/
theorem bindM_i (b : Code) (x y : Out) : bindM P call n f st p b (iteC c x y) = iteC c (bindM P call n f st p b x) (bindM P call n f st p b y) := by unfold iteC; split <;> rfl
theorem unblk_i (x y : Out) : unblk id (iteC c x y) = iteC c (unblk id x) (unblk id y) := by unfold iteC; split <;> rfl
theorem regM_i (x y : Option (Tm × AH)) : regM (iteC c x y) = iteC c (regM x) (regM y) := by unfold iteC; split <;> rfl
theorem opsM_i (ops : Array Oper) (l : List Oper) (x y : Option (Tm × AH)) : opsM P call ops l (iteC c x y) = iteC c (opsM P call ops l x) (opsM P call ops l y) := by unfold iteC; split <;> rfl
theorem valM_i {d : Option Nat} (x y : Option (AV × AH)) : valM d τ (iteC c x y) = iteC c (valM d τ x) (valM d τ y) := by unfold iteC; split <;> rfl
theorem resM_i (rs : List ResultVar) (x y : Out) : resM P rs (iteC c x y) = iteC c (resM P rs x) (resM P rs y) := by unfold iteC; split <;> rfl
theorem valZ_eq (o : Oper) : valZ P call o τ H = valM o.dst τ (evO P call o τ H) := by unfold valZ; rfl
end
theorem ev_M {P : Program} {f : FuncId} {fn : Func} (hf : P.funcs[f]? = some fn) (hok : goodFn fn = true) (st : List Nat) (n : Nat) (args : List AV) (H : AH) (hl : args.length ≤ fn.ntmps) : ev P (n + 1) f args H = evFM P (ev P n) n f st fn args H := by
  rw [ev_cut hf hok st n args H hl]; rfl
theorem at_M {P : Program} {f : FuncId} {fn : Func} (hf : P.funcs[f]? = some fn) (p : Nat) (h1 : 1 ≤ p) (k : Nat) (hk : p < 2 ^ k) (hd : decide (k + depth (sub (fn.body.getD .skip) 200 p) ≤ 198) = true) (st : List Nat) (call : CallF) (n : Nat) (τ : Tm) (H : AH) :
    evAt P call n f p τ H = evM P call n f st p (sub (fn.body.getD .skip) 200 p) τ H := at_cut hf p h1 k hk hd st call n τ H
theorem lp_M {P : Program} {f : FuncId} {fn : Func} (hf : P.funcs[f]? = some fn) (p : Nat) (h1 : 1 ≤ p) (k : Nat) (hk : p < 2 ^ k) (hd : decide (k + 1 + depth (sub (fn.body.getD .skip) 200 (2 * p)) ≤ 198) = true) (st : List Nat) (call : CallF) (n : Nat) (τ : Tm) (H : AH) :
    evCode P call n (lp P f p) τ H = evM P call n f st (2 * p) (sub (fn.body.getD .skip) 200 (2 * p)) τ H := lp_cut hf p h1 k hk hd st call n τ H
attribute [simp] evFM regionM evOpsM_0 evOpsM_1 evDM
theorem res_get (H : AH) (n b : Nat) : (H.res n).get b = if H.next ≤ b ∧ b < H.next + n then some .res else H.get b := rfl
theorem res_next (H : AH) (n : Nat) : (H.res n).next = H.next + n := rfl
attribute [simp] List.lookup_cons List.getElem?_cons_zero List.idxOf_cons List.idxOf_nil res_get res_next evFltG_e runG_0 runG_1 goV_s goF_s endG_s evSeqG_e runS_0 runS_1 goS_s endS_s needG needS ObSS ObGG plusT fltO Sh.av isEff
/-! tests that arithmetic decides (for a discharger) -/
theorem beqT {a b : Int} (h : a = b) : (a == b) = true := by simpa using h
theorem beqF {a b : Int} (h : ¬ a = b) : (a == b) = false := by simpa using h
theorem decT {p : Prop} [Decidable p] (h : p) : decide p = true := decide_eq_true h
theorem decF {p : Prop} [Decidable p] (h : ¬ p) : decide p = false := decide_eq_false h
section
variable {P : Program} {call : CallF} {n : Nat} {f : FuncId} {st : List Nat} {p : Nat} {τ : Tm} {H : AH}
@[simp] theorem condM_q (a b : Code) (x y : Int) : condM P call n f st p a b τ H (some (.bool (x == y))) = iteC (x = y) (evZ P call n f st (2 * p) a τ H) (evZ P call n f st (2 * p + 1) b τ H) := by
  unfold iteC; by_cases h : x = y <;> simp [condM, h, evZ_eq]
@[simp] theorem condM_nq (a b : Code) (x y : Int) : condM P call n f st p a b τ H (some (.bool (!(x == y)))) = iteC (x = y) (evZ P call n f st (2 * p + 1) b τ H) (evZ P call n f st (2 * p) a τ H) := by
  unfold iteC; by_cases h : x = y <;> simp [condM, h, evZ_eq]
@[simp] theorem condM_bq (a b : Code) (x y : Bool) : condM P call n f st p a b τ H (some (.bool (x == y))) = iteC (x = y) (evZ P call n f st (2 * p) a τ H) (evZ P call n f st (2 * p + 1) b τ H) := by
  unfold iteC; by_cases h : x = y <;> simp [condM, h, evZ_eq]
@[simp] theorem wantM_q (o : Oper) (x y : Int) : wantM P call (x == y) o τ H = iteC (x = y) (valZ P call o τ H) (some (put τ o.dst U, H)) := by
  unfold iteC valZ; by_cases h : x = y <;> simp [wantM, h]
@[simp] theorem wantM_nq (o : Oper) (x y : Int) : wantM P call (!(x == y)) o τ H = iteC (x = y) (some (put τ o.dst U, H)) (valZ P call o τ H) := by
  unfold iteC valZ; by_cases h : x = y <;> simp [wantM, h]
end
/-- whole numbers that need no wrapping -/
theorem wrapI {n : Int} (h : -9223372036854775808 ≤ n ∧ n ≤ 9223372036854775807) : IntKind.i64.wrap n = n := wrap_i64 h.1 h.2
theorem tmodI {a b : Int} (h : 0 ≤ a) : a.tmod b = a % b := Int.tmod_eq_emod_of_nonneg h
theorem tdivI {a b : Int} (h : 0 ≤ a) : a.tdiv b = a / b := Int.tdiv_eq_ediv_of_nonneg h
end Go.Ev

/- Numbers of changing length put behind bytes. -/
namespace Go.Ev
open Go Go.Proofs
set_option linter.unusedSimpArgs false
set_option linter.unusedVariables false

/-- bytes of one's own -/
def BO (H : AH) (v : AV) (l : List Int) (b : Nat) : Prop := v = .slice b 0 l.length ∧ b < H.next ∧ H.get b = some (.cells 5 false (u8L l))
theorem BO.kp {H H' : AH} {v : AV} {l : List Int} {b : Nat} (h : BO H v l b) (hK : Kp H H') : BO H' v l b := ⟨h.1, by have := hK.next; have := h.2.1; omega, by rw [hK.get b h.2.1]; exact h.2.2⟩
theorem BO.bs {H : AH} {v : AV} {l : List Int} {b : Nat} (h : BO H v l b) : Bs H v l := by rw [h.1]; exact Bs.mk' h.2.2 h.2.1
theorem BO.R {H : AH} {v : AV} {l : List Int} {b : Nat} (h : BO H v l b) (hb : By l) : (Ty.sl 5 (.int .u8)).R true H [v] l [b] := by
  rw [h.1]; exact ints_one h.2.1 h.2.2 fun d hd => by have := hb d hd; exact ⟨this.1, by have := this.2; simp [IntKind.max, IntKind.signed, IntKind.bits]; omega⟩
theorem u8L_app (l m : List Int) : u8L (l ++ m) = u8L l ++ u8L m := by simp [u8L]
theorem BO.app1 {H : AH} {v : AV} {l : List Int} {b : Nat} {x : Int} (h : BO H v l b) (hl : l.length ≤ 1000000) :
    ∃ v' X' b', appA Try.prog 22 22 v (.slice H.next 0 1) (H.push (.cells 5 false [.int .u8 x])) = some (v', X') ∧ BO X' v' (l ++ [x]) b' ∧ KoS [b] H X' ∧ H.next ≤ b' := by
  obtain ⟨rfl, h2, h3⟩ := h
  have hne : ¬ (b = H.next) := by omega
  have hw : (u8L l).length = l.length := u8L_len l
  have ht : (u8L l).take l.length = u8L l := by rw [← hw, List.take_length]
  refine ⟨.slice (H.next + 1) 0 (l.length + 1), ((H.push (.cells 5 false [.int .u8 x])).kill b).push (.cells 5 false (u8L l ++ [.int .u8 x])), H.next + 1, ?_, ⟨by simp, by simp, by rw [u8L_app]; simp [u8L]⟩, ⟨by simp; omega, fun z hz hzb => ?_⟩, by omega⟩
  · simp [appA, newsA, rowOf, hne, h3, hw, ht]
    omega
  · have : z ≠ b := fun e => hzb (by simp [e])
    rw [AH.push_get, if_neg (by simp; omega), AH.kill_get, if_neg this, AH.push_get, if_neg (by omega)]
theorem byte_at {x : Int} {j : Nat} (h0 : 0 ≤ x) : IntKind.u8.wrap (x.fdiv (2 ^ (8 * j))) = x / 256 ^ j % 256 := by
  have e : (2 : Int) ^ (8 * j) = 256 ^ j := by rw [Int.pow_mul]; rfl
  rw [e, Int.fdiv_eq_ediv_of_nonneg _ (Int.pow_nonneg (by decide))]
  rw [IntKind.wrap_u8]
def FxI (x : Int) (n : Nat) (l : List Int) (b0 : Nat) (H : AH) (d : Nat) (τ : Tm) (h : AH) : Prop :=
  ∃ (v : AV) (pre : List Int) (b : Nat), τ 0 = v ∧ τ 1 = .int .i64 x ∧ τ 7 = .int .i64 ((d : Int) - 1) ∧ pre ++ digB d x = digB n x ∧ d ≤ n ∧ BO h v (l ++ pre) b ∧ KoS [b0] H h ∧ (b = b0 ∨ H.next ≤ b)
set_option maxRecDepth 20000 in
set_option maxRecDepth 20000 in
theorem fixedN_ev {H : AH} {v : AV} {l : List Int} {b : Nat} {x : Int} {n : Nat} (h : BO H v l b) (hl : l.length ≤ 100000) (hn : n ≤ 8) (h0 : 0 ≤ x) (h1 : x ≤ 4611686018427387903) (m : Nat) (hm : 12 ≤ m) :
    ∃ v' H' b', ev Try.prog m 61 [v, .int .i64 x, .int .i64 n] H = some (v', H') ∧ BO H' v' (l ++ digB n x) b' ∧ KoS [b] H H' ∧ (b' = b ∨ H.next ≤ b') := by
  obtain ⟨m, rfl⟩ : ∃ k, m = k + 1 := ⟨m - 1, by omega⟩
  have w0 : IntKind.i64.wrap ((n : Int) - 1) = (n : Int) - 1 := wrap_i64 (by omega) (by omega)
  have wx : IntKind.u64.wrap x = x := by rw [IntKind.wrap_u64]; omega
  rw [ev_M Try.func61 ok61 [] _ _ H (by simp [Try.f61])]
  simp [Try.f61, tm0, w0]
  generalize hLo : evLoop _ _ _ _ _ _ = R
  obtain ⟨e, τ', H', rfl, rfl, g⟩ := loop_at hLo (loop_rule (d := n) (FxI x n l b H) (fun e τ h => e = .exit 0 ∧ FxI x n l b H 0 τ h) (by
    rintro d τ hh ⟨v, pre, b1, t0, t1, t7, hp, hd, B, K, hb⟩
    rw [lp_M Try.func61 26 (by decide) 5 (by decide) (by kernel_rfl) []]
    by_cases hd0 : d = 0
    · subst hd0
      have hkl : ¬ (0 ≤ (((0 : Nat) : Int) - 1)) := by omega
      simp [Try.f61, t7, hkl]
      exact ⟨v, pre, b1, by simp [t0], by simp [t1], by simp [t7], hp, hd, B, K, hb⟩
    · obtain ⟨j, rfl⟩ : ∃ j, d = j + 1 := ⟨d - 1, by omega⟩
      have e1 : (((j + 1 : Nat) : Int) - 1) = j := by omega
      rw [e1] at t7
      have hj : (0 : Int) ≤ j := by omega
      have hpl : pre.length + (j + 1) = n := by have := congrArg List.length hp; simpa [digB_len] using this
      obtain ⟨v', X', b', q1, q2, q3, q4⟩ := B.app1 (x := x / 256 ^ j % 256) (by simp; omega)
      have w1 : IntKind.i64.wrap (8 * (j : Int)) = 8 * j := wrap_i64 (by omega) (by omega)
      have w2 : IntKind.i64.wrap ((j : Int) - 1) = (j : Int) - 1 := wrap_i64 (by omega) (by omega)
      have hmin : min (8 * (j : Int)).toNat 64 = 8 * j := by omega
      have hby := byte_at (x := x) (j := j) h0
      have hn8 := eq_false (show ¬ (8 * (j : Int) < 0) by omega)
      simp [Try.f61, t0, t1, t7, hj, w1, w2, wx, hmin, hby, hn8, q1, convA, shiftA, IntKind.bits, fillA, zerosA, spl]
      refine ⟨j, by omega, v', pre ++ [x / 256 ^ j % 256], b', by simp, by simp [t1], by simp, by rw [← hp]; simp [digB], by omega, by rw [← List.append_assoc]; exact q2, ?_, ?_⟩
      · refine K.trans q3 fun z hz => ?_
        simp at hz; subst hz
        rcases hb with h | h; simp [h]; exact .inr h
      · have := K.next; exact .inr (by omega)) ⟨v, [], b, by simp, by simp, by simp, by simp, by omega, by simpa using h, KoS.refl _ _, .inl rfl⟩ (by omega))
  obtain ⟨v', pre, b', t0, t1, t7, hp, hd, B, K, hb⟩ := g
  simp only [digB, List.append_nil] at hp
  subst hp
  exact ⟨v', H', by simp [t0], b', B, K, hb⟩
end Go.Ev

/- So many zeros behind a slice of its own. -/
namespace Go.Ev
open Go Go.RowKit
set_option linter.unusedSimpArgs false
set_option linter.unusedVariables false
variable {P : Program}
theorem zerosA_map (k : IntKind) : ∀ n, zerosA [.int k 0] n = (List.replicate n (0 : Int)).map (.int k)
  | 0 => rfl
  | n + 1 => by simp [zerosA, zerosA_map k n, List.replicate_succ]
theorem Ty.R.appZ {H : AH} {e T : TypeId} {k kd : IntKind} {s : AV} {ds : List Int} {bs : List Nat} {n : Nat} (h : (Ty.sl e (.int k)).R true H [s] ds bs)
    (hT' : sliceT P T = some e) (hs : sizeT P e = some 1) {by_ : Nat} (hb : bytesT P e = some by_) (hz : zeroT P e = some [.int k 0]) (hk : k.min ≤ 0 ∧ 0 ≤ k.max)
    (h1 : (ds.length + n) * by_ ≤ 70368744177664) (h2 : ds.length + n ≤ 70368744177664) :
    ∃ s' H' bs', appZ P T s (.int kd n) H = some (s', H') ∧ (Ty.sl e (.int k)).R true H' [s'] (ds ++ List.replicate n 0) bs' ∧ bs'.Nodup ∧ (∀ b ∈ bs', b ∈ bs ∨ H.next ≤ b) ∧ KoS bs H H' := by
  have hin : ∀ d ∈ ds ++ List.replicate n 0, k.min ≤ d ∧ d ≤ k.max := by
    intro d hd
    rcases List.mem_append.1 hd with hd | hd
    · exact ints_in h d hd
    · rw [(List.mem_replicate.1 hd).2]; exact hk
  have hz1 : ([.int k 0] : List AV).length = 1 := rfl
  have hc : ([AV.int k 0] : List AV).length = 1 ∧ (0 : Int) ≤ (n : Int) ∧ (n : Int) ≤ 70368744177664 := ⟨rfl, by omega, by omega⟩
  unfold Go.Ev.appZ
  simp only [hT', hs, hb, hz, if_pos hc, Int.toNat_natCast]
  rcases ints_own h with ⟨rfl, rfl, rfl⟩ | ⟨b, rfl, rfl, hlt, hg⟩
  · by_cases h0 : n = 0
    · subst h0
      exact ⟨.nilSlice, H, [], by simp, .inl ⟨rfl, rfl, rfl⟩, by simp, by simp, KoS.refl _ _⟩
    · simp only [List.length_nil, Nat.zero_add] at h1 h2
      refine ⟨.slice H.next 0 n, H.push (.cells e false ((List.replicate n (0 : Int)).map (.int k))), [H.next], by simp [h0, h1, zerosA_map], ?_, by simp, by simp, ((Kp.refl H).push _).koS _⟩
      have := ints_one (e := e) (k := k) (H := H.push (.cells e false ((List.replicate n (0 : Int)).map (.int k)))) (l := List.replicate n 0) (b := H.next) (by simp) (by simp) (by simpa using hin)
      simpa using this
  · by_cases h0 : n = 0
    · subst h0
      exact ⟨.slice b 0 ds.length, H, [b], by simp, by simpa using h, by simp, by simp, KoS.refl _ _⟩
    · refine ⟨.slice H.next 0 (ds.length + n), (H.kill b).push (.cells e false ((ds ++ List.replicate n 0).map (.int k))), [H.next], ?_, ?_, by simp, by simp, ⟨by simp, ?_⟩⟩
      · have ht : ((ds.map (AV.int k)).drop 0).take (ds.length * 1) = ds.map (.int k) := by rw [Nat.mul_one, List.drop_zero, List.take_of_length_le (by simp)]
        simp only [if_neg h0, hg, ht]
        rw [if_pos ⟨trivial, by simp, h1, h2⟩, zerosA_map, ← List.map_append]
      · have := ints_one (e := e) (k := k) (H := (H.kill b).push (.cells e false ((ds ++ List.replicate n 0).map (.int k)))) (b := H.next) (l := ds ++ List.replicate n 0) (by simp) (by simp) hin
        simpa using this
      · intro c hc hcb
        simp only [List.mem_singleton] at hcb
        rw [AH.push_get, if_neg (by simp; omega), AH.kill_get, if_neg hcb]
end Go.Ev
