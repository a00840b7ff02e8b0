/- Lemmas of an evaluator of the given code and of what the functions answer; no condition of its own. -/
import Derived.Test.YtomhcdfflfonfaaEv0
/- A region whose order is open: where its effects are ordered, and what reads beside them reads the same at each place, every order comes to what the text's order does. -/
namespace Go.Ev
open Go Go.RowKit
set_option linter.unusedSimpArgs false
set_option linter.unusedVariables false

/-- what must stand ahead of an operation, as bits -/
def maskE (acc : List Nat) : List Edge → Nat
  | [] => 0
  | e :: l => if Region.binds .any e then (2 ^ e.on ||| acc.getD e.on 0) ||| maskE acc l else maskE acc l
def masks : List Oper → List Nat → List Nat
  | [], acc => acc
  | o :: l, acc => masks l (acc ++ [maskE acc o.after.toList])
def masksOf (ops : Array Oper) : List Nat := masks ops.toList []
def bef (ops : Array Oper) (i j : Nat) : Bool := ((masksOf ops).getD j 0).testBit i

/-- operations that may change the memory -/
def isEff (P : Program) : Op → Bool
  | .move _ | .assign _ | .pick .. | .build .. | .load .. | .nilCheck _ | .binOp .. | .unOp .. | .makeInterface .. | .makeFunc .. | .slice .. | .fieldAddr .. | .field .. | .indexAddr .. | .index .. | .extract .. | .lookup .. => false
  | .call { callee := .builtin b, .. } => match b with
    | .len | .min | .max => false
    | _ => true
  | .convert _ d _ => match P.underlying d with
    | some (.slice _) => true
    | _ => false
  | _ => true
/-- operations whose value may hang on the memory -/
def isRd : Op → Bool
  | .load .. | .slice .. | .lookup .. | .convert .. => true
  | .call _ => true
  | _ => false
def namesO (ops : Array Oper) (o : Oper) : List Nat :=
  (o.op.operands.toList.filterMap fun | .tmp t => some t | _ => none) ++ o.dst.toList ++
  (match o.guard with
   | some (j, _) => ((ops[j]?).bind (·.dst)).toList
   | none => [])
def edgesOk (ops : Array Oper) : Bool := ops.toList.zipIdx.all fun (o, j) => o.after.toList.all fun e => !Region.binds .any e || decide (e.on < j)
def clash (ops : Array Oper) (x y : Oper) : Bool :=
  (match x.dst with | some d => (namesO ops y).contains d | none => false) || (match y.dst with | some d => (namesO ops x).contains d | none => false)
def pairsOk (P : Program) (ops : Array Oper) : Bool := ops.toList.zipIdx.all fun (y, j) => ops.toList.zipIdx.all fun (x, i) =>
  !decide (i < j) || (!(clash ops x y) && !(isEff P x.op && isEff P y.op)) || bef ops i j
def drawOk (P : Program) (ops : Array Oper) : Bool := edgesOk ops && pairsOk P ops

theorem masks_append : ∀ (l : List Oper) (acc : List Nat), ∃ r, masks l acc = acc ++ r ∧ r.length = l.length
  | [], acc => ⟨[], by simp [masks], rfl⟩
  | o :: l, acc => by
    obtain ⟨r, h1, h2⟩ := masks_append l (acc ++ [maskE acc o.after.toList])
    exact ⟨maskE acc o.after.toList :: r, by simp [masks, h1], by simp [h2]⟩
theorem masks_get : ∀ (l : List Oper) (acc : List Nat) (j : Nat) (o : Oper), l[j]? = some o → (masks l acc)[acc.length + j]? = some (maskE ((masks l acc).take (acc.length + j)) o.after.toList)
  | [], acc, j, o, h => by simp at h
  | x :: l, acc, 0, o, h => by
    simp at h; subst h
    obtain ⟨r, h1, h2⟩ := masks_append l (acc ++ [maskE acc x.after.toList])
    simp only [masks, h1, Nat.add_zero]
    rw [List.append_assoc, List.take_append_of_le_length (Nat.le_refl _), List.take_length]
    simp
  | x :: l, acc, j + 1, o, h => by
    have := masks_get l (acc ++ [maskE acc x.after.toList]) j o (by simpa using h)
    simp only [masks]
    rw [List.length_append, List.length_singleton] at this
    rw [show acc.length + (j + 1) = acc.length + 1 + j by omega]
    exact this
theorem maskE_bit (acc : List Nat) (i : Nat) : ∀ (l : List Edge), (maskE acc l).testBit i = true → ∃ e ∈ l, Region.binds .any e = true ∧ (e.on = i ∨ (acc.getD e.on 0).testBit i = true)
  | [], h => by simp [maskE] at h
  | e :: l, h => by
    simp only [maskE] at h
    split at h
    · rename_i hb
      rw [Nat.testBit_or, Nat.testBit_or, Bool.or_eq_true, Bool.or_eq_true] at h
      rcases h with (h | h) | h
      · rw [Nat.testBit_two_pow] at h
        exact ⟨e, by simp, hb, .inl (by simpa using h)⟩
      · exact ⟨e, by simp, hb, .inr h⟩
      · obtain ⟨e', h1, h2⟩ := maskE_bit acc i l h
        exact ⟨e', by simp [h1], h2⟩
    · obtain ⟨e', h1, h2⟩ := maskE_bit acc i l h
      exact ⟨e', by simp [h1], h2⟩
theorem bef_edge {ops : Array Oper} (he : edgesOk ops = true) {i j : Nat} (h : bef ops i j = true) : ∃ o e, ops[j]? = some o ∧ e ∈ o.after.toList ∧ Region.binds .any e = true ∧ e.on < j ∧ (e.on = i ∨ bef ops i e.on = true) := by
  unfold bef at h
  obtain ⟨r, h1, h2⟩ := masks_append ops.toList []
  have hlen : (masksOf ops).length = ops.size := by
    unfold masksOf; rw [h1]; simpa using h2
  have hj : j < ops.size := by
    rcases Nat.lt_or_ge j ops.size with hh | hh
    · exact hh
    · rw [List.getD_eq_getElem?_getD, List.getElem?_eq_none (by omega)] at h; simp at h
  have hget := masks_get ops.toList [] j ops[j] (by simp [hj])
  simp only [List.length_nil, Nat.zero_add] at hget
  have hg : (masksOf ops).getD j 0 = maskE ((masksOf ops).take j) ops[j].after.toList := by
    rw [List.getD_eq_getElem?_getD]; unfold masksOf; rw [hget]; rfl
  rw [hg] at h
  obtain ⟨e, k1, k2, k3⟩ := maskE_bit _ i _ h
  have hlt : e.on < j := by
    unfold edgesOk at he
    rw [List.all_eq_true] at he
    have := he (ops[j], j) (by rw [List.mem_zipIdx_iff_getElem?]; simp [hj])
    rw [List.all_eq_true] at this
    have := this e k1
    simpa [k2] using this
  refine ⟨ops[j], e, by simp [hj], k1, k2, hlt, ?_⟩
  rcases k3 with k3 | k3
  · exact .inl k3
  · right
    unfold bef
    rw [List.getD_eq_getElem?_getD] at k3 ⊢
    rwa [List.getElem?_take_of_lt hlt] at k3
/-- A set that holds with each operation what binds it holds all that must stand ahead. -/
theorem bef_closed {ops : Array Oper} (he : edgesOk ops = true) (S : Nat → Prop) (hS : ∀ j o, S j → ops[j]? = some o → ∀ e ∈ o.after.toList, Region.binds .any e = true → S e.on) :
    ∀ (j i : Nat), S j → bef ops i j = true → S i := by
  intro j
  induction j using Nat.strongRecOn with
  | _ j ih =>
    intro i hj hb
    obtain ⟨o, e, h1, h2, h3, h4, h5⟩ := bef_edge he hb
    have hon := hS j o hj h1 e h2 h3
    rcases h5 with rfl | h5
    · exact hon
    · exact ih e.on h4 i hon h5
theorem bef_ready {ops : Array Oper} (he : edgesOk ops = true) (S : Nat → Prop) (hS : ∀ j o, S j → ops[j]? = some o → ∀ e ∈ o.after.toList, Region.binds .any e = true → S e.on) {j : Nat} {o : Oper} (hj : ops[j]? = some o)
    (hr : ∀ e ∈ o.after.toList, Region.binds .any e = true → S e.on) {i : Nat} (hb : bef ops i j = true) : S i := by
  obtain ⟨o', e, h1, h2, h3, h4, h5⟩ := bef_edge he hb
  rw [hj] at h1; simp only [Option.some.injEq] at h1; subst h1
  have hon := hr e h2 h3
  rcases h5 with rfl | h5
  · exact hon
  · exact bef_closed he S hS e.on i hon h5
theorem pairs_of {P : Program} {ops : Array Oper} (h : pairsOk P ops = true) {i j : Nat} {x y : Oper} (hx : ops[i]? = some x) (hy : ops[j]? = some y) (hij : i < j) (hc : clash ops x y = true ∨ (isEff P x.op = true ∧ isEff P y.op = true)) : bef ops i j = true := by
  unfold pairsOk at h
  rw [List.all_eq_true] at h
  have := h (y, j) (by rw [List.mem_zipIdx_iff_getElem?]; simpa using hy)
  rw [List.all_eq_true] at this
  have := this (x, i) (by rw [List.mem_zipIdx_iff_getElem?]; simpa using hx)
  simp only [hij, decide_true, Bool.not_true, Bool.false_or, Bool.or_eq_true, Bool.and_eq_true] at this
  rcases this with ⟨h1, h2⟩ | h
  · rcases hc with hc | ⟨hc1, hc2⟩
    · rw [hc] at h1; simp at h1
    · rw [hc1, hc2] at h2; simp at h2
  · exact h
end Go.Ev

/- A region whose order is open: the evaluator's run of it, and that every order comes to it. -/
namespace Go.Ev
open Go Go.RowKit
set_option linter.unusedSimpArgs false
set_option linter.unusedVariables false

section
variable (P : Program) (call : CallF)
/-- the states ahead of each operation, and behind the last -/
def evHist (ops : Array Oper) : List Oper → Tm → AH → Option (List (Tm × AH))
  | [], τ, H => some [(τ, H)]
  | o :: l, τ, H => match stepA P call ops o τ H with
    | some (τ', H') => match evHist ops l τ' H' with
      | some r => some ((τ, H) :: r)
      | none => none
    | none => none
end
def effAt (P : Program) (ops : Array Oper) (j : Nat) : Bool := match ops[j]? with | some o => isEff P o.op | none => false
def rdAt (P : Program) (ops : Array Oper) (j : Nat) : Bool := match ops[j]? with | some o => isRd o.op && !isEff P o.op | none => false
/-- i reads; p is a place (behind the effects ahead of p) at which it may come to stand, other than its own -/
def looseB (P : Program) (ops : Array Oper) (i p : Nat) : Bool :=
  rdAt P ops i && (p == 0 || effAt P ops (p - 1)) &&
  ((List.range ops.size).all fun j => !effAt P ops j || (if j < p then !bef ops i j else !bef ops j i)) &&
  ((List.range ops.size).any fun j => effAt P ops j && ((decide (p ≤ j) && decide (j < i)) || (decide (i ≤ j) && decide (j < p))))
def looseOf (P : Program) (ops : Array Oper) : List (Nat × Nat) :=
  (List.range ops.size).flatMap fun i => (List.range (ops.size + 1)).filterMap fun p => if looseB P ops i p then some (i, p) else none
def ObOk (P : Program) (call : CallF) (ops : Array Oper) (hs : List (Tm × AH)) (q : Nat × Nat) : Prop :=
  match hs[q.1]?, hs[q.2]?, ops[q.1]? with
  | some (τ, H), some (_, Hp), some o => wantA ops τ o = true → evO P call o τ Hp = (evO P call o τ H).map fun r => (r.1, Hp)
  | _, _, _ => False
open Classical in
/-- where all effects are ordered -/
noncomputable def evDraw1 (P : Program) (call : CallF) (ops : Array Oper) (τ : Tm) (H : AH) : Option (Tm × AH) :=
  if drawOk P ops = true then
    if looseOf P ops = [] then evOps P call ops ops.toList τ H
    else match evHist P call ops ops.toList τ H with
      | some hs => if ∀ q ∈ looseOf P ops, ObOk P call ops hs q then hs.getLast? else none
      | none => none
  else none

section
variable {P : Program} {w0 : World} {μ : Mu} {w : World} {call : CallF}

theorem evHist_facts {ops : Array Oper} : ∀ {l : List Oper} {τ : Tm} {H : AH} {hs : List (Tm × AH)}, evHist P call ops l τ H = some hs →
    hs.length = l.length + 1 ∧ hs[0]? = some (τ, H) ∧ ∀ k o, l[k]? = some o → ∃ τ1 H1 τ2 H2, hs[k]? = some (τ1, H1) ∧ hs[k + 1]? = some (τ2, H2) ∧ stepA P call ops o τ1 H1 = some (τ2, H2)
  | [], τ, H, hs, h => by
    simp only [evHist, Option.some.injEq] at h; subst h
    exact ⟨rfl, rfl, fun k o hk => by simp at hk⟩
  | o :: l, τ, H, hs, h => by
    simp only [evHist] at h
    split at h
    · rename_i τ' H' hst
      split at h
      · rename_i r hr
        simp only [Option.some.injEq] at h; subst h
        obtain ⟨h1, h2, h3⟩ := evHist_facts hr
        refine ⟨by simp [h1], rfl, fun k x hk => ?_⟩
        cases k with
        | zero => simp at hk; subst hk; exact ⟨τ, H, τ', H', rfl, by simpa using h2, hst⟩
        | succ k =>
          obtain ⟨τ1, H1, τ2, H2, e1, e2, e3⟩ := h3 k x (by simpa using hk)
          exact ⟨τ1, H1, τ2, H2, by simpa using e1, by simpa using e2, e3⟩
      · simp at h
    · simp at h
theorem evOps_hist {ops : Array Oper} : ∀ {l : List Oper} {τ : Tm} {H : AH} {r : Tm × AH}, evOps P call ops l τ H = some r → ∃ hs, evHist P call ops l τ H = some hs ∧ hs.getLast? = some r
  | [], τ, H, r, h => by
    simp only [evOps, Option.some.injEq] at h; subst h
    exact ⟨[(τ, H)], rfl, rfl⟩
  | o :: l, τ, H, r, h => by
    simp only [evOps] at h
    split at h
    · rename_i τ' H' hst
      obtain ⟨hs, h1, h2⟩ := evOps_hist h
      refine ⟨(τ, H) :: hs, by simp [evHist, hst, h1], ?_⟩
      have := (evHist_facts h1).1
      cases hs with
      | nil => simp at this
      | cons x xs => simpa using h2
    · simp at h

theorem evO_noEff {o : Oper} (hne : isEff P o.op = false) {τ : Tm} {H H' : AH} {v : AV} (h : evO P call o τ H = some (v, H')) : H' = H := by
  obtain ⟨dst, op, ty, pos, after, guard⟩ := o
  cases op <;> simp only [isEff, reduceCtorEq, Bool.true_eq_false] at hne
  case call c =>
    obtain ⟨callee, args, ats⟩ := c
    cases callee with
    | value f => simp at hne
    | invoke r m => simp at hne
    | builtin b =>
      cases b <;> simp only [reduceCtorEq, Bool.true_eq_false] at hne
      all_goals
        simp only [evO, evOp] at h
        split at h
        · unfold builtA at h
          split at h
          all_goals first
            | (simp at h; done)
            | (simp only [Option.map_eq_some_iff, Prod.mk.injEq] at h; obtain ⟨_, _, _, rfl⟩ := h; rfl)
            | contradiction
            | (simp_all; done)
        · simp at h
  case convert s d x =>
    simp only [evO, evOp] at h
    split at h
    · unfold convA at h
      split at h
      all_goals (repeat' split at h)
      all_goals first
        | (simp at h; done)
        | (simp only [Option.some.injEq, Prod.mk.injEq] at h; exact h.2.symm)
        | (rename_i hd _ _ _; simp [hd] at hne; done)
        | (simp_all; done)
    · simp at h
  case makeFunc fn f1 f2 =>
    cases fn <;> simp only [evO, evOp] at h
    all_goals (repeat' split at h)
    all_goals first
      | (simp at h; done)
      | (simp only [Option.some.injEq, Prod.mk.injEq] at h; exact h.2.symm)
  case slice t x lo hi mx =>
    cases mx <;> simp only [evO, evOp] at h
    all_goals (repeat' split at h)
    all_goals first
      | (simp at h; done)
      | (simp only [Option.map_eq_some_iff, Prod.mk.injEq] at h; obtain ⟨_, _, _, rfl⟩ := h; rfl)
  all_goals
    simp only [evO, evOp] at h
    repeat' split at h
  all_goals first
    | (simp at h; done)
    | (simp only [Option.some.injEq, Prod.mk.injEq] at h; exact h.2.symm)
    | (simp only [Option.map_eq_some_iff, Prod.mk.injEq] at h; obtain ⟨_, _, _, rfl⟩ := h; rfl)
theorem evO_noH {o : Oper} (hne : isEff P o.op = false) (hnr : isRd o.op = false) {τ : Tm} {H : AH} {v : AV} (h : evO P call o τ H = some (v, H)) (H2 : AH) : evO P call o τ H2 = some (v, H2) := by
  obtain ⟨dst, op, ty, pos, after, guard⟩ := o
  cases op <;> simp only [isEff, isRd, reduceCtorEq, Bool.true_eq_false] at hne hnr
  case makeFunc fn f1 f2 =>
    cases fn <;> simp only [evO, evOp] at h ⊢
    all_goals (repeat' split at h)
    all_goals (simp_all; done)
  all_goals
    simp only [evO, evOp] at h ⊢
    repeat' split at h
  all_goals first
    | (simp at h; done)
    | (simp_all; done)
    | (simp only [Option.map_eq_some_iff, Prod.mk.injEq] at h; obtain ⟨_, h1, h2, _⟩ := h; simp_all; done)
end
end Go.Ev
