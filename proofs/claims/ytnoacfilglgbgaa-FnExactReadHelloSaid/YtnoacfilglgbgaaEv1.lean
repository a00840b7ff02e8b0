/- Lemmas of an evaluator of the given code and of what the functions answer; no condition of its own. -/
import Derived.Test.YtnoacfilglgbgaaEv0
import Derived.Tactics
/- One operation of the evaluator. -/
namespace Go.Ev
open Go Go.RowKit
set_option linter.unusedSimpArgs false
set_option linter.unusedVariables false

/-- is this the key? (integers of one kind, strings, bools) -/
def sameK : AV → AV → Option Bool
  | .int k a, .int k' b => if k = k' then some (a == b) else none
  | .str a, .str b => some (a == b)
  | .bool a, .bool b => some (a == b)
  | _, _ => none
/-- a key's place -/
def findA (k : AV) : List (AV × AV) → Nat → Option (Option (Nat × AV))
  | [], _ => some none
  | (x, v) :: l, i => match sameK k x with
    | some true => some (some (i, v))
    | some false => findA k l (i + 1)
    | none => none
def keyOk (d : TypeDesc) (k : AV) : Bool := match d, k with
  | .int _, .int _ _ => true
  | .string, .str _ => true
  | .bool, .bool _ => true
  | _, _ => false
section
variable (P : Program)
/-- a map's key type (of plain keys) and element type -/
def mapT (t : TypeId) (k : AV) : Option (TypeId × TypeId) := match P.underlying t with
  | some (.map kt et) => match P.underlying kt with
    | some d => if keyOk d k then some (kt, et) else none
    | none => none
  | _ => none
def mapPut (l : List (AV × AV)) (k v : AV) : Option (List (AV × AV)) := match findA k l 0 with
  | some (some (i, _)) => some (l.set i (k, v))
  | some none => some (l ++ [(k, v)])
  | none => none
def updA (t : TypeId) (m k v : AV) (H : AH) : Option AH := match mapT P t k, m with
  | some _, .map b => match H.get b with
    | some (.map l) => (mapPut l k v).map fun l' => H.set b (.map l')
    | _ => none
  | _, _ => none
def lookA (t : TypeId) (m k : AV) (H : AH) (ok : Bool) : Option AV := match mapT P t k with
  | some (_, et) =>
    let l : Option (List (AV × AV)) := match m with
      | .nilMap => some []
      | .map b => match H.get b with
        | some (.map l) => some l
        | _ => none
      | _ => none
    match l with
    | some l => match findA k l 0 with
      | some (some (_, v)) => some (if ok then .tuple [v, .bool true] else v)
      | some none => match zeroV P et with
        | some z => some (if ok then .tuple [z, .bool false] else z)
        | none => none
      | none => none
    | none => none
  | none => none
def delA (t : TypeId) (m k : AV) (H : AH) : Option AH := match mapT P t k, m with
  | some _, .nilMap => some H
  | some _, .map b => match H.get b with
    | some (.map l) => match findA k l 0 with
      | some (some (i, _)) => some (H.set b (.map (l.eraseIdx i)))
      | some none => some H
      | none => none
    | _ => none
  | _, _ => none

def builtA (b : Builtin) (ats : List TypeId) (xs : List AV) (H : AH) : Option (AV × AH) := match b, ats, xs with
  | .len, [t], [x] => (lenA P t x H).map fun r => (r, H)
  | .append, [t, tx], [s, x] => if isIntT P tx = true then appZ P t s x H else appA P t tx s x H
  | .min, _, x :: l => (foldA mn2 x l).map fun r => (r, H)
  | .max, _, x :: l => (foldA mx2 x l).map fun r => (r, H)
  | .delete, t :: _, [m, k] => (delA P t m k H).map fun H' => (U, H')
  | _, _, _ => none

def evOp (op : Op) (τ : Tm) (H : AH) : Option (AV × AH) := match op with
  | .move x => (opnd τ x).map fun r => (r, H)
  | .assign x => (opnd τ x).map fun r => (r, H)
  | .pick c a b => match opnd τ c with
    | some (.bool q) => (if q then opnd τ a else opnd τ b).map fun r => (r, H)
    | _ => none
  | .alloc e => match zeroT P e, sizeT P e with
    | some z, some _ => some (.ptr H.next 0, H.push (.cells e false z))
    | _, _ => none
  | .box e x => match opnd τ x, sizeT P e with
    | some v, some _ => if v.cells.all AV.one then some (.ptr H.next 0, H.push (.cells e false v.cells)) else none
    | _, _ => none
  | .build t parts => match opndP τ parts.toList, zeroT P t with
    | some ps, some z => match placesT P t with
      | some pl => (fillA (fun i => pl[i]?) z ps).map fun r => (.agg r, H)
      | none => match arrT P t with
        | some (_, e) => match sizeT P e with
          | some sz => (fillA (fun i => some (i * sz, sz)) z ps).map fun r => (.agg r, H)
          | none => none
        | none => none
    | _, _ => none
  | .buildSlice t len parts => match opndP τ parts.toList, sliceT P t with
    | some ps, some e => match sizeT P e, zeroT P e with
      | some sz, some z => if z.length = sz ∧ len * sz ≤ 16777216 then match fillA (fun i => some (i * sz, sz)) (zerosA z len) ps with
          | some r => if r.all AV.one then some (.slice H.next 0 len, H.push (.cells e false r)) else none
          | none => none
        else none
      | _, _ => none
    | _, _ => none
  | .load t a => match opnd τ a with
    | some (.ptr b o) => (ldVar P t b o H).map fun r => (r, H)
    | _ => none
  | .store t a x => match opnd τ a, opnd τ x with
    | some (.ptr b o), some v => (stVar P t b o v H).map fun H' => (U, H')
    | _, _ => none
  | .nilCheck x => match opnd τ x with
    | some (.ptr b o) => some (.ptr b o, H)
    | some (.func f fs l) => some (.func f fs l, H)
    | some (.iface t v) => some (.iface t v, H)
    | _ => none
  | .binOp op t x y _ => match opnd τ x, opnd τ y with
    | some a, some b => (binA P (isC x || isC y) op t a b).map fun r => (r, H)
    | _, _ => none
  | .unOp op _ x => match opnd τ x with
    | some a => (unA op a).map fun r => (r, H)
    | none => none
  | .convert s d x => match opnd τ x with
    | some a => convA P s d a H
    | none => none
  | .makeInterface t x => match P.underlying t, opnd τ x with
    | some (.interface _), _ => none
    | some _, some a => some (.iface t a, H)
    | _, _ => none
  | .makeFunc (.func f) first captured => match opndL τ first.toList, opndL τ captured.toList with
    | some a, some b => some (.func f a b, H)
    | _, _ => none
  | .makeMap _ none => some (.map H.next, H.push (.map []))
  | .makeSlice t l c => match opnd τ l, opnd τ c, sliceT P t with
    | some (.int _ l), some (.int _ c), some e => match sizeT P e, bytesT P e, zeroT P e with
      | some sz, some by_, some z => if z.length = sz ∧ 0 ≤ l ∧ l ≤ c ∧ (by_ : Int) * c ≤ 281474976710656 ∧ c ≤ 281474976710656 then
          some (.slice H.next 0 l.toNat, H.push (.cells e false (zerosA z c.toNat))) else none
      | _, _, _ => none
    | _, _, _ => none
  | .slice t x lo hi none => match opnd τ x, opndO τ lo, opndO τ hi with
    | some a, some l, some h => (cutA P t a (some l) (some h) H).map fun r => (r, H)
    | _, _, _ => none
  | .fieldAddr s x f => match opnd τ x, fieldT P s f with
    | some (.ptr b o), some (off, ft) => match sizeT P ft with
      | some n => if n ≠ 0 then some (.ptr b (o + off), H) else none
      | none => none
    | _, _ => none
  | .field s x f => match opnd τ x, fieldT P s f with
    | some (.agg l), some (off, ft) => (partA P ft l off).map fun r => (r, H)
    | _, _ => none
  | .indexAddr t x i => match opnd τ x, opnd τ i with
    | some a, some b => (idxA P t a b).map fun r => (r, H)
    | _, _ => none
  | .index t x i => match opnd τ x, opnd τ i with
    | some a, some b => (indexA P t a b).map fun r => (r, H)
    | _, _ => none
  | .extract x i => match opnd τ x with
    | some (.tuple l) => (l[i]?).map fun r => (r, H)
    | _ => none
  | .lookup t m k ok => match opnd τ m, opnd τ k with
    | some a, some b => (lookA P t a b H ok).map fun r => (r, H)
    | _, _ => none
  | .mapUpdate t m k v => match opnd τ m, opnd τ k, opnd τ v with
    | some a, some b, some c => (updA P t a b c H).map fun H' => (U, H')
    | _, _, _ => none
  | .insert t m k v => match opnd τ m, opnd τ k, opnd τ v with
    | some a, some b, some c => (updA P t a b c H).map fun H' => (U, H')
    | _, _, _ => none
  | .call c => match c.callee with
    | .builtin b => match opndL τ c.args.toList with
      | some xs => builtA P b c.argTypes.toList xs H
      | none => none
    | _ => none
  | _ => none
end

def okOp (n : Nat) (op : Op) : Bool := op.operands.toList.all (okO n)

/-- What one operation that calls no function does. -/
def Does1 (P : Program) (w0 : World) (μ : Mu) (H' : AH) (r : Result Next) (a : AV) : Prop :=
  ∃ u w' μ', (r = .ok (.value u) w' ∨ (u = undef ∧ r = .ok .skip w')) ∧ Ext μ μ' ∧ Rel P w0 H' μ' w' ∧ VR μ' a u

section
variable {P : Program} {w0 : World} {H : AH} {μ : Mu} {w : World}

theorem Does1.of {s : Sem Value} {H' : AH} {a : AV} (h : Does P w0 μ H' (s.run P w) a) : Does1 P w0 μ H' ((do pure (.value (← s)) : Sem Next).run P w) a := by
  obtain ⟨u, w', μ', h1, h2⟩ := h
  exact ⟨u, w', μ', .inl (by simp [h1]), h2⟩
theorem Does1.val (hR : Rel P w0 H μ w) {a : AV} {v : Value} (h : VR μ a v) : Does1 P w0 μ H ((pure (.value v) : Sem Next).run P w) a :=
  ⟨v, w, μ, .inl rfl, Ext.refl _, hR, h⟩
theorem Does1.unit {s : Sem Unit} {H' : AH} {w' : World} {μ' : Mu} (h : s.run P w = .ok () w') (hx : Ext μ μ') (hR : Rel P w0 H' μ' w') : Does1 P w0 μ H' ((do s; pure .skip : Sem Next).run P w) U :=
  ⟨undef, w', μ', .inr ⟨rfl, by simp [h]⟩, hx, hR, by simp only [U, VR]; exact ⟨#[], rfl, by simp [VRs]⟩⟩

end
end Go.Ev

/- The evaluator's maps are the machine's. -/
namespace Go.Ev
open Go Go.RowKit
set_option linter.unusedSimpArgs false
set_option linter.unusedVariables false

section
variable {P : Program} {w0 : World} {H : AH} {μ : Mu} {w : World}

theorem sameK_sound {d : TypeDesc} {x y : AV} {q : Bool} (hk : keyOk d x = true) (h : sameK x y = some q) {u v : Value} (hx : VR μ x u) (hy : VR μ y v) : Instr.sameNow d u v = some q := by
  unfold sameK at h
  split at h
  · simp only [VR] at hx hy; subst hx; subst hy
    cases d <;> simp [keyOk] at hk
    split at h <;> simp at h
    rename_i hkk
    subst h
    simp [Instr.sameNow, hkk]
  · simp only [VR] at hx hy; subst hx; subst hy
    cases d <;> simp [keyOk] at hk
    simpa [Instr.sameNow] using h
  · simp only [VR] at hx hy; subst hx; subst hy
    cases d <;> simp [keyOk] at hk
    simpa [Instr.sameNow] using h
  · simp at h
theorem ba_beq {a b : ByteArray} (h : (a == b) = true) : a = b := by
  have h2 : ByteArray.beq a b = true := h
  unfold ByteArray.beq at h2
  cases a; cases b
  simpa using h2
theorem ba_refl (a : ByteArray) : (a == a) = true := by
  show ByteArray.beq a a = true
  unfold ByteArray.beq; simp
theorem sameK_bits {x y : AV} (h : sameK x y = some true) {u v : Value} (hx : VR μ x u) (hy : VR μ y v) (n : Nat) : Instr.sameBits n v u = true := by
  unfold sameK at h
  split at h
  · simp only [VR] at hx hy; subst hx; subst hy
    split at h <;> simp at h
    rename_i hk
    cases n <;> simp [Instr.sameBits, hk, h]
  · simp only [VR] at hx hy; subst hx; subst hy
    simp only [Option.some.injEq] at h
    have := ba_beq h
    subst this
    cases n <;> simp [Instr.sameBits, ba_refl]
  · simp only [VR] at hx hy; subst hx; subst hy
    simp at h
    cases n <;> simp [Instr.sameBits, h]
  · simp at h

def FoundR (μ : Mu) : Option (Nat × AV) → Option (Nat × Value) → Prop
  | none, none => True
  | some (i, a), some (j, v) => i = j ∧ VR μ a v
  | _, _ => False
theorem findA_sound {d : TypeDesc} {x : AV} {u : Value} (hk : keyOk d x = true) (hx : VR μ x u) : ∀ {l : List (AV × AV)} {es : List MapEntry} {i : Nat} {r : Option (Nat × AV)},
    VRs μ (l.map (·.1)) (es.map (·.key)) → VRs μ (l.map (·.2)) (es.map (·.val)) → findA x l i = some r →
    ∃ r', Instr.findNow d u es i = some r' ∧ FoundR μ r r' ∧ (∀ j a, r = some (j, a) → i ≤ j ∧ ∃ p, l[j - i]? = some p ∧ sameK x p.1 = some true)
  | [], es, i, r, h1, h2, h => by
    simp only [List.map_nil, VRs, List.map_eq_nil_iff] at h1
    subst h1
    simp only [findA, Option.some.injEq] at h; subst h
    exact ⟨none, rfl, trivial, fun j a e => by simp at e⟩
  | (y, v) :: l, es, i, r, h1, h2, h => by
    cases es with
    | nil => simp [VRs] at h1
    | cons e es =>
      simp only [List.map_cons, VRs, List.cons.injEq] at h1 h2
      obtain ⟨_, _, ⟨rfl, rfl⟩, hy, h1⟩ := h1
      obtain ⟨_, _, ⟨rfl, rfl⟩, hv, h2⟩ := h2
      simp only [findA] at h
      split at h
      · rename_i hs
        simp only [Option.some.injEq] at h; subst h
        refine ⟨some (i, e.val), by simp [Instr.findNow, sameK_sound hk hs hx hy], ⟨rfl, hv⟩, fun j a he => ?_⟩
        simp only [Option.some.injEq, Prod.mk.injEq] at he
        obtain ⟨rfl, rfl⟩ := he
        exact ⟨Nat.le_refl _, (y, v), by simp, hs⟩
      · rename_i hs
        obtain ⟨r', k1, k2, k3⟩ := findA_sound hk hx h1 h2 h
        refine ⟨r', by simp [Instr.findNow, sameK_sound hk hs hx hy, k1], k2, fun j a he => ?_⟩
        obtain ⟨k4, p, k5, k6⟩ := k3 j a he
        refine ⟨by omega, p, ?_, k6⟩
        rw [show j - i = (j - (i + 1)) + 1 by omega]
        simpa using k5
      · simp at h

theorem run_checkKey {kt : TypeId} {d : TypeDesc} (hd : P.underlying kt = some d) {x : AV} (hk : keyOk d x = true) {u : Value} (hx : VR μ x u) (e : Bool) (n : Nat) (w : World) : (Instr.checkKey e (n + 1) kt u).run P w = .ok () w := by
  unfold keyOk at hk
  split at hk
  · simp only [VR] at hx; subst hx; simp [Instr.checkKey, run_underlying hd]
  · simp only [VR] at hx; subst hx; simp [Instr.checkKey, run_underlying hd]
  · simp only [VR] at hx; subst hx; simp [Instr.checkKey, run_underlying hd]
  · simp at hk
theorem run_findKey {kt : TypeId} {d : TypeDesc} (hd : P.underlying kt = some d) {u : Value} {es : List MapEntry} {r : Option (Nat × Value)} (h : Instr.findNow d u es 0 = some r) (w : World) : (Instr.findKey kt u es).run P w = .ok r w := by
  simp [Instr.findKey, run_underlying hd, h]
theorem run_getMap {r : Nat} {es : Array MapEntry} {ck : Nat} (h : w.heap[r]? = some (.map es ck)) : (getObj r).run P w = .ok (.map es ck) w := by
  simp [getObj, Sem.run, h]
def World.setObj' (w : World) (r : Nat) (o : Obj) : World := { w with heap := w.heap.setIfInBounds r o }
theorem run_setMap {r : Nat} {es : Array MapEntry} {ck : Nat} (h : w.heap[r]? = some (.map es ck)) (o : Obj) : (setObj r o).run P w = .ok () (World.setObj' w r o) := by
  simp [setObj, Sem.run, h, World.setObj']
theorem setObj'_self {r : Nat} {o o' : Obj} (h : w.heap[r]? = some o) : (World.setObj' w r o').heap[r]? = some o' := by
  have := lt_of_heap h
  simp [World.setObj', this]
theorem setObj'_ne {r k : Nat} {o' : Obj} (h : k ≠ r) : (World.setObj' w r o').heap[k]? = w.heap[k]? := by
  simp only [World.setObj']
  rw [Array.getElem?_setIfInBounds, if_neg (fun e => h e.symm)]
theorem below_setObj {B : Nat} {a : World} (h : Below B a w) {r : Nat} (hr : B ≤ r) (o : Obj) : Below B a (World.setObj' w r o) :=
  ⟨h.os, h.tape, h.output, by simpa [World.setObj'] using h.size, fun k hk => by rw [setObj'_ne (by omega)]; exact h.block k hk⟩

theorem mapT_sound {t : TypeId} {x : AV} {kt et : TypeId} (h : mapT P t x = some (kt, et)) : P.underlying t = some (.map kt et) ∧ ∃ d, P.underlying kt = some d ∧ keyOk d x = true := by
  unfold mapT at h
  split at h
  · rename_i k e hd
    split at h
    · rename_i d hk
      split at h
      · rename_i hok
        simp only [Option.some.injEq, Prod.mk.injEq] at h
        obtain ⟨rfl, rfl⟩ := h
        exact ⟨hd, d, hk, hok⟩
      · simp at h
    · simp at h
  · simp at h

/-- a map's entries are changed -/
theorem Rel.setMap (h : Rel P w0 H μ w) {b : Nat} {l l' : List (AV × AV)} (hb : H.get b = some (.map l)) {L : Loc} (hL : μ b = some L) {es : Array MapEntry} {ck : Nat} (hm : MapR μ l' es) (hge : w0.heap.size ≤ L.c) {o : Obj} (ho : w.heap[L.c]? = some o) :
    Rel P w0 (H.set b (.map l')) μ (World.setObj' w L.c (.map es ck)) :=
  h.change hb rfl hL (below_setObj h.below hge _) (fun k hk _ => setObj'_ne hk) ⟨L, es, ck, hL, setObj'_self ho, hm, hge⟩

theorem MapR.set {l : List (AV × AV)} {es : Array MapEntry} (h : MapR μ l es) (i : Nat) {x v : AV} {u z : Value} (hx : VR μ x u) (hv : VR μ v z) : MapR μ (l.set i (x, v)) (es.modify i fun e => { e with key := u, val := z }) := by
  have e1 : ((es.modify i fun e => { e with key := u, val := z }).toList.map (·.key)) = (es.toList.map (·.key)).set i u := by
    apply List.ext_getElem?
    intro j
    rw [List.getElem?_map, Array.getElem?_toList, Array.getElem?_modify, List.getElem?_set, List.getElem?_map, Array.getElem?_toList]
    by_cases hij : i = j
    · subst hij
      simp only [if_true]
      by_cases hlt : i < es.size
      · simp [hlt]
      · simp [hlt]
    · simp [hij]
  have e2 : ((es.modify i fun e => { e with key := u, val := z }).toList.map (·.val)) = (es.toList.map (·.val)).set i z := by
    apply List.ext_getElem?
    intro j
    rw [List.getElem?_map, Array.getElem?_toList, Array.getElem?_modify, List.getElem?_set, List.getElem?_map, Array.getElem?_toList]
    by_cases hij : i = j
    · subst hij
      simp only [if_true]
      by_cases hlt : i < es.size
      · simp [hlt]
      · simp [hlt]
    · simp [hij]
  refine ⟨?_, ?_⟩
  · rw [e1, List.map_set]; exact h.1.set i hx
  · rw [e2, List.map_set]; exact h.2.set i hv
theorem MapR.push {l : List (AV × AV)} {es : Array MapEntry} (h : MapR μ l es) {x v : AV} {u z : Value} (hx : VR μ x u) (hv : VR μ v z) (n : Nat) : MapR μ (l ++ [(x, v)]) (es.push { key := u, val := z, born := n }) := by
  refine ⟨?_, ?_⟩
  · rw [List.map_append, Array.toList_push, List.map_append]
    exact h.1.append (by simp only [List.map_cons, List.map_nil, VRs]; exact ⟨u, [], rfl, hx, rfl⟩)
  · rw [List.map_append, Array.toList_push, List.map_append]
    exact h.2.append (by simp only [List.map_cons, List.map_nil, VRs]; exact ⟨z, [], rfl, hv, rfl⟩)
theorem VRs.eraseIdx : ∀ {l : List AV} {vs : List Value} (i : Nat), VRs μ l vs → VRs μ (l.eraseIdx i) (vs.eraseIdx i)
  | [], _, i, h => by simp only [VRs] at h; subst h; simp [VRs]
  | a :: l, _, 0, h => by
    simp only [VRs] at h
    obtain ⟨u, us, rfl, _, h3⟩ := h
    simpa using h3
  | a :: l, _, i + 1, h => by
    simp only [VRs] at h
    obtain ⟨u, us, rfl, h2, h3⟩ := h
    simp only [List.eraseIdx_cons_succ, VRs]
    exact ⟨u, _, rfl, h2, VRs.eraseIdx i h3⟩
theorem MapR.erase {l : List (AV × AV)} {es : Array MapEntry} (h : MapR μ l es) (i : Nat) : MapR μ (l.eraseIdx i) (es.eraseIdxIfInBounds i) := by
  have ht : (es.eraseIdxIfInBounds i).toList = es.toList.eraseIdx i := by
    unfold Array.eraseIdxIfInBounds
    split
    · simp
    · rename_i hge
      rw [List.eraseIdx_of_length_le (by simp; omega)]
  have e0 : ∀ {α β : Type} (f : α → β) (l : List α) (i : Nat), (l.eraseIdx i).map f = (l.map f).eraseIdx i := by
    intro α β f l
    induction l with
    | nil => intro i; simp
    | cons a l ih => intro i; cases i <;> simp [ih]
  refine ⟨?_, ?_⟩
  · rw [ht, e0, e0]; exact VRs.eraseIdx i h.1
  · rw [ht, e0, e0]; exact VRs.eraseIdx i h.2

theorem updA_sound (hR : Rel P w0 H μ w) {t : TypeId} {m k v : AV} {H' : AH} (h : updA P t m k v H = some H') {um uk uv : Value} (hm : VR μ m um) (hk : VR μ k uk) (hv : VR μ v uv) :
    ∃ w', (Instr.mapUpdate t um uk uv).run P w = .ok () w' ∧ Rel P w0 H' μ w' := by
  unfold updA at h
  split at h
  · rename_i p b hmt
    obtain ⟨kt, et⟩ := p
    obtain ⟨hd, d, hkd, hok⟩ := mapT_sound hmt
    split at h
    · rename_i l hb
      simp only [Option.map_eq_some_iff] at h
      obtain ⟨l', hl', rfl⟩ := h
      simp only [VR] at hm
      obtain ⟨L, h1, rfl⟩ := hm
      obtain ⟨L', es, ck, g1, g2, g3, g4⟩ := hR.blk b _ hb
      rw [h1] at g1; simp only [Option.some.injEq] at g1; subst g1
      unfold mapPut at hl'
      split at hl'
      · rename_i i a hf
        simp only [Option.some.injEq] at hl'; subst hl'
        obtain ⟨r', k1, k2, k3⟩ := findA_sound hok hk g3.1 g3.2 hf
        cases r' with
        | none => exact k2.elim
        | some r' =>
          obtain ⟨j, z⟩ := r'
          obtain ⟨rfl, k2⟩ := k2
          obtain ⟨_, p, k5, k6⟩ := k3 _ _ rfl
          simp only [Nat.sub_zero] at k5
          obtain ⟨q, hq1, hq2⟩ := g3.1.get i p.1 (by rw [List.getElem?_map, k5]; rfl)
          rw [List.getElem?_map, Array.getElem?_toList] at hq1
          have hbits : ∀ (old : Value), ((es[i]?).map (·.key)).getD uk = old → Instr.sameBits 10000 old uk = true := by
            intro old ho
            subst ho
            rw [hq1]
            exact sameK_bits k6 hk hq2 _
          refine ⟨World.setObj' w L.c (.map (es.modify i fun e => { e with key := uk, val := uv }) ck), ?_, hR.setMap hb h1 (g3.set i hk hv) g4 g2⟩
          have hkeep : (Instr.keyThatStays (((es[i]?).map (·.key)).getD uk) uk).run P w = .ok uk w := by
            unfold Instr.keyThatStays
            rw [if_pos (hbits _ rfl)]; rfl
          simp only [Instr.mapUpdate, Sem.run_bind, run_underlying hd, Result.andThen_ok, run_getMap g2, run_checkKey hkd hok hk false 9999 w, run_findKey hkd k1, hkeep, run_setMap g2]
      · rename_i hf
        simp only [Option.some.injEq] at hl'; subst hl'
        obtain ⟨r', k1, k2, k3⟩ := findA_sound hok hk g3.1 g3.2 hf
        cases r' with
        | some r' => exact k2.elim
        | none =>
          refine ⟨World.setObj' w L.c (.map (es.push { key := uk, val := uv, born := ck }) (ck + 1)), ?_, hR.setMap hb h1 (g3.push hk hv ck) g4 g2⟩
          simp only [Instr.mapUpdate, Sem.run_bind, run_underlying hd, Result.andThen_ok, run_getMap g2, run_checkKey hkd hok hk false 9999 w, run_findKey hkd k1, run_setMap g2]
      · simp at hl'
    · simp at h
  · simp at h
end
end Go.Ev

/- One operation of the evaluator is the machine's. -/
namespace Go.Ev
open Go Go.RowKit
set_option linter.unusedSimpArgs false
set_option linter.unusedVariables false

section
variable {P : Program} {w0 : World} {H : AH} {μ : Mu} {w : World}

theorem zeroV_sound {t : TypeId} {z : AV} (h : zeroV P t = some z) (w : World) : ∃ v, (zeroValue t).run P w = .ok v w ∧ VR μ z v := by
  unfold zeroV at h
  simp only [Option.bind_eq_some_iff] at h
  obtain ⟨i, hi, v, hv, hz⟩ := h
  exact ⟨v, run_zeroValue hi hv w, cv_sound hz⟩

theorem lookA_sound (hR : Rel P w0 H μ w) {t : TypeId} {m k r : AV} {ok : Bool} (h : lookA P t m k H ok = some r) {um uk : Value} (hm : VR μ m um) (hk : VR μ k uk) :
    ∃ z, (Instr.lookup t um uk ok).run P w = .ok z w ∧ VR μ r z := by
  unfold lookA at h
  split at h
  · rename_i kt et hmt
    obtain ⟨hd, d, hkd, hok⟩ := mapT_sound hmt
    simp only at h
    split at h
    · rename_i l hl
      have key : ∃ es : Array MapEntry, MapR μ l es ∧ ((um = .map none ∧ es = #[]) ∨ ∃ r ck, um = .map (some r) ∧ (getObj r).run P w = .ok (.map es ck) w) := by
        split at hl
        · simp only [Option.some.injEq] at hl; subst hl
          simp only [VR] at hm; subst hm
          exact ⟨#[], by simp [MapR, VRs], .inl ⟨rfl, rfl⟩⟩
        · rename_i b
          simp only [VR] at hm
          obtain ⟨L, h1, rfl⟩ := hm
          split at hl
          · rename_i l2 hb
            simp only [Option.some.injEq] at hl; subst hl
            obtain ⟨L', es, ck, g1, g2, g3, g4⟩ := hR.blk b _ hb
            rw [h1] at g1; simp only [Option.some.injEq] at g1; subst g1
            exact ⟨es, g3, .inr ⟨_, ck, rfl, run_getMap g2⟩⟩
          · simp at hl
        · simp at hl
      obtain ⟨es, g3, hes⟩ := key
      have hck : ∀ e, (Instr.checkKey e 10000 kt uk).run P w = .ok () w := fun e => run_checkKey hkd hok hk e 9999 w
      split at h
      · rename_i i v hf
        simp only [Option.some.injEq] at h; subst h
        obtain ⟨r', k1, k2, _⟩ := findA_sound hok hk g3.1 g3.2 hf
        cases r' with
        | none => exact k2.elim
        | some r' =>
          obtain ⟨j, z⟩ := r'
          obtain ⟨rfl, k2⟩ := k2
          refine ⟨if ok then .tuple #[z, .bool true] else z, ?_, ?_⟩
          · rcases hes with ⟨rfl, rfl⟩ | ⟨q, ck, rfl, hq⟩
            · simp only [Instr.lookup, Sem.run_bind, run_underlying hd, Result.andThen_ok, Sem.run_pure, hck, run_findKey hkd k1]
            · simp only [Instr.lookup, Sem.run_bind, run_underlying hd, Result.andThen_ok, Sem.run_pure, hq, hck, run_findKey hkd k1]
          · cases ok
            · simpa using k2
            · simp only [if_true, VR]
              exact ⟨_, rfl, by simp only [VRs]; exact ⟨z, _, rfl, k2, .bool true, [], rfl, by simp [VR], rfl⟩⟩
      · rename_i hf
        obtain ⟨r', k1, k2, _⟩ := findA_sound hok hk g3.1 g3.2 hf
        cases r' with
        | some r' => exact k2.elim
        | none =>
          split at h
          · rename_i z hz
            simp only [Option.some.injEq] at h; subst h
            obtain ⟨v, hv1, hv2⟩ := zeroV_sound (μ := μ) hz w
            refine ⟨if ok then .tuple #[v, .bool false] else v, ?_, ?_⟩
            · rcases hes with ⟨rfl, rfl⟩ | ⟨q, ck, rfl, hq⟩
              · simp only [Instr.lookup, Sem.run_bind, run_underlying hd, Result.andThen_ok, Sem.run_pure, hck, run_findKey hkd k1, hv1]
              · simp only [Instr.lookup, Sem.run_bind, run_underlying hd, Result.andThen_ok, Sem.run_pure, hq, hck, run_findKey hkd k1, hv1]
            · cases ok
              · simpa using hv2
              · simp only [if_true, VR]
                exact ⟨_, rfl, by simp only [VRs]; exact ⟨v, _, rfl, hv2, .bool false, [], rfl, by simp [VR], rfl⟩⟩
          · simp at h
      · simp at h
    · simp at h
  · simp at h

theorem delA_sound (hR : Rel P w0 H μ w) {t : TypeId} {m k : AV} {H' : AH} (h : delA P t m k H = some H') {um uk : Value} (hm : VR μ m um) (hk : VR μ k uk) (ats : Array TypeId) (ha : ats[0]? = some t) (ty : TypeId) :
    Does P w0 μ H' ((Builtin.delete_ ats ty #[um, uk]).run P w) U := by
  have hU : VR μ U (.tuple #[]) := by simp only [U, VR]; exact ⟨#[], rfl, by simp [VRs]⟩
  unfold delA at h
  split at h
  · rename_i p hmt
    obtain ⟨kt, et⟩ := p
    obtain ⟨hd, d, hkd, hok⟩ := mapT_sound hmt
    simp only [Option.some.injEq] at h; subst h
    simp only [VR] at hm; subst hm
    have hck : (Instr.checkKey true 10000 kt uk).run P w = .ok () w := run_checkKey hkd hok hk true 9999 w
    refine ⟨.tuple #[], w, μ, ?_, Ext.refl _, hR, hU⟩
    have e0 : (#[Value.map none, uk] : Array Value)[0]? = some (.map none) := rfl
    have e1 : (#[Value.map none, uk] : Array Value)[1]? = some uk := rfl
    simp only [Builtin.delete_, ha, e0, e1, Sem.run_bind, run_underlying hd, Result.andThen_ok, hck, Sem.run_pure]
  · rename_i p b hmt
    obtain ⟨kt, et⟩ := p
    obtain ⟨hd, d, hkd, hok⟩ := mapT_sound hmt
    split at h
    · rename_i l hb
      simp only [VR] at hm
      obtain ⟨L, h1, rfl⟩ := hm
      obtain ⟨L', es, ck, g1, g2, g3, g4⟩ := hR.blk b _ hb
      rw [h1] at g1; simp only [Option.some.injEq] at g1; subst g1
      have hck : ∀ e, (Instr.checkKey e 10000 kt uk).run P w = .ok () w := fun e => run_checkKey hkd hok hk e 9999 w
      split at h
      · rename_i i v hf
        simp only [Option.some.injEq] at h; subst h
        obtain ⟨r', k1, k2, _⟩ := findA_sound hok hk g3.1 g3.2 hf
        cases r' with
        | none => exact k2.elim
        | some r' =>
          obtain ⟨j, z⟩ := r'
          obtain ⟨rfl, k2⟩ := k2
          refine ⟨.tuple #[], World.setObj' w L.c (.map (es.eraseIdxIfInBounds i) ck), μ, ?_, Ext.refl _, hR.setMap hb h1 (g3.erase i) g4 g2, hU⟩
          have e0 : (#[Value.map (some L.c), uk] : Array Value)[0]? = some (.map (some L.c)) := rfl
          have e1 : (#[Value.map (some L.c), uk] : Array Value)[1]? = some uk := rfl
          simp only [Builtin.delete_, ha, e0, e1, Sem.run_bind, run_underlying hd, Result.andThen_ok, run_getMap g2, hck, run_findKey hkd k1, run_setMap g2, Sem.run_pure]
      · rename_i hf
        simp only [Option.some.injEq] at h; subst h
        obtain ⟨r', k1, k2, _⟩ := findA_sound hok hk g3.1 g3.2 hf
        cases r' with
        | some r' => exact k2.elim
        | none =>
          have hs := hR.setMap (l' := l) (ck := ck) hb h1 g3 g4 g2
          rw [AH.set_same H b _ hb] at hs
          refine ⟨.tuple #[], World.setObj' w L.c (.map es ck), μ, ?_, Ext.refl _, hs, hU⟩
          have e0 : (#[Value.map (some L.c), uk] : Array Value)[0]? = some (.map (some L.c)) := rfl
          have e1 : (#[Value.map (some L.c), uk] : Array Value)[1]? = some uk := rfl
          simp only [Builtin.delete_, ha, e0, e1, Sem.run_bind, run_underlying hd, Result.andThen_ok, run_getMap g2, hck, run_findKey hkd k1, run_setMap g2, Sem.run_pure]
      · simp at h
    · simp at h
  · simp at h

theorem foldA_mx : ∀ {l : List AV} {a r : AV}, foldA mx2 a l = some r → ∀ {u : Value} {vs : List Value}, VR μ a u → VRs μ l vs → ∃ z, (vs.foldlM Builtin.max2 u).run P w = .ok z w ∧ VR μ r z
  | [], a, r, h, u, vs, ha, hl => by
    simp only [foldA, Option.some.injEq] at h; subst h
    simp only [VRs] at hl; subst hl
    exact ⟨u, rfl, ha⟩
  | b :: l, a, r, h, u, vs, ha, hl => by
    simp only [VRs] at hl
    obtain ⟨x, xs, rfl, hx, hxs⟩ := hl
    simp only [foldA] at h
    split at h
    · rename_i c hc
      unfold mx2 at hc
      split at hc
      · simp only [Option.some.injEq] at hc; subst hc
        simp only [VR] at ha hx; subst ha; subst hx
        obtain ⟨z, h1, h2⟩ := foldA_mx h (by simp only [VR]; rfl) hxs
        refine ⟨z, ?_, h2⟩
        simp only [List.foldlM_cons, Sem.run_bind, Builtin.max2, Sem.run_pure, Result.andThen_ok]
        exact h1
      · simp at hc
    · simp at h
theorem foldA_mn : ∀ {l : List AV} {a r : AV}, foldA mn2 a l = some r → ∀ {u : Value} {vs : List Value}, VR μ a u → VRs μ l vs → ∃ z, (vs.foldlM Builtin.min2 u).run P w = .ok z w ∧ VR μ r z
  | [], a, r, h, u, vs, ha, hl => by
    simp only [foldA, Option.some.injEq] at h; subst h
    simp only [VRs] at hl; subst hl
    exact ⟨u, rfl, ha⟩
  | b :: l, a, r, h, u, vs, ha, hl => by
    simp only [VRs] at hl
    obtain ⟨x, xs, rfl, hx, hxs⟩ := hl
    simp only [foldA] at h
    split at h
    · rename_i c hc
      unfold mn2 at hc
      split at hc
      · simp only [Option.some.injEq] at hc; subst hc
        simp only [VR] at ha hx; subst ha; subst hx
        obtain ⟨z, h1, h2⟩ := foldA_mn h (by simp only [VR]; rfl) hxs
        refine ⟨z, ?_, h2⟩
        simp only [List.foldlM_cons, Sem.run_bind, Builtin.min2, Sem.run_pure, Result.andThen_ok]
        exact h1
      · simp at hc
    · simp at h

theorem arr_of {vs : Array Value} {l : List Value} (h : vs.toList = l) : vs = l.toArray := by subst h; simp
theorem builtA_sound (hR : Rel P w0 H μ w) {b : Builtin} {ats : Array TypeId} {xs : List AV} {r : AV} {H' : AH} (h : builtA P b ats.toList xs H = some (r, H')) {vs : Array Value} (hv : VRs μ xs vs.toList) (ty : TypeId) (cs : Array Bool) :
    Does1 P w0 μ H' ((builtin b ats ty cs vs).run P w) r := by
  unfold builtA at h
  split at h
  · rename_i t x hat
    simp only [Option.map_eq_some_iff, Prod.mk.injEq] at h
    obtain ⟨r', hr, rfl, rfl⟩ := h
    simp only [VRs] at hv
    obtain ⟨u, us, he, hx, rfl⟩ := hv
    obtain rfl := arr_of he
    have hat' : ats = #[t] := by rw [← Array.toArray_toList (xs := ats), hat]
    subst hat'
    exact Does1.of (Does.same hR (lenA_sound hR hr hx ty))
  · rename_i t tx s x hat
    simp only [VRs] at hv
    obtain ⟨u, us, he, hs, u2, us2, rfl, hx, rfl⟩ := hv
    obtain rfl := arr_of he
    have hat' : ats = #[t, tx] := by rw [← Array.toArray_toList (xs := ats), hat]
    subst hat'
    split at h
    · rename_i hi
      exact Does1.of (appZ_sound hR hi h hs hx ty)
    · exact Does1.of (appA_sound hR h hs hx ty)
  · rename_i x l
    simp only [Option.map_eq_some_iff, Prod.mk.injEq] at h
    obtain ⟨r', hr, rfl, rfl⟩ := h
    simp only [VRs] at hv
    obtain ⟨u, us, he, hx, hl⟩ := hv
    refine Does1.of (Does.same hR ?_)
    obtain ⟨z, h1, h2⟩ := foldA_mn (P := P) (w := w) hr hx hl
    exact ⟨z, by simp only [Builtin.min_, he]; exact h1, h2⟩
  · rename_i x l
    simp only [Option.map_eq_some_iff, Prod.mk.injEq] at h
    obtain ⟨r', hr, rfl, rfl⟩ := h
    simp only [VRs] at hv
    obtain ⟨u, us, he, hx, hl⟩ := hv
    refine Does1.of (Does.same hR ?_)
    obtain ⟨z, h1, h2⟩ := foldA_mx (P := P) (w := w) hr hx hl
    exact ⟨z, by simp only [Builtin.max_, he]; exact h1, h2⟩
  · rename_i t ts m k hat
    simp only [Option.map_eq_some_iff, Prod.mk.injEq] at h
    obtain ⟨H2, hr, rfl, rfl⟩ := h
    simp only [VRs] at hv
    obtain ⟨u, us, he, hm, u2, us2, rfl, hk, rfl⟩ := hv
    obtain rfl := arr_of he
    exact Does1.of (delA_sound hR hr hm hk ats (by rw [← Array.getElem?_toList, hat]; rfl) ty)
  · simp at h
end
end Go.Ev

/- One operation of the evaluator that calls no function is the machine's. -/
namespace Go.Ev
open Go Go.RowKit
set_option linter.unusedSimpArgs false
set_option linter.unusedVariables false

section
variable {P : Program} {w0 : World} {H : AH} {μ : Mu} {w : World}

/-- what a slot or constant holds stands for what the machine's does -/
def OR (μ : Mu) (τ : Tm) (a : Act) (x : Operand) : Prop := ∀ v, opnd τ x = some v → VR μ v (a.eval x)
theorem okOp2 {τ : Tm} {a : Act} {x y : Operand} {op : Op} (h : ∀ z ∈ op.operands.toList, OR μ τ a z) (he : op.operands.toList = [x, y]) : OR μ τ a x ∧ OR μ τ a y := by
  rw [he] at h; exact ⟨h x (by simp), h y (by simp)⟩
theorem okOp1 {τ : Tm} {a : Act} {x : Operand} {op : Op} (h : ∀ z ∈ op.operands.toList, OR μ τ a z) (he : op.operands.toList = [x]) : OR μ τ a x := by
  rw [he] at h; exact h x (by simp)
theorem okOp3 {τ : Tm} {a : Act} {x y z : Operand} {op : Op} (h : ∀ z ∈ op.operands.toList, OR μ τ a z) (he : op.operands.toList = [x, y, z]) : OR μ τ a x ∧ OR μ τ a y ∧ OR μ τ a z := by
  rw [he] at h; exact ⟨h x (by simp), h y (by simp), h z (by simp)⟩

theorem opndL_sound {τ : Tm} {a : Act} : ∀ {l : List Operand} {xs : List AV}, (∀ z ∈ l, OR μ τ a z) → opndL τ l = some xs → VRs μ xs (l.map a.eval)
  | [], xs, _, h => by simp [opndL] at h; subst h; simp [VRs]
  | x :: l, xs, hok, h => by
    simp only [opndL] at h
    split at h
    · rename_i v r hv hr
      simp only [Option.some.injEq] at h; subst h
      simp only [List.map_cons, VRs]
      exact ⟨_, _, rfl, hok x (by simp) v hv, opndL_sound (fun z hz => hok z (by simp [hz])) hr⟩
    · simp at h
theorem opndP_sound {τ : Tm} {a : Act} : ∀ {l : List (Nat × Operand)} {xs : List (Nat × AV)}, (∀ z ∈ l.map (·.2), OR μ τ a z) → opndP τ l = some xs → PartsR μ xs (l.map fun (i, x) => (i, a.eval x))
  | [], xs, _, h => by simp [opndP] at h; subst h; simp [PartsR]
  | (i, x) :: l, xs, hok, h => by
    simp only [opndP] at h
    split at h
    · rename_i v r hv hr
      simp only [Option.some.injEq] at h; subst h
      simp only [List.map_cons, PartsR]
      exact ⟨_, _, rfl, hok x (by simp) v hv, opndP_sound (fun z hz => hok z (by simp only [List.map_cons, List.mem_cons]; exact .inr hz)) hr⟩
    · simp at h
theorem opndO_sound {τ : Tm} {a : Act} {x : Option Operand} (hok : ∀ z ∈ x.toArray.toList, OR μ τ a z) {r : Option AV} (h : opndO τ x = some r) : BR μ (some r) (x.map a.eval) := by
  cases x with
  | none => simp [opndO] at h; subst h; simp [BR]
  | some x =>
    simp [opndO] at h
    obtain ⟨v, hv, rfl⟩ := h
    simp only [Option.map_some, BR]
    exact hok x (by simp) v hv

set_option maxHeartbeats 8000000 in
theorem evOp_sound (hR : Rel P w0 H μ w) {τ : Tm} {a : Act} (o : Oper) (hok : ∀ z ∈ o.op.operands.toList, OR μ τ a z) {r : AV} {H' : AH} (h : evOp P o.op τ H = some (r, H')) :
    Does1 P w0 μ H' ((execOp a.eval o).run P w) r := by
  obtain ⟨dst, op, ty, pos, after, guard⟩ := o
  cases op with
  | move x =>
    simp only [evOp, Option.map_eq_some_iff, Prod.mk.injEq] at h
    obtain ⟨v, hv, rfl, rfl⟩ := h
    exact Does1.val hR (okOp1 hok rfl _ hv)
  | assign x =>
    simp only [evOp, Option.map_eq_some_iff, Prod.mk.injEq] at h
    obtain ⟨v, hv, rfl, rfl⟩ := h
    exact Does1.val hR (okOp1 hok rfl _ hv)
  | pick c x y =>
    obtain ⟨k1, k2, k3⟩ := okOp3 hok rfl
    simp only [evOp] at h
    split at h
    · rename_i q hq
      simp only [Option.map_eq_some_iff, Prod.mk.injEq] at h
      obtain ⟨v, hv, rfl, rfl⟩ := h
      have hc := k1 _ hq
      simp only [VR] at hc
      have : (execOp a.eval ⟨dst, .pick c x y, ty, pos, after, guard⟩).run P w = .ok (.value (if q then a.eval x else a.eval y)) w := by
        simp [execOp, hc, asBool]
      rw [this]
      cases q
      · exact Does1.val hR (k3 _ hv)
      · exact Does1.val hR (k2 _ hv)
    · simp at h
  | alloc e =>
    simp only [evOp] at h
    split at h
    · rename_i z sz hz hs
      simp only [Option.some.injEq, Prod.mk.injEq] at h
      obtain ⟨rfl, rfl⟩ := h
      exact Does1.of (alloc_sound hR hz hs)
    · simp at h
  | box e x =>
    simp only [evOp] at h
    split at h
    · rename_i v sz hv hs
      split at h
      · rename_i h1
        simp only [Option.some.injEq, Prod.mk.injEq] at h
        obtain ⟨rfl, rfl⟩ := h
        exact Does1.of (box_sound hR hs h1 (okOp1 hok rfl _ hv))
      · simp at h
    · simp at h
  | build t parts =>
    simp only [evOp] at h
    have hok' : ∀ z ∈ parts.toList.map (·.2), OR μ τ a z := by simpa [Op.operands] using hok
    split at h
    · rename_i ps z hps hz
      have hp := opndP_sound hok' hps
      split at h
      · rename_i pl hpl
        simp only [Option.map_eq_some_iff, Prod.mk.injEq] at h
        obtain ⟨v, hv, rfl, rfl⟩ := h
        exact Does1.of (Does.same hR (build_struct_sound hpl hz hv (vs := parts.map fun (i, x) => (i, a.eval x)) (by simpa using hp) w))
      · split at h
        · rename_i n e ha
          split at h
          · rename_i sz hs
            simp only [Option.map_eq_some_iff, Prod.mk.injEq] at h
            obtain ⟨v, hv, rfl, rfl⟩ := h
            exact Does1.of (Does.same hR (build_array_sound ha hs hz hv (vs := parts.map fun (i, x) => (i, a.eval x)) (by simpa using hp) w))
          · simp at h
        · simp at h
    · simp at h
  | buildSlice t len parts =>
    simp only [evOp] at h
    have hok' : ∀ z ∈ parts.toList.map (·.2), OR μ τ a z := by simpa [Op.operands] using hok
    split at h
    · rename_i ps e hps he
      have hp := opndP_sound hok' hps
      split at h
      · rename_i sz z hs hz
        split at h
        · rename_i hc
          split at h
          · rename_i rr hr
            split at h
            · rename_i h1
              simp only [Option.some.injEq, Prod.mk.injEq] at h
              obtain ⟨rfl, rfl⟩ := h
              have hd := buildSlice_sound hR he hs hz hc.1 hc.2 hr h1 (vs := parts.map fun (i, x) => (i, a.eval x)) (by simpa using hp)
              have e : (execOp a.eval ⟨dst, .buildSlice t len parts, ty, pos, after, guard⟩) = (do pure (.value (← Instr.buildSlice t len (parts.map fun (i, x) => (i, a.eval x)))) : Sem Next) := rfl
              rw [e]; exact Does1.of hd
            · simp at h
          · simp at h
        · simp at h
      · simp at h
    · simp at h
  | load t x =>
    simp only [evOp] at h
    split at h
    · rename_i b o hx
      simp only [Option.map_eq_some_iff, Prod.mk.injEq] at h
      obtain ⟨v, hv, rfl, rfl⟩ := h
      have hp := okOp1 hok rfl _ hx
      simp only [VR] at hp
      obtain ⟨L, h1, h2⟩ := hp
      obtain ⟨z, h3, h4⟩ := ldVar_sound hR hv h1
      refine Does1.of (Does.same hR ⟨z, ?_, h4⟩)
      simp [h2, Instr.loadAt, sureAddr_run, h3]
    · simp at h
  | store t x y =>
    obtain ⟨k1, k2⟩ := okOp2 hok rfl
    simp only [evOp] at h
    split at h
    · rename_i b o v hx hy
      simp only [Option.map_eq_some_iff, Prod.mk.injEq] at h
      obtain ⟨H2, hs, rfl, rfl⟩ := h
      have hp := k1 _ hx
      simp only [VR] at hp
      obtain ⟨L, h1, h2⟩ := hp
      obtain ⟨w', h3, h4⟩ := stVar_sound hR hs h1 (k2 _ hy)
      refine Does1.unit ?_ (Ext.refl _) h4
      simp [h2, Instr.storeAt, sureAddr_run, h3]
    · simp at h
  | nilCheck x =>
    have k1 := okOp1 hok rfl
    simp only [evOp] at h
    split at h
    · rename_i b o hx
      simp only [Option.some.injEq, Prod.mk.injEq] at h
      obtain ⟨rfl, rfl⟩ := h
      have hp := k1 _ hx
      have hp' := hp
      simp only [VR] at hp'
      obtain ⟨L, h1, h2⟩ := hp'
      have : (execOp a.eval ⟨dst, .nilCheck x, ty, pos, after, guard⟩).run P w = .ok (.value (a.eval x)) w := by simp [execOp, h2]
      rw [this]; exact Does1.val hR hp
    · rename_i f fs l hx
      simp only [Option.some.injEq, Prod.mk.injEq] at h
      obtain ⟨rfl, rfl⟩ := h
      have hp := k1 _ hx
      have hp' := hp
      simp only [VR] at hp'
      obtain ⟨gs, cs, h2, _⟩ := hp'
      have : (execOp a.eval ⟨dst, .nilCheck x, ty, pos, after, guard⟩).run P w = .ok (.value (a.eval x)) w := by simp [execOp, h2]
      rw [this]; exact Does1.val hR hp
    · rename_i t v hx
      simp only [Option.some.injEq, Prod.mk.injEq] at h
      obtain ⟨rfl, rfl⟩ := h
      have hp := k1 _ hx
      have hp' := hp
      simp only [VR] at hp'
      obtain ⟨u, h2, _⟩ := hp'
      have : (execOp a.eval ⟨dst, .nilCheck x, ty, pos, after, guard⟩).run P w = .ok (.value (a.eval x)) w := by simp [execOp, h2]
      rw [this]; exact Does1.val hR hp
    · simp at h
  | binOp op t x y yt =>
    obtain ⟨k1, k2⟩ := okOp2 hok rfl
    simp only [evOp] at h
    split at h
    · rename_i u v hx hy
      simp only [Option.map_eq_some_iff, Prod.mk.injEq] at h
      obtain ⟨z, hz, rfl, rfl⟩ := h
      exact Does1.of (Does.same hR (binA_sound hz (k1 _ hx) (k2 _ hy) w))
    · simp at h
  | unOp op t x =>
    simp only [evOp] at h
    split at h
    · rename_i u hx
      simp only [Option.map_eq_some_iff, Prod.mk.injEq] at h
      obtain ⟨z, hz, rfl, rfl⟩ := h
      exact Does1.of (Does.same hR (unA_sound hz (okOp1 hok rfl _ hx) w))
    · simp at h
  | convert s d x =>
    simp only [evOp] at h
    split at h
    · rename_i u hx
      exact Does1.of (convA_sound hR h (okOp1 hok rfl _ hx))
    · simp at h
  | makeInterface t x =>
    simp only [evOp] at h
    split at h
    · simp at h
    · rename_i d u hni hd hx
      simp only [Option.some.injEq, Prod.mk.injEq] at h
      obtain ⟨rfl, rfl⟩ := h
      refine Does1.of (Does.same hR ⟨.iface t (a.eval x), ?_, by simp only [VR]; exact ⟨_, rfl, okOp1 hok rfl _ hx⟩⟩)
      cases d with
      | interface ms => exact (hni _ rfl).elim
      | _ => simp [Instr.makeInterface, run_underlying hd]
    · simp at h
  | makeFunc fn first captured =>
    cases fn with
    | func f =>
      simp only [evOp] at h
      have hok0 : ∀ z ∈ first.toList ++ captured.toList, OR μ τ a z := by simpa [Op.operands] using hok
      have hok' : (∀ z ∈ first.toList, OR μ τ a z) ∧ (∀ z ∈ captured.toList, OR μ τ a z) :=
        ⟨fun z hz => hok0 z (List.mem_append.2 (.inl hz)), fun z hz => hok0 z (List.mem_append.2 (.inr hz))⟩
      split at h
      · rename_i u v hx hy
        simp only [Option.some.injEq, Prod.mk.injEq] at h
        obtain ⟨rfl, rfl⟩ := h
        refine Does1.of (Does.same hR ⟨.func (.func f) (first.map a.eval) (captured.map a.eval), rfl, ?_⟩)
        simp only [VR]
        exact ⟨_, _, rfl, by simpa using opndL_sound hok'.1 hx, by simpa using opndL_sound hok'.2 hy⟩
      · simp at h
    | _ => simp [evOp] at h
  | makeMap t r =>
    cases r with
    | none =>
      simp only [evOp, Option.some.injEq, Prod.mk.injEq] at h
      obtain ⟨rfl, rfl⟩ := h
      refine Does1.of ⟨.map (some w.heap.size), w.alloc (.map #[] 0), muPush μ H.next ⟨w.heap.size, 0, 0, 0⟩, ?_, hR.ext _, hR.pushMap 0, by simp only [VR]; exact ⟨_, muPush_self _ _ _, rfl⟩⟩
      simp [Instr.makeMap]
    | some r => simp [evOp] at h
  | makeSlice t l c =>
    obtain ⟨k1, k2⟩ := okOp2 hok rfl
    simp only [evOp] at h
    split at h
    · rename_i kl l' kc c' e hl hc he
      split at h
      · rename_i sz by_ z hs hb hz
        split at h
        · rename_i hcc
          simp only [Option.some.injEq, Prod.mk.injEq] at h
          obtain ⟨rfl, rfl⟩ := h
          have e1 := k1 _ hl
          have e2 := k2 _ hc
          simp only [VR] at e1 e2
          have := makeSlice_sound hR he hs hb hz hcc.1 (kl := kl) (kc := kc) hcc.2.1 hcc.2.2.1 hcc.2.2.2.1 hcc.2.2.2.2
          rw [← e1, ← e2] at this
          exact Does1.of this
        · simp at h
      · simp at h
    · simp at h
  | slice t x lo hi mx =>
    cases mx with
    | some m => simp [evOp] at h
    | none =>
      have hok0 : ∀ z ∈ [x] ++ lo.toArray.toList ++ hi.toArray.toList, OR μ τ a z := by simpa [Op.operands] using hok
      have hok' : OR μ τ a x ∧ (∀ z ∈ lo.toArray.toList, OR μ τ a z) ∧ (∀ z ∈ hi.toArray.toList, OR μ τ a z) :=
        ⟨hok0 x (by simp), fun z hz => hok0 z (List.mem_append.2 (.inl (List.mem_append.2 (.inr hz)))), fun z hz => hok0 z (List.mem_append.2 (.inr hz))⟩
      simp only [evOp] at h
      split at h
      · rename_i u l hh hx hl hhh
        simp only [Option.map_eq_some_iff, Prod.mk.injEq] at h
        obtain ⟨z, hz, rfl, rfl⟩ := h
        exact Does1.of (Does.same hR (cutA_sound hR hz (hok'.1 _ hx) (opndO_sound hok'.2.1 hl) (opndO_sound hok'.2.2 hhh)))
      · simp at h
  | fieldAddr s x f =>
    simp only [evOp] at h
    split at h
    · rename_i b o off ft hx hf
      split at h
      · rename_i n hn
        split at h
        · rename_i hn0
          simp only [Option.some.injEq, Prod.mk.injEq] at h
          obtain ⟨rfl, rfl⟩ := h
          have hp := okOp1 hok rfl _ hx
          simp only [VR] at hp
          obtain ⟨L, h1, h2⟩ := hp
          refine Does1.of (Does.same hR ⟨.pointer (some ⟨L.c, L.base + o + off, none⟩), by rw [h2]; exact fieldAt_sound hf hn hn0 _ _ w, by simp only [VR]; exact ⟨L, h1, by rw [Nat.add_assoc]⟩⟩)
        · simp at h
      · simp at h
    · simp at h
  | field s x f =>
    simp only [evOp] at h
    split at h
    · rename_i l off ft hx hf
      simp only [Option.map_eq_some_iff, Prod.mk.injEq] at h
      obtain ⟨z, hz, rfl, rfl⟩ := h
      have hp := okOp1 hok rfl _ hx
      simp only [VR] at hp
      obtain ⟨cs, h1, h2⟩ := hp
      refine Does1.of (Does.same hR ?_)
      rw [h1]; exact field_sound hf hz h2 w
    · simp at h
  | indexAddr t x i =>
    obtain ⟨k1, k2⟩ := okOp2 hok rfl
    simp only [evOp] at h
    split at h
    · rename_i u v hx hy
      simp only [Option.map_eq_some_iff, Prod.mk.injEq] at h
      obtain ⟨z, hz, rfl, rfl⟩ := h
      exact Does1.of (Does.same hR (idxA_sound hz (k1 _ hx) (k2 _ hy) w))
    · simp at h
  | index t x i =>
    obtain ⟨k1, k2⟩ := okOp2 hok rfl
    simp only [evOp] at h
    split at h
    · rename_i u v hx hy
      simp only [Option.map_eq_some_iff, Prod.mk.injEq] at h
      obtain ⟨z, hz, rfl, rfl⟩ := h
      exact Does1.of (Does.same hR (indexA_sound hz (k1 _ hx) (k2 _ hy) w))
    · simp at h
  | extract x i =>
    simp only [evOp] at h
    split at h
    · rename_i l hx
      simp only [Option.map_eq_some_iff, Prod.mk.injEq] at h
      obtain ⟨z, hz, rfl, rfl⟩ := h
      have hp := okOp1 hok rfl _ hx
      simp only [VR] at hp
      obtain ⟨cs, h1, h2⟩ := hp
      obtain ⟨u, h3, h4⟩ := h2.get i z hz
      rw [Array.getElem?_toList] at h3
      refine Does1.of (Does.same hR ⟨u, ?_, h4⟩)
      simp [h1, Instr.extract, h3]
    · simp at h
  | lookup t m k ok =>
    obtain ⟨k1, k2⟩ := okOp2 hok rfl
    simp only [evOp] at h
    split at h
    · rename_i u v hx hy
      simp only [Option.map_eq_some_iff, Prod.mk.injEq] at h
      obtain ⟨z, hz, rfl, rfl⟩ := h
      exact Does1.of (Does.same hR (lookA_sound hR hz (k1 _ hx) (k2 _ hy)))
    · simp at h
  | mapUpdate t m k v =>
    obtain ⟨k1, k2, k3⟩ := okOp3 hok rfl
    simp only [evOp] at h
    split at h
    · rename_i x y z hx hy hz
      simp only [Option.map_eq_some_iff, Prod.mk.injEq] at h
      obtain ⟨H2, hs, rfl, rfl⟩ := h
      obtain ⟨w', h3, h4⟩ := updA_sound hR hs (k1 _ hx) (k2 _ hy) (k3 _ hz)
      exact Does1.unit h3 (Ext.refl _) h4
    · simp at h
  | insert t m k v =>
    obtain ⟨k1, k2, k3⟩ := okOp3 hok rfl
    simp only [evOp] at h
    split at h
    · rename_i x y z hx hy hz
      simp only [Option.map_eq_some_iff, Prod.mk.injEq] at h
      obtain ⟨H2, hs, rfl, rfl⟩ := h
      obtain ⟨w', h3, h4⟩ := updA_sound hR hs (k1 _ hx) (k2 _ hy) (k3 _ hz)
      exact Does1.unit h3 (Ext.refl _) h4
    · simp at h
  | call c =>
    obtain ⟨callee, args, ats⟩ := c
    cases callee with
    | builtin b =>
      simp only [evOp] at h
      have hok' : ∀ z ∈ args.toList, OR μ τ a z := by simpa [Op.operands, Call.operands] using hok
      split at h
      · rename_i xs hx
        have hv := opndL_sound hok' hx
        have hb := fun cs => builtA_sound hR h (vs := args.map a.eval) (by simpa using hv) ty cs
        have e : ∃ cs, (execOp a.eval ⟨dst, .call ⟨.builtin b, args, ats⟩, ty, pos, after, guard⟩).run P w = (builtin b ats ty cs (args.map a.eval)).run P w :=
          ⟨_, by simp only [execOp, resolve, invoke, Sem.run_bind, Sem.run_pure, Result.andThen_ok]; rfl⟩
        obtain ⟨cs, e⟩ := e
        rw [e]; exact hb cs
      · simp at h
    | _ => simp [evOp] at h
  | _ => simp [evOp] at h
end
end Go.Ev

/- Calls and regions of the evaluator. -/
namespace Go.Ev
open Go Go.RowKit
set_option linter.unusedSimpArgs false
set_option linter.unusedVariables false

abbrev CallF := FuncId → List AV → AH → Option (AV × AH)
section
variable (P : Program) (call : CallF)
/-- the function that a method of a dynamic type is, where its row is plain -/
def mthA (t : TypeId) (name : String) : Option FuncId := match P.info? t, P.underlying t with
  | some i, some d => match i.methods.find? (·.name == name) with
    | some m => if m.path.isEmpty then (match m.func with
      | some (f, true) => (match d with | .pointer _ => some f | _ => none)
      | some (f, false) => (match d with | .pointer _ => none | _ => some f)
      | none => none) else none
    | none => none
  | _, _ => none
def evO (o : Oper) (τ : Tm) (H : AH) : Option (AV × AH) := match o.op with
  | .call c => match c.callee with
    | .value f => match opnd τ f, opndL τ c.args.toList with
      | some (.func g fs ls), some xs => call g (fs ++ xs ++ ls) H
      | _, _ => none
    | .invoke r name => match opnd τ r, opndL τ c.args.toList with
      | some (.iface t v), some xs => match mthA P t name with
        | some g => call g (v :: xs) H
        | none => none
      | _, _ => none
    | _ => evOp P o.op τ H
  | _ => evOp P o.op τ H
def wantA (ops : Array Oper) (τ : Tm) (o : Oper) : Bool := match o.guard with
  | none => true
  | some (j, want) => match (ops[j]?).bind (·.dst) with
    | some d => match τ d with
      | .bool b => b == want
      | _ => false
    | none => false
def stepA (ops : Array Oper) (o : Oper) (τ : Tm) (H : AH) : Option (Tm × AH) :=
  if wantA ops τ o then match evO P call o τ H with
    | some (v, H') => some (put τ o.dst v, H')
    | none => none
  else some (put τ o.dst U, H)
def evOps (ops : Array Oper) : List Oper → Tm → AH → Option (Tm × AH)
  | [], τ, H => some (τ, H)
  | o :: l, τ, H => match stepA P call ops o τ H with
    | some (τ', H') => evOps ops l τ' H'
    | none => none
end

/-- What is asked of the calls: the machine's do what the evaluator's do. -/
def CallOK (P : Program) (w0 : World) (call : CallF) : Prop :=
  ∀ (f : FuncId) (args : List AV) (H : AH) (r : AV) (H' : AH) (μ : Mu) (w : World) (vs : Array Value), call f args H = some (r, H') → Rel P w0 H μ w → VRs μ args vs.toList →
    (∃ fn, P.funcs[f]? = some fn ∧ (fn.name == "runtime.NumGoroutine") = false ∧ fn.body.isNone = false) ∧
    Calls P f vs w fun e w' => ∃ v μ', e = .returned v ∧ Ext μ μ' ∧ Rel P w0 H' μ' w' ∧ VR μ' r v

section
variable {P : Program} {w0 : World} {H : AH} {μ : Mu} {w : World} {call : CallF}

theorem Does1.wp {o : Oper} {a : Act} {H' : AH} {r : AV} {K : Act → World → Prop} {Q : Exit → Act → World → Prop} (h : Does1 P w0 μ H' ((execOp a.eval o).run P w) r)
    (hK : ∀ u w' μ', Ext μ μ' → Rel P w0 H' μ' w' → VR μ' r u → K (a.put o.dst u) w') : o.wp P a w K Q := by
  obtain ⟨u, w', μ', h1 | ⟨rfl, h1⟩, h2, h3, h4⟩ := h
  · unfold Oper.wp; rw [h1]; exact hK u w' μ' h2 h3 h4
  · unfold Oper.wp; rw [h1]; exact hK undef w' μ' h2 h3 h4

theorem method_run {t : TypeId} {name : String} {f : FuncId} (h : mthA P t name = some f) (n : Nat) (v : Value) (w : World) : (method (n + 1) t v name).run P w = .ok (f, v) w := by
  unfold mthA at h
  split at h
  · rename_i i d hi hd
    split at h
    · rename_i m hm
      split at h
      · rename_i hp
        have hp' : m.path.toList = [] := by simpa using hp
        split at h
        · rename_i g hg
          split at h
          · simp only [Option.some.injEq] at h; subst h
            simp [method, typeInfo, hi, hm, hp', follow, hg, receiverAt, run_underlying hd, Place.get]
          · simp at h
        · rename_i g hg
          split at h
          · simp at h
          · rename_i hne
            simp only [Option.some.injEq] at h; subst h
            have : ∀ o, (receiverAt t (.val v) false o).run P w = .ok v w := by
              intro o
              cases d <;> simp [receiverAt, run_underlying hd, Place.get]
              rename_i e; exact (hne e rfl).elim
            simp [method, typeInfo, hi, hm, hp', follow, hg, this]
        · simp at h
      · simp at h
    · simp at h
  · simp at h
theorem evO_wp (hc : CallOK P w0 call) {o : Oper} {τ : Tm} {a : Act} (hok : ∀ z ∈ o.op.operands.toList, OR μ τ a z) {r : AV} {H' : AH} (h : evO P call o τ H = some (r, H')) (hR : Rel P w0 H μ w)
    {K : Act → World → Prop} {Q : Exit → Act → World → Prop} (hK : ∀ u w' μ', Ext μ μ' → Rel P w0 H' μ' w' → VR μ' r u → K (a.put o.dst u) w') : o.wp P a w K Q := by
  have hplain : evOp P o.op τ H = some (r, H') → o.wp P a w K Q := fun h' => (evOp_sound hR o hok h').wp hK
  unfold evO at h
  split at h
  · rename_i c hop
    split at h
    · rename_i f hcal
      split at h
      · rename_i g fs ls xs hf hxs
        obtain ⟨callee, args, ats⟩ := c
        simp only at hcal
        subst hcal
        have hok' : ∀ z ∈ [f] ++ args.toList, OR μ τ a z := by
          rw [hop] at hok; simpa [Op.operands, Call.operands] using hok
        have h1 := hok' f (by simp) _ hf
        have h2 := opndL_sound (fun z hz => hok' z (List.mem_append.2 (.inr hz))) hxs
        simp only [VR] at h1
        obtain ⟨gs, cs, h3, h4, h5⟩ := h1
        have hvs : VRs μ (fs ++ xs ++ ls) (gs ++ args.map a.eval ++ cs).toList := by
          simp only [Array.toList_append, Array.toList_map]
          exact (h4.append h2).append h5
        obtain ⟨⟨fn, k1, k2, k3⟩, k4⟩ := hc g _ H r H' μ w _ h hR hvs
        have hrun : (execOp a.eval o).run P w = .ok (.enter g (gs ++ args.map a.eval ++ cs)) w := by
          simp only [execOp, hop, resolve, h3, Deferred.ofValue, Sem.run_bind, Sem.run_pure, Result.andThen_ok, invoke, callFunc, run_program, k1, k2, k3]
          simp
        unfold Oper.wp
        rw [hrun]
        simp only [Oper.upon]
        exact k4.mono fun e w' he => by
          obtain ⟨v, μ', rfl, e1, e2, e3⟩ := he
          exact hK v w' μ' e1 e2 e3
      · simp at h
    · rename_i r name hcal
      split at h
      · rename_i t rv xs hf hxs
        split at h
        · rename_i g hg
          obtain ⟨callee, args, ats⟩ := c
          simp only at hcal
          subst hcal
          have hok' : ∀ z ∈ [r] ++ args.toList, OR μ τ a z := by
            rw [hop] at hok; simpa [Op.operands, Call.operands] using hok
          have h1 := hok' r (by simp) _ hf
          have h2 := opndL_sound (fun z hz => hok' z (List.mem_append.2 (.inr hz))) hxs
          simp only [VR] at h1
          obtain ⟨u, h3, h4⟩ := h1
          have hvs : VRs μ (rv :: xs) (#[u] ++ args.map a.eval).toList := by
            simp only [Array.toList_append, Array.toList_map]
            exact ⟨u, _, rfl, h4, h2⟩
          obtain ⟨⟨fn, k1, k2, k3⟩, k4⟩ := hc g _ H _ H' μ w _ h hR hvs
          obtain ⟨n, hn⟩ : ∃ n, P.types.size + Made.depth = n + 1 := ⟨P.types.size + Made.depth - 1, by have : 0 < Made.depth := by decide
                                                                                                        omega⟩
          have hrun : (execOp a.eval o).run P w = .ok (.enter g (#[u] ++ args.map a.eval)) w := by
            have e1 : (#[a.eval r] ++ args.map a.eval)[0]? = some (.iface t u) := by rw [h3, Array.getElem?_append_left (by simp)]; simp
            have e2 : (#[a.eval r] ++ args.map a.eval).extract 1 (#[a.eval r] ++ args.map a.eval).size = args.map a.eval := by
              apply Array.ext'
              simp
              rw [List.take_of_length_le (by simp)]
            simp only [execOp, hop, resolve, Sem.run_bind, Sem.run_pure, Result.andThen_ok, invoke, e1, e2, callMethod, run_program, hn, method_run hg, callFunc, k1, k2, k3]
            simp
          unfold Oper.wp
          rw [hrun]
          simp only [Oper.upon]
          exact k4.mono fun e w' he => by
            obtain ⟨v, μ', rfl, e1, e2, e3⟩ := he
            exact hK v w' μ' e1 e2 e3
        · simp at h
      · simp at h
    · exact hplain h
  · exact hplain h

theorem wantA_sound {ops : Array Oper} {τ : Tm} {a : Act} {o : Oper} (hg : ∀ j want, o.guard = some (j, want) → ∀ d, (ops[j]?).bind (·.dst) = some d → d < a.tmps.size ∧ ∀ v, a.tmps[d]? = some v → VR μ (τ d) v) :
    Region.wanted o (yielded ops a.tmps) = wantA ops τ o := by
  unfold Region.wanted wantA
  split
  · rename_i e; rw [e]
  · rename_i j want e
    rw [e]
    simp only [yielded]
    cases hd : (ops[j]?).bind (·.dst) with
    | none => simp
    | some d =>
      obtain ⟨h1, h2⟩ := hg j want e d hd
      have hv := h2 a.tmps[d] (by simp [h1])
      simp only [Option.bind_some]
      rw [Array.getElem?_eq_getElem h1]
      generalize a.tmps[d] = v at hv
      cases hτ : τ d <;> rw [hτ] at hv <;> simp only [VR] at hv
      case bool b => subst hv; simp
      all_goals
        (try obtain ⟨_, _, _, _, rfl, _⟩ := hv) <;> (try obtain ⟨_, _, rfl, _⟩ := hv) <;> (try obtain ⟨_, _, rfl⟩ := hv) <;> (try obtain ⟨_, rfl, _⟩ := hv) <;> (try subst hv) <;> simp

/-- the slots that a region names are there -/
def okOper (n : Nat) (o : Oper) : Bool := okOp n o.op && (match o.dst with | some d => decide (d < n) | none => true)
def okOps (n : Nat) (ops : Array Oper) : Bool := ops.toList.all (okOper n)
theorem OR.of {τ : Tm} {a : Act} (hT : TR μ τ a.tmps) {x : Operand} (hx : okO a.tmps.size x = true) : OR μ τ a x := fun v hv => opnd_sound hT hx hv
theorem OR.all {τ : Tm} {a : Act} (hT : TR μ τ a.tmps) {n : Nat} (hn : a.tmps.size = n) {o : Oper} (ho : okOper n o = true) : ∀ z ∈ o.op.operands.toList, OR μ τ a z := by
  intro z hz
  unfold okOper okOp at ho
  rw [Bool.and_eq_true, List.all_eq_true] at ho
  exact OR.of hT (by rw [hn]; exact ho.1 z hz)
theorem okOps_get {n : Nat} {ops : Array Oper} (h : okOps n ops = true) {j : Nat} {o : Oper} (hj : ops[j]? = some o) : okOper n o = true := by
  unfold okOps at h
  rw [List.all_eq_true] at h
  exact h o (by rw [← Array.getElem?_toList] at hj; exact List.mem_of_getElem? hj)
theorem okOps_dst {n : Nat} {ops : Array Oper} (h : okOps n ops = true) {j : Nat} {d : Nat} (hd : (ops[j]?).bind (·.dst) = some d) : d < n := by
  cases hj : ops[j]? with
  | none => rw [hj] at hd; simp at hd
  | some o =>
    rw [hj] at hd; simp only [Option.bind_some] at hd
    have := okOps_get h hj
    unfold okOper at this
    rw [Bool.and_eq_true, hd] at this
    simpa using this.2

/-- the machine's state is the evaluator's -/
structure St (P : Program) (w0 : World) (n : Nat) (μ : Mu) (τ : Tm) (H : AH) (a : Act) (w : World) : Prop where
  rel : Rel P w0 H μ w
  tm : TR μ τ a.tmps
  size : a.tmps.size = n
  defers : a.defers = []

theorem St.want {n : Nat} {τ : Tm} {a : Act} (h : St P w0 n μ τ H a w) {ops : Array Oper} (hok : okOps n ops = true) (o : Oper) : Region.wanted o (yielded ops a.tmps) = wantA ops τ o :=
  wantA_sound (μ := μ) fun j want _ d hd => ⟨by rw [h.size]; exact okOps_dst hok hd, fun v hv => h.tm d v hv⟩
theorem VR_U : VR μ U undef := by simp only [U, VR]; exact ⟨#[], rfl, by simp [VRs]⟩
theorem St.put {n : Nat} {τ : Tm} {a : Act} (h : St P w0 n μ τ H a w) (d : Option Nat) {μ' : Mu} {H' : AH} {w' : World} {x : AV} {u : Value} (hx : Ext μ μ') (hR : Rel P w0 H' μ' w') (hv : VR μ' x u) :
    St P w0 n μ' (Ev.put τ d x) H' (a.put d u) w' :=
  ⟨hR, (h.tm.mono hx).put d hv, by rw [put_size]; exact h.size, by rw [put_defers]; exact h.defers⟩

theorem evOps_sound (hc : CallOK P w0 call) {n : Nat} {ops : Array Oper} (hok : okOps n ops = true) {Q : Exit → Act → World → Prop} :
    ∀ {l : List Oper} {τ τ' : Tm} {H H' : AH} {μ : Mu} {a : Act} {w : World}, (∀ o ∈ l, okOper n o = true) → evOps P call ops l τ H = some (τ', H') → St P w0 n μ τ H a w →
      (∀ a' w' μ', Ext μ μ' → St P w0 n μ' τ' H' a' w' → Q .normal a' w') → wpList P ops Q l a w
  | [], τ, τ', H, H', μ, a, w, _, h, hS, hQ => by
    simp only [evOps, Option.some.injEq, Prod.mk.injEq] at h
    obtain ⟨rfl, rfl⟩ := h
    exact hQ a w μ (Ext.refl _) hS
  | o :: l, τ, τ', H, H', μ, a, w, hl, h, hS, hQ => by
    simp only [evOps] at h
    split at h
    · rename_i τ1 H1 h1
      unfold stepA at h1
      have hw := hS.want hok o
      have hol := hl o (by simp)
      have hl' : ∀ o' ∈ l, okOper n o' = true := fun o' ho' => hl o' (by simp [ho'])
      split at h1
      · rename_i hwant
        split at h1
        · rename_i v H2 hv
          simp only [Option.some.injEq, Prod.mk.injEq] at h1
          obtain ⟨rfl, rfl⟩ := h1
          unfold wpList
          rw [hw, hwant]
          simp only [if_true]
          left
          exact evO_wp hc (OR.all hS.tm hS.size hol) hv hS.rel fun u w' μ' hx hR hu =>
            evOps_sound hc hok hl' h (hS.put o.dst hx hR hu) fun a' w' μ'' hx' hS' => hQ a' w' μ'' (hx.trans hx') hS'
        · simp at h1
      · rename_i hwant
        simp only [Option.some.injEq, Prod.mk.injEq] at h1
        obtain ⟨rfl, rfl⟩ := h1
        unfold wpList
        rw [hw]
        simp only [hwant]
        exact evOps_sound hc hok hl' h (hS.put o.dst (Ext.refl _) hS.rel VR_U) hQ
    · simp at h
end
end Go.Ev

/- A region whose order is open: where its effects are ordered, and what reads beside them reads the same at each place, every order comes to what the text's order does. -/
namespace Go.Ev
open Go Go.RowKit
set_option linter.unusedSimpArgs false
set_option linter.unusedVariables false

/-- what must stand ahead of an operation, as bits -/
def maskE (acc : List Nat) : List Edge → Nat
  | [] => 0
  | e :: l => if Region.binds .any e then (2 ^ e.on ||| acc.getD e.on 0) ||| maskE acc l else maskE acc l
def masks : List Oper → List Nat → List Nat
  | [], acc => acc
  | o :: l, acc => masks l (acc ++ [maskE acc o.after.toList])
def masksOf (ops : Array Oper) : List Nat := masks ops.toList []
def bef (ops : Array Oper) (i j : Nat) : Bool := ((masksOf ops).getD j 0).testBit i

/-- operations that may change the memory -/
def isEff (P : Program) : Op → Bool
  | .move _ | .assign _ | .pick .. | .build .. | .load .. | .nilCheck _ | .binOp .. | .unOp .. | .makeInterface .. | .makeFunc .. | .slice .. | .fieldAddr .. | .field .. | .indexAddr .. | .index .. | .extract .. | .lookup .. => false
  | .call { callee := .builtin b, .. } => match b with
    | .len | .min | .max => false
    | _ => true
  | .convert _ d _ => match P.underlying d with
    | some (.slice _) => true
    | _ => false
  | _ => true
/-- operations whose value may hang on the memory -/
def isRd : Op → Bool
  | .load .. | .slice .. | .lookup .. | .convert .. => true
  | .call _ => true
  | _ => false
def namesO (ops : Array Oper) (o : Oper) : List Nat :=
  (o.op.operands.toList.filterMap fun | .tmp t => some t | _ => none) ++ o.dst.toList ++
  (match o.guard with
   | some (j, _) => ((ops[j]?).bind (·.dst)).toList
   | none => [])
def edgesOk (ops : Array Oper) : Bool := ops.toList.zipIdx.all fun (o, j) => o.after.toList.all fun e => !Region.binds .any e || decide (e.on < j)
def clash (ops : Array Oper) (x y : Oper) : Bool :=
  (match x.dst with | some d => (namesO ops y).contains d | none => false) || (match y.dst with | some d => (namesO ops x).contains d | none => false)
def pairsOk (P : Program) (ops : Array Oper) : Bool := ops.toList.zipIdx.all fun (y, j) => ops.toList.zipIdx.all fun (x, i) =>
  !decide (i < j) || (!(clash ops x y) && !(isEff P x.op && isEff P y.op)) || bef ops i j
def drawOk (P : Program) (ops : Array Oper) : Bool := edgesOk ops && pairsOk P ops

theorem masks_append : ∀ (l : List Oper) (acc : List Nat), ∃ r, masks l acc = acc ++ r ∧ r.length = l.length
  | [], acc => ⟨[], by simp [masks], rfl⟩
  | o :: l, acc => by
    obtain ⟨r, h1, h2⟩ := masks_append l (acc ++ [maskE acc o.after.toList])
    exact ⟨maskE acc o.after.toList :: r, by simp [masks, h1], by simp [h2]⟩
theorem masks_get : ∀ (l : List Oper) (acc : List Nat) (j : Nat) (o : Oper), l[j]? = some o → (masks l acc)[acc.length + j]? = some (maskE ((masks l acc).take (acc.length + j)) o.after.toList)
  | [], acc, j, o, h => by simp at h
  | x :: l, acc, 0, o, h => by
    simp at h; subst h
    obtain ⟨r, h1, h2⟩ := masks_append l (acc ++ [maskE acc x.after.toList])
    simp only [masks, h1, Nat.add_zero]
    rw [List.append_assoc, List.take_append_of_le_length (Nat.le_refl _), List.take_length]
    simp
  | x :: l, acc, j + 1, o, h => by
    have := masks_get l (acc ++ [maskE acc x.after.toList]) j o (by simpa using h)
    simp only [masks]
    rw [List.length_append, List.length_singleton] at this
    rw [show acc.length + (j + 1) = acc.length + 1 + j by omega]
    exact this
theorem maskE_bit (acc : List Nat) (i : Nat) : ∀ (l : List Edge), (maskE acc l).testBit i = true → ∃ e ∈ l, Region.binds .any e = true ∧ (e.on = i ∨ (acc.getD e.on 0).testBit i = true)
  | [], h => by simp [maskE] at h
  | e :: l, h => by
    simp only [maskE] at h
    split at h
    · rename_i hb
      rw [Nat.testBit_or, Nat.testBit_or, Bool.or_eq_true, Bool.or_eq_true] at h
      rcases h with (h | h) | h
      · rw [Nat.testBit_two_pow] at h
        exact ⟨e, by simp, hb, .inl (by simpa using h)⟩
      · exact ⟨e, by simp, hb, .inr h⟩
      · obtain ⟨e', h1, h2⟩ := maskE_bit acc i l h
        exact ⟨e', by simp [h1], h2⟩
    · obtain ⟨e', h1, h2⟩ := maskE_bit acc i l h
      exact ⟨e', by simp [h1], h2⟩
theorem bef_edge {ops : Array Oper} (he : edgesOk ops = true) {i j : Nat} (h : bef ops i j = true) : ∃ o e, ops[j]? = some o ∧ e ∈ o.after.toList ∧ Region.binds .any e = true ∧ e.on < j ∧ (e.on = i ∨ bef ops i e.on = true) := by
  unfold bef at h
  obtain ⟨r, h1, h2⟩ := masks_append ops.toList []
  have hlen : (masksOf ops).length = ops.size := by
    unfold masksOf; rw [h1]; simpa using h2
  have hj : j < ops.size := by
    rcases Nat.lt_or_ge j ops.size with hh | hh
    · exact hh
    · rw [List.getD_eq_getElem?_getD, List.getElem?_eq_none (by omega)] at h; simp at h
  have hget := masks_get ops.toList [] j ops[j] (by simp [hj])
  simp only [List.length_nil, Nat.zero_add] at hget
  have hg : (masksOf ops).getD j 0 = maskE ((masksOf ops).take j) ops[j].after.toList := by
    rw [List.getD_eq_getElem?_getD]; unfold masksOf; rw [hget]; rfl
  rw [hg] at h
  obtain ⟨e, k1, k2, k3⟩ := maskE_bit _ i _ h
  have hlt : e.on < j := by
    unfold edgesOk at he
    rw [List.all_eq_true] at he
    have := he (ops[j], j) (by rw [List.mem_zipIdx_iff_getElem?]; simp [hj])
    rw [List.all_eq_true] at this
    have := this e k1
    simpa [k2] using this
  refine ⟨ops[j], e, by simp [hj], k1, k2, hlt, ?_⟩
  rcases k3 with k3 | k3
  · exact .inl k3
  · right
    unfold bef
    rw [List.getD_eq_getElem?_getD] at k3 ⊢
    rwa [List.getElem?_take_of_lt hlt] at k3
/-- A set that holds with each operation what binds it holds all that must stand ahead. -/
theorem bef_closed {ops : Array Oper} (he : edgesOk ops = true) (S : Nat → Prop) (hS : ∀ j o, S j → ops[j]? = some o → ∀ e ∈ o.after.toList, Region.binds .any e = true → S e.on) :
    ∀ (j i : Nat), S j → bef ops i j = true → S i := by
  intro j
  induction j using Nat.strongRecOn with
  | _ j ih =>
    intro i hj hb
    obtain ⟨o, e, h1, h2, h3, h4, h5⟩ := bef_edge he hb
    have hon := hS j o hj h1 e h2 h3
    rcases h5 with rfl | h5
    · exact hon
    · exact ih e.on h4 i hon h5
theorem bef_ready {ops : Array Oper} (he : edgesOk ops = true) (S : Nat → Prop) (hS : ∀ j o, S j → ops[j]? = some o → ∀ e ∈ o.after.toList, Region.binds .any e = true → S e.on) {j : Nat} {o : Oper} (hj : ops[j]? = some o)
    (hr : ∀ e ∈ o.after.toList, Region.binds .any e = true → S e.on) {i : Nat} (hb : bef ops i j = true) : S i := by
  obtain ⟨o', e, h1, h2, h3, h4, h5⟩ := bef_edge he hb
  rw [hj] at h1; simp only [Option.some.injEq] at h1; subst h1
  have hon := hr e h2 h3
  rcases h5 with rfl | h5
  · exact hon
  · exact bef_closed he S hS e.on i hon h5
theorem pairs_of {P : Program} {ops : Array Oper} (h : pairsOk P ops = true) {i j : Nat} {x y : Oper} (hx : ops[i]? = some x) (hy : ops[j]? = some y) (hij : i < j) (hc : clash ops x y = true ∨ (isEff P x.op = true ∧ isEff P y.op = true)) : bef ops i j = true := by
  unfold pairsOk at h
  rw [List.all_eq_true] at h
  have := h (y, j) (by rw [List.mem_zipIdx_iff_getElem?]; simpa using hy)
  rw [List.all_eq_true] at this
  have := this (x, i) (by rw [List.mem_zipIdx_iff_getElem?]; simpa using hx)
  simp only [hij, decide_true, Bool.not_true, Bool.false_or, Bool.or_eq_true, Bool.and_eq_true] at this
  rcases this with ⟨h1, h2⟩ | h
  · rcases hc with hc | ⟨hc1, hc2⟩
    · rw [hc] at h1; simp at h1
    · rw [hc1, hc2] at h2; simp at h2
  · exact h
end Go.Ev

/- A region whose order is open: the evaluator's run of it, and that every order comes to it. -/
namespace Go.Ev
open Go Go.RowKit
set_option linter.unusedSimpArgs false
set_option linter.unusedVariables false

section
variable (P : Program) (call : CallF)
/-- the states ahead of each operation, and behind the last -/
def evHist (ops : Array Oper) : List Oper → Tm → AH → Option (List (Tm × AH))
  | [], τ, H => some [(τ, H)]
  | o :: l, τ, H => match stepA P call ops o τ H with
    | some (τ', H') => match evHist ops l τ' H' with
      | some r => some ((τ, H) :: r)
      | none => none
    | none => none
end
def effAt (P : Program) (ops : Array Oper) (j : Nat) : Bool := match ops[j]? with | some o => isEff P o.op | none => false
def rdAt (P : Program) (ops : Array Oper) (j : Nat) : Bool := match ops[j]? with | some o => isRd o.op && !isEff P o.op | none => false
/-- i reads; p is a place (behind the effects ahead of p) at which it may come to stand, other than its own -/
def looseB (P : Program) (ops : Array Oper) (i p : Nat) : Bool :=
  rdAt P ops i && (p == 0 || effAt P ops (p - 1)) &&
  ((List.range ops.size).all fun j => !effAt P ops j || (if j < p then !bef ops i j else !bef ops j i)) &&
  ((List.range ops.size).any fun j => effAt P ops j && ((decide (p ≤ j) && decide (j < i)) || (decide (i ≤ j) && decide (j < p))))
def looseOf (P : Program) (ops : Array Oper) : List (Nat × Nat) :=
  (List.range ops.size).flatMap fun i => (List.range (ops.size + 1)).filterMap fun p => if looseB P ops i p then some (i, p) else none
def ObOk (P : Program) (call : CallF) (ops : Array Oper) (hs : List (Tm × AH)) (q : Nat × Nat) : Prop :=
  match hs[q.1]?, hs[q.2]?, ops[q.1]? with
  | some (τ, H), some (_, Hp), some o => wantA ops τ o = true → evO P call o τ Hp = (evO P call o τ H).map fun r => (r.1, Hp)
  | _, _, _ => False
open Classical in
/-- where all effects are ordered -/
noncomputable def evDraw1 (P : Program) (call : CallF) (ops : Array Oper) (τ : Tm) (H : AH) : Option (Tm × AH) :=
  if drawOk P ops = true then
    if looseOf P ops = [] then evOps P call ops ops.toList τ H
    else match evHist P call ops ops.toList τ H with
      | some hs => if ∀ q ∈ looseOf P ops, ObOk P call ops hs q then hs.getLast? else none
      | none => none
  else none

section
variable {P : Program} {w0 : World} {μ : Mu} {w : World} {call : CallF}

theorem evHist_facts {ops : Array Oper} : ∀ {l : List Oper} {τ : Tm} {H : AH} {hs : List (Tm × AH)}, evHist P call ops l τ H = some hs →
    hs.length = l.length + 1 ∧ hs[0]? = some (τ, H) ∧ ∀ k o, l[k]? = some o → ∃ τ1 H1 τ2 H2, hs[k]? = some (τ1, H1) ∧ hs[k + 1]? = some (τ2, H2) ∧ stepA P call ops o τ1 H1 = some (τ2, H2)
  | [], τ, H, hs, h => by
    simp only [evHist, Option.some.injEq] at h; subst h
    exact ⟨rfl, rfl, fun k o hk => by simp at hk⟩
  | o :: l, τ, H, hs, h => by
    simp only [evHist] at h
    split at h
    · rename_i τ' H' hst
      split at h
      · rename_i r hr
        simp only [Option.some.injEq] at h; subst h
        obtain ⟨h1, h2, h3⟩ := evHist_facts hr
        refine ⟨by simp [h1], rfl, fun k x hk => ?_⟩
        cases k with
        | zero => simp at hk; subst hk; exact ⟨τ, H, τ', H', rfl, by simpa using h2, hst⟩
        | succ k =>
          obtain ⟨τ1, H1, τ2, H2, e1, e2, e3⟩ := h3 k x (by simpa using hk)
          exact ⟨τ1, H1, τ2, H2, by simpa using e1, by simpa using e2, e3⟩
      · simp at h
    · simp at h
theorem evOps_hist {ops : Array Oper} : ∀ {l : List Oper} {τ : Tm} {H : AH} {r : Tm × AH}, evOps P call ops l τ H = some r → ∃ hs, evHist P call ops l τ H = some hs ∧ hs.getLast? = some r
  | [], τ, H, r, h => by
    simp only [evOps, Option.some.injEq] at h; subst h
    exact ⟨[(τ, H)], rfl, rfl⟩
  | o :: l, τ, H, r, h => by
    simp only [evOps] at h
    split at h
    · rename_i τ' H' hst
      obtain ⟨hs, h1, h2⟩ := evOps_hist h
      refine ⟨(τ, H) :: hs, by simp [evHist, hst, h1], ?_⟩
      have := (evHist_facts h1).1
      cases hs with
      | nil => simp at this
      | cons x xs => simpa using h2
    · simp at h

theorem evO_noEff {o : Oper} (hne : isEff P o.op = false) {τ : Tm} {H H' : AH} {v : AV} (h : evO P call o τ H = some (v, H')) : H' = H := by
  obtain ⟨dst, op, ty, pos, after, guard⟩ := o
  cases op <;> simp only [isEff, reduceCtorEq, Bool.true_eq_false] at hne
  case call c =>
    obtain ⟨callee, args, ats⟩ := c
    cases callee with
    | value f => simp at hne
    | invoke r m => simp at hne
    | builtin b =>
      cases b <;> simp only [reduceCtorEq, Bool.true_eq_false] at hne
      all_goals
        simp only [evO, evOp] at h
        split at h
        · unfold builtA at h
          split at h
          all_goals first
            | (simp at h; done)
            | (simp only [Option.map_eq_some_iff, Prod.mk.injEq] at h; obtain ⟨_, _, _, rfl⟩ := h; rfl)
            | contradiction
            | (simp_all; done)
        · simp at h
  case convert s d x =>
    simp only [evO, evOp] at h
    split at h
    · unfold convA at h
      split at h
      all_goals (repeat' split at h)
      all_goals first
        | (simp at h; done)
        | (simp only [Option.some.injEq, Prod.mk.injEq] at h; exact h.2.symm)
        | (rename_i hd _ _ _; simp [hd] at hne; done)
        | (simp_all; done)
    · simp at h
  case makeFunc fn f1 f2 =>
    cases fn <;> simp only [evO, evOp] at h
    all_goals (repeat' split at h)
    all_goals first
      | (simp at h; done)
      | (simp only [Option.some.injEq, Prod.mk.injEq] at h; exact h.2.symm)
  case slice t x lo hi mx =>
    cases mx <;> simp only [evO, evOp] at h
    all_goals (repeat' split at h)
    all_goals first
      | (simp at h; done)
      | (simp only [Option.map_eq_some_iff, Prod.mk.injEq] at h; obtain ⟨_, _, _, rfl⟩ := h; rfl)
  all_goals
    simp only [evO, evOp] at h
    repeat' split at h
  all_goals first
    | (simp at h; done)
    | (simp only [Option.some.injEq, Prod.mk.injEq] at h; exact h.2.symm)
    | (simp only [Option.map_eq_some_iff, Prod.mk.injEq] at h; obtain ⟨_, _, _, rfl⟩ := h; rfl)
theorem evO_noH {o : Oper} (hne : isEff P o.op = false) (hnr : isRd o.op = false) {τ : Tm} {H : AH} {v : AV} (h : evO P call o τ H = some (v, H)) (H2 : AH) : evO P call o τ H2 = some (v, H2) := by
  obtain ⟨dst, op, ty, pos, after, guard⟩ := o
  cases op <;> simp only [isEff, isRd, reduceCtorEq, Bool.true_eq_false] at hne hnr
  case makeFunc fn f1 f2 =>
    cases fn <;> simp only [evO, evOp] at h ⊢
    all_goals (repeat' split at h)
    all_goals (simp_all; done)
  all_goals
    simp only [evO, evOp] at h ⊢
    repeat' split at h
  all_goals first
    | (simp at h; done)
    | (simp_all; done)
    | (simp only [Option.map_eq_some_iff, Prod.mk.injEq] at h; obtain ⟨_, h1, h2, _⟩ := h; simp_all; done)
end
end Go.Ev
