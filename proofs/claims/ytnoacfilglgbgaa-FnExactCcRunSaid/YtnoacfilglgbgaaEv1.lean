/- Lemmas of an evaluator of the given code and of what the functions answer; no condition of its own. -/
import Derived.Test.YtnoacfilglgbgaaEv0
import Derived.Tactics
/- The evaluator's maps are the machine's. -/
namespace Go.Ev
open Go Go.RowKit
set_option linter.unusedSimpArgs false
set_option linter.unusedVariables false

section
variable {P : Program} {w0 : World} {H : AH} {μ : Mu} {w : World}

theorem sameK_sound {d : TypeDesc} {x y : AV} {q : Bool} (hk : keyOk d x = true) (h : sameK x y = some q) {u v : Value} (hx : VR μ x u) (hy : VR μ y v) : Instr.sameNow d u v = some q := by
  unfold sameK at h
  split at h
  · simp only [VR] at hx hy; subst hx; subst hy
    cases d <;> simp [keyOk] at hk
    split at h <;> simp at h
    rename_i hkk
    subst h
    simp [Instr.sameNow, hkk]
  · simp only [VR] at hx hy; subst hx; subst hy
    cases d <;> simp [keyOk] at hk
    simpa [Instr.sameNow] using h
  · simp only [VR] at hx hy; subst hx; subst hy
    cases d <;> simp [keyOk] at hk
    simpa [Instr.sameNow] using h
  · simp at h
theorem ba_beq {a b : ByteArray} (h : (a == b) = true) : a = b := by
  have h2 : ByteArray.beq a b = true := h
  unfold ByteArray.beq at h2
  cases a; cases b
  simpa using h2
theorem ba_refl (a : ByteArray) : (a == a) = true := by
  show ByteArray.beq a a = true
  unfold ByteArray.beq; simp
theorem sameK_bits {x y : AV} (h : sameK x y = some true) {u v : Value} (hx : VR μ x u) (hy : VR μ y v) (n : Nat) : Instr.sameBits n v u = true := by
  unfold sameK at h
  split at h
  · simp only [VR] at hx hy; subst hx; subst hy
    split at h <;> simp at h
    rename_i hk
    cases n <;> simp [Instr.sameBits, hk, h]
  · simp only [VR] at hx hy; subst hx; subst hy
    simp only [Option.some.injEq] at h
    have := ba_beq h
    subst this
    cases n <;> simp [Instr.sameBits, ba_refl]
  · simp only [VR] at hx hy; subst hx; subst hy
    simp at h
    cases n <;> simp [Instr.sameBits, h]
  · simp at h

def FoundR (μ : Mu) : Option (Nat × AV) → Option (Nat × Value) → Prop
  | none, none => True
  | some (i, a), some (j, v) => i = j ∧ VR μ a v
  | _, _ => False
theorem findA_sound {d : TypeDesc} {x : AV} {u : Value} (hk : keyOk d x = true) (hx : VR μ x u) : ∀ {l : List (AV × AV)} {es : List MapEntry} {i : Nat} {r : Option (Nat × AV)},
    VRs μ (l.map (·.1)) (es.map (·.key)) → VRs μ (l.map (·.2)) (es.map (·.val)) → findA x l i = some r →
    ∃ r', Instr.findNow d u es i = some r' ∧ FoundR μ r r' ∧ (∀ j a, r = some (j, a) → i ≤ j ∧ ∃ p, l[j - i]? = some p ∧ sameK x p.1 = some true)
  | [], es, i, r, h1, h2, h => by
    simp only [List.map_nil, VRs, List.map_eq_nil_iff] at h1
    subst h1
    simp only [findA, Option.some.injEq] at h; subst h
    exact ⟨none, rfl, trivial, fun j a e => by simp at e⟩
  | (y, v) :: l, es, i, r, h1, h2, h => by
    cases es with
    | nil => simp [VRs] at h1
    | cons e es =>
      simp only [List.map_cons, VRs, List.cons.injEq] at h1 h2
      obtain ⟨_, _, ⟨rfl, rfl⟩, hy, h1⟩ := h1
      obtain ⟨_, _, ⟨rfl, rfl⟩, hv, h2⟩ := h2
      simp only [findA] at h
      split at h
      · rename_i hs
        simp only [Option.some.injEq] at h; subst h
        refine ⟨some (i, e.val), by simp [Instr.findNow, sameK_sound hk hs hx hy], ⟨rfl, hv⟩, fun j a he => ?_⟩
        simp only [Option.some.injEq, Prod.mk.injEq] at he
        obtain ⟨rfl, rfl⟩ := he
        exact ⟨Nat.le_refl _, (y, v), by simp, hs⟩
      · rename_i hs
        obtain ⟨r', k1, k2, k3⟩ := findA_sound hk hx h1 h2 h
        refine ⟨r', by simp [Instr.findNow, sameK_sound hk hs hx hy, k1], k2, fun j a he => ?_⟩
        obtain ⟨k4, p, k5, k6⟩ := k3 j a he
        refine ⟨by omega, p, ?_, k6⟩
        rw [show j - i = (j - (i + 1)) + 1 by omega]
        simpa using k5
      · simp at h

theorem run_checkKey {kt : TypeId} {d : TypeDesc} (hd : P.underlying kt = some d) {x : AV} (hk : keyOk d x = true) {u : Value} (hx : VR μ x u) (e : Bool) (n : Nat) (w : World) : (Instr.checkKey e (n + 1) kt u).run P w = .ok () w := by
  unfold keyOk at hk
  split at hk
  · simp only [VR] at hx; subst hx; simp [Instr.checkKey, run_underlying hd]
  · simp only [VR] at hx; subst hx; simp [Instr.checkKey, run_underlying hd]
  · simp only [VR] at hx; subst hx; simp [Instr.checkKey, run_underlying hd]
  · simp at hk
theorem run_findKey {kt : TypeId} {d : TypeDesc} (hd : P.underlying kt = some d) {u : Value} {es : List MapEntry} {r : Option (Nat × Value)} (h : Instr.findNow d u es 0 = some r) (w : World) : (Instr.findKey kt u es).run P w = .ok r w := by
  simp [Instr.findKey, run_underlying hd, h]
theorem run_getMap {r : Nat} {es : Array MapEntry} {ck : Nat} (h : w.heap[r]? = some (.map es ck)) : (getObj r).run P w = .ok (.map es ck) w := by
  simp [getObj, Sem.run, h]
def World.setObj' (w : World) (r : Nat) (o : Obj) : World := { w with heap := w.heap.setIfInBounds r o }
theorem run_setMap {r : Nat} {es : Array MapEntry} {ck : Nat} (h : w.heap[r]? = some (.map es ck)) (o : Obj) : (setObj r o).run P w = .ok () (World.setObj' w r o) := by
  simp [setObj, Sem.run, h, World.setObj']
theorem setObj'_self {r : Nat} {o o' : Obj} (h : w.heap[r]? = some o) : (World.setObj' w r o').heap[r]? = some o' := by
  have := lt_of_heap h
  simp [World.setObj', this]
theorem setObj'_ne {r k : Nat} {o' : Obj} (h : k ≠ r) : (World.setObj' w r o').heap[k]? = w.heap[k]? := by
  simp only [World.setObj']
  rw [Array.getElem?_setIfInBounds, if_neg (fun e => h e.symm)]
theorem below_setObj {B : Nat} {a : World} (h : Below B a w) {r : Nat} (hr : B ≤ r) (o : Obj) : Below B a (World.setObj' w r o) :=
  ⟨h.os, h.tape, h.output, by simpa [World.setObj'] using h.size, fun k hk => by rw [setObj'_ne (by omega)]; exact h.block k hk⟩

theorem mapT_sound {t : TypeId} {x : AV} {kt et : TypeId} (h : mapT P t x = some (kt, et)) : P.underlying t = some (.map kt et) ∧ ∃ d, P.underlying kt = some d ∧ keyOk d x = true := by
  unfold mapT at h
  split at h
  · rename_i k e hd
    split at h
    · rename_i d hk
      split at h
      · rename_i hok
        simp only [Option.some.injEq, Prod.mk.injEq] at h
        obtain ⟨rfl, rfl⟩ := h
        exact ⟨hd, d, hk, hok⟩
      · simp at h
    · simp at h
  · simp at h

/-- a map's entries are changed -/
theorem Rel.setMap (h : Rel P w0 H μ w) {b : Nat} {l l' : List (AV × AV)} (hb : H.get b = some (.map l)) {L : Loc} (hL : μ b = some L) {es : Array MapEntry} {ck : Nat} (hm : MapR μ l' es) (hge : w0.heap.size ≤ L.c) {o : Obj} (ho : w.heap[L.c]? = some o) :
    Rel P w0 (H.set b (.map l')) μ (World.setObj' w L.c (.map es ck)) :=
  h.change hb rfl hL (below_setObj h.below hge _) (fun k hk _ => setObj'_ne hk) ⟨L, es, ck, hL, setObj'_self ho, hm, hge⟩

theorem MapR.set {l : List (AV × AV)} {es : Array MapEntry} (h : MapR μ l es) (i : Nat) {x v : AV} {u z : Value} (hx : VR μ x u) (hv : VR μ v z) : MapR μ (l.set i (x, v)) (es.modify i fun e => { e with key := u, val := z }) := by
  have e1 : ((es.modify i fun e => { e with key := u, val := z }).toList.map (·.key)) = (es.toList.map (·.key)).set i u := by
    apply List.ext_getElem?
    intro j
    rw [List.getElem?_map, Array.getElem?_toList, Array.getElem?_modify, List.getElem?_set, List.getElem?_map, Array.getElem?_toList]
    by_cases hij : i = j
    · subst hij
      simp only [if_true]
      by_cases hlt : i < es.size
      · simp [hlt]
      · simp [hlt]
    · simp [hij]
  have e2 : ((es.modify i fun e => { e with key := u, val := z }).toList.map (·.val)) = (es.toList.map (·.val)).set i z := by
    apply List.ext_getElem?
    intro j
    rw [List.getElem?_map, Array.getElem?_toList, Array.getElem?_modify, List.getElem?_set, List.getElem?_map, Array.getElem?_toList]
    by_cases hij : i = j
    · subst hij
      simp only [if_true]
      by_cases hlt : i < es.size
      · simp [hlt]
      · simp [hlt]
    · simp [hij]
  refine ⟨?_, ?_⟩
  · rw [e1, List.map_set]; exact h.1.set i hx
  · rw [e2, List.map_set]; exact h.2.set i hv
theorem MapR.push {l : List (AV × AV)} {es : Array MapEntry} (h : MapR μ l es) {x v : AV} {u z : Value} (hx : VR μ x u) (hv : VR μ v z) (n : Nat) : MapR μ (l ++ [(x, v)]) (es.push { key := u, val := z, born := n }) := by
  refine ⟨?_, ?_⟩
  · rw [List.map_append, Array.toList_push, List.map_append]
    exact h.1.append (by simp only [List.map_cons, List.map_nil, VRs]; exact ⟨u, [], rfl, hx, rfl⟩)
  · rw [List.map_append, Array.toList_push, List.map_append]
    exact h.2.append (by simp only [List.map_cons, List.map_nil, VRs]; exact ⟨z, [], rfl, hv, rfl⟩)
theorem VRs.eraseIdx : ∀ {l : List AV} {vs : List Value} (i : Nat), VRs μ l vs → VRs μ (l.eraseIdx i) (vs.eraseIdx i)
  | [], _, i, h => by simp only [VRs] at h; subst h; simp [VRs]
  | a :: l, _, 0, h => by
    simp only [VRs] at h
    obtain ⟨u, us, rfl, _, h3⟩ := h
    simpa using h3
  | a :: l, _, i + 1, h => by
    simp only [VRs] at h
    obtain ⟨u, us, rfl, h2, h3⟩ := h
    simp only [List.eraseIdx_cons_succ, VRs]
    exact ⟨u, _, rfl, h2, VRs.eraseIdx i h3⟩
theorem MapR.erase {l : List (AV × AV)} {es : Array MapEntry} (h : MapR μ l es) (i : Nat) : MapR μ (l.eraseIdx i) (es.eraseIdxIfInBounds i) := by
  have ht : (es.eraseIdxIfInBounds i).toList = es.toList.eraseIdx i := by
    unfold Array.eraseIdxIfInBounds
    split
    · simp
    · rename_i hge
      rw [List.eraseIdx_of_length_le (by simp; omega)]
  have e0 : ∀ {α β : Type} (f : α → β) (l : List α) (i : Nat), (l.eraseIdx i).map f = (l.map f).eraseIdx i := by
    intro α β f l
    induction l with
    | nil => intro i; simp
    | cons a l ih => intro i; cases i <;> simp [ih]
  refine ⟨?_, ?_⟩
  · rw [ht, e0, e0]; exact VRs.eraseIdx i h.1
  · rw [ht, e0, e0]; exact VRs.eraseIdx i h.2

theorem updA_sound (hR : Rel P w0 H μ w) {t : TypeId} {m k v : AV} {H' : AH} (h : updA P t m k v H = some H') {um uk uv : Value} (hm : VR μ m um) (hk : VR μ k uk) (hv : VR μ v uv) :
    ∃ w', (Instr.mapUpdate t um uk uv).run P w = .ok () w' ∧ Rel P w0 H' μ w' := by
  unfold updA at h
  split at h
  · rename_i p b hmt
    obtain ⟨kt, et⟩ := p
    obtain ⟨hd, d, hkd, hok⟩ := mapT_sound hmt
    split at h
    · rename_i l hb
      simp only [Option.map_eq_some_iff] at h
      obtain ⟨l', hl', rfl⟩ := h
      simp only [VR] at hm
      obtain ⟨L, h1, rfl⟩ := hm
      obtain ⟨L', es, ck, g1, g2, g3, g4⟩ := hR.blk b _ hb
      rw [h1] at g1; simp only [Option.some.injEq] at g1; subst g1
      unfold mapPut at hl'
      split at hl'
      · rename_i i a hf
        simp only [Option.some.injEq] at hl'; subst hl'
        obtain ⟨r', k1, k2, k3⟩ := findA_sound hok hk g3.1 g3.2 hf
        cases r' with
        | none => exact k2.elim
        | some r' =>
          obtain ⟨j, z⟩ := r'
          obtain ⟨rfl, k2⟩ := k2
          obtain ⟨_, p, k5, k6⟩ := k3 _ _ rfl
          simp only [Nat.sub_zero] at k5
          obtain ⟨q, hq1, hq2⟩ := g3.1.get i p.1 (by rw [List.getElem?_map, k5]; rfl)
          rw [List.getElem?_map, Array.getElem?_toList] at hq1
          have hbits : ∀ (old : Value), ((es[i]?).map (·.key)).getD uk = old → Instr.sameBits 10000 old uk = true := by
            intro old ho
            subst ho
            rw [hq1]
            exact sameK_bits k6 hk hq2 _
          refine ⟨World.setObj' w L.c (.map (es.modify i fun e => { e with key := uk, val := uv }) ck), ?_, hR.setMap hb h1 (g3.set i hk hv) g4 g2⟩
          have hkeep : (Instr.keyThatStays (((es[i]?).map (·.key)).getD uk) uk).run P w = .ok uk w := by
            unfold Instr.keyThatStays
            rw [if_pos (hbits _ rfl)]; rfl
          simp only [Instr.mapUpdate, Sem.run_bind, run_underlying hd, Result.andThen_ok, run_getMap g2, run_checkKey hkd hok hk false 9999 w, run_findKey hkd k1, hkeep, run_setMap g2]
      · rename_i hf
        simp only [Option.some.injEq] at hl'; subst hl'
        obtain ⟨r', k1, k2, k3⟩ := findA_sound hok hk g3.1 g3.2 hf
        cases r' with
        | some r' => exact k2.elim
        | none =>
          refine ⟨World.setObj' w L.c (.map (es.push { key := uk, val := uv, born := ck }) (ck + 1)), ?_, hR.setMap hb h1 (g3.push hk hv ck) g4 g2⟩
          simp only [Instr.mapUpdate, Sem.run_bind, run_underlying hd, Result.andThen_ok, run_getMap g2, run_checkKey hkd hok hk false 9999 w, run_findKey hkd k1, run_setMap g2]
      · simp at hl'
    · simp at h
  · simp at h
end
end Go.Ev

/- One operation of the evaluator is the machine's. -/
namespace Go.Ev
open Go Go.RowKit
set_option linter.unusedSimpArgs false
set_option linter.unusedVariables false

section
variable {P : Program} {w0 : World} {H : AH} {μ : Mu} {w : World}

theorem zeroV_sound {t : TypeId} {z : AV} (h : zeroV P t = some z) (w : World) : ∃ v, (zeroValue t).run P w = .ok v w ∧ VR μ z v := by
  unfold zeroV at h
  simp only [Option.bind_eq_some_iff] at h
  obtain ⟨i, hi, v, hv, hz⟩ := h
  exact ⟨v, run_zeroValue hi hv w, cv_sound hz⟩

theorem lookA_sound (hR : Rel P w0 H μ w) {t : TypeId} {m k r : AV} {ok : Bool} (h : lookA P t m k H ok = some r) {um uk : Value} (hm : VR μ m um) (hk : VR μ k uk) :
    ∃ z, (Instr.lookup t um uk ok).run P w = .ok z w ∧ VR μ r z := by
  unfold lookA at h
  split at h
  · rename_i kt et hmt
    obtain ⟨hd, d, hkd, hok⟩ := mapT_sound hmt
    simp only at h
    split at h
    · rename_i l hl
      have key : ∃ es : Array MapEntry, MapR μ l es ∧ ((um = .map none ∧ es = #[]) ∨ ∃ r ck, um = .map (some r) ∧ (getObj r).run P w = .ok (.map es ck) w) := by
        split at hl
        · simp only [Option.some.injEq] at hl; subst hl
          simp only [VR] at hm; subst hm
          exact ⟨#[], by simp [MapR, VRs], .inl ⟨rfl, rfl⟩⟩
        · rename_i b
          simp only [VR] at hm
          obtain ⟨L, h1, rfl⟩ := hm
          split at hl
          · rename_i l2 hb
            simp only [Option.some.injEq] at hl; subst hl
            obtain ⟨L', es, ck, g1, g2, g3, g4⟩ := hR.blk b _ hb
            rw [h1] at g1; simp only [Option.some.injEq] at g1; subst g1
            exact ⟨es, g3, .inr ⟨_, ck, rfl, run_getMap g2⟩⟩
          · simp at hl
        · simp at hl
      obtain ⟨es, g3, hes⟩ := key
      have hck : ∀ e, (Instr.checkKey e 10000 kt uk).run P w = .ok () w := fun e => run_checkKey hkd hok hk e 9999 w
      split at h
      · rename_i i v hf
        simp only [Option.some.injEq] at h; subst h
        obtain ⟨r', k1, k2, _⟩ := findA_sound hok hk g3.1 g3.2 hf
        cases r' with
        | none => exact k2.elim
        | some r' =>
          obtain ⟨j, z⟩ := r'
          obtain ⟨rfl, k2⟩ := k2
          refine ⟨if ok then .tuple #[z, .bool true] else z, ?_, ?_⟩
          · rcases hes with ⟨rfl, rfl⟩ | ⟨q, ck, rfl, hq⟩
            · simp only [Instr.lookup, Sem.run_bind, run_underlying hd, Result.andThen_ok, Sem.run_pure, hck, run_findKey hkd k1]
            · simp only [Instr.lookup, Sem.run_bind, run_underlying hd, Result.andThen_ok, Sem.run_pure, hq, hck, run_findKey hkd k1]
          · cases ok
            · simpa using k2
            · simp only [if_true, VR]
              exact ⟨_, rfl, by simp only [VRs]; exact ⟨z, _, rfl, k2, .bool true, [], rfl, by simp [VR], rfl⟩⟩
      · rename_i hf
        obtain ⟨r', k1, k2, _⟩ := findA_sound hok hk g3.1 g3.2 hf
        cases r' with
        | some r' => exact k2.elim
        | none =>
          split at h
          · rename_i z hz
            simp only [Option.some.injEq] at h; subst h
            obtain ⟨v, hv1, hv2⟩ := zeroV_sound (μ := μ) hz w
            refine ⟨if ok then .tuple #[v, .bool false] else v, ?_, ?_⟩
            · rcases hes with ⟨rfl, rfl⟩ | ⟨q, ck, rfl, hq⟩
              · simp only [Instr.lookup, Sem.run_bind, run_underlying hd, Result.andThen_ok, Sem.run_pure, hck, run_findKey hkd k1, hv1]
              · simp only [Instr.lookup, Sem.run_bind, run_underlying hd, Result.andThen_ok, Sem.run_pure, hq, hck, run_findKey hkd k1, hv1]
            · cases ok
              · simpa using hv2
              · simp only [if_true, VR]
                exact ⟨_, rfl, by simp only [VRs]; exact ⟨v, _, rfl, hv2, .bool false, [], rfl, by simp [VR], rfl⟩⟩
          · simp at h
      · simp at h
    · simp at h
  · simp at h

theorem delA_sound (hR : Rel P w0 H μ w) {t : TypeId} {m k : AV} {H' : AH} (h : delA P t m k H = some H') {um uk : Value} (hm : VR μ m um) (hk : VR μ k uk) (ats : Array TypeId) (ha : ats[0]? = some t) (ty : TypeId) :
    Does P w0 μ H' ((Builtin.delete_ ats ty #[um, uk]).run P w) U := by
  have hU : VR μ U (.tuple #[]) := by simp only [U, VR]; exact ⟨#[], rfl, by simp [VRs]⟩
  unfold delA at h
  split at h
  · rename_i p hmt
    obtain ⟨kt, et⟩ := p
    obtain ⟨hd, d, hkd, hok⟩ := mapT_sound hmt
    simp only [Option.some.injEq] at h; subst h
    simp only [VR] at hm; subst hm
    have hck : (Instr.checkKey true 10000 kt uk).run P w = .ok () w := run_checkKey hkd hok hk true 9999 w
    refine ⟨.tuple #[], w, μ, ?_, Ext.refl _, hR, hU⟩
    have e0 : (#[Value.map none, uk] : Array Value)[0]? = some (.map none) := rfl
    have e1 : (#[Value.map none, uk] : Array Value)[1]? = some uk := rfl
    simp only [Builtin.delete_, ha, e0, e1, Sem.run_bind, run_underlying hd, Result.andThen_ok, hck, Sem.run_pure]
  · rename_i p b hmt
    obtain ⟨kt, et⟩ := p
    obtain ⟨hd, d, hkd, hok⟩ := mapT_sound hmt
    split at h
    · rename_i l hb
      simp only [VR] at hm
      obtain ⟨L, h1, rfl⟩ := hm
      obtain ⟨L', es, ck, g1, g2, g3, g4⟩ := hR.blk b _ hb
      rw [h1] at g1; simp only [Option.some.injEq] at g1; subst g1
      have hck : ∀ e, (Instr.checkKey e 10000 kt uk).run P w = .ok () w := fun e => run_checkKey hkd hok hk e 9999 w
      split at h
      · rename_i i v hf
        simp only [Option.some.injEq] at h; subst h
        obtain ⟨r', k1, k2, _⟩ := findA_sound hok hk g3.1 g3.2 hf
        cases r' with
        | none => exact k2.elim
        | some r' =>
          obtain ⟨j, z⟩ := r'
          obtain ⟨rfl, k2⟩ := k2
          refine ⟨.tuple #[], World.setObj' w L.c (.map (es.eraseIdxIfInBounds i) ck), μ, ?_, Ext.refl _, hR.setMap hb h1 (g3.erase i) g4 g2, hU⟩
          have e0 : (#[Value.map (some L.c), uk] : Array Value)[0]? = some (.map (some L.c)) := rfl
          have e1 : (#[Value.map (some L.c), uk] : Array Value)[1]? = some uk := rfl
          simp only [Builtin.delete_, ha, e0, e1, Sem.run_bind, run_underlying hd, Result.andThen_ok, run_getMap g2, hck, run_findKey hkd k1, run_setMap g2, Sem.run_pure]
      · rename_i hf
        simp only [Option.some.injEq] at h; subst h
        obtain ⟨r', k1, k2, _⟩ := findA_sound hok hk g3.1 g3.2 hf
        cases r' with
        | some r' => exact k2.elim
        | none =>
          have hs := hR.setMap (l' := l) (ck := ck) hb h1 g3 g4 g2
          rw [AH.set_same H b _ hb] at hs
          refine ⟨.tuple #[], World.setObj' w L.c (.map es ck), μ, ?_, Ext.refl _, hs, hU⟩
          have e0 : (#[Value.map (some L.c), uk] : Array Value)[0]? = some (.map (some L.c)) := rfl
          have e1 : (#[Value.map (some L.c), uk] : Array Value)[1]? = some uk := rfl
          simp only [Builtin.delete_, ha, e0, e1, Sem.run_bind, run_underlying hd, Result.andThen_ok, run_getMap g2, hck, run_findKey hkd k1, run_setMap g2, Sem.run_pure]
      · simp at h
    · simp at h
  · simp at h

theorem foldA_mx : ∀ {l : List AV} {a r : AV}, foldA mx2 a l = some r → ∀ {u : Value} {vs : List Value}, VR μ a u → VRs μ l vs → ∃ z, (vs.foldlM Builtin.max2 u).run P w = .ok z w ∧ VR μ r z
  | [], a, r, h, u, vs, ha, hl => by
    simp only [foldA, Option.some.injEq] at h; subst h
    simp only [VRs] at hl; subst hl
    exact ⟨u, rfl, ha⟩
  | b :: l, a, r, h, u, vs, ha, hl => by
    simp only [VRs] at hl
    obtain ⟨x, xs, rfl, hx, hxs⟩ := hl
    simp only [foldA] at h
    split at h
    · rename_i c hc
      unfold mx2 at hc
      split at hc
      · simp only [Option.some.injEq] at hc; subst hc
        simp only [VR] at ha hx; subst ha; subst hx
        obtain ⟨z, h1, h2⟩ := foldA_mx h (by simp only [VR]; rfl) hxs
        refine ⟨z, ?_, h2⟩
        simp only [List.foldlM_cons, Sem.run_bind, Builtin.max2, Sem.run_pure, Result.andThen_ok]
        exact h1
      · simp at hc
    · simp at h
theorem foldA_mn : ∀ {l : List AV} {a r : AV}, foldA mn2 a l = some r → ∀ {u : Value} {vs : List Value}, VR μ a u → VRs μ l vs → ∃ z, (vs.foldlM Builtin.min2 u).run P w = .ok z w ∧ VR μ r z
  | [], a, r, h, u, vs, ha, hl => by
    simp only [foldA, Option.some.injEq] at h; subst h
    simp only [VRs] at hl; subst hl
    exact ⟨u, rfl, ha⟩
  | b :: l, a, r, h, u, vs, ha, hl => by
    simp only [VRs] at hl
    obtain ⟨x, xs, rfl, hx, hxs⟩ := hl
    simp only [foldA] at h
    split at h
    · rename_i c hc
      unfold mn2 at hc
      split at hc
      · simp only [Option.some.injEq] at hc; subst hc
        simp only [VR] at ha hx; subst ha; subst hx
        obtain ⟨z, h1, h2⟩ := foldA_mn h (by simp only [VR]; rfl) hxs
        refine ⟨z, ?_, h2⟩
        simp only [List.foldlM_cons, Sem.run_bind, Builtin.min2, Sem.run_pure, Result.andThen_ok]
        exact h1
      · simp at hc
    · simp at h

theorem arr_of {vs : Array Value} {l : List Value} (h : vs.toList = l) : vs = l.toArray := by subst h; simp
theorem builtA_sound (hR : Rel P w0 H μ w) {b : Builtin} {ats : Array TypeId} {xs : List AV} {r : AV} {H' : AH} (h : builtA P b ats.toList xs H = some (r, H')) {vs : Array Value} (hv : VRs μ xs vs.toList) (ty : TypeId) (cs : Array Bool) :
    Does1 P w0 μ H' ((builtin b ats ty cs vs).run P w) r := by
  unfold builtA at h
  split at h
  · rename_i t x hat
    simp only [Option.map_eq_some_iff, Prod.mk.injEq] at h
    obtain ⟨r', hr, rfl, rfl⟩ := h
    simp only [VRs] at hv
    obtain ⟨u, us, he, hx, rfl⟩ := hv
    obtain rfl := arr_of he
    have hat' : ats = #[t] := by rw [← Array.toArray_toList (xs := ats), hat]
    subst hat'
    exact Does1.of (Does.same hR (lenA_sound hR hr hx ty))
  · rename_i t tx s x hat
    simp only [VRs] at hv
    obtain ⟨u, us, he, hs, u2, us2, rfl, hx, rfl⟩ := hv
    obtain rfl := arr_of he
    have hat' : ats = #[t, tx] := by rw [← Array.toArray_toList (xs := ats), hat]
    subst hat'
    split at h
    · rename_i hi
      exact Does1.of (appZ_sound hR hi h hs hx ty)
    · exact Does1.of (appA_sound hR h hs hx ty)
  · rename_i x l
    simp only [Option.map_eq_some_iff, Prod.mk.injEq] at h
    obtain ⟨r', hr, rfl, rfl⟩ := h
    simp only [VRs] at hv
    obtain ⟨u, us, he, hx, hl⟩ := hv
    refine Does1.of (Does.same hR ?_)
    obtain ⟨z, h1, h2⟩ := foldA_mn (P := P) (w := w) hr hx hl
    exact ⟨z, by simp only [Builtin.min_, he]; exact h1, h2⟩
  · rename_i x l
    simp only [Option.map_eq_some_iff, Prod.mk.injEq] at h
    obtain ⟨r', hr, rfl, rfl⟩ := h
    simp only [VRs] at hv
    obtain ⟨u, us, he, hx, hl⟩ := hv
    refine Does1.of (Does.same hR ?_)
    obtain ⟨z, h1, h2⟩ := foldA_mx (P := P) (w := w) hr hx hl
    exact ⟨z, by simp only [Builtin.max_, he]; exact h1, h2⟩
  · rename_i t ts m k hat
    simp only [Option.map_eq_some_iff, Prod.mk.injEq] at h
    obtain ⟨H2, hr, rfl, rfl⟩ := h
    simp only [VRs] at hv
    obtain ⟨u, us, he, hm, u2, us2, rfl, hk, rfl⟩ := hv
    obtain rfl := arr_of he
    exact Does1.of (delA_sound hR hr hm hk ats (by rw [← Array.getElem?_toList, hat]; rfl) ty)
  · simp at h
end
end Go.Ev

/- One operation of the evaluator that calls no function is the machine's. -/
namespace Go.Ev
open Go Go.RowKit
set_option linter.unusedSimpArgs false
set_option linter.unusedVariables false

section
variable {P : Program} {w0 : World} {H : AH} {μ : Mu} {w : World}

/-- what a slot or constant holds stands for what the machine's does -/
def OR (μ : Mu) (τ : Tm) (a : Act) (x : Operand) : Prop := ∀ v, opnd τ x = some v → VR μ v (a.eval x)
theorem okOp2 {τ : Tm} {a : Act} {x y : Operand} {op : Op} (h : ∀ z ∈ op.operands.toList, OR μ τ a z) (he : op.operands.toList = [x, y]) : OR μ τ a x ∧ OR μ τ a y := by
  rw [he] at h; exact ⟨h x (by simp), h y (by simp)⟩
theorem okOp1 {τ : Tm} {a : Act} {x : Operand} {op : Op} (h : ∀ z ∈ op.operands.toList, OR μ τ a z) (he : op.operands.toList = [x]) : OR μ τ a x := by
  rw [he] at h; exact h x (by simp)
theorem okOp3 {τ : Tm} {a : Act} {x y z : Operand} {op : Op} (h : ∀ z ∈ op.operands.toList, OR μ τ a z) (he : op.operands.toList = [x, y, z]) : OR μ τ a x ∧ OR μ τ a y ∧ OR μ τ a z := by
  rw [he] at h; exact ⟨h x (by simp), h y (by simp), h z (by simp)⟩

theorem opndL_sound {τ : Tm} {a : Act} : ∀ {l : List Operand} {xs : List AV}, (∀ z ∈ l, OR μ τ a z) → opndL τ l = some xs → VRs μ xs (l.map a.eval)
  | [], xs, _, h => by simp [opndL] at h; subst h; simp [VRs]
  | x :: l, xs, hok, h => by
    simp only [opndL] at h
    split at h
    · rename_i v r hv hr
      simp only [Option.some.injEq] at h; subst h
      simp only [List.map_cons, VRs]
      exact ⟨_, _, rfl, hok x (by simp) v hv, opndL_sound (fun z hz => hok z (by simp [hz])) hr⟩
    · simp at h
theorem opndP_sound {τ : Tm} {a : Act} : ∀ {l : List (Nat × Operand)} {xs : List (Nat × AV)}, (∀ z ∈ l.map (·.2), OR μ τ a z) → opndP τ l = some xs → PartsR μ xs (l.map fun (i, x) => (i, a.eval x))
  | [], xs, _, h => by simp [opndP] at h; subst h; simp [PartsR]
  | (i, x) :: l, xs, hok, h => by
    simp only [opndP] at h
    split at h
    · rename_i v r hv hr
      simp only [Option.some.injEq] at h; subst h
      simp only [List.map_cons, PartsR]
      exact ⟨_, _, rfl, hok x (by simp) v hv, opndP_sound (fun z hz => hok z (by simp only [List.map_cons, List.mem_cons]; exact .inr hz)) hr⟩
    · simp at h
theorem opndO_sound {τ : Tm} {a : Act} {x : Option Operand} (hok : ∀ z ∈ x.toArray.toList, OR μ τ a z) {r : Option AV} (h : opndO τ x = some r) : BR μ (some r) (x.map a.eval) := by
  cases x with
  | none => simp [opndO] at h; subst h; simp [BR]
  | some x =>
    simp [opndO] at h
    obtain ⟨v, hv, rfl⟩ := h
    simp only [Option.map_some, BR]
    exact hok x (by simp) v hv

set_option maxHeartbeats 8000000 in
theorem evOp_sound (hR : Rel P w0 H μ w) {τ : Tm} {a : Act} (o : Oper) (hok : ∀ z ∈ o.op.operands.toList, OR μ τ a z) {r : AV} {H' : AH} (h : evOp P o.op τ H = some (r, H')) :
    Does1 P w0 μ H' ((execOp a.eval o).run P w) r := by
  obtain ⟨dst, op, ty, pos, after, guard⟩ := o
  cases op with
  | move x =>
    simp only [evOp, Option.map_eq_some_iff, Prod.mk.injEq] at h
    obtain ⟨v, hv, rfl, rfl⟩ := h
    exact Does1.val hR (okOp1 hok rfl _ hv)
  | assign x =>
    simp only [evOp, Option.map_eq_some_iff, Prod.mk.injEq] at h
    obtain ⟨v, hv, rfl, rfl⟩ := h
    exact Does1.val hR (okOp1 hok rfl _ hv)
  | pick c x y =>
    obtain ⟨k1, k2, k3⟩ := okOp3 hok rfl
    simp only [evOp] at h
    split at h
    · rename_i q hq
      simp only [Option.map_eq_some_iff, Prod.mk.injEq] at h
      obtain ⟨v, hv, rfl, rfl⟩ := h
      have hc := k1 _ hq
      simp only [VR] at hc
      have : (execOp a.eval ⟨dst, .pick c x y, ty, pos, after, guard⟩).run P w = .ok (.value (if q then a.eval x else a.eval y)) w := by
        simp [execOp, hc, asBool]
      rw [this]
      cases q
      · exact Does1.val hR (k3 _ hv)
      · exact Does1.val hR (k2 _ hv)
    · simp at h
  | alloc e =>
    simp only [evOp] at h
    split at h
    · rename_i z sz hz hs
      simp only [Option.some.injEq, Prod.mk.injEq] at h
      obtain ⟨rfl, rfl⟩ := h
      exact Does1.of (alloc_sound hR hz hs)
    · simp at h
  | box e x =>
    simp only [evOp] at h
    split at h
    · rename_i v sz hv hs
      split at h
      · rename_i h1
        simp only [Option.some.injEq, Prod.mk.injEq] at h
        obtain ⟨rfl, rfl⟩ := h
        exact Does1.of (box_sound hR hs h1 (okOp1 hok rfl _ hv))
      · simp at h
    · simp at h
  | build t parts =>
    simp only [evOp] at h
    have hok' : ∀ z ∈ parts.toList.map (·.2), OR μ τ a z := by simpa [Op.operands] using hok
    split at h
    · rename_i ps z hps hz
      have hp := opndP_sound hok' hps
      split at h
      · rename_i pl hpl
        simp only [Option.map_eq_some_iff, Prod.mk.injEq] at h
        obtain ⟨v, hv, rfl, rfl⟩ := h
        exact Does1.of (Does.same hR (build_struct_sound hpl hz hv (vs := parts.map fun (i, x) => (i, a.eval x)) (by simpa using hp) w))
      · split at h
        · rename_i n e ha
          split at h
          · rename_i sz hs
            simp only [Option.map_eq_some_iff, Prod.mk.injEq] at h
            obtain ⟨v, hv, rfl, rfl⟩ := h
            exact Does1.of (Does.same hR (build_array_sound ha hs hz hv (vs := parts.map fun (i, x) => (i, a.eval x)) (by simpa using hp) w))
          · simp at h
        · simp at h
    · simp at h
  | buildSlice t len parts =>
    simp only [evOp] at h
    have hok' : ∀ z ∈ parts.toList.map (·.2), OR μ τ a z := by simpa [Op.operands] using hok
    split at h
    · rename_i ps e hps he
      have hp := opndP_sound hok' hps
      split at h
      · rename_i sz z hs hz
        split at h
        · rename_i hc
          split at h
          · rename_i rr hr
            split at h
            · rename_i h1
              simp only [Option.some.injEq, Prod.mk.injEq] at h
              obtain ⟨rfl, rfl⟩ := h
              have hd := buildSlice_sound hR he hs hz hc.1 hc.2 hr h1 (vs := parts.map fun (i, x) => (i, a.eval x)) (by simpa using hp)
              have e : (execOp a.eval ⟨dst, .buildSlice t len parts, ty, pos, after, guard⟩) = (do pure (.value (← Instr.buildSlice t len (parts.map fun (i, x) => (i, a.eval x)))) : Sem Next) := rfl
              rw [e]; exact Does1.of hd
            · simp at h
          · simp at h
        · simp at h
      · simp at h
    · simp at h
  | load t x =>
    simp only [evOp] at h
    split at h
    · rename_i b o hx
      simp only [Option.map_eq_some_iff, Prod.mk.injEq] at h
      obtain ⟨v, hv, rfl, rfl⟩ := h
      have hp := okOp1 hok rfl _ hx
      simp only [VR] at hp
      obtain ⟨L, h1, h2⟩ := hp
      obtain ⟨z, h3, h4⟩ := ldVar_sound hR hv h1
      refine Does1.of (Does.same hR ⟨z, ?_, h4⟩)
      simp [h2, Instr.loadAt, sureAddr_run, h3]
    · simp at h
  | store t x y =>
    obtain ⟨k1, k2⟩ := okOp2 hok rfl
    simp only [evOp] at h
    split at h
    · rename_i b o v hx hy
      simp only [Option.map_eq_some_iff, Prod.mk.injEq] at h
      obtain ⟨H2, hs, rfl, rfl⟩ := h
      have hp := k1 _ hx
      simp only [VR] at hp
      obtain ⟨L, h1, h2⟩ := hp
      obtain ⟨w', h3, h4⟩ := stVar_sound hR hs h1 (k2 _ hy)
      refine Does1.unit ?_ (Ext.refl _) h4
      simp [h2, Instr.storeAt, sureAddr_run, h3]
    · simp at h
  | nilCheck x =>
    have k1 := okOp1 hok rfl
    simp only [evOp] at h
    split at h
    · rename_i b o hx
      simp only [Option.some.injEq, Prod.mk.injEq] at h
      obtain ⟨rfl, rfl⟩ := h
      have hp := k1 _ hx
      have hp' := hp
      simp only [VR] at hp'
      obtain ⟨L, h1, h2⟩ := hp'
      have : (execOp a.eval ⟨dst, .nilCheck x, ty, pos, after, guard⟩).run P w = .ok (.value (a.eval x)) w := by simp [execOp, h2]
      rw [this]; exact Does1.val hR hp
    · rename_i f fs l hx
      simp only [Option.some.injEq, Prod.mk.injEq] at h
      obtain ⟨rfl, rfl⟩ := h
      have hp := k1 _ hx
      have hp' := hp
      simp only [VR] at hp'
      obtain ⟨gs, cs, h2, _⟩ := hp'
      have : (execOp a.eval ⟨dst, .nilCheck x, ty, pos, after, guard⟩).run P w = .ok (.value (a.eval x)) w := by simp [execOp, h2]
      rw [this]; exact Does1.val hR hp
    · rename_i t v hx
      simp only [Option.some.injEq, Prod.mk.injEq] at h
      obtain ⟨rfl, rfl⟩ := h
      have hp := k1 _ hx
      have hp' := hp
      simp only [VR] at hp'
      obtain ⟨u, h2, _⟩ := hp'
      have : (execOp a.eval ⟨dst, .nilCheck x, ty, pos, after, guard⟩).run P w = .ok (.value (a.eval x)) w := by simp [execOp, h2]
      rw [this]; exact Does1.val hR hp
    · simp at h
  | binOp op t x y yt =>
    obtain ⟨k1, k2⟩ := okOp2 hok rfl
    simp only [evOp] at h
    split at h
    · rename_i u v hx hy
      simp only [Option.map_eq_some_iff, Prod.mk.injEq] at h
      obtain ⟨z, hz, rfl, rfl⟩ := h
      exact Does1.of (Does.same hR (binA_sound hz (k1 _ hx) (k2 _ hy) w))
    · simp at h
  | unOp op t x =>
    simp only [evOp] at h
    split at h
    · rename_i u hx
      simp only [Option.map_eq_some_iff, Prod.mk.injEq] at h
      obtain ⟨z, hz, rfl, rfl⟩ := h
      exact Does1.of (Does.same hR (unA_sound hz (okOp1 hok rfl _ hx) w))
    · simp at h
  | convert s d x =>
    simp only [evOp] at h
    split at h
    · rename_i u hx
      exact Does1.of (convA_sound hR h (okOp1 hok rfl _ hx))
    · simp at h
  | makeInterface t x =>
    simp only [evOp] at h
    split at h
    · simp at h
    · rename_i d u hni hd hx
      simp only [Option.some.injEq, Prod.mk.injEq] at h
      obtain ⟨rfl, rfl⟩ := h
      refine Does1.of (Does.same hR ⟨.iface t (a.eval x), ?_, by simp only [VR]; exact ⟨_, rfl, okOp1 hok rfl _ hx⟩⟩)
      cases d with
      | interface ms => exact (hni _ rfl).elim
      | _ => simp [Instr.makeInterface, run_underlying hd]
    · simp at h
  | makeFunc fn first captured =>
    cases fn with
    | func f =>
      simp only [evOp] at h
      have hok0 : ∀ z ∈ first.toList ++ captured.toList, OR μ τ a z := by simpa [Op.operands] using hok
      have hok' : (∀ z ∈ first.toList, OR μ τ a z) ∧ (∀ z ∈ captured.toList, OR μ τ a z) :=
        ⟨fun z hz => hok0 z (List.mem_append.2 (.inl hz)), fun z hz => hok0 z (List.mem_append.2 (.inr hz))⟩
      split at h
      · rename_i u v hx hy
        simp only [Option.some.injEq, Prod.mk.injEq] at h
        obtain ⟨rfl, rfl⟩ := h
        refine Does1.of (Does.same hR ⟨.func (.func f) (first.map a.eval) (captured.map a.eval), rfl, ?_⟩)
        simp only [VR]
        exact ⟨_, _, rfl, by simpa using opndL_sound hok'.1 hx, by simpa using opndL_sound hok'.2 hy⟩
      · simp at h
    | _ => simp [evOp] at h
  | makeMap t r =>
    cases r with
    | none =>
      simp only [evOp, Option.some.injEq, Prod.mk.injEq] at h
      obtain ⟨rfl, rfl⟩ := h
      refine Does1.of ⟨.map (some w.heap.size), w.alloc (.map #[] 0), muPush μ H.next ⟨w.heap.size, 0, 0, 0⟩, ?_, hR.ext _, hR.pushMap 0, by simp only [VR]; exact ⟨_, muPush_self _ _ _, rfl⟩⟩
      simp [Instr.makeMap]
    | some r => simp [evOp] at h
  | makeSlice t l c =>
    obtain ⟨k1, k2⟩ := okOp2 hok rfl
    simp only [evOp] at h
    split at h
    · rename_i kl l' kc c' e hl hc he
      split at h
      · rename_i sz by_ z hs hb hz
        split at h
        · rename_i hcc
          simp only [Option.some.injEq, Prod.mk.injEq] at h
          obtain ⟨rfl, rfl⟩ := h
          have e1 := k1 _ hl
          have e2 := k2 _ hc
          simp only [VR] at e1 e2
          have := makeSlice_sound hR he hs hb hz hcc.1 (kl := kl) (kc := kc) hcc.2.1 hcc.2.2.1 hcc.2.2.2.1 hcc.2.2.2.2
          rw [← e1, ← e2] at this
          exact Does1.of this
        · simp at h
      · simp at h
    · simp at h
  | slice t x lo hi mx =>
    cases mx with
    | some m => simp [evOp] at h
    | none =>
      have hok0 : ∀ z ∈ [x] ++ lo.toArray.toList ++ hi.toArray.toList, OR μ τ a z := by simpa [Op.operands] using hok
      have hok' : OR μ τ a x ∧ (∀ z ∈ lo.toArray.toList, OR μ τ a z) ∧ (∀ z ∈ hi.toArray.toList, OR μ τ a z) :=
        ⟨hok0 x (by simp), fun z hz => hok0 z (List.mem_append.2 (.inl (List.mem_append.2 (.inr hz)))), fun z hz => hok0 z (List.mem_append.2 (.inr hz))⟩
      simp only [evOp] at h
      split at h
      · rename_i u l hh hx hl hhh
        simp only [Option.map_eq_some_iff, Prod.mk.injEq] at h
        obtain ⟨z, hz, rfl, rfl⟩ := h
        exact Does1.of (Does.same hR (cutA_sound hR hz (hok'.1 _ hx) (opndO_sound hok'.2.1 hl) (opndO_sound hok'.2.2 hhh)))
      · simp at h
  | fieldAddr s x f =>
    simp only [evOp] at h
    split at h
    · rename_i b o off ft hx hf
      split at h
      · rename_i n hn
        split at h
        · rename_i hn0
          simp only [Option.some.injEq, Prod.mk.injEq] at h
          obtain ⟨rfl, rfl⟩ := h
          have hp := okOp1 hok rfl _ hx
          simp only [VR] at hp
          obtain ⟨L, h1, h2⟩ := hp
          refine Does1.of (Does.same hR ⟨.pointer (some ⟨L.c, L.base + o + off, none⟩), by rw [h2]; exact fieldAt_sound hf hn hn0 _ _ w, by simp only [VR]; exact ⟨L, h1, by rw [Nat.add_assoc]⟩⟩)
        · simp at h
      · simp at h
    · simp at h
  | field s x f =>
    simp only [evOp] at h
    split at h
    · rename_i l off ft hx hf
      simp only [Option.map_eq_some_iff, Prod.mk.injEq] at h
      obtain ⟨z, hz, rfl, rfl⟩ := h
      have hp := okOp1 hok rfl _ hx
      simp only [VR] at hp
      obtain ⟨cs, h1, h2⟩ := hp
      refine Does1.of (Does.same hR ?_)
      rw [h1]; exact field_sound hf hz h2 w
    · simp at h
  | indexAddr t x i =>
    obtain ⟨k1, k2⟩ := okOp2 hok rfl
    simp only [evOp] at h
    split at h
    · rename_i u v hx hy
      simp only [Option.map_eq_some_iff, Prod.mk.injEq] at h
      obtain ⟨z, hz, rfl, rfl⟩ := h
      exact Does1.of (Does.same hR (idxA_sound hz (k1 _ hx) (k2 _ hy) w))
    · simp at h
  | index t x i =>
    obtain ⟨k1, k2⟩ := okOp2 hok rfl
    simp only [evOp] at h
    split at h
    · rename_i u v hx hy
      simp only [Option.map_eq_some_iff, Prod.mk.injEq] at h
      obtain ⟨z, hz, rfl, rfl⟩ := h
      exact Does1.of (Does.same hR (indexA_sound hz (k1 _ hx) (k2 _ hy) w))
    · simp at h
  | extract x i =>
    simp only [evOp] at h
    split at h
    · rename_i l hx
      simp only [Option.map_eq_some_iff, Prod.mk.injEq] at h
      obtain ⟨z, hz, rfl, rfl⟩ := h
      have hp := okOp1 hok rfl _ hx
      simp only [VR] at hp
      obtain ⟨cs, h1, h2⟩ := hp
      obtain ⟨u, h3, h4⟩ := h2.get i z hz
      rw [Array.getElem?_toList] at h3
      refine Does1.of (Does.same hR ⟨u, ?_, h4⟩)
      simp [h1, Instr.extract, h3]
    · simp at h
  | lookup t m k ok =>
    obtain ⟨k1, k2⟩ := okOp2 hok rfl
    simp only [evOp] at h
    split at h
    · rename_i u v hx hy
      simp only [Option.map_eq_some_iff, Prod.mk.injEq] at h
      obtain ⟨z, hz, rfl, rfl⟩ := h
      exact Does1.of (Does.same hR (lookA_sound hR hz (k1 _ hx) (k2 _ hy)))
    · simp at h
  | mapUpdate t m k v =>
    obtain ⟨k1, k2, k3⟩ := okOp3 hok rfl
    simp only [evOp] at h
    split at h
    · rename_i x y z hx hy hz
      simp only [Option.map_eq_some_iff, Prod.mk.injEq] at h
      obtain ⟨H2, hs, rfl, rfl⟩ := h
      obtain ⟨w', h3, h4⟩ := updA_sound hR hs (k1 _ hx) (k2 _ hy) (k3 _ hz)
      exact Does1.unit h3 (Ext.refl _) h4
    · simp at h
  | insert t m k v =>
    obtain ⟨k1, k2, k3⟩ := okOp3 hok rfl
    simp only [evOp] at h
    split at h
    · rename_i x y z hx hy hz
      simp only [Option.map_eq_some_iff, Prod.mk.injEq] at h
      obtain ⟨H2, hs, rfl, rfl⟩ := h
      obtain ⟨w', h3, h4⟩ := updA_sound hR hs (k1 _ hx) (k2 _ hy) (k3 _ hz)
      exact Does1.unit h3 (Ext.refl _) h4
    · simp at h
  | call c =>
    obtain ⟨callee, args, ats⟩ := c
    cases callee with
    | builtin b =>
      simp only [evOp] at h
      have hok' : ∀ z ∈ args.toList, OR μ τ a z := by simpa [Op.operands, Call.operands] using hok
      split at h
      · rename_i xs hx
        have hv := opndL_sound hok' hx
        have hb := fun cs => builtA_sound hR h (vs := args.map a.eval) (by simpa using hv) ty cs
        have e : ∃ cs, (execOp a.eval ⟨dst, .call ⟨.builtin b, args, ats⟩, ty, pos, after, guard⟩).run P w = (builtin b ats ty cs (args.map a.eval)).run P w :=
          ⟨_, by simp only [execOp, resolve, invoke, Sem.run_bind, Sem.run_pure, Result.andThen_ok]; rfl⟩
        obtain ⟨cs, e⟩ := e
        rw [e]; exact hb cs
      · simp at h
    | _ => simp [evOp] at h
  | _ => simp [evOp] at h
end
end Go.Ev

/- Calls and regions of the evaluator. -/
namespace Go.Ev
open Go Go.RowKit
set_option linter.unusedSimpArgs false
set_option linter.unusedVariables false

abbrev CallF := FuncId → List AV → AH → Option (AV × AH)
section
variable (P : Program) (call : CallF)
/-- the function that a method of a dynamic type is, where its row is plain -/
def mthA (t : TypeId) (name : String) : Option FuncId := match P.info? t, P.underlying t with
  | some i, some d => match i.methods.find? (·.name == name) with
    | some m => if m.path.isEmpty then (match m.func with
      | some (f, true) => (match d with | .pointer _ => some f | _ => none)
      | some (f, false) => (match d with | .pointer _ => none | _ => some f)
      | none => none) else none
    | none => none
  | _, _ => none
def evO (o : Oper) (τ : Tm) (H : AH) : Option (AV × AH) := match o.op with
  | .call c => match c.callee with
    | .value f => match opnd τ f, opndL τ c.args.toList with
      | some (.func g fs ls), some xs => call g (fs ++ xs ++ ls) H
      | _, _ => none
    | .invoke r name => match opnd τ r, opndL τ c.args.toList with
      | some (.iface t v), some xs => match mthA P t name with
        | some g => call g (v :: xs) H
        | none => none
      | _, _ => none
    | _ => evOp P o.op τ H
  | _ => evOp P o.op τ H
def wantA (ops : Array Oper) (τ : Tm) (o : Oper) : Bool := match o.guard with
  | none => true
  | some (j, want) => match (ops[j]?).bind (·.dst) with
    | some d => match τ d with
      | .bool b => b == want
      | _ => false
    | none => false
def stepA (ops : Array Oper) (o : Oper) (τ : Tm) (H : AH) : Option (Tm × AH) :=
  if wantA ops τ o then match evO P call o τ H with
    | some (v, H') => some (put τ o.dst v, H')
    | none => none
  else some (put τ o.dst U, H)
def evOps (ops : Array Oper) : List Oper → Tm → AH → Option (Tm × AH)
  | [], τ, H => some (τ, H)
  | o :: l, τ, H => match stepA P call ops o τ H with
    | some (τ', H') => evOps ops l τ' H'
    | none => none
end

/-- What is asked of the calls: the machine's do what the evaluator's do. -/
def CallOK (P : Program) (w0 : World) (call : CallF) : Prop :=
  ∀ (f : FuncId) (args : List AV) (H : AH) (r : AV) (H' : AH) (μ : Mu) (w : World) (vs : Array Value), call f args H = some (r, H') → Rel P w0 H μ w → VRs μ args vs.toList →
    (∃ fn, P.funcs[f]? = some fn ∧ (fn.name == "runtime.NumGoroutine") = false ∧ fn.body.isNone = false) ∧
    Calls P f vs w fun e w' => ∃ v μ', e = .returned v ∧ Ext μ μ' ∧ Rel P w0 H' μ' w' ∧ VR μ' r v

section
variable {P : Program} {w0 : World} {H : AH} {μ : Mu} {w : World} {call : CallF}

theorem Does1.wp {o : Oper} {a : Act} {H' : AH} {r : AV} {K : Act → World → Prop} {Q : Exit → Act → World → Prop} (h : Does1 P w0 μ H' ((execOp a.eval o).run P w) r)
    (hK : ∀ u w' μ', Ext μ μ' → Rel P w0 H' μ' w' → VR μ' r u → K (a.put o.dst u) w') : o.wp P a w K Q := by
  obtain ⟨u, w', μ', h1 | ⟨rfl, h1⟩, h2, h3, h4⟩ := h
  · unfold Oper.wp; rw [h1]; exact hK u w' μ' h2 h3 h4
  · unfold Oper.wp; rw [h1]; exact hK undef w' μ' h2 h3 h4

theorem method_run {t : TypeId} {name : String} {f : FuncId} (h : mthA P t name = some f) (n : Nat) (v : Value) (w : World) : (method (n + 1) t v name).run P w = .ok (f, v) w := by
  unfold mthA at h
  split at h
  · rename_i i d hi hd
    split at h
    · rename_i m hm
      split at h
      · rename_i hp
        have hp' : m.path.toList = [] := by simpa using hp
        split at h
        · rename_i g hg
          split at h
          · simp only [Option.some.injEq] at h; subst h
            simp [method, typeInfo, hi, hm, hp', follow, hg, receiverAt, run_underlying hd, Place.get]
          · simp at h
        · rename_i g hg
          split at h
          · simp at h
          · rename_i hne
            simp only [Option.some.injEq] at h; subst h
            have : ∀ o, (receiverAt t (.val v) false o).run P w = .ok v w := by
              intro o
              cases d <;> simp [receiverAt, run_underlying hd, Place.get]
              rename_i e; exact (hne e rfl).elim
            simp [method, typeInfo, hi, hm, hp', follow, hg, this]
        · simp at h
      · simp at h
    · simp at h
  · simp at h
theorem evO_wp (hc : CallOK P w0 call) {o : Oper} {τ : Tm} {a : Act} (hok : ∀ z ∈ o.op.operands.toList, OR μ τ a z) {r : AV} {H' : AH} (h : evO P call o τ H = some (r, H')) (hR : Rel P w0 H μ w)
    {K : Act → World → Prop} {Q : Exit → Act → World → Prop} (hK : ∀ u w' μ', Ext μ μ' → Rel P w0 H' μ' w' → VR μ' r u → K (a.put o.dst u) w') : o.wp P a w K Q := by
  have hplain : evOp P o.op τ H = some (r, H') → o.wp P a w K Q := fun h' => (evOp_sound hR o hok h').wp hK
  unfold evO at h
  split at h
  · rename_i c hop
    split at h
    · rename_i f hcal
      split at h
      · rename_i g fs ls xs hf hxs
        obtain ⟨callee, args, ats⟩ := c
        simp only at hcal
        subst hcal
        have hok' : ∀ z ∈ [f] ++ args.toList, OR μ τ a z := by
          rw [hop] at hok; simpa [Op.operands, Call.operands] using hok
        have h1 := hok' f (by simp) _ hf
        have h2 := opndL_sound (fun z hz => hok' z (List.mem_append.2 (.inr hz))) hxs
        simp only [VR] at h1
        obtain ⟨gs, cs, h3, h4, h5⟩ := h1
        have hvs : VRs μ (fs ++ xs ++ ls) (gs ++ args.map a.eval ++ cs).toList := by
          simp only [Array.toList_append, Array.toList_map]
          exact (h4.append h2).append h5
        obtain ⟨⟨fn, k1, k2, k3⟩, k4⟩ := hc g _ H r H' μ w _ h hR hvs
        have hrun : (execOp a.eval o).run P w = .ok (.enter g (gs ++ args.map a.eval ++ cs)) w := by
          simp only [execOp, hop, resolve, h3, Deferred.ofValue, Sem.run_bind, Sem.run_pure, Result.andThen_ok, invoke, callFunc, run_program, k1, k2, k3]
          simp
        unfold Oper.wp
        rw [hrun]
        simp only [Oper.upon]
        exact k4.mono fun e w' he => by
          obtain ⟨v, μ', rfl, e1, e2, e3⟩ := he
          exact hK v w' μ' e1 e2 e3
      · simp at h
    · rename_i r name hcal
      split at h
      · rename_i t rv xs hf hxs
        split at h
        · rename_i g hg
          obtain ⟨callee, args, ats⟩ := c
          simp only at hcal
          subst hcal
          have hok' : ∀ z ∈ [r] ++ args.toList, OR μ τ a z := by
            rw [hop] at hok; simpa [Op.operands, Call.operands] using hok
          have h1 := hok' r (by simp) _ hf
          have h2 := opndL_sound (fun z hz => hok' z (List.mem_append.2 (.inr hz))) hxs
          simp only [VR] at h1
          obtain ⟨u, h3, h4⟩ := h1
          have hvs : VRs μ (rv :: xs) (#[u] ++ args.map a.eval).toList := by
            simp only [Array.toList_append, Array.toList_map]
            exact ⟨u, _, rfl, h4, h2⟩
          obtain ⟨⟨fn, k1, k2, k3⟩, k4⟩ := hc g _ H _ H' μ w _ h hR hvs
          obtain ⟨n, hn⟩ : ∃ n, P.types.size + Made.depth = n + 1 := ⟨P.types.size + Made.depth - 1, by have : 0 < Made.depth := by decide
                                                                                                        omega⟩
          have hrun : (execOp a.eval o).run P w = .ok (.enter g (#[u] ++ args.map a.eval)) w := by
            have e1 : (#[a.eval r] ++ args.map a.eval)[0]? = some (.iface t u) := by rw [h3, Array.getElem?_append_left (by simp)]; simp
            have e2 : (#[a.eval r] ++ args.map a.eval).extract 1 (#[a.eval r] ++ args.map a.eval).size = args.map a.eval := by
              apply Array.ext'
              simp
              rw [List.take_of_length_le (by simp)]
            simp only [execOp, hop, resolve, Sem.run_bind, Sem.run_pure, Result.andThen_ok, invoke, e1, e2, callMethod, run_program, hn, method_run hg, callFunc, k1, k2, k3]
            simp
          unfold Oper.wp
          rw [hrun]
          simp only [Oper.upon]
          exact k4.mono fun e w' he => by
            obtain ⟨v, μ', rfl, e1, e2, e3⟩ := he
            exact hK v w' μ' e1 e2 e3
        · simp at h
      · simp at h
    · exact hplain h
  · exact hplain h

theorem wantA_sound {ops : Array Oper} {τ : Tm} {a : Act} {o : Oper} (hg : ∀ j want, o.guard = some (j, want) → ∀ d, (ops[j]?).bind (·.dst) = some d → d < a.tmps.size ∧ ∀ v, a.tmps[d]? = some v → VR μ (τ d) v) :
    Region.wanted o (yielded ops a.tmps) = wantA ops τ o := by
  unfold Region.wanted wantA
  split
  · rename_i e; rw [e]
  · rename_i j want e
    rw [e]
    simp only [yielded]
    cases hd : (ops[j]?).bind (·.dst) with
    | none => simp
    | some d =>
      obtain ⟨h1, h2⟩ := hg j want e d hd
      have hv := h2 a.tmps[d] (by simp [h1])
      simp only [Option.bind_some]
      rw [Array.getElem?_eq_getElem h1]
      generalize a.tmps[d] = v at hv
      cases hτ : τ d <;> rw [hτ] at hv <;> simp only [VR] at hv
      case bool b => subst hv; simp
      all_goals
        (try obtain ⟨_, _, _, _, rfl, _⟩ := hv) <;> (try obtain ⟨_, _, rfl, _⟩ := hv) <;> (try obtain ⟨_, _, rfl⟩ := hv) <;> (try obtain ⟨_, rfl, _⟩ := hv) <;> (try subst hv) <;> simp

/-- the slots that a region names are there -/
def okOper (n : Nat) (o : Oper) : Bool := okOp n o.op && (match o.dst with | some d => decide (d < n) | none => true)
def okOps (n : Nat) (ops : Array Oper) : Bool := ops.toList.all (okOper n)
theorem OR.of {τ : Tm} {a : Act} (hT : TR μ τ a.tmps) {x : Operand} (hx : okO a.tmps.size x = true) : OR μ τ a x := fun v hv => opnd_sound hT hx hv
theorem OR.all {τ : Tm} {a : Act} (hT : TR μ τ a.tmps) {n : Nat} (hn : a.tmps.size = n) {o : Oper} (ho : okOper n o = true) : ∀ z ∈ o.op.operands.toList, OR μ τ a z := by
  intro z hz
  unfold okOper okOp at ho
  rw [Bool.and_eq_true, List.all_eq_true] at ho
  exact OR.of hT (by rw [hn]; exact ho.1 z hz)
theorem okOps_get {n : Nat} {ops : Array Oper} (h : okOps n ops = true) {j : Nat} {o : Oper} (hj : ops[j]? = some o) : okOper n o = true := by
  unfold okOps at h
  rw [List.all_eq_true] at h
  exact h o (by rw [← Array.getElem?_toList] at hj; exact List.mem_of_getElem? hj)
theorem okOps_dst {n : Nat} {ops : Array Oper} (h : okOps n ops = true) {j : Nat} {d : Nat} (hd : (ops[j]?).bind (·.dst) = some d) : d < n := by
  cases hj : ops[j]? with
  | none => rw [hj] at hd; simp at hd
  | some o =>
    rw [hj] at hd; simp only [Option.bind_some] at hd
    have := okOps_get h hj
    unfold okOper at this
    rw [Bool.and_eq_true, hd] at this
    simpa using this.2

/-- the machine's state is the evaluator's -/
structure St (P : Program) (w0 : World) (n : Nat) (μ : Mu) (τ : Tm) (H : AH) (a : Act) (w : World) : Prop where
  rel : Rel P w0 H μ w
  tm : TR μ τ a.tmps
  size : a.tmps.size = n
  defers : a.defers = []

theorem St.want {n : Nat} {τ : Tm} {a : Act} (h : St P w0 n μ τ H a w) {ops : Array Oper} (hok : okOps n ops = true) (o : Oper) : Region.wanted o (yielded ops a.tmps) = wantA ops τ o :=
  wantA_sound (μ := μ) fun j want _ d hd => ⟨by rw [h.size]; exact okOps_dst hok hd, fun v hv => h.tm d v hv⟩
theorem VR_U : VR μ U undef := by simp only [U, VR]; exact ⟨#[], rfl, by simp [VRs]⟩
theorem St.put {n : Nat} {τ : Tm} {a : Act} (h : St P w0 n μ τ H a w) (d : Option Nat) {μ' : Mu} {H' : AH} {w' : World} {x : AV} {u : Value} (hx : Ext μ μ') (hR : Rel P w0 H' μ' w') (hv : VR μ' x u) :
    St P w0 n μ' (Ev.put τ d x) H' (a.put d u) w' :=
  ⟨hR, (h.tm.mono hx).put d hv, by rw [put_size]; exact h.size, by rw [put_defers]; exact h.defers⟩

theorem evOps_sound (hc : CallOK P w0 call) {n : Nat} {ops : Array Oper} (hok : okOps n ops = true) {Q : Exit → Act → World → Prop} :
    ∀ {l : List Oper} {τ τ' : Tm} {H H' : AH} {μ : Mu} {a : Act} {w : World}, (∀ o ∈ l, okOper n o = true) → evOps P call ops l τ H = some (τ', H') → St P w0 n μ τ H a w →
      (∀ a' w' μ', Ext μ μ' → St P w0 n μ' τ' H' a' w' → Q .normal a' w') → wpList P ops Q l a w
  | [], τ, τ', H, H', μ, a, w, _, h, hS, hQ => by
    simp only [evOps, Option.some.injEq, Prod.mk.injEq] at h
    obtain ⟨rfl, rfl⟩ := h
    exact hQ a w μ (Ext.refl _) hS
  | o :: l, τ, τ', H, H', μ, a, w, hl, h, hS, hQ => by
    simp only [evOps] at h
    split at h
    · rename_i τ1 H1 h1
      unfold stepA at h1
      have hw := hS.want hok o
      have hol := hl o (by simp)
      have hl' : ∀ o' ∈ l, okOper n o' = true := fun o' ho' => hl o' (by simp [ho'])
      split at h1
      · rename_i hwant
        split at h1
        · rename_i v H2 hv
          simp only [Option.some.injEq, Prod.mk.injEq] at h1
          obtain ⟨rfl, rfl⟩ := h1
          unfold wpList
          rw [hw, hwant]
          simp only [if_true]
          left
          exact evO_wp hc (OR.all hS.tm hS.size hol) hv hS.rel fun u w' μ' hx hR hu =>
            evOps_sound hc hok hl' h (hS.put o.dst hx hR hu) fun a' w' μ'' hx' hS' => hQ a' w' μ'' (hx.trans hx') hS'
        · simp at h1
      · rename_i hwant
        simp only [Option.some.injEq, Prod.mk.injEq] at h1
        obtain ⟨rfl, rfl⟩ := h1
        unfold wpList
        rw [hw]
        simp only [hwant]
        exact evOps_sound hc hok hl' h (hS.put o.dst (Ext.refl _) hS.rel VR_U) hQ
    · simp at h
end
end Go.Ev

/- A region whose order is open: where its effects are ordered, and what reads beside them reads the same at each place, every order comes to what the text's order does. -/
namespace Go.Ev
open Go Go.RowKit
set_option linter.unusedSimpArgs false
set_option linter.unusedVariables false

/-- what must stand ahead of an operation, as bits -/
def maskE (acc : List Nat) : List Edge → Nat
  | [] => 0
  | e :: l => if Region.binds .any e then (2 ^ e.on ||| acc.getD e.on 0) ||| maskE acc l else maskE acc l
def masks : List Oper → List Nat → List Nat
  | [], acc => acc
  | o :: l, acc => masks l (acc ++ [maskE acc o.after.toList])
def masksOf (ops : Array Oper) : List Nat := masks ops.toList []
def bef (ops : Array Oper) (i j : Nat) : Bool := ((masksOf ops).getD j 0).testBit i

/-- operations that may change the memory -/
def isEff (P : Program) : Op → Bool
  | .move _ | .assign _ | .pick .. | .build .. | .load .. | .nilCheck _ | .binOp .. | .unOp .. | .makeInterface .. | .makeFunc .. | .slice .. | .fieldAddr .. | .field .. | .indexAddr .. | .index .. | .extract .. | .lookup .. => false
  | .call { callee := .builtin b, .. } => match b with
    | .len | .min | .max => false
    | _ => true
  | .convert _ d _ => match P.underlying d with
    | some (.slice _) => true
    | _ => false
  | _ => true
/-- operations whose value may hang on the memory -/
def isRd : Op → Bool
  | .load .. | .slice .. | .lookup .. | .convert .. => true
  | .call _ => true
  | _ => false
def namesO (ops : Array Oper) (o : Oper) : List Nat :=
  (o.op.operands.toList.filterMap fun | .tmp t => some t | _ => none) ++ o.dst.toList ++
  (match o.guard with
   | some (j, _) => ((ops[j]?).bind (·.dst)).toList
   | none => [])
def edgesOk (ops : Array Oper) : Bool := ops.toList.zipIdx.all fun (o, j) => o.after.toList.all fun e => !Region.binds .any e || decide (e.on < j)
def clash (ops : Array Oper) (x y : Oper) : Bool :=
  (match x.dst with | some d => (namesO ops y).contains d | none => false) || (match y.dst with | some d => (namesO ops x).contains d | none => false)
def pairsOk (P : Program) (ops : Array Oper) : Bool := ops.toList.zipIdx.all fun (y, j) => ops.toList.zipIdx.all fun (x, i) =>
  !decide (i < j) || (!(clash ops x y) && !(isEff P x.op && isEff P y.op)) || bef ops i j
def drawOk (P : Program) (ops : Array Oper) : Bool := edgesOk ops && pairsOk P ops

theorem masks_append : ∀ (l : List Oper) (acc : List Nat), ∃ r, masks l acc = acc ++ r ∧ r.length = l.length
  | [], acc => ⟨[], by simp [masks], rfl⟩
  | o :: l, acc => by
    obtain ⟨r, h1, h2⟩ := masks_append l (acc ++ [maskE acc o.after.toList])
    exact ⟨maskE acc o.after.toList :: r, by simp [masks, h1], by simp [h2]⟩
theorem masks_get : ∀ (l : List Oper) (acc : List Nat) (j : Nat) (o : Oper), l[j]? = some o → (masks l acc)[acc.length + j]? = some (maskE ((masks l acc).take (acc.length + j)) o.after.toList)
  | [], acc, j, o, h => by simp at h
  | x :: l, acc, 0, o, h => by
    simp at h; subst h
    obtain ⟨r, h1, h2⟩ := masks_append l (acc ++ [maskE acc x.after.toList])
    simp only [masks, h1, Nat.add_zero]
    rw [List.append_assoc, List.take_append_of_le_length (Nat.le_refl _), List.take_length]
    simp
  | x :: l, acc, j + 1, o, h => by
    have := masks_get l (acc ++ [maskE acc x.after.toList]) j o (by simpa using h)
    simp only [masks]
    rw [List.length_append, List.length_singleton] at this
    rw [show acc.length + (j + 1) = acc.length + 1 + j by omega]
    exact this
theorem maskE_bit (acc : List Nat) (i : Nat) : ∀ (l : List Edge), (maskE acc l).testBit i = true → ∃ e ∈ l, Region.binds .any e = true ∧ (e.on = i ∨ (acc.getD e.on 0).testBit i = true)
  | [], h => by simp [maskE] at h
  | e :: l, h => by
    simp only [maskE] at h
    split at h
    · rename_i hb
      rw [Nat.testBit_or, Nat.testBit_or, Bool.or_eq_true, Bool.or_eq_true] at h
      rcases h with (h | h) | h
      · rw [Nat.testBit_two_pow] at h
        exact ⟨e, by simp, hb, .inl (by simpa using h)⟩
      · exact ⟨e, by simp, hb, .inr h⟩
      · obtain ⟨e', h1, h2⟩ := maskE_bit acc i l h
        exact ⟨e', by simp [h1], h2⟩
    · obtain ⟨e', h1, h2⟩ := maskE_bit acc i l h
      exact ⟨e', by simp [h1], h2⟩
theorem bef_edge {ops : Array Oper} (he : edgesOk ops = true) {i j : Nat} (h : bef ops i j = true) : ∃ o e, ops[j]? = some o ∧ e ∈ o.after.toList ∧ Region.binds .any e = true ∧ e.on < j ∧ (e.on = i ∨ bef ops i e.on = true) := by
  unfold bef at h
  obtain ⟨r, h1, h2⟩ := masks_append ops.toList []
  have hlen : (masksOf ops).length = ops.size := by
    unfold masksOf; rw [h1]; simpa using h2
  have hj : j < ops.size := by
    rcases Nat.lt_or_ge j ops.size with hh | hh
    · exact hh
    · rw [List.getD_eq_getElem?_getD, List.getElem?_eq_none (by omega)] at h; simp at h
  have hget := masks_get ops.toList [] j ops[j] (by simp [hj])
  simp only [List.length_nil, Nat.zero_add] at hget
  have hg : (masksOf ops).getD j 0 = maskE ((masksOf ops).take j) ops[j].after.toList := by
    rw [List.getD_eq_getElem?_getD]; unfold masksOf; rw [hget]; rfl
  rw [hg] at h
  obtain ⟨e, k1, k2, k3⟩ := maskE_bit _ i _ h
  have hlt : e.on < j := by
    unfold edgesOk at he
    rw [List.all_eq_true] at he
    have := he (ops[j], j) (by rw [List.mem_zipIdx_iff_getElem?]; simp [hj])
    rw [List.all_eq_true] at this
    have := this e k1
    simpa [k2] using this
  refine ⟨ops[j], e, by simp [hj], k1, k2, hlt, ?_⟩
  rcases k3 with k3 | k3
  · exact .inl k3
  · right
    unfold bef
    rw [List.getD_eq_getElem?_getD] at k3 ⊢
    rwa [List.getElem?_take_of_lt hlt] at k3
/-- A set that holds with each operation what binds it holds all that must stand ahead. -/
theorem bef_closed {ops : Array Oper} (he : edgesOk ops = true) (S : Nat → Prop) (hS : ∀ j o, S j → ops[j]? = some o → ∀ e ∈ o.after.toList, Region.binds .any e = true → S e.on) :
    ∀ (j i : Nat), S j → bef ops i j = true → S i := by
  intro j
  induction j using Nat.strongRecOn with
  | _ j ih =>
    intro i hj hb
    obtain ⟨o, e, h1, h2, h3, h4, h5⟩ := bef_edge he hb
    have hon := hS j o hj h1 e h2 h3
    rcases h5 with rfl | h5
    · exact hon
    · exact ih e.on h4 i hon h5
theorem bef_ready {ops : Array Oper} (he : edgesOk ops = true) (S : Nat → Prop) (hS : ∀ j o, S j → ops[j]? = some o → ∀ e ∈ o.after.toList, Region.binds .any e = true → S e.on) {j : Nat} {o : Oper} (hj : ops[j]? = some o)
    (hr : ∀ e ∈ o.after.toList, Region.binds .any e = true → S e.on) {i : Nat} (hb : bef ops i j = true) : S i := by
  obtain ⟨o', e, h1, h2, h3, h4, h5⟩ := bef_edge he hb
  rw [hj] at h1; simp only [Option.some.injEq] at h1; subst h1
  have hon := hr e h2 h3
  rcases h5 with rfl | h5
  · exact hon
  · exact bef_closed he S hS e.on i hon h5
theorem pairs_of {P : Program} {ops : Array Oper} (h : pairsOk P ops = true) {i j : Nat} {x y : Oper} (hx : ops[i]? = some x) (hy : ops[j]? = some y) (hij : i < j) (hc : clash ops x y = true ∨ (isEff P x.op = true ∧ isEff P y.op = true)) : bef ops i j = true := by
  unfold pairsOk at h
  rw [List.all_eq_true] at h
  have := h (y, j) (by rw [List.mem_zipIdx_iff_getElem?]; simpa using hy)
  rw [List.all_eq_true] at this
  have := this (x, i) (by rw [List.mem_zipIdx_iff_getElem?]; simpa using hx)
  simp only [hij, decide_true, Bool.not_true, Bool.false_or, Bool.or_eq_true, Bool.and_eq_true] at this
  rcases this with ⟨h1, h2⟩ | h
  · rcases hc with hc | ⟨hc1, hc2⟩
    · rw [hc] at h1; simp at h1
    · rw [hc1, hc2] at h2; simp at h2
  · exact h
end Go.Ev

/- A region whose order is open: the evaluator's run of it, and that every order comes to it. -/
namespace Go.Ev
open Go Go.RowKit
set_option linter.unusedSimpArgs false
set_option linter.unusedVariables false

section
variable (P : Program) (call : CallF)
/-- the states ahead of each operation, and behind the last -/
def evHist (ops : Array Oper) : List Oper → Tm → AH → Option (List (Tm × AH))
  | [], τ, H => some [(τ, H)]
  | o :: l, τ, H => match stepA P call ops o τ H with
    | some (τ', H') => match evHist ops l τ' H' with
      | some r => some ((τ, H) :: r)
      | none => none
    | none => none
end
def effAt (P : Program) (ops : Array Oper) (j : Nat) : Bool := match ops[j]? with | some o => isEff P o.op | none => false
def rdAt (P : Program) (ops : Array Oper) (j : Nat) : Bool := match ops[j]? with | some o => isRd o.op && !isEff P o.op | none => false
/-- i reads; p is a place (behind the effects ahead of p) at which it may come to stand, other than its own -/
def looseB (P : Program) (ops : Array Oper) (i p : Nat) : Bool :=
  rdAt P ops i && (p == 0 || effAt P ops (p - 1)) &&
  ((List.range ops.size).all fun j => !effAt P ops j || (if j < p then !bef ops i j else !bef ops j i)) &&
  ((List.range ops.size).any fun j => effAt P ops j && ((decide (p ≤ j) && decide (j < i)) || (decide (i ≤ j) && decide (j < p))))
def looseOf (P : Program) (ops : Array Oper) : List (Nat × Nat) :=
  (List.range ops.size).flatMap fun i => (List.range (ops.size + 1)).filterMap fun p => if looseB P ops i p then some (i, p) else none
def ObOk (P : Program) (call : CallF) (ops : Array Oper) (hs : List (Tm × AH)) (q : Nat × Nat) : Prop :=
  match hs[q.1]?, hs[q.2]?, ops[q.1]? with
  | some (τ, H), some (_, Hp), some o => wantA ops τ o = true → evO P call o τ Hp = (evO P call o τ H).map fun r => (r.1, Hp)
  | _, _, _ => False
open Classical in
noncomputable def evDraw (P : Program) (call : CallF) (ops : Array Oper) (τ : Tm) (H : AH) : Option (Tm × AH) :=
  if drawOk P ops = true then
    if looseOf P ops = [] then evOps P call ops ops.toList τ H
    else match evHist P call ops ops.toList τ H with
      | some hs => if ∀ q ∈ looseOf P ops, ObOk P call ops hs q then hs.getLast? else none
      | none => none
  else none

section
variable {P : Program} {w0 : World} {μ : Mu} {w : World} {call : CallF}

theorem evHist_facts {ops : Array Oper} : ∀ {l : List Oper} {τ : Tm} {H : AH} {hs : List (Tm × AH)}, evHist P call ops l τ H = some hs →
    hs.length = l.length + 1 ∧ hs[0]? = some (τ, H) ∧ ∀ k o, l[k]? = some o → ∃ τ1 H1 τ2 H2, hs[k]? = some (τ1, H1) ∧ hs[k + 1]? = some (τ2, H2) ∧ stepA P call ops o τ1 H1 = some (τ2, H2)
  | [], τ, H, hs, h => by
    simp only [evHist, Option.some.injEq] at h; subst h
    exact ⟨rfl, rfl, fun k o hk => by simp at hk⟩
  | o :: l, τ, H, hs, h => by
    simp only [evHist] at h
    split at h
    · rename_i τ' H' hst
      split at h
      · rename_i r hr
        simp only [Option.some.injEq] at h; subst h
        obtain ⟨h1, h2, h3⟩ := evHist_facts hr
        refine ⟨by simp [h1], rfl, fun k x hk => ?_⟩
        cases k with
        | zero => simp at hk; subst hk; exact ⟨τ, H, τ', H', rfl, by simpa using h2, hst⟩
        | succ k =>
          obtain ⟨τ1, H1, τ2, H2, e1, e2, e3⟩ := h3 k x (by simpa using hk)
          exact ⟨τ1, H1, τ2, H2, by simpa using e1, by simpa using e2, e3⟩
      · simp at h
    · simp at h
theorem evOps_hist {ops : Array Oper} : ∀ {l : List Oper} {τ : Tm} {H : AH} {r : Tm × AH}, evOps P call ops l τ H = some r → ∃ hs, evHist P call ops l τ H = some hs ∧ hs.getLast? = some r
  | [], τ, H, r, h => by
    simp only [evOps, Option.some.injEq] at h; subst h
    exact ⟨[(τ, H)], rfl, rfl⟩
  | o :: l, τ, H, r, h => by
    simp only [evOps] at h
    split at h
    · rename_i τ' H' hst
      obtain ⟨hs, h1, h2⟩ := evOps_hist h
      refine ⟨(τ, H) :: hs, by simp [evHist, hst, h1], ?_⟩
      have := (evHist_facts h1).1
      cases hs with
      | nil => simp at this
      | cons x xs => simpa using h2
    · simp at h

theorem evO_noEff {o : Oper} (hne : isEff P o.op = false) {τ : Tm} {H H' : AH} {v : AV} (h : evO P call o τ H = some (v, H')) : H' = H := by
  obtain ⟨dst, op, ty, pos, after, guard⟩ := o
  cases op <;> simp only [isEff, reduceCtorEq, Bool.true_eq_false] at hne
  case call c =>
    obtain ⟨callee, args, ats⟩ := c
    cases callee with
    | value f => simp at hne
    | invoke r m => simp at hne
    | builtin b =>
      cases b <;> simp only [reduceCtorEq, Bool.true_eq_false] at hne
      all_goals
        simp only [evO, evOp] at h
        split at h
        · unfold builtA at h
          split at h
          all_goals first
            | (simp at h; done)
            | (simp only [Option.map_eq_some_iff, Prod.mk.injEq] at h; obtain ⟨_, _, _, rfl⟩ := h; rfl)
            | contradiction
            | (simp_all; done)
        · simp at h
  case convert s d x =>
    simp only [evO, evOp] at h
    split at h
    · unfold convA at h
      split at h
      all_goals (repeat' split at h)
      all_goals first
        | (simp at h; done)
        | (simp only [Option.some.injEq, Prod.mk.injEq] at h; exact h.2.symm)
        | (rename_i hd _ _ _; simp [hd] at hne; done)
        | (simp_all; done)
    · simp at h
  case makeFunc fn f1 f2 =>
    cases fn <;> simp only [evO, evOp] at h
    all_goals (repeat' split at h)
    all_goals first
      | (simp at h; done)
      | (simp only [Option.some.injEq, Prod.mk.injEq] at h; exact h.2.symm)
  case slice t x lo hi mx =>
    cases mx <;> simp only [evO, evOp] at h
    all_goals (repeat' split at h)
    all_goals first
      | (simp at h; done)
      | (simp only [Option.map_eq_some_iff, Prod.mk.injEq] at h; obtain ⟨_, _, _, rfl⟩ := h; rfl)
  all_goals
    simp only [evO, evOp] at h
    repeat' split at h
  all_goals first
    | (simp at h; done)
    | (simp only [Option.some.injEq, Prod.mk.injEq] at h; exact h.2.symm)
    | (simp only [Option.map_eq_some_iff, Prod.mk.injEq] at h; obtain ⟨_, _, _, rfl⟩ := h; rfl)
theorem evO_noH {o : Oper} (hne : isEff P o.op = false) (hnr : isRd o.op = false) {τ : Tm} {H : AH} {v : AV} (h : evO P call o τ H = some (v, H)) (H2 : AH) : evO P call o τ H2 = some (v, H2) := by
  obtain ⟨dst, op, ty, pos, after, guard⟩ := o
  cases op <;> simp only [isEff, isRd, reduceCtorEq, Bool.true_eq_false] at hne hnr
  case makeFunc fn f1 f2 =>
    cases fn <;> simp only [evO, evOp] at h ⊢
    all_goals (repeat' split at h)
    all_goals (simp_all; done)
  all_goals
    simp only [evO, evOp] at h ⊢
    repeat' split at h
  all_goals first
    | (simp at h; done)
    | (simp_all; done)
    | (simp only [Option.map_eq_some_iff, Prod.mk.injEq] at h; obtain ⟨_, h1, h2, _⟩ := h; simp_all; done)
end
end Go.Ev

/- Every order of a region comes to what the text's order does. -/
namespace Go.Ev
open Go Go.RowKit
set_option linter.unusedSimpArgs false
set_option linter.unusedVariables false
set_option linter.unusedSectionVars false
set_option linter.unnecessarySimpa false

/-- what an operation's value is in the run of the text -/
structure Run (P : Program) (call : CallF) (ops : Array Oper) where
  T : Nat → Tm
  G : Nat → AH
  V : Nat → AV
  step : ∀ k o, ops[k]? = some o → T (k + 1) = put (T k) o.dst (V k) ∧
    ((wantA ops (T k) o = true ∧ evO P call o (T k) (G k) = some (V k, G (k + 1))) ∨ (wantA ops (T k) o = false ∧ V k = U ∧ G (k + 1) = G k))

section
variable {P : Program} {w0 : World} {call : CallF} {ops : Array Oper}

theorem run_of {τ : Tm} {H : AH} {hs : List (Tm × AH)} (h : evHist P call ops ops.toList τ H = some hs) :
    ∃ R : Run P call ops, R.T 0 = τ ∧ R.G 0 = H ∧ hs.getLast? = some (R.T ops.size, R.G ops.size) ∧ ∀ k, k ≤ ops.size → hs[k]? = some (R.T k, R.G k) := by
  obtain ⟨h1, h2, h3⟩ := evHist_facts h
  have hlen : hs.length = ops.size + 1 := by simpa using h1
  have hget : ∀ k, k ≤ ops.size → hs[k]? = some (hs.getD k (τ, H)) := by
    intro k hk
    rw [List.getD_eq_getElem?_getD, List.getElem?_eq_getElem (by omega)]; rfl
  refine ⟨⟨fun k => (hs.getD k (τ, H)).1, fun k => (hs.getD k (τ, H)).2, fun k => match ops[k]? with
    | some o => if wantA ops (hs.getD k (τ, H)).1 o then (match evO P call o (hs.getD k (τ, H)).1 (hs.getD k (τ, H)).2 with | some (v, _) => v | none => U) else U
    | none => U, ?_⟩, ?_, ?_, ?_, ?_⟩
  · intro k o hk
    have hk' : ops.toList[k]? = some o := by simpa using hk
    have hlt : k < ops.size := by
      rcases Nat.lt_or_ge k ops.size with hh | hh
      · exact hh
      · rw [Array.getElem?_eq_none hh] at hk; simp at hk
    obtain ⟨τ1, H1, τ2, H2, e1, e2, e3⟩ := h3 k o hk'
    rw [hget k (by omega)] at e1
    rw [hget (k + 1) (by omega)] at e2
    simp only [Option.some.injEq] at e1 e2
    simp only [e1, e2, hk]
    unfold stepA at e3
    split at e3
    · rename_i hw
      rw [hw]
      split at e3
      · rename_i v H' hv
        simp only [Option.some.injEq, Prod.mk.injEq] at e3
        obtain ⟨rfl, rfl⟩ := e3
        simp only [hv, if_true]
        exact ⟨trivial, .inl ⟨trivial, trivial⟩⟩
      · simp at e3
    · rename_i hw
      simp only [Option.some.injEq, Prod.mk.injEq] at e3
      obtain ⟨rfl, rfl⟩ := e3
      simp only [hw, if_false, Bool.false_eq_true]
      exact ⟨trivial, .inr ⟨by simpa using hw, trivial, trivial⟩⟩
  · simp only [List.getD_eq_getElem?_getD, h2, Option.getD_some]
  · simp only [List.getD_eq_getElem?_getD, h2, Option.getD_some]
  · rw [List.getLast?_eq_getElem?, hlen]
    simp only [Nat.add_sub_cancel]
    exact hget _ (Nat.le_refl _)
  · intro k hk; exact hget k hk

/-- the slots behind the operations of a set -/
def TS (R : Run P call ops) (S : Nat → Bool) : Nat → Tm
  | 0 => R.T 0
  | k + 1 => if S k then put (TS R S k) ((ops[k]?).bind (·.dst)) (R.V k) else TS R S k
/-- behind which place the effects of a set end -/
def cut (P : Program) (ops : Array Oper) (S : Nat → Bool) : Nat → Nat
  | 0 => 0
  | k + 1 => if S k && effAt P ops k then k + 1 else cut P ops S k

theorem put_ne {τ : Tm} {d : Option Nat} {v : AV} {t : Nat} (h : d ≠ some t) : put τ d v t = τ t := by
  cases d with
  | none => rfl
  | some d =>
    simp only [Ev.put, upd]
    rw [if_neg]
    intro e; subst e; exact h rfl
theorem put_eq (τ : Tm) (v : AV) (t : Nat) : put τ (some t) v t = v := by simp [Ev.put, upd]
theorem Run.T_succ (R : Run P call ops) {k : Nat} (hk : k < ops.size) : R.T (k + 1) = put (R.T k) ((ops[k]?).bind (·.dst)) (R.V k) := by
  have h := (R.step k ops[k] (by simp [hk])).1
  rw [h]; simp [hk]
theorem Run.G_keep (R : Run P call ops) {p : Nat} : ∀ {i : Nat}, p ≤ i → i ≤ ops.size → (∀ j, p ≤ j → j < i → effAt P ops j = false) → R.G p = R.G i
  | 0, hp, _, _ => by have : p = 0 := by omega
                      subst this; rfl
  | i + 1, hp, hi, h => by
    by_cases he : p = i + 1
    · subst he; rfl
    · have ih := Run.G_keep R (p := p) (i := i) (by omega) (by omega) (fun j h1 h2 => h j h1 (by omega))
      rw [ih]
      have hi' : i < ops.size := by omega
      have hst := (R.step i ops[i] (by simp [hi'])).2
      rcases hst with ⟨_, hv⟩ | ⟨_, _, hg⟩
      · have hne : isEff P ops[i].op = false := by
          have := h i (by omega) (by omega)
          simpa [effAt, hi'] using this
        exact (evO_noEff hne hv).symm
      · exact hg.symm

theorem cut_le (S : Nat → Bool) : ∀ n, cut P ops S n ≤ n
  | 0 => Nat.le_refl _
  | n + 1 => by
    simp only [cut]
    split
    · exact Nat.le_refl _
    · exact Nat.le_succ_of_le (cut_le S n)
theorem cut_above (S : Nat → Bool) : ∀ n j, cut P ops S n ≤ j → j < n → ¬ (S j = true ∧ effAt P ops j = true)
  | 0, j, _, h => by omega
  | n + 1, j, h1, h2 => by
    simp only [cut] at h1
    split at h1
    · omega
    · rename_i hc
      by_cases he : j = n
      · subst he; simpa using hc
      · exact cut_above S n j h1 (by omega)
theorem cut_pos (S : Nat → Bool) : ∀ n, cut P ops S n = 0 ∨ ∃ j, cut P ops S n = j + 1 ∧ j < n ∧ S j = true ∧ effAt P ops j = true
  | 0 => .inl rfl
  | n + 1 => by
    simp only [cut]
    split
    · rename_i hc
      rw [Bool.and_eq_true] at hc
      exact .inr ⟨n, rfl, by omega, hc.1, hc.2⟩
    · rcases cut_pos S n with h | ⟨j, h1, h2, h3⟩
      · exact .inl h
      · exact .inr ⟨j, h1, by omega, h3⟩
theorem effAt_of {j : Nat} (h : effAt P ops j = true) : ∃ o, ops[j]? = some o ∧ isEff P o.op = true := by
  unfold effAt at h
  split at h
  · rename_i o ho; exact ⟨o, ho, h⟩
  · simp at h
theorem lt_of_get {j : Nat} {o : Oper} (h : ops[j]? = some o) : j < ops.size := by
  rcases Nat.lt_or_ge j ops.size with hh | hh
  · exact hh
  · rw [Array.getElem?_eq_none hh] at h; simp at h

/-- a set of operations that holds with each what binds it -/
def Closed (ops : Array Oper) (S : Nat → Bool) : Prop := ∀ j o, S j = true → ops[j]? = some o → ∀ e ∈ o.after.toList, Region.binds .any e = true → S e.on = true
def ReadyAt (ops : Array Oper) (S : Nat → Bool) (i : Nat) (o : Oper) : Prop := ops[i]? = some o ∧ S i = false ∧ ∀ e ∈ o.after.toList, Region.binds .any e = true → S e.on = true
def add (S : Nat → Bool) (i : Nat) : Nat → Bool := fun k => if k = i then true else S k

theorem names_dst {o : Oper} {d : Nat} (h : o.dst = some d) : d ∈ namesO ops o := by unfold namesO; simp [h]
theorem names_opnd {o : Oper} {t : Nat} (h : Operand.tmp t ∈ o.op.operands.toList) : t ∈ namesO ops o := by
  unfold namesO
  simp only [List.mem_append, List.mem_filterMap]
  exact .inl (.inl ⟨.tmp t, h, rfl⟩)
theorem names_guard {o : Oper} {j : Nat} {want : Bool} (h : o.guard = some (j, want)) {d : Nat} (hd : (ops[j]?).bind (·.dst) = some d) : d ∈ namesO ops o := by
  unfold namesO; simp [h, hd]
theorem clash_l {x y : Oper} {d : Nat} (h : x.dst = some d) (hd : d ∈ namesO ops y) : clash ops x y = true := by
  unfold clash; rw [h]; simp [hd]
theorem clash_r {x y : Oper} {d : Nat} (h : y.dst = some d) (hd : d ∈ namesO ops x) : clash ops x y = true := by
  unfold clash; rw [h]; simp [hd]

section
variable (he : edgesOk ops = true) (hp : pairsOk P ops = true) {S : Nat → Bool} (hS : Closed ops S) {i : Nat} {o : Oper} (hr : ReadyAt ops S i o)
include he hp hS hr
theorem ready_before {j : Nat} (h : bef ops j i = true) : S j = true :=
  bef_ready he (fun k => S k = true) hS hr.1 hr.2.2 h
theorem ready_after {j : Nat} (h : bef ops i j = true) : S j = false := by
  cases hj : S j with
  | false => rfl
  | true =>
    have := bef_closed he (fun k => S k = true) hS j i hj h
    rw [hr.2.1] at this; simp at this
theorem clash_before {k : Nat} {x : Oper} (hx : ops[k]? = some x) (hk : k < i) (hc : clash ops x o = true) : S k = true :=
  ready_before he hp hS hr (pairs_of hp hx hr.1 hk (.inl hc))
theorem clash_after {k : Nat} {x : Oper} (hx : ops[k]? = some x) (hk : i < k) (hc : clash ops o x = true) : S k = false :=
  ready_after he hp hS hr (pairs_of hp hr.1 hx hk (.inl hc))
/-- a slot that the operation names holds what it holds in the text's run -/
theorem TS_name (R : Run P call ops) {t : Nat} (ht : t ∈ namesO ops o) : TS R S ops.size t = R.T i t := by
  have hi := lt_of_get hr.1
  have h1 : ∀ k, k ≤ i → TS R S k t = R.T k t := by
    intro k
    induction k with
    | zero => intro _; rfl
    | succ k ih =>
      intro hk
      have hk' : k < ops.size := by omega
      simp only [TS]
      rw [R.T_succ hk']
      by_cases hd : (ops[k]?).bind (·.dst) = some t
      · have hx : ops[k]? = some ops[k] := by simp [hk']
        have hd' : ops[k].dst = some t := by rw [hx] at hd; exact hd
        have hs : S k = true := clash_before he hp hS hr hx (by omega) (clash_l hd' ht)
        rw [hs, hd]
        simp only [if_true, put_eq]
      · rw [put_ne hd]
        split
        · rw [put_ne hd]; exact ih (by omega)
        · exact ih (by omega)
  have h2 : ∀ k, i ≤ k → k ≤ ops.size → TS R S k t = R.T i t := by
    intro k
    induction k with
    | zero => intro h _; have : i = 0 := by omega
              subst this; exact h1 0 (Nat.le_refl _)
    | succ k ih =>
      intro hk hks
      by_cases hik : i = k + 1
      · rw [hik]; rw [← hik]; exact h1 i (Nat.le_refl _)
      · have hk' : k < ops.size := by omega
        simp only [TS]
        split
        · rename_i hsk
          rw [put_ne]
          · exact ih (by omega) (by omega)
          · intro hd
            have hx : ops[k]? = some ops[k] := by simp [hk']
            have hd' : ops[k].dst = some t := by rw [hx] at hd; exact hd
            by_cases hki : k = i
            · subst hki; rw [hr.2.1] at hsk; simp at hsk
            · have := clash_after he hp hS hr hx (by omega) (clash_r hd' ht)
              rw [this] at hsk; simp at hsk
        · exact ih (by omega) (by omega)
  exact h2 ops.size (by omega) (Nat.le_refl _)
theorem TS_add (R : Run P call ops) : TS R (add S i) ops.size = put (TS R S ops.size) o.dst (R.V i) := by
  have hi := lt_of_get hr.1
  have key : ∀ k, k ≤ ops.size → TS R (add S i) k = if i < k then put (TS R S k) o.dst (R.V i) else TS R S k := by
    intro k
    induction k with
    | zero => intro _; simp [TS]
    | succ k ih =>
      intro hk
      have ih := ih (by omega)
      simp only [TS]
      by_cases hki : k = i
      · subst hki
        rw [ih]
        simp only [add, if_true, Nat.lt_irrefl, if_false, Nat.lt_succ_self, hr.2.1, hr.1, Option.bind_some, Bool.false_eq_true]
      · have ha : add S i k = S k := by simp [add, hki]
        rw [ha, ih]
        cases hsk : S k with
        | false =>
          simp only [Bool.false_eq_true, if_false]
          by_cases hlt : i < k
          · rw [if_pos hlt, if_pos (show i < k + 1 by omega)]
          · rw [if_neg hlt, if_neg (show ¬ i < k + 1 by omega)]
        | true =>
          simp only [if_true]
          by_cases hlt : i < k
          · rw [if_pos hlt, if_pos (show i < k + 1 by omega)]
            funext t
            have hk' : k < ops.size := by omega
            have hx : ops[k]? = some ops[k] := by simp [hk']
            by_cases h1 : o.dst = some t
            · have h2 : (ops[k]?).bind (·.dst) ≠ some t := by
                intro hd
                have hd' : ops[k].dst = some t := by rw [hx] at hd; exact hd
                have := clash_after he hp hS hr hx hlt (clash_l h1 (names_dst hd'))
                rw [this] at hsk; simp at hsk
              rw [put_ne h2, h1, put_eq, put_eq]
            · rw [put_ne h1]
              by_cases h2 : (ops[k]?).bind (·.dst) = some t
              · rw [h2, put_eq, put_eq]
              · rw [put_ne h2, put_ne h2, put_ne h1]
          · rw [if_neg hlt, if_neg (show ¬ i < k + 1 by omega)]
  rw [key _ (Nat.le_refl _), if_pos hi]
end
end
end Go.Ev

/- A region whose order is open is sound. -/
namespace Go.Ev
open Go Go.RowKit
set_option linter.unusedSimpArgs false
set_option linter.unusedVariables false
set_option linter.unusedSectionVars false

section
variable {P : Program} {w0 : World} {call : CallF} {ops : Array Oper}

theorem cut_add_ne {S : Nat → Bool} {i : Nat} (hne : effAt P ops i = false) : ∀ n, cut P ops (add S i) n = cut P ops S n
  | 0 => rfl
  | n + 1 => by
    simp only [cut]
    rw [cut_add_ne hne n]
    by_cases h : n = i
    · subst h; simp [hne]
    · simp [add, h]
theorem cut_add_eff {S : Nat → Bool} {i : Nat} (he : effAt P ops i = true) (hab : ∀ j, i < j → effAt P ops j = true → S j = false) : ∀ n, i < n → cut P ops (add S i) n = i + 1
  | 0, h => by omega
  | n + 1, h => by
    simp only [cut]
    by_cases hn : n = i
    · subst hn; simp [add, he]
    · have hn' : i < n := by omega
      rw [cut_add_eff he hab n hn']
      have : (add S i n && effAt P ops n) = false := by
        simp only [add, hn, if_false]
        cases hc : effAt P ops n with
        | false => simp
        | true => simp [hab n hn' hc]
      rw [this]; simp

section
variable (he : edgesOk ops = true) (hp : pairsOk P ops = true) {S : Nat → Bool} (hS : Closed ops S) {i : Nat} {o : Oper} (hr : ReadyAt ops S i o)
include he hp hS hr

theorem eff_above (hei : isEff P o.op = true) : ∀ j, i < j → effAt P ops j = true → S j = false := by
  intro j hj hej
  obtain ⟨x, hx, hxe⟩ := effAt_of hej
  exact ready_after he hp hS hr (pairs_of hp hr.1 hx hj (.inr ⟨hei, hxe⟩))
/-- an effect is carried out in the memory of the text's run -/
theorem eff_heap (R : Run P call ops) (hei : isEff P o.op = true) : R.G (cut P ops S ops.size) = R.G i := by
  have hi := lt_of_get hr.1
  have hcl := cut_le (P := P) (ops := ops) S ops.size
  have hle : cut P ops S ops.size ≤ i := by
    rcases cut_pos (P := P) (ops := ops) S ops.size with h | ⟨j, h1, h2, h3, h4⟩
    · omega
    · rw [h1]
      rcases Nat.lt_or_ge i j with hlt | hge
      · have := eff_above he hp hS hr hei j hlt h4
        rw [this] at h3; simp at h3
      · by_cases hji : j = i
        · subst hji; rw [hr.2.1] at h3; simp at h3
        · omega
  refine R.G_keep hle (by omega) fun j h1 h2 => ?_
  cases hej : effAt P ops j with
  | false => rfl
  | true =>
    obtain ⟨x, hx, hxe⟩ := effAt_of hej
    have hsj := ready_before he hp hS hr (pairs_of hp hx hr.1 h2 (.inr ⟨hxe, hei⟩))
    exact (cut_above (P := P) (ops := ops) S ops.size j h1 (by omega) ⟨hsj, hej⟩).elim
/-- what reads beside the effects reads the same -/
theorem rd_heap (R : Run P call ops) (hei : isEff P o.op = false) {hs : List (Tm × AH)} (hhs : ∀ k, k ≤ ops.size → hs[k]? = some (R.T k, R.G k)) (hob : ∀ q ∈ looseOf P ops, ObOk P call ops hs q)
    (hw : wantA ops (R.T i) o = true) (hv : evO P call o (R.T i) (R.G i) = some (R.V i, R.G (i + 1))) :
    evO P call o (R.T i) (R.G (cut P ops S ops.size)) = some (R.V i, R.G (cut P ops S ops.size)) := by
  have hi := lt_of_get hr.1
  have hG := evO_noEff hei hv
  rw [hG] at hv
  have hcl := cut_le (P := P) (ops := ops) S ops.size
  cases hrd : isRd o.op with
  | false => exact evO_noH hei hrd hv _
  | true =>
    by_cases hex : ∃ j, j < ops.size ∧ effAt P ops j = true ∧ ((cut P ops S ops.size ≤ j ∧ j < i) ∨ (i ≤ j ∧ j < cut P ops S ops.size))
    · have hin : (i, cut P ops S ops.size) ∈ looseOf P ops := by
        unfold looseOf
        simp only [List.mem_flatMap, List.mem_range, List.mem_filterMap]
        refine ⟨i, hi, cut P ops S ops.size, by omega, ?_⟩
        rw [if_pos]
        unfold looseB
        simp only [Bool.and_eq_true]
        refine ⟨⟨⟨?_, ?_⟩, ?_⟩, ?_⟩
        · simp [rdAt, hr.1, hrd, hei]
        · rcases cut_pos (P := P) (ops := ops) S ops.size with h | ⟨j, h1, h2, h3, h4⟩
          · simp [h]
          · simp [h1, h4]
        · rw [List.all_eq_true]
          intro j hj
          rw [List.mem_range] at hj
          cases hej : effAt P ops j with
          | false => rfl
          | true =>
            simp only [Bool.not_true, Bool.false_or]
            split
            · rename_i hlt
              cases hb : bef ops i j with
              | false => rfl
              | true =>
                have hsj := ready_after he hp hS hr hb
                obtain ⟨x, hx, hxe⟩ := effAt_of hej
                rcases cut_pos (P := P) (ops := ops) S ops.size with h | ⟨k, h1, h2, h3, h4⟩
                · omega
                · by_cases hjk : j = k
                  · subst hjk; rw [hsj] at h3; simp at h3
                  · obtain ⟨y, hy, hye⟩ := effAt_of h4
                    have := bef_closed he (fun k => S k = true) hS k j h3 (pairs_of hp hx hy (by omega) (.inr ⟨hxe, hye⟩))
                    rw [hsj] at this; simp at this
            · rename_i hge
              cases hb : bef ops j i with
              | false => rfl
              | true =>
                have hsj := ready_before he hp hS hr hb
                exact (cut_above (P := P) (ops := ops) S ops.size j (by omega) hj ⟨hsj, hej⟩).elim
        · rw [List.any_eq_true]
          obtain ⟨j, h1, h2, h3⟩ := hex
          refine ⟨j, by rw [List.mem_range]; exact h1, ?_⟩
          simp only [h2, Bool.true_and, Bool.or_eq_true, Bool.and_eq_true, decide_eq_true_eq]
          exact h3
      have := hob _ hin
      unfold ObOk at this
      simp only [hhs i (by omega), hhs _ hcl, hr.1] at this
      rw [this hw, hv]; rfl
    · have heq : R.G (cut P ops S ops.size) = R.G i := by
        rcases Nat.le_total (cut P ops S ops.size) i with hle | hle
        · refine R.G_keep hle (by omega) fun j h1 h2 => ?_
          cases hej : effAt P ops j with
          | false => rfl
          | true => exact (hex ⟨j, by omega, hej, .inl ⟨h1, h2⟩⟩).elim
        · refine (R.G_keep hle hcl fun j h1 h2 => ?_).symm
          cases hej : effAt P ops j with
          | false => rfl
          | true => exact (hex ⟨j, by omega, hej, .inr ⟨h1, h2⟩⟩).elim
      rw [heq]; exact hv

theorem Closed.add : Closed ops (add S i) := by
  intro j x hj hx e hex hb
  unfold Ev.add at hj ⊢
  split
  · rfl
  · split at hj
    · rename_i hji
      subst hji
      rw [hr.1] at hx; simp only [Option.some.injEq] at hx; subst hx
      exact hr.2.2 e hex hb
    · exact hS j x hj hx e hex hb
end

/-- the machine's state behind the operations of S -/
structure At (P : Program) (w0 : World) (n : Nat) (μ0 : Mu) (R : Run P call ops) (S : Nat → Bool) (a : Act) (w : World) : Prop where
  closed : Closed ops S
  st : ∃ μ, Ext μ0 μ ∧ St P w0 n μ (TS R S ops.size) (R.G (cut P ops S ops.size)) a w

theorem At.step (hc : CallOK P w0 call) {n : Nat} (hok : okOps n ops = true) (he : edgesOk ops = true) (hp : pairsOk P ops = true) {μ0 : Mu} {R : Run P call ops} {S : Nat → Bool} {a : Act} {w : World} (h : At P w0 n μ0 R S a w)
    {hs : List (Tm × AH)} (hhs : ∀ k, k ≤ ops.size → hs[k]? = some (R.T k, R.G k)) (hob : ∀ q ∈ looseOf P ops, ObOk P call ops hs q) {i : Nat} {o : Oper} (hr : ReadyAt ops S i o)
    {Q : Exit → Act → World → Prop} {K : Act → World → Prop} (hK : ∀ a' w', At P w0 n μ0 R (add S i) a' w' → K a' w') : wpOp P ops Q i K a w := by
  obtain ⟨hS, μ, hx0, hst⟩ := h
  have hi := lt_of_get hr.1
  have hT := TS_add he hp hS hr R
  have hg : Region.wanted o (yielded ops a.tmps) = wantA ops (R.T i) o := by
    refine wantA_sound (μ := μ) fun j want hgd d hd => ⟨by rw [hst.size]; exact okOps_dst hok hd, fun v hv => ?_⟩
    have := hst.tm d v hv
    rwa [TS_name he hp hS hr R (names_guard hgd hd)] at this
  have hOR : ∀ z ∈ o.op.operands.toList, OR μ (R.T i) a z := by
    intro z hz
    cases z with
    | tmp t =>
      have hz1 := OR.all hst.tm hst.size (okOps_get hok hr.1) _ hz
      intro v hv
      have hn := TS_name he hp hS hr R (names_opnd (ops := ops) hz)
      refine hz1 v ?_
      simp only [opnd] at hv ⊢
      rw [hn]; exact hv
    | const c => intro v hv; exact cv_sound hv
    | func f => intro v hv; simp [opnd] at hv; subst hv; simp [VR, Act.eval, VRs]
    | global g => intro v hv; simp [opnd] at hv
  have hcl := Closed.add he hp hS hr
  unfold wpOp
  rw [hr.1]
  simp only [hg]
  rcases (R.step i o hr.1).2 with ⟨hw, hv⟩ | ⟨hw, hv, hG⟩
  · rw [hw]
    simp only [if_true]
    left
    cases hei : isEff P o.op with
    | true =>
      have heq := eff_heap he hp hS hr R hei
      have hea : effAt P ops i = true := by simp [effAt, hr.1, hei]
      have hcut := cut_add_eff hea (eff_above he hp hS hr hei) ops.size hi
      refine evO_wp hc hOR hv (heq ▸ hst.rel) fun u w' μ' hx hR hu => hK _ _ ⟨hcl, μ', hx0.trans hx, ?_⟩
      rw [hT, hcut]
      exact hst.put o.dst hx hR hu
    | false =>
      have hea : effAt P ops i = false := by simp [effAt, hr.1, hei]
      have hcut := cut_add_ne (S := S) hea ops.size
      have hv' := rd_heap he hp hS hr R hei hhs hob hw hv
      refine evO_wp hc hOR hv' hst.rel fun u w' μ' hx hR hu => hK _ _ ⟨hcl, μ', hx0.trans hx, ?_⟩
      rw [hT, hcut]
      exact hst.put o.dst hx hR hu
  · rw [hw]
    simp only [Bool.false_eq_true, if_false]
    refine hK _ _ ⟨hcl, μ, hx0, ?_⟩
    rw [hT, hv]
    cases hei : isEff P o.op with
    | true =>
      have heq := eff_heap he hp hS hr R hei
      have hea : effAt P ops i = true := by simp [effAt, hr.1, hei]
      rw [cut_add_eff hea (eff_above he hp hS hr hei) ops.size hi, hG, ← heq]
      exact hst.put o.dst (Ext.refl _) hst.rel VR_U
    | false =>
      have hea : effAt P ops i = false := by simp [effAt, hr.1, hei]
      rw [cut_add_ne (S := S) hea ops.size]
      exact hst.put o.dst (Ext.refl _) hst.rel VR_U

/-- how many are not listed yet -/
def left (b : Array Bool) : Nat := (b.toList.filter (!·)).length
theorem left_set {b : Array Bool} {i : Nat} (h : b[i]? = some false) : left (b.setIfInBounds i true) + 1 = left b := by
  unfold left
  rw [Array.toList_setIfInBounds]
  rw [← Array.getElem?_toList] at h
  generalize b.toList = l at h
  induction l generalizing i with
  | nil => simp at h
  | cons x l ih =>
    cases i with
    | zero => simp at h; subst h; simp
    | succ i =>
      have := ih (by simpa using h)
      simp only [List.set_cons_succ, List.filter_cons]
      cases x <;> simp <;> omega
theorem left_zero {b : Array Bool} (h : left b = 0) : ∀ i : Nat, b.getD i true = true := by
  intro i
  unfold left at h
  rw [List.length_eq_zero_iff, List.filter_eq_nil_iff] at h
  by_cases hi : i < b.size
  · have := h b[i] (by simp)
    simpa [Array.getD, hi] using this
  · simp [Array.getD, hi]

theorem wpAny_of (hc : CallOK P w0 call) {n : Nat} (hok : okOps n ops = true) (he : edgesOk ops = true) (hp : pairsOk P ops = true) {μ0 : Mu} {R : Run P call ops}
    {hs : List (Tm × AH)} (hhs : ∀ k, k ≤ ops.size → hs[k]? = some (R.T k, R.G k)) (hob : ∀ q ∈ looseOf P ops, ObOk P call ops hs q) {Q : Exit → Act → World → Prop}
    (hQ : ∀ a w μ, Ext μ0 μ → St P w0 n μ (R.T ops.size) (R.G ops.size) a w → Q .normal a w) :
    ∀ (fuel : Nat) (b : Array Bool) (a : Act) (w : World), b.size = ops.size → left b = fuel → At P w0 n μ0 R (fun k => b.getD k false) a w → wpAny P .any ops Q fuel b a w
  | 0, b, a, w, hb, hf, hA => by
    have hall := left_zero hf
    have hallf : ∀ k, k < ops.size → b.getD k false = true := by
      intro k hk
      have := hall k
      simp [Array.getD, hb, hk] at this ⊢; exact this
    simp only [wpAny]
    refine ⟨?_, ?_⟩
    · unfold Region.ready
      rw [List.filter_eq_nil_iff]
      intro i hi
      simp [hall i]
    · obtain ⟨hS, μ, hx, hst⟩ := hA
      have hTS : ∀ k, k ≤ ops.size → TS R (fun k => b.getD k false) k = R.T k := by
        intro k
        induction k with
        | zero => intro _; rfl
        | succ k ih =>
          intro hk
          simp only [TS, hallf k (by omega), if_true]
          rw [ih (by omega), R.T_succ (by omega)]
      have hG : R.G (cut P ops (fun k => b.getD k false) ops.size) = R.G ops.size := by
        refine R.G_keep (cut_le _ _) (Nat.le_refl _) fun j h1 h2 => ?_
        cases hej : effAt P ops j with
        | false => rfl
        | true => exact (cut_above (P := P) (ops := ops) _ ops.size j h1 h2 ⟨hallf j h2, hej⟩).elim
      rw [hTS _ (Nat.le_refl _), hG] at hst
      exact hQ a w μ hx hst
  | fuel + 1, b, a, w, hb, hf, hA => by
    simp only [wpAny]
    have hmem : ∀ i, i ∈ Region.ready .any ops b → ∃ o, ReadyAt ops (fun k => b.getD k false) i o ∧ b[i]? = some false := by
      intro i hi
      unfold Region.ready at hi
      simp only [List.mem_filter, List.mem_range, Bool.and_eq_true, Bool.not_eq_true'] at hi
      obtain ⟨h1, h2, h3⟩ := hi
      refine ⟨ops[i], ⟨by simp [h1], by simp [Array.getD, hb, h1] at h2 ⊢; exact h2, ?_⟩, ?_⟩
      · intro e hex hbd
        simp only [h1, Array.getElem?_eq_getElem, Option.map_some, Option.getD_some] at h3
        rw [Array.all_eq_true'] at h3
        have := h3 e (by simpa using hex)
        simpa [hbd] using this
      · simp [Array.getD, hb, h1] at h2
        simp [hb, h1, h2]
    refine ⟨fun hnil => ?_, fun i hi => ?_⟩
    · exfalso
      -- the first that isn't listed is ready
      have hex : ∃ i : Nat, b[i]? = some false := by
        have : left b ≠ 0 := by omega
        unfold left at this
        rw [Ne, List.length_eq_zero_iff, List.filter_eq_nil_iff] at this
        have ⟨x, hx⟩ := Classical.not_forall.1 this
        have ⟨hx1, hx2⟩ := Classical.not_imp.1 hx
        have hxf : x = false := by simpa using hx2
        obtain ⟨i, hi, hxi⟩ := List.mem_iff_getElem.1 hx1
        refine ⟨i, ?_⟩
        rw [← Array.getElem?_toList, List.getElem?_eq_getElem hi, hxi, hxf]
      have hmin : ∃ i : Nat, b[i]? = some false ∧ ∀ j, j < i → b[j]? ≠ some false := by
        obtain ⟨i, hi⟩ := hex
        induction i using Nat.strongRecOn with
        | _ i ih =>
          by_cases h : ∃ j, j < i ∧ b[j]? = some false
          · obtain ⟨j, h1, h2⟩ := h
            exact ih j h1 h2
          · exact ⟨i, hi, fun j hj hb => h ⟨j, hj, hb⟩⟩
      obtain ⟨i, hi, hlo⟩ := hmin
      have hlt : i < ops.size := by
        rw [← hb]
        rcases Nat.lt_or_ge i b.size with hh | hh
        · exact hh
        · rw [Array.getElem?_eq_none hh] at hi; simp at hi
      have : i ∈ Region.ready .any ops b := by
        unfold Region.ready
        simp only [List.mem_filter, List.mem_range, Bool.and_eq_true, Bool.not_eq_true']
        refine ⟨hlt, by simp [Array.getD_eq_getD_getElem?, hi], ?_⟩
        simp only [hlt, Array.getElem?_eq_getElem, Option.map_some, Option.getD_some]
        rw [Array.all_eq_true']
        intro e hex
        cases hbd : Region.binds .any e with
        | false => simp
        | true =>
          have hon : e.on < i := by
            unfold edgesOk at he
            rw [List.all_eq_true] at he
            have := he (ops[i], i) (by rw [List.mem_zipIdx_iff_getElem?]; simp [hlt])
            rw [List.all_eq_true] at this
            have := this e (by simpa using hex)
            simpa [hbd] using this
          have := hlo e.on hon
          have hlt2 : e.on < b.size := by omega
          simp [hlt2] at this
          simp [Array.getD, hlt2, this]
      rw [hnil] at this; simp at this
    · obtain ⟨o, hr, hbi⟩ := hmem i hi
      refine hA.step hc hok he hp hhs hob hr fun a' w' hA' => ?_
      refine wpAny_of hc hok he hp hhs hob hQ fuel _ a' w' (by simpa using hb) (by have := left_set hbi; omega) ?_
      have : (fun k => (b.setIfInBounds i true).getD k false) = add (fun k => b.getD k false) i := by
        funext k
        unfold add
        rw [Array.getD_eq_getD_getElem?, Array.getElem?_setIfInBounds]
        have hlt : i < b.size := by
          rcases Nat.lt_or_ge i b.size with hh | hh
          · exact hh
          · rw [Array.getElem?_eq_none hh] at hbi; simp at hbi
        by_cases hk : k = i
        · subst hk; simp [hlt]
        · rw [if_neg (fun e => hk e.symm), if_neg hk]; simp [Array.getD_eq_getD_getElem?]
      rw [this]; exact hA'

/-- THE ORDER IS OPEN: the evaluator's run is what every order comes to. -/
theorem evDraw_sound (hm : P.follows .mixedOrders = true) (hc : CallOK P w0 call) {n : Nat} (hok : okOps n ops = true) {id : Nat} {τ τ' : Tm} {H H' : AH} {μ : Mu} {a : Act} {w : World} (h : evDraw P call ops τ H = some (τ', H')) (hS : St P w0 n μ τ H a w)
    {Q : Exit → Act → World → Prop} (hQ : ∀ a' w' μ', Ext μ μ' → St P w0 n μ' τ' H' a' w' → Q .normal a' w') : (Code.region id ops true).wp P Q a w := by
  unfold evDraw at h
  split at h
  · rename_i hd
    unfold drawOk at hd
    rw [Bool.and_eq_true] at hd
    have key : ∃ hs, evHist P call ops ops.toList τ H = some hs ∧ hs.getLast? = some (τ', H') ∧ ∀ q ∈ looseOf P ops, ObOk P call ops hs q := by
      split at h
      · rename_i hl
        obtain ⟨hs, h1, h2⟩ := evOps_hist h
        exact ⟨hs, h1, h2, by rw [hl]; simp⟩
      · split at h
        · rename_i hs hh
          split at h
          · rename_i ho
            exact ⟨hs, hh, h, ho⟩
          · simp at h
        · simp at h
    obtain ⟨hs, hh, hlast, hob⟩ := key
    obtain ⟨R, h1, h2, h3, h4⟩ := run_of hh
    rw [hlast] at h3
    simp only [Option.some.injEq, Prod.mk.injEq] at h3
    obtain ⟨rfl, rfl⟩ := h3
    refine wp_region_any hm (wpAny_of hc hok hd.1 hd.2 h4 hob (fun a w μ' hx hst => hQ a w μ' hx hst) ops.size _ a _ (by simp) ?_ ?_)
    · unfold left; simp
    · have hf : (fun k => (Array.replicate ops.size false).getD k false) = fun _ => false := by
        funext k; simp [Array.getD_eq_getD_getElem?, Array.getElem?_replicate]
        split <;> rfl
      rw [hf]
      refine ⟨fun j o hj => by simp at hj, μ, Ext.refl _, ?_⟩
      have hTS : ∀ k, TS R (fun _ => false) k = R.T 0 := by
        intro k; induction k with
        | zero => rfl
        | succ k ih => simp [TS, ih]
      have hcut : ∀ k, cut P ops (fun _ => false) k = 0 := by
        intro k; induction k with
        | zero => rfl
        | succ k ih => simp [cut, ih]
      rw [hTS, hcut, h1, h2]
      exact ⟨hS.rel.drewN _, hS.tm, hS.size, hS.defers⟩
  · simp at h
end
end Go.Ev

/- The evaluator of code and calls, and that the machine does what it does. -/
namespace Go.Ev
open Go Go.RowKit
set_option linter.unusedSimpArgs false
set_option linter.unusedVariables false

inductive Ex where
  | normal
  | exit (id : Nat)
  | ret
def Ex.toExit : Ex → Exit
  | .normal => .normal
  | .exit id => .exit id
  | .ret => .ret

abbrev Out := Option (Ex × Tm × AH)
def iter (f : Tm → AH → Out) : Nat → Tm → AH → Out
  | 0, _, _ => none
  | n + 1, τ, H => match f τ H with
    | some (.normal, τ', H') => iter f n τ' H'
    | r => r

section
variable (P : Program) (call : CallF)
noncomputable def evCode (n : Nat) : Code → Tm → AH → Out
  | .skip, τ, H => some (.normal, τ, H)
  | .label _, τ, H => some (.normal, τ, H)
  | .region _ ops draw, τ, H => match (if draw then evDraw P call ops τ H else evOps P call ops ops.toList τ H) with
    | some (τ', H') => some (.normal, τ', H')
    | none => none
  | .seq a b, τ, H => match evCode n a τ H with
    | some (.normal, τ', H') => evCode n b τ' H'
    | r => r
  | .cond c a b, τ, H => match opnd τ c with
    | some (.bool q) => if q then evCode n a τ H else evCode n b τ H
    | _ => none
  | .block id a, τ, H => match evCode n a τ H with
    | some (.exit id', τ', H') => if id' = id then some (.normal, τ', H') else some (.exit id', τ', H')
    | r => r
  | .loop a, τ, H => iter (evCode n a) n τ H
  | .exit id, τ, H => some (.exit id, τ, H)
  | .scope a, τ, H => evCode n a τ H
  | .ret, τ, H => some (.ret, τ, H)
  | _, _, _ => none
end

/-- the slots that code names are there -/
def okCode (n : Nat) : Code → Bool
  | .region _ ops _ => okOps n ops
  | .seq a b => okCode n a && okCode n b
  | .cond c a b => okO n c && okCode n a && okCode n b
  | .block _ a | .loop a | .scope a => okCode n a
  | _ => true

/-- the slots ahead of a call's first statement -/
def tm0 (args : List AV) : Tm := fun i => args.getD i U
def resR (P : Program) (τ : Tm) (H : AH) : ResultVar → Option AV
  | .tmp t => some (τ t)
  | .cell a t => match τ a with
    | .ptr b o => ldVar P t b o H
    | _ => none
def resL (P : Program) (τ : Tm) (H : AH) : List ResultVar → Option (List AV)
  | [] => some []
  | r :: l => match resR P τ H r, resL P τ H l with | some a, some b => some (a :: b) | _, _ => none
def resA (P : Program) (rs : List ResultVar) (τ : Tm) (H : AH) : Option AV := match resL P τ H rs with
  | some [a] => some a
  | some l => some (.tuple l)
  | none => none
def okRes (n : Nat) (rs : Array ResultVar) : Bool := rs.toList.all fun | .tmp t => decide (t < n) | .cell a _ => decide (a < n)
/-- a function that the evaluator takes -/
def fnOk (fn : Func) : Bool := match fn.body with
  | some c => okCode fn.ntmps c && okRes fn.ntmps fn.results && !(fn.name == "runtime.NumGoroutine")
  | none => false

section
variable (P : Program)
noncomputable def evFn (call : CallF) (n : Nat) (fn : Func) (args : List AV) (H : AH) : Option (AV × AH) := match fn.body with
  | some c => match evCode P call n c (tm0 args) H with
    | some (.normal, τ, H') => (resA P fn.results.toList τ H').map fun r => (r, H')
    | some (.ret, τ, H') => (resA P fn.results.toList τ H').map fun r => (r, H')
    | _ => none
  | none => none
noncomputable def ev : Nat → CallF
  | 0, _, _, _ => none
  | n + 1, f, args, H => match P.funcs[f]? with
    | some fn => if fnOk fn = true ∧ args.length ≤ fn.ntmps then evFn P (ev n) n fn args H else none
    | none => none
end

section
variable {P : Program} {w0 : World} {call : CallF}

theorem evCode_sound (hm : P.follows .mixedOrders = true) (hc : CallOK P w0 call) (n : Nat) {nt : Nat} : ∀ (c : Code) (_ : okCode nt c = true) {τ τ' : Tm} {H H' : AH} {e : Ex} {μ : Mu} {a : Act} {w : World},
    evCode P call n c τ H = some (e, τ', H') → St P w0 nt μ τ H a w → ∀ {Q : Exit → Act → World → Prop}, (∀ a' w' μ', Ext μ μ' → St P w0 nt μ' τ' H' a' w' → Q e.toExit a' w') → c.wp P Q a w
  | .skip, _, τ, τ', H, H', e, μ, a, w, h, hS, Q, hQ => by
    simp only [evCode, Option.some.injEq, Prod.mk.injEq] at h
    obtain ⟨rfl, rfl, rfl⟩ := h
    exact wp_skip (hQ a w μ (Ext.refl _) hS)
  | .label l, _, τ, τ', H, H', e, μ, a, w, h, hS, Q, hQ => by
    simp only [evCode, Option.some.injEq, Prod.mk.injEq] at h
    obtain ⟨rfl, rfl, rfl⟩ := h
    exact wp_label (hQ a w μ (Ext.refl _) hS)
  | .region id ops draw, hok, τ, τ', H, H', e, μ, a, w, h, hS, Q, hQ => by
    simp only [evCode] at h
    simp only [okCode] at hok
    cases draw with
    | true =>
      simp only [if_true] at h
      split at h
      · rename_i τ1 H1 h1
        simp only [Option.some.injEq, Prod.mk.injEq] at h
        obtain ⟨rfl, rfl, rfl⟩ := h
        exact evDraw_sound hm hc hok h1 hS hQ
      · simp at h
    | false =>
      simp only [Bool.false_eq_true, if_false] at h
      split at h
      · rename_i τ1 H1 h1
        simp only [Option.some.injEq, Prod.mk.injEq] at h
        obtain ⟨rfl, rfl, rfl⟩ := h
        refine wp_region_list (evOps_sound hc hok ?_ h1 hS hQ)
        intro o ho
        unfold okOps at hok
        rw [List.all_eq_true] at hok
        exact hok o ho
      · simp at h
  | .seq x y, hok, τ, τ', H, H', e, μ, a, w, h, hS, Q, hQ => by
    simp only [evCode] at h
    simp only [okCode, Bool.and_eq_true] at hok
    refine wp_seq ?_
    split at h
    · rename_i τ1 H1 h1
      refine evCode_sound hm hc n x hok.1 h1 hS fun a1 w1 μ1 hx1 hS1 => ?_
      exact evCode_sound hm hc n y hok.2 h hS1 fun a2 w2 μ2 hx2 hS2 => hQ a2 w2 μ2 (hx1.trans hx2) hS2
    · rename_i hne
      refine evCode_sound hm hc n x hok.1 h hS fun a1 w1 μ1 hx1 hS1 => ?_
      cases e with
      | normal => exact (hne _ _ h).elim
      | exit id => exact hQ a1 w1 μ1 hx1 hS1
      | ret => exact hQ a1 w1 μ1 hx1 hS1
  | .cond c x y, hok, τ, τ', H, H', e, μ, a, w, h, hS, Q, hQ => by
    simp only [evCode] at h
    simp only [okCode, Bool.and_eq_true] at hok
    split at h
    · rename_i q hq
      have hv := opnd_sound hS.tm (by rw [hS.size]; exact hok.1.1) hq
      simp only [VR] at hv
      refine wp_cond hv ?_
      cases q with
      | true =>
        simp only [if_true] at h ⊢
        exact evCode_sound hm hc n x hok.1.2 h hS hQ
      | false =>
        simp only [Bool.false_eq_true, if_false] at h ⊢
        exact evCode_sound hm hc n y hok.2 h hS hQ
    · simp at h
  | .block id x, hok, τ, τ', H, H', e, μ, a, w, h, hS, Q, hQ => by
    simp only [evCode] at h
    simp only [okCode] at hok
    refine wp_block ?_
    split at h
    · rename_i id' τ1 H1 h1
      split at h
      · rename_i hid
        simp only [Option.some.injEq, Prod.mk.injEq] at h
        obtain ⟨rfl, rfl, rfl⟩ := h
        refine evCode_sound hm hc n x hok h1 hS fun a1 w1 μ1 hx1 hS1 => ?_
        simp only [Ex.toExit, Exit.inBlock, hid, if_true]
        exact hQ a1 w1 μ1 hx1 hS1
      · rename_i hid
        simp only [Option.some.injEq, Prod.mk.injEq] at h
        obtain ⟨rfl, rfl, rfl⟩ := h
        refine evCode_sound hm hc n x hok h1 hS fun a1 w1 μ1 hx1 hS1 => ?_
        simp only [Ex.toExit, Exit.inBlock, hid, if_false]
        exact hQ a1 w1 μ1 hx1 hS1
    · rename_i hne
      refine evCode_sound hm hc n x hok h hS fun a1 w1 μ1 hx1 hS1 => ?_
      cases e with
      | normal => exact hQ a1 w1 μ1 hx1 hS1
      | exit id' => exact (hne _ _ _ h).elim
      | ret => exact hQ a1 w1 μ1 hx1 hS1
  | .loop x, hok, τ, τ', H, H', e, μ, a, w, h, hS, Q, hQ => by
    simp only [evCode] at h
    simp only [okCode] at hok
    refine wp_loop_rounds n ?_
    have key : ∀ (m : Nat) {τ : Tm} {H : AH} {μ : Mu} {a : Act} {w : World}, iter (evCode P call n x) m τ H = some (e, τ', H') → St P w0 nt μ τ H a w →
        (∀ a' w' μ', Ext μ μ' → St P w0 nt μ' τ' H' a' w' → Q e.toExit a' w') → Code.rounds P x Q m a w := by
      intro m
      induction m with
      | zero => intro τ H μ a w h; simp [iter] at h
      | succ m ih =>
        intro τ H μ a w h hS hQ
        simp only [iter] at h
        rw [rounds_succ]
        split at h
        · rename_i τ1 H1 h1
          refine evCode_sound hm hc n x hok h1 hS fun a1 w1 μ1 hx1 hS1 => ?_
          exact ih h hS1 fun a2 w2 μ2 hx2 hS2 => hQ a2 w2 μ2 (hx1.trans hx2) hS2
        · rename_i hne
          refine evCode_sound hm hc n x hok h hS fun a1 w1 μ1 hx1 hS1 => ?_
          cases e with
          | normal => exact (hne _ _ h).elim
          | exit id => exact hQ a1 w1 μ1 hx1 hS1
          | ret => exact hQ a1 w1 μ1 hx1 hS1
    exact key n h hS hQ
  | .exit id, _, τ, τ', H, H', e, μ, a, w, h, hS, Q, hQ => by
    simp only [evCode, Option.some.injEq, Prod.mk.injEq] at h
    obtain ⟨rfl, rfl, rfl⟩ := h
    exact wp_exit (hQ a w μ (Ext.refl _) hS)
  | .scope x, hok, τ, τ', H, H', e, μ, a, w, h, hS, Q, hQ => by
    simp only [evCode] at h
    simp only [okCode] at hok
    refine wp_scope_straight (evCode_sound hm hc n x hok h hS fun a1 w1 μ1 hx1 hS1 => ?_)
    cases e <;> exact hQ a1 w1 μ1 hx1 hS1
  | .ret, _, τ, τ', H, H', e, μ, a, w, h, hS, Q, hQ => by
    simp only [evCode, Option.some.injEq, Prod.mk.injEq] at h
    obtain ⟨rfl, rfl, rfl⟩ := h
    exact wp_ret (hQ a w μ (Ext.refl _) hS)
  | .rangeFunc .., _, τ, τ', H, H', e, μ, a, w, h, hS, Q, hQ => by simp [evCode] at h
  | .goto .., _, τ, τ', H, H', e, μ, a, w, h, hS, Q, hQ => by simp [evCode] at h
  | .refuse .., _, τ, τ', H, H', e, μ, a, w, h, hS, Q, hQ => by simp [evCode] at h

def resF (tmps : Array Value) : ResultVar → Sem Value
  | .tmp t => pure (tmps.getD t undef)
  | .cell a t => do loadVar t (← asAddr (tmps.getD a undef))
theorem results_eq (fn : Func) (tmps : Array Value) : results fn tmps = (do
    let vs ← fn.results.mapM (resF tmps)
    pure (if h : vs.size = 1 then vs[0] else .tuple vs)) := by
  unfold results
  congr 1
theorem resL_sound {n : Nat} {μ : Mu} {τ : Tm} {H : AH} {a : Act} {w : World} (hS : St P w0 n μ τ H a w) : ∀ (rs : List ResultVar) {l : List AV}, rs.all (fun | .tmp t => decide (t < n) | .cell a _ => decide (a < n)) = true → resL P τ H rs = some l →
    ∃ vs, (rs.mapM (resF a.tmps)).run P w = .ok vs w ∧ VRs μ l vs
  | [], l, _, h => by
    simp only [resL, Option.some.injEq] at h; subst h
    exact ⟨[], rfl, by simp [VRs]⟩
  | r :: rs, l, hok, h => by
    rw [List.all_cons, Bool.and_eq_true] at hok
    simp only [resL] at h
    split at h
    · rename_i x xs hx hxs
      simp only [Option.some.injEq] at h; subst h
      obtain ⟨vs, h1, h2⟩ := resL_sound hS rs hok.2 hxs
      have hslot : ∀ t, t < n → VR μ (τ t) (a.tmps.getD t undef) := by
        intro t ht
        have hsz := hS.size
        have : a.tmps.getD t undef = a.tmps[t] := by simp [Array.getD, hsz, ht]
        rw [this]
        exact hS.tm t _ (by simp [hsz, ht])
      cases r with
      | tmp t =>
        simp only [resR, Option.some.injEq] at hx; subst hx
        refine ⟨a.tmps.getD t undef :: vs, ?_, by simp only [VRs]; exact ⟨_, _, rfl, hslot t (by simpa using hok.1), h2⟩⟩
        rw [List.mapM_cons]
        simp only [resF, Sem.run_bind, Sem.run_pure, Result.andThen_ok, h1]
      | cell x0 t =>
        simp only [resR] at hx
        split at hx
        · rename_i b o hp
          have hv := hslot x0 (by simpa using hok.1)
          rw [hp] at hv
          simp only [VR] at hv
          obtain ⟨L, g1, g2⟩ := hv
          obtain ⟨u, g3, g4⟩ := ldVar_sound hS.rel hx g1
          refine ⟨u :: vs, ?_, by simp only [VRs]; exact ⟨_, _, rfl, g4, h2⟩⟩
          rw [List.mapM_cons]
          have ha : (asAddr (a.tmps.getD x0 undef)).run P w = .ok ⟨L.c, L.base + o, none⟩ w := by rw [g2]; rfl
          have hf : (resF a.tmps (.cell x0 t)).run P w = .ok u w := by
            simp only [resF, Sem.run_bind, ha, Result.andThen_ok, g3]
          simp only [Sem.run_bind, hf, Result.andThen_ok, h1, Sem.run_pure]
        · simp at hx
    · simp at h

theorem resA_sound {fn : Func} {n : Nat} {μ : Mu} {τ : Tm} {H : AH} {a : Act} {w : World} (hS : St P w0 n μ τ H a w) (hok : okRes n fn.results = true) {r : AV} (h : resA P fn.results.toList τ H = some r) :
    ∃ v, (results fn a.tmps).run P w = .ok v w ∧ VR μ r v := by
  unfold resA at h
  have key : ∀ l, resL P τ H fn.results.toList = some l → ∃ vs : Array Value, (fn.results.mapM (resF a.tmps)).run P w = .ok vs w ∧ VRs μ l vs.toList := by
    intro l hl
    obtain ⟨vs, h1, h2⟩ := resL_sound hS fn.results.toList hok hl
    refine ⟨vs.toArray, ?_, by simpa using h2⟩
    rw [Array.mapM_eq_mapM_toList]
    simp only [Sem.run_map]
    rw [h1]; rfl
  split at h
  · rename_i x hl
    simp only [Option.some.injEq] at h; subst h
    obtain ⟨vs, h1, h2⟩ := key _ hl
    simp only [VRs] at h2
    obtain ⟨u, us, h3, h4, rfl⟩ := h2
    have : vs = #[u] := by rw [← Array.toArray_toList (xs := vs), h3]
    subst this
    refine ⟨u, ?_, h4⟩
    rw [results_eq, Sem.run_bind, h1]; rfl
  · rename_i l hne hl
    simp only [Option.some.injEq] at h; subst h
    obtain ⟨vs, h1, h2⟩ := key _ hl
    refine ⟨.tuple vs, ?_, by simp only [VR]; exact ⟨vs, rfl, h2⟩⟩
    have hsz : vs.size ≠ 1 := by
      intro e
      have := h2.length
      simp only [Array.length_toList, e] at this
      match l, this with
      | [x], _ => exact hne x rfl
    rw [results_eq, Sem.run_bind, h1]
    simp [hsz]
  · simp at h

theorem ev_sound (hm : P.follows .mixedOrders = true) : ∀ n, CallOK P w0 (ev P n)
  | 0 => fun f args H r H' μ w vs h => by simp [ev] at h
  | n + 1 => fun f args H r H' μ w vs h hR hv => by
    simp only [ev] at h
    split at h
    · rename_i fn hf
      split at h
      · rename_i hok
        obtain ⟨hok, hlen⟩ := hok
        unfold fnOk at hok
        unfold evFn at h
        split at hok
        · rename_i c hb
          rw [Bool.and_eq_true, Bool.and_eq_true] at hok
          obtain ⟨⟨hok1, hok2⟩, hok3⟩ := hok
          refine ⟨⟨fn, hf, by simpa using hok3, by simp [hb]⟩, ?_⟩
          simp only [hb] at h
          have hvl := hv.length
          simp only [Array.length_toList] at hvl
          have hS : St P w0 fn.ntmps μ (tm0 args) H { tmps := vs ++ Array.replicate (fn.ntmps - vs.size) undef, defers := [] } w := by
            refine ⟨hR, fun i u hu => ?_, by simp; omega, rfl⟩
            unfold tm0
            simp only at hu
            rw [List.getD_eq_getElem?_getD]
            rw [Array.getElem?_append] at hu
            split at hu
            · rename_i hi
              have hi' : i < args.length := by omega
              rw [List.getElem?_eq_getElem hi']
              obtain ⟨u', h1, h2⟩ := hv.get i args[i] (by simp [hi'])
              rw [Array.getElem?_toList, hu] at h1
              simp only [Option.some.injEq] at h1; subst h1
              exact h2
            · rename_i hi
              rw [List.getElem?_eq_none (by omega)]
              rw [Array.getElem?_replicate] at hu
              split at hu
              · simp only [Option.some.injEq] at hu; subst hu; exact VR_U
              · simp at hu
          refine calls_of_wp hf hb ?_
          split at h
          · rename_i τ' H2 he
            simp only [Option.map_eq_some_iff, Prod.mk.injEq] at h
            obtain ⟨r', hr, rfl, rfl⟩ := h
            refine evCode_sound hm (ev_sound hm n) n c hok1 he hS fun a' w' μ' hx hS' => ?_
            obtain ⟨v, h1, h2⟩ := resA_sound (fn := fn) hS' hok2 hr
            exact ⟨hS'.defers, v, h1, v, μ', rfl, hx, hS'.rel, h2⟩
          · rename_i τ' H2 he
            simp only [Option.map_eq_some_iff, Prod.mk.injEq] at h
            obtain ⟨r', hr, rfl, rfl⟩ := h
            refine evCode_sound hm (ev_sound hm n) n c hok1 he hS fun a' w' μ' hx hS' => ?_
            obtain ⟨v, h1, h2⟩ := resA_sound (fn := fn) hS' hok2 hr
            exact ⟨hS'.defers, v, h1, v, μ', rfl, hx, hS'.rel, h2⟩
          · simp at h
        · simp at hok
      · simp at h
    · simp at h
end
end Go.Ev

/- More rounds answer the same. -/
namespace Go.Ev
open Go Go.RowKit
set_option linter.unusedSimpArgs false
set_option linter.unusedVariables false

def LeC (c c' : CallF) : Prop := ∀ f a H r, c f a H = some r → c' f a H = some r
section
variable {P : Program} {call call' : CallF}

theorem evO_mono (hc : LeC call call') {o : Oper} {τ : Tm} {H : AH} {r : AV × AH} (h : evO P call o τ H = some r) : evO P call' o τ H = some r := by
  obtain ⟨dst, op, ty, pos, after, guard⟩ := o
  cases op <;> try exact h
  rename_i c
  obtain ⟨callee, args, ats⟩ := c
  cases callee with
  | builtin b => exact h
  | value f =>
    simp only [evO] at h ⊢
    generalize opnd τ f = A at h ⊢
    generalize opndL τ args.toList = B at h ⊢
    split at h
    · exact hc _ _ _ _ h
    · simp at h
  | invoke v name =>
    simp only [evO] at h ⊢
    generalize opnd τ v = A at h ⊢
    generalize opndL τ args.toList = B at h ⊢
    split at h
    · rename_i t v xs
      generalize mthA P t name = C at h ⊢
      split at h
      · exact hc _ _ _ _ h
      · simp at h
    · simp at h
theorem evO_rd {o : Oper} (hne : isEff P o.op = false) (τ : Tm) (H : AH) : evO P call' o τ H = evO P call o τ H := by
  obtain ⟨dst, op, ty, pos, after, guard⟩ := o
  cases op <;> try rfl
  rename_i c
  obtain ⟨callee, args, ats⟩ := c
  cases callee with
  | builtin b => rfl
  | value f => simp [isEff] at hne
  | invoke v name => simp [isEff] at hne
theorem stepA_mono (hc : LeC call call') {ops : Array Oper} {o : Oper} {τ : Tm} {H : AH} {r : Tm × AH} (h : stepA P call ops o τ H = some r) : stepA P call' ops o τ H = some r := by
  unfold stepA at h ⊢
  split
  · rename_i hw
    rw [if_pos hw] at h
    split at h
    · rename_i v H' hv
      rw [evO_mono hc hv]; exact h
    · simp at h
  · rename_i hw
    rw [if_neg hw] at h; exact h
theorem evOps_mono (hc : LeC call call') {ops : Array Oper} : ∀ {l : List Oper} {τ : Tm} {H : AH} {r : Tm × AH}, evOps P call ops l τ H = some r → evOps P call' ops l τ H = some r
  | [], _, _, _, h => h
  | o :: l, τ, H, r, h => by
    simp only [evOps] at h ⊢
    split at h
    · rename_i τ' H' hst
      rw [stepA_mono hc hst]; exact evOps_mono hc h
    · simp at h
theorem evHist_mono (hc : LeC call call') {ops : Array Oper} : ∀ {l : List Oper} {τ : Tm} {H : AH} {r : List (Tm × AH)}, evHist P call ops l τ H = some r → evHist P call' ops l τ H = some r
  | [], _, _, _, h => h
  | o :: l, τ, H, r, h => by
    simp only [evHist] at h ⊢
    split at h
    · rename_i τ' H' hst
      rw [stepA_mono hc hst]
      simp only
      split at h
      · rename_i r' hr
        rw [evHist_mono hc hr]; exact h
      · simp at h
    · simp at h
theorem loose_rd {ops : Array Oper} {q : Nat × Nat} (h : q ∈ looseOf P ops) : rdAt P ops q.1 = true := by
  unfold looseOf at h
  simp only [List.mem_flatMap, List.mem_range, List.mem_filterMap] at h
  obtain ⟨i, hi, p, hp, h⟩ := h
  split at h
  · rename_i hb
    simp only [Option.some.injEq] at h; subst h
    unfold looseB at hb
    simp only [Bool.and_eq_true] at hb
    exact hb.1.1.1
  · simp at h
theorem evDraw_mono (hc : LeC call call') {ops : Array Oper} {τ : Tm} {H : AH} {r : Tm × AH} (h : evDraw P call ops τ H = some r) : evDraw P call' ops τ H = some r := by
  unfold evDraw at h ⊢
  split at h
  · rename_i hd
    rw [if_pos hd]
    split at h
    · rename_i hl
      rw [if_pos hl]; exact evOps_mono hc h
    · rename_i hl
      rw [if_neg hl]
      split at h
      · rename_i hs hh
        rw [evHist_mono hc hh]
        split at h
        · rename_i ho
          refine (if_pos ?_).trans h
          · intro q hq
            have := ho q hq
            have hr := loose_rd hq
            unfold ObOk at this ⊢
            unfold rdAt at hr
            split at this
            · rename_i τ1 H1 τ2 Hp o e1 e2 e3
              rw [e3] at hr
              simp only [Bool.and_eq_true, Bool.not_eq_true'] at hr
              try simp only [e1, e2, e3]
              intro hw
              rw [evO_rd (call := call) hr.2, evO_rd (call := call) (call' := call') hr.2]
              exact this hw
            · exact this.elim
        · simp at h
      · simp at h
  · simp at h
theorem iter_mono {f g : Tm → AH → Out} (hfg : ∀ τ H r, f τ H = some r → g τ H = some r) : ∀ {n m : Nat} {τ : Tm} {H : AH} {r : Ex × Tm × AH}, n ≤ m → iter f n τ H = some r → iter g m τ H = some r
  | 0, m, τ, H, r, _, h => by simp [iter] at h
  | n + 1, 0, τ, H, r, hn, h => by omega
  | n + 1, m + 1, τ, H, r, hn, h => by
    simp only [iter] at h ⊢
    split at h
    · rename_i τ' H' hf
      rw [hfg _ _ _ hf]; exact iter_mono hfg (by omega) h
    · rename_i hne
      rw [hfg _ _ _ h]
      obtain ⟨e, τ', H'⟩ := r
      cases e with
      | normal => exact (hne _ _ h).elim
      | _ => rfl
theorem evCode_mono (hc : LeC call call') {n m : Nat} (hn : n ≤ m) : ∀ (c : Code) {τ : Tm} {H : AH} {r : Ex × Tm × AH}, evCode P call n c τ H = some r → evCode P call' m c τ H = some r
  | .skip, τ, H, r, h => h
  | .label _, τ, H, r, h => h
  | .region id ops draw, τ, H, r, h => by
    simp only [evCode] at h ⊢
    cases draw with
    | true =>
      simp only [if_true] at h ⊢
      split at h
      · rename_i τ' H' h1
        rw [evDraw_mono hc h1]; exact h
      · simp at h
    | false =>
      simp only [Bool.false_eq_true, if_false] at h ⊢
      split at h
      · rename_i τ' H' h1
        rw [evOps_mono hc h1]; exact h
      · simp at h
  | .seq a b, τ, H, r, h => by
    simp only [evCode] at h ⊢
    split at h
    · rename_i τ' H' h1
      rw [evCode_mono hc hn a h1]; exact evCode_mono hc hn b h
    · rename_i hne
      rw [evCode_mono hc hn a h]
      obtain ⟨e, τ', H'⟩ := r
      cases e with
      | normal => exact (hne _ _ h).elim
      | _ => rfl
  | .cond c a b, τ, H, r, h => by
    simp only [evCode] at h ⊢
    split at h
    · rename_i q hq
      cases q
      · exact evCode_mono hc hn b h
      · exact evCode_mono hc hn a h
    · simp at h
  | .block id a, τ, H, r, h => by
    simp only [evCode] at h ⊢
    split at h
    · rename_i id' τ' H' h1
      rw [evCode_mono hc hn a h1]; exact h
    · rename_i hne
      rw [evCode_mono hc hn a h]
      obtain ⟨e, τ', H'⟩ := r
      cases e with
      | exit id' => exact (hne _ _ _ h).elim
      | _ => rfl
  | .loop a, τ, H, r, h => by
    simp only [evCode] at h ⊢
    exact iter_mono (fun τ H r h => evCode_mono hc hn a h) hn h
  | .exit _, τ, H, r, h => h
  | .scope a, τ, H, r, h => by
    simp only [evCode] at h ⊢
    exact evCode_mono hc hn a h
  | .ret, τ, H, r, h => h
  | .rangeFunc .., τ, H, r, h => by simp [evCode] at h
  | .goto .., τ, H, r, h => by simp [evCode] at h
  | .refuse .., τ, H, r, h => by simp [evCode] at h
theorem evFn_mono (hc : LeC call call') {n m : Nat} (hn : n ≤ m) {fn : Func} {args : List AV} {H : AH} {r : AV × AH} (h : evFn P call n fn args H = some r) : evFn P call' m fn args H = some r := by
  unfold evFn at h ⊢
  split at h
  · rename_i c hb
    split at h
    · rename_i τ H' h1
      rw [evCode_mono hc hn c h1]; exact h
    · rename_i τ H' h1
      rw [evCode_mono hc hn c h1]; exact h
    · simp at h
  · simp at h
theorem ev_succ : ∀ n, LeC (ev P n) (ev P (n + 1))
  | 0 => fun f a H r h => by simp [ev] at h
  | n + 1 => fun f a H r h => by
    have ih := ev_succ n
    rw [ev] at h ⊢
    split at h
    · rename_i fn hf
      split at h
      · rename_i hok
        rw [if_pos hok]
        exact evFn_mono ih (Nat.le_succ n) h
      · simp at h
    · simp at h
theorem ev_mono {n m : Nat} (h : n ≤ m) : LeC (ev P n) (ev P m) := by
  induction h with
  | refl => exact fun _ _ _ _ h => h
  | step _ ih => exact fun f a H r h => ev_succ _ f a H r (ih f a H r h)

/-- A call answers r, with enough rounds. -/
def Ans (P : Program) (f : FuncId) (args : List AV) (H : AH) (r : AV) (H' : AH) : Prop := ∃ n, ev P n f args H = some (r, H')
theorem Ans.at {f : FuncId} {args : List AV} {H : AH} {r : AV} {H' : AH} (h : Ans P f args H r H') : ∃ n, ∀ m, n ≤ m → ev P m f args H = some (r, H') :=
  let ⟨n, hn⟩ := h; ⟨n, fun m hm => ev_mono hm _ _ _ _ hn⟩
end
end Go.Ev
