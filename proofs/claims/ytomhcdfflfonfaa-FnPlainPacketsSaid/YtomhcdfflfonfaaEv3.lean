/- Lemmas of an evaluator of the given code and of what the functions answer; no condition of its own. -/
import Derived.Test.YtomhcdfflfonfaaEv2
/- Regions with what floats: every order comes to the evaluator's. -/
namespace Go.Ev
open Go Go.RowKit
set_option linter.unusedSimpArgs false
set_option linter.unusedVariables false
set_option linter.unusedSectionVars false

/-! another name for a new block -/
mutual
theorem VR.re {μ μ' μ2 : Mu} (hg : ∀ k L, μ k = some L → μ2 k = μ' k) : ∀ (a : AV) (v v0 : Value), VR μ a v0 → VR μ' a v → VR μ2 a v
  | .bool _, _, _, _, h => h
  | .int _ _, _, _, _, h => h
  | .str _, _, _, _, h => h
  | .nilPtr, _, _, _, h => h
  | .ptr _ _, _, _, h0, h => by
    simp only [VR] at h0 h ⊢
    obtain ⟨L0, e0, _⟩ := h0
    obtain ⟨L, h1, h2⟩ := h; exact ⟨L, by rw [hg _ _ e0]; exact h1, h2⟩
  | .nilSlice, _, _, _, h => h
  | .slice _ _ _, _, _, h0, h => by
    simp only [VR] at h0 h ⊢
    obtain ⟨L0, _, _, e0, _⟩ := h0
    obtain ⟨L, cap, a, h1, h2⟩ := h; exact ⟨L, cap, a, by rw [hg _ _ e0]; exact h1, h2⟩
  | .nilMap, _, _, _, h => h
  | .map _, _, _, h0, h => by
    simp only [VR] at h0 h ⊢
    obtain ⟨L0, e0, _⟩ := h0
    obtain ⟨L, h1, h2⟩ := h; exact ⟨L, by rw [hg _ _ e0]; exact h1, h2⟩
  | .nilFunc, _, _, _, h => h
  | .func _ fs l, _, _, h0, h => by
    simp only [VR] at h0 h ⊢
    obtain ⟨gs0, cs0, _, a2, a3⟩ := h0
    obtain ⟨gs, cs, h1, h2, h3⟩ := h; exact ⟨gs, cs, h1, VRs.re hg fs _ _ a2 h2, VRs.re hg l _ _ a3 h3⟩
  | .nilIface, _, _, _, h => h
  | .iface _ a, _, _, h0, h => by
    simp only [VR] at h0 h ⊢
    obtain ⟨u0, _, a2⟩ := h0
    obtain ⟨u, h1, h2⟩ := h; exact ⟨u, h1, VR.re hg a _ _ a2 h2⟩
  | .agg l, _, _, h0, h => by
    simp only [VR] at h0 h ⊢
    obtain ⟨cs0, _, a2⟩ := h0
    obtain ⟨cs, h1, h2⟩ := h; exact ⟨cs, h1, VRs.re hg l _ _ a2 h2⟩
  | .tuple l, _, _, h0, h => by
    simp only [VR] at h0 h ⊢
    obtain ⟨cs0, _, a2⟩ := h0
    obtain ⟨cs, h1, h2⟩ := h; exact ⟨cs, h1, VRs.re hg l _ _ a2 h2⟩
theorem VRs.re {μ μ' μ2 : Mu} (hg : ∀ k L, μ k = some L → μ2 k = μ' k) : ∀ (l : List AV) (vs vs0 : List Value), VRs μ l vs0 → VRs μ' l vs → VRs μ2 l vs
  | [], _, _, _, h => h
  | a :: l, _, _, h0, h => by
    simp only [VRs] at h0 h ⊢
    obtain ⟨u0, us0, _, a2, a3⟩ := h0
    obtain ⟨u, us, h1, h2, h3⟩ := h
    exact ⟨u, us, h1, VR.re hg a _ _ a2 h2, VRs.re hg l _ _ a3 h3⟩
end
theorem RowR.re {μ μ' μ2 : Mu} (hg : ∀ k L, μ k = some L → μ2 k = μ' k) {xs : List AV} {cs : Array Value} {base : Nat} (h0 : ∀ (i : Nat) (a : AV), xs[i]? = some a → ∃ v, VR μ a v) (h : RowR μ' xs cs base) : RowR μ2 xs cs base :=
  ⟨h.1, h.2.1, fun i a ha => let ⟨v0, e0⟩ := h0 i a ha; let ⟨v, h1, h2⟩ := h.2.2 i a ha; ⟨v, h1, VR.re hg a v v0 e0 h2⟩⟩
section
variable {P : Program} {w0 w w' : World} {μ μ' : Mu} {X : AH}
theorem BlkR.re {μ2 : Mu} (hg : ∀ k L, μ k = some L → μ2 k = μ' k) {b : Nat} (hr : μ b = none → μ2 b = none) {x : Blk} (h0 : BlkR P w0 w μ b x) (h : BlkR P w0 w' μ' b x) : BlkR P w0 w' μ2 b x := by
  cases x with
  | cells e ro xs =>
    cases ro with
    | false =>
      obtain ⟨L0, cs0, fz0, e0, a1, a2, a3, a4, a5⟩ := h0
      obtain ⟨L, cs, fz, e', h1, h2, h3, h4, h5⟩ := h
      exact ⟨L, cs, fz, e', by rw [hg _ _ a1]; exact h1, h2, h3, h4.re hg (fun i a ha => let ⟨v, _, e⟩ := a4.2.2 i a ha; ⟨v, e⟩), h5⟩
    | true =>
      obtain ⟨L0, a1, a2, a3, a4, a5⟩ := h0
      obtain ⟨L, h1, h2, h3, h4, h5⟩ := h
      exact ⟨L, by rw [hg _ _ a1]; exact h1, h2, h3, h4, fun i a ha => let ⟨_, v0, _, e0⟩ := a5 i a ha; let ⟨k1, v, k2, k3⟩ := h5 i a ha; ⟨k1, v, k2, VR.re hg a v v0 e0 k3⟩⟩
  | map l =>
    obtain ⟨L0, es0, ck0, a1, a2, a3, a4⟩ := h0
    obtain ⟨L, es, ck, h1, h2, h3, h4⟩ := h
    exact ⟨L, es, ck, by rw [hg _ _ a1]; exact h1, h2, ⟨VRs.re hg _ _ _ a3.1 h3.1, VRs.re hg _ _ _ a3.2 h3.2⟩, h4⟩
  | res => exact hr h0
/-- blocks kept free -/
theorem Rel.resv (h : Rel P w0 X μ w) (n : Nat) : Rel P w0 (X.res n) μ w := by
  have hold : ∀ b x, (X.res n).get b = some x → (X.next ≤ b ∧ b < X.next + n ∧ x = .res) ∨ X.get b = some x := fun b x hb => by
    have hb' : (if X.next ≤ b ∧ b < X.next + n then some Blk.res else X.get b) = some x := hb
    split at hb'
    · rename_i hc; exact .inl ⟨hc.1, hc.2, by simpa using hb'.symm⟩
    · exact .inr hb'
  refine ⟨h.below, fun b hb => h.fresh b (by have : X.next + n ≤ b := hb; omega), fun b x hb => ?_, fun b x hb => ?_, fun b1 x1 h1 hx1 b2 x2 hne h2 hx2 => ?_⟩
  · show b < X.next + n
    rcases hold b x hb with h1 | h1
    · omega
    · have := h.dom b x h1; omega
  · rcases hold b x hb with ⟨h1, h2, rfl⟩ | h1
    · exact h.fresh b h1
    · exact h.blk b x h1
  · rcases hold b1 x1 h1 with ⟨_, _, rfl⟩ | h1
    · simp [Blk.rw] at hx1
    · rcases hold b2 x2 h2 with ⟨_, _, rfl⟩ | h2
      · simp [Blk.rw] at hx2
      · exact h.sep b1 x1 h1 hx1 b2 x2 hne h2 hx2
theorem Rel.ren (h0 : Rel P w0 X μ w) (hx : Ext μ μ') {e : TypeId} {r : List AV} (h : Rel P w0 (X.push (.cells e false r)) μ' w') {vs : List Value} (hr : VRs μ r vs) {b : Nat} (hb : X.get b = some .res) :
    ∃ μ2, Ext μ μ2 ∧ Rel P w0 (X.set b (.cells e false r)) μ2 w' ∧ μ2 b = μ' X.next := by
  have hbn := h0.dom b _ hb
  have hμ : μ b = none := h0.blk b _ hb
  let μ2 : Mu := fun k => if k = b then μ' X.next else if k = X.next then none else μ k
  have hn : μ X.next = none := h0.fresh _ (Nat.le_refl _)
  have hne : ∀ k L, μ k = some L → k ≠ b ∧ k ≠ X.next := fun k L hk => ⟨fun e => by subst e; rw [hμ] at hk; simp at hk, fun e => by subst e; rw [hn] at hk; simp at hk⟩
  have hg : ∀ k L, μ k = some L → μ2 k = μ' k := fun k L hk => by
    obtain ⟨e1, e2⟩ := hne k L hk
    show (if k = b then _ else if k = X.next then _ else _) = _
    rw [if_neg e1, if_neg e2, hk, hx k L hk]
  have h2b : μ2 b = μ' X.next := by show (if b = b then _ else _) = _; rw [if_pos rfl]
  have hpn : (X.push (.cells e false r)).get X.next = some (.cells e false r) := by rw [AH.push_get, if_pos rfl]
  have hpo : ∀ k x, X.get k = some x → (X.push (.cells e false r)).get k = some x := fun k x hk => by
    have := h0.dom k x hk
    rw [AH.push_get, if_neg (by omega)]; exact hk
  refine ⟨μ2, fun k L hk => by rw [hg k L hk]; exact hx k L hk, ⟨h.below, ?_, ?_, ?_, ?_⟩, h2b⟩
  · intro k hk
    simp only [AH.set_next] at hk
    show (if k = b then _ else if k = X.next then _ else _) = _
    rw [if_neg (by omega)]
    split
    · rfl
    · exact h0.fresh k hk
  · intro k x hk
    rw [AH.set_get] at hk
    simp only [AH.set_next]
    split at hk
    · omega
    · exact h0.dom k x hk
  · intro k x hk
    rw [AH.set_get] at hk
    split at hk
    · rename_i hkb
      subst hkb
      simp only [Option.some.injEq] at hk; subst hk
      obtain ⟨L, cs, fz, e', a1, a2, a3, a4, a5⟩ := h.blk _ _ hpn
      refine ⟨L, cs, fz, e', by rw [h2b]; exact a1, a2, a3, a4.re hg (fun i a ha => ?_), a5⟩
      obtain ⟨v, _, hv⟩ := hr.get i a ha
      exact ⟨v, hv⟩
    · rename_i hkb
      refine BlkR.re hg (fun hn' => ?_) (h0.blk k x hk) (h.blk k x (hpo k x hk))
      show (if k = b then _ else if k = X.next then _ else _) = _
      rw [if_neg hkb]; split
      · rfl
      · exact hn'
  · -- what may be written lies apart
    have key : ∀ k x, (X.set b (.cells e false r)).get k = some x → x.rw = true → ∃ k', (X.push (.cells e false r)).get k' = some x ∧ μ2 k = μ' k' ∧ (k = b → k' = X.next) ∧ (k ≠ b → k' = k ∧ k < X.next) := by
      intro k x hk hrw
      rw [AH.set_get] at hk
      split at hk
      · rename_i hkb
        subst hkb
        simp only [Option.some.injEq] at hk; subst hk
        exact ⟨X.next, hpn, h2b, fun _ => rfl, fun h => (h rfl).elim⟩
      · rename_i hkb
        obtain ⟨L, hL, _⟩ := (h0.blk k x hk).loc (rw_res hrw)
        exact ⟨k, hpo k x hk, hg k L hL, fun h => (hkb h).elim, fun _ => ⟨rfl, h0.dom k x hk⟩⟩
    intro b1 x1 hb1 hx1 b2 x2 hne2 hb2 hx2 L1 L2 hL1 hL2
    obtain ⟨k1, p1, p2, p3, p4⟩ := key b1 x1 hb1 hx1
    obtain ⟨k2, q1, q2, q3, q4⟩ := key b2 x2 hb2 hx2
    rw [p2] at hL1
    rw [q2] at hL2
    refine h.sep k1 x1 p1 hx1 k2 x2 ?_ q1 hx2 L1 L2 hL1 hL2
    intro e
    by_cases e1 : b1 = b
    · by_cases e2 : b2 = b
      · exact hne2 (e2.trans e1.symm)
      · have := p3 e1; have := q4 e2; omega
    · by_cases e2 : b2 = b
      · have := q3 e2; have := p4 e1; omega
      · have := p4 e1; have := q4 e2; omega
theorem Sh.ren {s : Sh} {b : Nat} {μ2 : Mu} (hb : μ2 b = μ' X.next) {u : Value} (h : VR μ' (s.av X.next) u) : VR μ2 (s.av b) u := by
  cases s with
  | ptr => simp only [Sh.av, VR] at h ⊢; rw [hb]; exact h
  | sl n => simp only [Sh.av, VR] at h ⊢; rw [hb]; exact h
/-- what floats, in the text's place -/
theorem flt_ev {call : CallF} {o : Oper} {τ : Tm} {s : Sh} {y : Blk} (h : fltO P o.op τ = some (s, y)) (X : AH) : evO P call o τ X = some (s.av X.next, X.push y) := by
  obtain ⟨dst, op, ty, pos, after, guard⟩ := o
  cases op <;> simp only [fltO, reduceCtorEq] at h
  case alloc e =>
    simp only [evO, evOp]
    split at h
    · rename_i z sz h1 h2
      simp only [Option.some.injEq, Prod.mk.injEq] at h; obtain ⟨rfl, rfl⟩ := h
      simp only [h1, h2]; rfl
    · simp at h
  case buildSlice t len parts =>
    simp only [evO, evOp]
    split at h
    · rename_i ps e h1 h2
      simp only [h1, h2]
      split at h
      · rename_i sz z h3 h4
        simp only [h3, h4]
        split at h
        · rename_i hc
          rw [if_pos hc]
          split at h
          · rename_i r hr
            simp only [hr]
            split at h
            · rename_i hc2
              simp only [Option.some.injEq, Prod.mk.injEq] at h; obtain ⟨rfl, rfl⟩ := h
              rw [if_pos hc2]; rfl
            · simp at h
          · simp at h
        · simp at h
      · simp at h
    · simp at h
  case convert sr d x =>
    simp only [evO, evOp]
    split at h
    · rename_i u h1
      simp only [h1]
      split at h
      · rename_i e h2 h3
        split at h
        · rename_i h4 h5
          simp only [Option.some.injEq, Prod.mk.injEq] at h; obtain ⟨rfl, rfl⟩ := h
          simp only [convA, h2, h3, h4, h5]; rfl
        · simp at h
      · simp at h
    · simp at h
/-- its cells stand in the memory that was -/
theorem flt_pre {o : Oper} {τ : Tm} {a : Act} (hok : ∀ z ∈ o.op.operands.toList, OR μ τ a z) {s : Sh} {y : Blk} (h : fltO P o.op τ = some (s, y)) : ∃ e r vs, y = .cells e false r ∧ VRs μ r vs := by
  obtain ⟨dst, op, ty, pos, after, guard⟩ := o
  cases op <;> simp only [fltO, reduceCtorEq] at h
  case alloc e =>
    split at h
    · rename_i z sz h1 h2
      simp only [Option.some.injEq, Prod.mk.injEq] at h; obtain ⟨rfl, rfl⟩ := h
      obtain ⟨i, v, hi, hv, hc⟩ := zeroT_info h1
      exact ⟨e, z, _, rfl, cvL_sound hc⟩
    · simp at h
  case buildSlice t len parts =>
    have hok' : ∀ z ∈ parts.toList.map (·.2), OR μ τ a z := by simpa [Op.operands] using hok
    split at h
    · rename_i ps e h1 h2
      have hp := opndP_sound hok' h1
      split at h
      · rename_i sz z h3 h4
        split at h
        · rename_i hc
          split at h
          · rename_i r hr
            split at h
            · simp only [Option.some.injEq, Prod.mk.injEq] at h; obtain ⟨rfl, rfl⟩ := h
              obtain ⟨i, v, hi, hvz, hcz⟩ := zeroT_info h4
              have hm := made_sound (cvL_sound (μ := μ) hcz) len (len * sz) (by rw [hc.1])
              obtain ⟨cs', g1, g2⟩ := fill_sound hr hp hm
              exact ⟨e, r, _, rfl, g2⟩
            · simp at h
          · simp at h
        · simp at h
      · simp at h
    · simp at h
  case convert sr d x =>
    split at h
    · rename_i u h1
      split at h
      · rename_i e h2 h3
        split at h
        · simp only [Option.some.injEq, Prod.mk.injEq] at h; obtain ⟨rfl, rfl⟩ := h
          exact ⟨e, _, _, rfl, bytesC_R u⟩
        · simp at h
      · simp at h
    · simp at h
end
end Go.Ev

/- Regions with what floats are sound. -/
namespace Go.Ev
open Go Go.RowKit
set_option linter.unusedSimpArgs false
set_option linter.unusedVariables false
set_option linter.unusedSectionVars false

theorem bef_lt {ops : Array Oper} (he : edgesOk ops = true) {i : Nat} : ∀ {j : Nat}, bef ops i j = true → i < j := by
  intro j
  induction j using Nat.strongRecOn with
  | _ j ih =>
    intro h
    obtain ⟨o, e, h1, h2, h3, h4, h5⟩ := bef_edge he h
    rcases h5 with h5 | h5
    · omega
    · have := ih e.on h4 h5; omega

/-- behind which place the effects of a set end -/
def cutG (e : Nat → Bool) (S : Nat → Bool) : Nat → Nat
  | 0 => 0
  | k + 1 => if S k && e k then k + 1 else cutG e S k
section
variable {e : Nat → Bool}
theorem cutG_le (S : Nat → Bool) : ∀ n, cutG e S n ≤ n
  | 0 => Nat.le_refl _
  | n + 1 => by
    simp only [cutG]
    split
    · exact Nat.le_refl _
    · exact Nat.le_succ_of_le (cutG_le S n)
theorem cutG_above (S : Nat → Bool) : ∀ n j, cutG e S n ≤ j → j < n → ¬ (S j = true ∧ e j = true)
  | 0, j, _, h => by omega
  | n + 1, j, h1, h2 => by
    simp only [cutG] at h1
    split at h1
    · omega
    · rename_i hc
      by_cases he : j = n
      · subst he; simpa using hc
      · exact cutG_above S n j h1 (by omega)
theorem cutG_pos (S : Nat → Bool) : ∀ n, cutG e S n = 0 ∨ ∃ j, cutG e S n = j + 1 ∧ j < n ∧ S j = true ∧ e j = true
  | 0 => .inl rfl
  | n + 1 => by
    simp only [cutG]
    split
    · rename_i hc
      rw [Bool.and_eq_true] at hc
      exact .inr ⟨n, rfl, by omega, hc.1, hc.2⟩
    · rcases cutG_pos S n with h | ⟨j, h1, h2, h3⟩
      · exact .inl h
      · exact .inr ⟨j, h1, by omega, h3⟩
theorem cutG_add_ne {S : Nat → Bool} {i : Nat} (hne : e i = false) : ∀ n, cutG e (add S i) n = cutG e S n
  | 0 => rfl
  | n + 1 => by
    simp only [cutG]
    rw [cutG_add_ne hne n]
    by_cases h : n = i
    · subst h; simp [hne]
    · simp [add, h]
theorem cutG_add_eff {S : Nat → Bool} {i : Nat} (he : e i = true) (hab : ∀ j, i < j → e j = true → S j = false) : ∀ n, i < n → cutG e (add S i) n = i + 1
  | 0, h => by omega
  | n + 1, h => by
    simp only [cutG]
    by_cases hn : n = i
    · subst hn; simp [add, he]
    · have hn' : i < n := by omega
      rw [cutG_add_eff he hab n hn']
      have : (add S i n && e n) = false := by
        simp only [add, hn, if_false]
        cases hc : e n with
        | false => simp
        | true => simp [hab n hn' hc]
      rw [this]; simp
end

section
variable {P : Program} {w0 : World} {call : CallF} {ops : Array Oper}

/-- the floating blocks of a set -/
def EF (fl : List Nat) (n0 : Nat) (B : Nat → Blk) (p : Nat → Bool) : Nat → Option Blk := fun b => if b < n0 then none else (fl[b - n0]?).bind fun f => if p f then some (B f) else none
section
variable {fl : List Nat} {n0 : Nat} {B : Nat → Blk}
theorem EF_congr {p q : Nat → Bool} (h : ∀ f ∈ fl, p f = q f) : EF fl n0 B p = EF fl n0 B q := by
  funext b
  unfold EF
  split
  · rfl
  · cases hf : fl[b - n0]? with
    | none => rfl
    | some f => simp only [Option.bind_some]; rw [h f (List.mem_of_getElem? hf)]
theorem EF_some {p : Nat → Bool} {b : Nat} {x : Blk} (h : EF fl n0 B p b = some x) : ∃ f, fl[b - n0]? = some f ∧ p f = true ∧ x = B f ∧ n0 ≤ b := by
  unfold EF at h
  split at h
  · simp at h
  · cases hf : fl[b - n0]? with
    | none => rw [hf] at h; simp at h
    | some f =>
      rw [hf] at h
      simp only [Option.bind_some] at h
      split at h
      · rename_i hp; exact ⟨f, rfl, hp, by simpa using h.symm, by omega⟩
      · simp at h
theorem idx_get {f : Nat} (hf : f ∈ fl) : fl[fl.idxOf f]? = some f := by
  have := List.idxOf_lt_length_iff.2 hf
  rw [List.getElem?_eq_getElem this, List.getElem_idxOf]
theorem get_idx (hnd : fl.Nodup) {k f : Nat} (h : fl[k]? = some f) : fl.idxOf f = k := by
  obtain ⟨hk, e⟩ := List.getElem?_eq_some_iff.1 h
  subst e
  exact hnd.idxOf_getElem k hk
theorem plus_plus (X : AH) (p q : Nat → Bool) (hpq : ∀ f, p f = true → q f = true → False) : (X.plus (EF fl n0 B p)).plus (EF fl n0 B q) = X.plus (EF fl n0 B fun f => p f || q f) := by
  refine AH.ext' (fun b => ?_) rfl
  simp only [plus_get, EF]
  by_cases hb : b < n0
  · simp [hb]
  · cases hf : fl[b - n0]? with
    | none => simp [hb]
    | some f => by_cases hp : p f = true <;> by_cases hq : q f = true <;> simp [hb, hp, hq]
theorem plus_none (X : AH) {p : Nat → Bool} (h : ∀ f ∈ fl, p f = false) : X.plus (EF fl n0 B p) = X := by
  refine AH.ext' (fun b => ?_) rfl
  rw [plus_get]
  cases he : EF fl n0 B p b with
  | none => rfl
  | some x =>
    obtain ⟨f, h1, h2, _⟩ := EF_some he
    rw [h f (List.mem_of_getElem? h1)] at h2; simp at h2
end

/-- the run of the text, with what floats -/
structure RunF (P : Program) (call : CallF) (ops : Array Oper) (n0 : Nat) where
  T : Nat → Tm
  X : Nat → AH
  V : Nat → AV
  B : Nat → Blk
  step : ∀ k o, ops[k]? = some o → T (k + 1) = put (T k) o.dst (V k) ∧
    ((fltAt P ops k = true ∧ X (k + 1) = X k ∧ ∃ s, fltO P o.op (T k) = some (s, B k) ∧ V k = s.av (n0 + (flOf P ops).idxOf k)) ∨
     (fltAt P ops k = false ∧ wantA ops (T k) o = true ∧ ∃ X', evO P call o (T k) ((X k).plus (EF (flOf P ops) n0 B fun f => bef ops f k && !joinedB P ops k f)) = some (V k, X') ∧ X (k + 1) = if isEff P o.op then X' else X k) ∨
     (fltAt P ops k = false ∧ wantA ops (T k) o = false ∧ V k = U ∧ X (k + 1) = if isEff P o.op then (X k).plus (EF (flOf P ops) n0 B fun f => bef ops f k && !joinedB P ops k f) else X k))

theorem fl_mem {f : Nat} : f ∈ flOf P ops ↔ f < ops.size ∧ fltAt P ops f = true := by
  unfold flOf; rw [List.mem_filter, List.mem_range]
theorem fl_nodup : (flOf P ops).Nodup := List.Pairwise.filter _ List.nodup_range
theorem fltAt_of {i : Nat} {o : Oper} (h : fltAt P ops i = true) (ho : ops[i]? = some o) : isFlt P o = true := by
  unfold fltAt at h
  rw [ho, Bool.and_eq_true] at h
  exact h.1
theorem effF_of {j : Nat} (h : effF P ops j = true) : effAt P ops j = true ∧ fltAt P ops j = false := by
  unfold effF at h
  rw [Bool.and_eq_true] at h
  exact ⟨h.1, by simpa using h.2⟩
theorem okF_of (h : okF P ops = true) : edgesOk ops = true ∧ ∀ i j x y, ops[i]? = some x → ops[j]? = some y → i < j → (clash ops x y = true ∨ (effF P ops i = true ∧ effF P ops j = true)) → bef ops i j = true := by
  unfold okF at h
  rw [Bool.and_eq_true] at h
  refine ⟨h.1, fun i j x y hx hy hij hc => ?_⟩
  have h2 := h.2
  rw [List.all_eq_true] at h2
  have h3 := h2 (y, j) (by rw [List.mem_zipIdx_iff_getElem?]; simpa using hy)
  rw [List.all_eq_true] at h3
  have h4 := h3 (x, i) (by rw [List.mem_zipIdx_iff_getElem?]; simpa using hx)
  simp only [hij, decide_true, Bool.not_true, Bool.false_or, Bool.or_eq_true, Bool.and_eq_true, Bool.not_eq_true', Bool.and_eq_false_iff] at h4
  rcases h4 with ⟨h5, h6⟩ | h4
  · rcases hc with hc | ⟨c1, c2⟩
    · rw [h5] at hc; simp at hc
    · rcases h6 with h6 | h6
      · rw [h6] at c1; simp at c1
      · rw [h6] at c2; simp at c2
  · exact h4
theorem joined_succ (k f : Nat) : joinedB P ops (k + 1) f = (joinedB P ops k f || (effF P ops k && bef ops f k)) := by
  unfold joinedB; rw [List.range_succ, List.any_append]; simp
theorem joined_ex {k f : Nat} (h : joinedB P ops k f = true) : ∃ j, j < k ∧ effF P ops j = true ∧ bef ops f j = true := by
  unfold joinedB at h
  rw [List.any_eq_true] at h
  obtain ⟨j, hj, h⟩ := h
  rw [Bool.and_eq_true] at h
  exact ⟨j, by simpa using hj, h.1, h.2⟩
theorem joined_keep {p f : Nat} : ∀ {i : Nat}, p ≤ i → (∀ j, p ≤ j → j < i → effF P ops j = false) → joinedB P ops i f = joinedB P ops p f
  | 0, hp, _ => by have : p = 0 := by omega
                   subst this; rfl
  | i + 1, hp, h => by
    by_cases he : p = i + 1
    · subst he; rfl
    · rw [joined_succ, h i (by omega) (by omega), joined_keep (p := p) (i := i) (by omega) fun j h1 h2 => h j h1 (by omega)]; simp
section
variable {n0 : Nat} (R : RunF P call ops n0)
theorem RunF.T_succ {k : Nat} (hk : k < ops.size) : R.T (k + 1) = put (R.T k) ((ops[k]?).bind (·.dst)) (R.V k) := by
  have h := (R.step k ops[k] (by simp [hk])).1
  rw [h]; simp [hk]
theorem RunF.X_keep {p : Nat} : ∀ {i : Nat}, p ≤ i → i ≤ ops.size → (∀ j, p ≤ j → j < i → effF P ops j = false) → R.X p = R.X i
  | 0, hp, _, _ => by have : p = 0 := by omega
                      subst this; rfl
  | i + 1, hp, hi, h => by
    by_cases he : p = i + 1
    · subst he; rfl
    · rw [RunF.X_keep (p := p) (i := i) (by omega) (by omega) (fun j h1 h2 => h j h1 (by omega))]
      have hi' : i < ops.size := by omega
      have hne := h i (by omega) (by omega)
      rcases (R.step i ops[i] (by simp [hi'])).2 with ⟨_, h1, _⟩ | ⟨h0, _, X', _, h1⟩ | ⟨h0, _, _, h1⟩
      · exact h1.symm
      · have : isEff P ops[i].op = false := by unfold effF effAt at hne; simpa [hi', h0] using hne
        rw [h1, this]; rfl
      · have : isEff P ops[i].op = false := by unfold effF effAt at hne; simpa [hi', h0] using hne
        rw [h1, this]; rfl
/-- what has not been joined is kept free -/
theorem RunF.free (hf : CallFr call) (h0 : ∀ f ∈ flOf P ops, (R.X 0).get (n0 + (flOf P ops).idxOf f) = some .res ∧ n0 + (flOf P ops).idxOf f < (R.X 0).next) :
    ∀ k, k ≤ ops.size → ∀ p : Nat → Bool, (∀ f ∈ flOf P ops, p f = true → joinedB P ops k f = false) → Off (R.X k) (EF (flOf P ops) n0 R.B p)
  | 0, _, p, hp => fun b x hb => by
    obtain ⟨f, h1, h2, h3, h4⟩ := EF_some hb
    have hfm := List.mem_of_getElem? h1
    have := h0 f hfm
    rw [get_idx fl_nodup h1, show n0 + (b - n0) = b by omega] at this
    exact this
  | k + 1, hk, p, hp => by
    have hk' : k < ops.size := by omega
    have hp' : ∀ f ∈ flOf P ops, p f = true → joinedB P ops k f = false ∧ ¬ (effF P ops k = true ∧ bef ops f k = true) := fun f hf hpf => by
      have := hp f hf hpf
      rw [joined_succ, Bool.or_eq_false_iff, Bool.and_eq_false_iff] at this
      exact ⟨this.1, fun ⟨a, b⟩ => by rcases this.2 with h | h; rw [h] at a; simp at a; rw [h] at b; simp at b⟩
    have ih := RunF.free hf h0 k (by omega) p fun f hfm hpf => (hp' f hfm hpf).1
    rcases (R.step k ops[k] (by simp [hk'])).2 with ⟨_, h1, _⟩ | ⟨h2, hw, X', h3, h1⟩ | ⟨h2, hw, _, h1⟩
    · rw [h1]; exact ih
    · rw [h1]
      split
      · rename_i hei
        have hek : effF P ops k = true := by unfold effF effAt; simp [hk', hei, h2]
        refine (evO_fr hf (E := EF (flOf P ops) n0 R.B p) (fun b x hb => ?_) h3).2
        obtain ⟨f, g1, g2, g3, g4⟩ := EF_some hb
        have hh := ih b x hb
        have hfm := List.mem_of_getElem? g1
        refine ⟨?_, hh.2⟩
        rw [plus_get]
        have hnb : bef ops f k = false := by
          cases hb' : bef ops f k with
          | false => rfl
          | true => exact ((hp' f hfm g2).2 ⟨hek, hb'⟩).elim
        have : EF (flOf P ops) n0 R.B (fun f => bef ops f k && !joinedB P ops k f) b = none := by
          unfold EF; rw [if_neg (by omega), g1]; simp [hnb]
        rw [this]; exact hh.1
      · exact ih
    · rw [h1]
      split
      · rename_i hei
        have hek : effF P ops k = true := by unfold effF effAt; simp [hk', hei, h2]
        intro b x hb
        obtain ⟨f, g1, g2, g3, g4⟩ := EF_some hb
        have hh := ih b x hb
        have hfm := List.mem_of_getElem? g1
        refine ⟨?_, hh.2⟩
        rw [plus_get]
        have hnb : bef ops f k = false := by
          cases hb' : bef ops f k with
          | false => rfl
          | true => exact ((hp' f hfm g2).2 ⟨hek, hb'⟩).elim
        have : EF (flOf P ops) n0 R.B (fun f => bef ops f k && !joinedB P ops k f) b = none := by
          unfold EF; rw [if_neg (by omega), g1]; simp [hnb]
        rw [this]; exact hh.1
      · exact ih

/-- the slots behind the operations of a set -/
def TF (S : Nat → Bool) : Nat → Tm
  | 0 => R.T 0
  | k + 1 => if S k then put (TF S k) ((ops[k]?).bind (·.dst)) (R.V k) else TF S k
/-- the memory behind the operations of a set -/
def HF (S : Nat → Bool) : AH := (R.X (cutG (effF P ops) S ops.size)).plus (EF (flOf P ops) n0 R.B fun f => S f && !joinedB P ops (cutG (effF P ops) S ops.size) f)
end
section
variable {n0 : Nat} (hok : okF P ops = true) {S : Nat → Bool} (hS : Closed ops S) {i : Nat} {o : Oper} (hr : ReadyAt ops S i o)
include hok hS hr
theorem rdyF_before {j : Nat} (h : bef ops j i = true) : S j = true :=
  bef_ready (okF_of hok).1 (fun k => S k = true) hS hr.1 hr.2.2 h
theorem rdyF_after {j : Nat} (h : bef ops i j = true) : S j = false := by
  cases hj : S j with
  | false => rfl
  | true =>
    have := bef_closed (okF_of hok).1 (fun k => S k = true) hS j i hj h
    rw [hr.2.1] at this; simp at this
theorem clF_before {k : Nat} {x : Oper} (hx : ops[k]? = some x) (hk : k < i) (hc : clash ops x o = true) : S k = true :=
  rdyF_before hok hS hr ((okF_of hok).2 _ _ _ _ hx hr.1 hk (.inl hc))
theorem clF_after {k : Nat} {x : Oper} (hx : ops[k]? = some x) (hk : i < k) (hc : clash ops o x = true) : S k = false :=
  rdyF_after hok hS hr ((okF_of hok).2 _ _ _ _ hr.1 hx hk (.inl hc))
theorem TF_name (R : RunF P call ops n0) {t : Nat} (ht : t ∈ namesO ops o) : TF R S ops.size t = R.T i t := by
  have hi := lt_of_get hr.1
  have h1 : ∀ k, k ≤ i → TF R S k t = R.T k t := by
    intro k
    induction k with
    | zero => intro _; rfl
    | succ k ih =>
      intro hk
      have hk' : k < ops.size := by omega
      simp only [TF]
      rw [R.T_succ hk']
      by_cases hd : (ops[k]?).bind (·.dst) = some t
      · have hx : ops[k]? = some ops[k] := by simp [hk']
        have hd' : ops[k].dst = some t := by rw [hx] at hd; exact hd
        have hs : S k = true := clF_before hok hS hr hx (by omega) (clash_l hd' ht)
        rw [hs, hd]
        simp only [if_true, put_eq]
      · rw [put_ne hd]
        split
        · rw [put_ne hd]; exact ih (by omega)
        · exact ih (by omega)
  have h2 : ∀ k, i ≤ k → k ≤ ops.size → TF R S k t = R.T i t := by
    intro k
    induction k with
    | zero => intro h _; have : i = 0 := by omega
              subst this; exact h1 0 (Nat.le_refl _)
    | succ k ih =>
      intro hk hks
      by_cases hik : i = k + 1
      · rw [hik]; rw [← hik]; exact h1 i (Nat.le_refl _)
      · have hk' : k < ops.size := by omega
        simp only [TF]
        split
        · rename_i hsk
          rw [put_ne]
          · exact ih (by omega) (by omega)
          · intro hd
            have hx : ops[k]? = some ops[k] := by simp [hk']
            have hd' : ops[k].dst = some t := by rw [hx] at hd; exact hd
            by_cases hki : k = i
            · subst hki; rw [hr.2.1] at hsk; simp at hsk
            · have := clF_after hok hS hr hx (by omega) (clash_r hd' ht)
              rw [this] at hsk; simp at hsk
        · exact ih (by omega) (by omega)
  exact h2 ops.size (by omega) (Nat.le_refl _)
theorem TF_add (R : RunF P call ops n0) : TF R (add S i) ops.size = put (TF R S ops.size) o.dst (R.V i) := by
  have hi := lt_of_get hr.1
  have key : ∀ k, k ≤ ops.size → TF R (add S i) k = if i < k then put (TF R S k) o.dst (R.V i) else TF R S k := by
    intro k
    induction k with
    | zero => intro _; simp [TF]
    | succ k ih =>
      intro hk
      have ih := ih (by omega)
      simp only [TF]
      by_cases hki : k = i
      · subst hki
        rw [ih]
        simp only [add, if_true, Nat.lt_irrefl, if_false, Nat.lt_succ_self, hr.2.1, hr.1, Option.bind_some, Bool.false_eq_true]
      · have ha : add S i k = S k := by simp [add, hki]
        rw [ha, ih]
        cases hsk : S k with
        | false =>
          simp only [Bool.false_eq_true, if_false]
          by_cases hlt : i < k
          · rw [if_pos hlt, if_pos (show i < k + 1 by omega)]
          · rw [if_neg hlt, if_neg (show ¬ i < k + 1 by omega)]
        | true =>
          simp only [if_true]
          by_cases hlt : i < k
          · rw [if_pos hlt, if_pos (show i < k + 1 by omega)]
            funext t
            have hk' : k < ops.size := by omega
            have hx : ops[k]? = some ops[k] := by simp [hk']
            by_cases h1 : o.dst = some t
            · have h2 : (ops[k]?).bind (·.dst) ≠ some t := by
                intro hd
                have hd' : ops[k].dst = some t := by rw [hx] at hd; exact hd
                have := clF_after hok hS hr hx hlt (clash_l h1 (names_dst hd'))
                rw [this] at hsk; simp at hsk
              rw [put_ne h2, h1, put_eq, put_eq]
            · rw [put_ne h1]
              by_cases h2 : (ops[k]?).bind (·.dst) = some t
              · rw [h2, put_eq, put_eq]
              · rw [put_ne h2, put_ne h2, put_ne h1]
          · rw [if_neg hlt, if_neg (show ¬ i < k + 1 by omega)]
  rw [key _ (Nat.le_refl _), if_pos hi]
/-- an effect is carried out behind all effects of the text ahead of it, and no other -/
theorem cutF_eff (hei : effF P ops i = true) : cutG (effF P ops) S ops.size ≤ i ∧ ∀ j, cutG (effF P ops) S ops.size ≤ j → j < i → effF P ops j = false := by
  have hi := lt_of_get hr.1
  refine ⟨?_, fun j h1 h2 => ?_⟩
  · rcases cutG_pos (e := effF P ops) S ops.size with h | ⟨j, h1, h2, h3, h4⟩
    · omega
    · rw [h1]
      rcases Nat.lt_or_ge i j with hlt | hge
      · have := rdyF_after hok hS hr ((okF_of hok).2 i j o ops[j] hr.1 (by simp [h2]) hlt (.inr ⟨hei, h4⟩))
        rw [this] at h3; simp at h3
      · by_cases hji : j = i
        · subst hji; rw [hr.2.1] at h3; simp at h3
        · omega
  · cases hej : effF P ops j with
    | false => rfl
    | true =>
      have hsj := rdyF_before hok hS hr ((okF_of hok).2 j i ops[j] o (by simp [show j < ops.size by omega]) hr.1 h2 (.inr ⟨hej, hei⟩))
      exact (cutG_above (e := effF P ops) S ops.size j h1 (by omega) ⟨hsj, hej⟩).elim
end
end
end Go.Ev

/- Regions with what floats: every order comes to the evaluator's run. -/
namespace Go.Ev
open Go Go.RowKit
set_option linter.unusedSimpArgs false
set_option linter.unusedVariables false
set_option linter.unusedSectionVars false

section
variable {P : Program} {w0 : World} {call : CallF} {ops : Array Oper} {n0 : Nat}

/-- the effects ahead of the cut are all carried out -/
theorem cutF_in (hok : okF P ops = true) {S : Nat → Bool} (hS : Closed ops S) {j : Nat} (hj : j < cutG (effF P ops) S ops.size) (hej : effF P ops j = true) : S j = true := by
  rcases cutG_pos (e := effF P ops) S ops.size with h | ⟨j', h1, h2, h3, h4⟩
  · omega
  · by_cases e : j = j'
    · subst e; exact h3
    · have hb := (okF_of hok).2 j j' ops[j] ops[j'] (by simp [show j < ops.size by omega]) (by simp [h2]) (by omega) (.inr ⟨hej, h4⟩)
      exact bef_closed (okF_of hok).1 (fun k => S k = true) hS j' j h3 hb
theorem notJoined (hok : okF P ops = true) {S : Nat → Bool} (hS : Closed ops S) {f : Nat} (hf : S f = false) : joinedB P ops (cutG (effF P ops) S ops.size) f = false := by
  cases hj : joinedB P ops (cutG (effF P ops) S ops.size) f with
  | false => rfl
  | true =>
    obtain ⟨j, h1, h2, h3⟩ := joined_ex hj
    have := bef_closed (okF_of hok).1 (fun k => S k = true) hS j f (cutF_in hok hS h1 h2) h3
    rw [hf] at this; simp at this
/-- the machine's state behind the operations of S -/
structure AtF (P : Program) (w0 : World) (n : Nat) (μ0 : Mu) (R : RunF P call ops n0) (S : Nat → Bool) (a : Act) (w : World) : Prop where
  closed : Closed ops S
  st : ∃ μ, Ext μ0 μ ∧ St P w0 n μ (TF R S ops.size) (HF R S) a w

theorem addF_closed {S : Nat → Bool} (hS : Closed ops S) {i : Nat} {o : Oper} (hr : ReadyAt ops S i o) : Closed ops (add S i) := by
  intro j x hj hx e hex hb
  unfold Ev.add at hj ⊢
  split
  · rfl
  · split at hj
    · rename_i hji
      subst hji
      rw [hr.1] at hx; simp only [Option.some.injEq] at hx; subst hx
      exact hr.2.2 e hex hb
    · exact hS j x hj hx e hex hb
/-- the memory of S: first what an operation wants, then the rest -/
theorem HF_two (R : RunF P call ops n0) {S : Nat → Bool} {i c : Nat} (hc : c = cutG (effF P ops) S ops.size) (hb : ∀ f, bef ops f i = true → S f = true) :
    HF R S = ((R.X c).plus (EF (flOf P ops) n0 R.B fun f => bef ops f i && !joinedB P ops c f)).plus (EF (flOf P ops) n0 R.B fun f => S f && !joinedB P ops c f && !bef ops f i) := by
  subst hc
  rw [plus_plus _ _ _ (fun f h1 h2 => by cases hbf : bef ops f i <;> simp_all)]
  unfold HF
  congr 1
  refine EF_congr fun f _ => ?_
  cases hbf : bef ops f i with
  | false => simp
  | true => simp [hb f hbf]
theorem AtF.step (hc : CallOK P w0 call) (hfr : CallFr call) {n : Nat} (hoo : okOps n ops = true) (hok : okF P ops = true) {μ0 : Mu} {R : RunF P call ops n0}
    (h0 : ∀ f ∈ flOf P ops, (R.X 0).get (n0 + (flOf P ops).idxOf f) = some .res ∧ n0 + (flOf P ops).idxOf f < (R.X 0).next)
    (hob : ∀ i o p, ops[i]? = some o → looseF P ops i p = true → wantA ops (R.T i) o = true → ∃ v A B, evO P call o (R.T i) ((R.X p).plus (EF (flOf P ops) n0 R.B fun f => bef ops f i && !joinedB P ops p f)) = some (v, A) ∧
      evO P call o (R.T i) ((R.X i).plus (EF (flOf P ops) n0 R.B fun f => bef ops f i && !joinedB P ops i f)) = some (v, B))
    {S : Nat → Bool} {a : Act} {w : World} (h : AtF P w0 n μ0 R S a w) {i : Nat} {o : Oper} (hr : ReadyAt ops S i o)
    {Q : Exit → Act → World → Prop} {K : Act → World → Prop} (hK : ∀ a' w', AtF P w0 n μ0 R (add S i) a' w' → K a' w') : wpOp P ops Q i K a w := by
  obtain ⟨hS, μ, hx0, hst⟩ := h
  have hi := lt_of_get hr.1
  have he := (okF_of hok).1
  have hT := TF_add hok hS hr R
  have hg : Region.wanted o (yielded ops a.tmps) = wantA ops (R.T i) o := by
    refine wantA_sound (μ := μ) fun j want hgd d hd => ⟨by rw [hst.size]; exact okOps_dst hoo hd, fun v hv => ?_⟩
    have := hst.tm d v hv
    rwa [TF_name hok hS hr R (names_guard hgd hd)] at this
  have hOR : ∀ z ∈ o.op.operands.toList, OR μ (R.T i) a z := by
    intro z hz
    cases z with
    | tmp t =>
      have hz1 := OR.all hst.tm hst.size (okOps_get hoo hr.1) _ hz
      intro v hv
      have hn := TF_name hok hS hr R (names_opnd (ops := ops) hz)
      refine hz1 v ?_
      simp only [opnd] at hv ⊢
      rw [hn]; exact hv
    | const c => intro v hv; exact cv_sound hv
    | func f => intro v hv; simp [opnd] at hv; subst hv; simp [VR, Act.eval, VRs]
    | global g => intro v hv; simp [opnd] at hv
  have hcl := addF_closed hS hr
  have hbS : ∀ f, bef ops f i = true → S f = true := fun f hf => rdyF_before hok hS hr hf
  have hcle := cutG_le (e := effF P ops) S ops.size
  obtain ⟨c, hcdef⟩ : ∃ c, c = cutG (effF P ops) S ops.size := ⟨_, rfl⟩
  have hfree := fun p hp => R.free hfr h0 c (by omega) p hp
  unfold wpOp
  rw [hr.1]
  simp only [hg]
  rcases (R.step i o hr.1).2 with ⟨hfl, hX, s, hs, hv⟩ | ⟨hfl, hw, X', hev, hX⟩ | ⟨hfl, hw, hv, hX⟩
  · -- what floats
    have hflt := fltAt_of hfl hr.1
    have hw : wantA ops (R.T i) o = true := by
      unfold isFlt at hflt
      rw [Bool.and_eq_true] at hflt
      have : o.guard = none := by simpa using hflt.1
      unfold wantA; rw [this]
    have hei : effF P ops i = false := by unfold effF; rw [hfl]; simp
    rw [hw]
    simp only [if_true]
    left
    obtain ⟨e, r, vs, hB, hpre⟩ := flt_pre hOR hs
    have hev := flt_ev (call := call) hs (HF R S)
    rw [hB] at hev
    have hif : i ∈ flOf P ops := fl_mem.2 ⟨hi, hfl⟩
    have hget : (HF R S).get (n0 + (flOf P ops).idxOf i) = some .res := by
      have hnj := notJoined (P := P) hok hS hr.2.1
      rw [← hcdef] at hnj
      have := hfree (fun f => f == i) fun f _ hf => by simp at hf; subst hf; exact hnj
      have hE : EF (flOf P ops) n0 R.B (fun f => f == i) (n0 + (flOf P ops).idxOf i) = some (R.B i) := by
        unfold EF; rw [if_neg (by omega), Nat.add_sub_cancel_left, idx_get hif]; simp
      have h1 := (this _ _ hE).1
      unfold HF
      rw [plus_get, ← hcdef]
      have : EF (flOf P ops) n0 R.B (fun f => S f && !joinedB P ops c f) (n0 + (flOf P ops).idxOf i) = none := by
        unfold EF; rw [if_neg (by omega), Nat.add_sub_cancel_left, idx_get hif]; simp [hr.2.1]
      rw [this]; exact h1
    refine evO_wp hc hOR hev hst.rel fun u w' μ' hx hR hu => ?_
    obtain ⟨μ2, g1, g2, g3⟩ := Rel.ren hst.rel hx hR hpre hget
    refine hK _ _ ⟨hcl, μ2, hx0.trans g1, ?_⟩
    have hH : HF R (add S i) = (HF R S).set (n0 + (flOf P ops).idxOf i) (.cells e false r) := by
      unfold HF
      rw [cutG_add_ne hei, ← hcdef]
      refine AH.ext' (fun b => ?_) rfl
      rw [AH.set_get, plus_get, plus_get]
      by_cases hb : b = n0 + (flOf P ops).idxOf i
      · have hnj := notJoined (P := P) hok hS hr.2.1
        rw [← hcdef] at hnj
        rw [if_pos hb, hb]
        have : EF (flOf P ops) n0 R.B (fun f => add S i f && !joinedB P ops c f) (n0 + (flOf P ops).idxOf i) = some (R.B i) := by
          unfold EF; rw [if_neg (by omega), Nat.add_sub_cancel_left, idx_get hif]; simp [add, hnj]
        rw [this, hB]
      · rw [if_neg hb]
        have : EF (flOf P ops) n0 R.B (fun f => add S i f && !joinedB P ops c f) b = EF (flOf P ops) n0 R.B (fun f => S f && !joinedB P ops c f) b := by
          unfold EF
          split
          · rfl
          · cases hf : (flOf P ops)[b - n0]? with
            | none => rfl
            | some f =>
              have hfi : f ≠ i := fun e => by
                subst e
                have := get_idx fl_nodup hf
                omega
              simp [add, hfi]
        rw [this]
    rw [hT, hH, hv]
    exact hst.put o.dst g1 g2 (Sh.ren g3 hu)
  · -- carried out
    rw [hw]
    simp only [if_true]
    left
    cases hei : isEff P o.op with
    | true =>
      have hea : effF P ops i = true := by unfold effF effAt; simp [hr.1, hei, hfl]
      obtain ⟨hle, hno⟩ := cutF_eff hok hS hr hea
      have hXc : R.X c = R.X i := R.X_keep (by omega) (by omega) fun j h1 h2 => hno j (by omega) h2
      have hjc : ∀ f, joinedB P ops i f = joinedB P ops c f := fun f => joined_keep (by omega) fun j h1 h2 => hno j (by omega) h2
      have hcut := cutG_add_eff (e := effF P ops) (S := S) hea (fun j h1 h2 => rdyF_after hok hS hr ((okF_of hok).2 i j o ops[j]! hr.1 (by
          have : j < ops.size := by
            have := (effF_of h2).1
            unfold effAt at this
            split at this
            · rename_i x hx; exact lt_of_get hx
            · simp at this
          simp [this]) h1 (.inr ⟨hea, h2⟩))) ops.size hi
      rw [hei] at hX
      simp only [if_true] at hX
      have hH := HF_two R hcdef hbS
      rw [hXc] at hH
      simp only [← hjc] at hH
      have hoff : Off ((R.X i).plus (EF (flOf P ops) n0 R.B fun f => bef ops f i && !joinedB P ops i f)) (EF (flOf P ops) n0 R.B fun f => S f && !joinedB P ops i f && !bef ops f i) := by
        intro b x hb
        obtain ⟨f, g1, g2, g3, g4⟩ := EF_some hb
        simp only [Bool.and_eq_true, Bool.not_eq_true'] at g2
        have hh := R.free hfr h0 i (by omega) (fun f => S f && !joinedB P ops i f && !bef ops f i) (fun f _ hf => by simp at hf; exact hf.1.2) b x hb
        refine ⟨?_, hh.2⟩
        rw [plus_get]
        have : EF (flOf P ops) n0 R.B (fun f => bef ops f i && !joinedB P ops i f) b = none := by
          unfold EF; rw [if_neg (by omega), g1]; simp [g2.2]
        rw [this]; exact hh.1
      obtain ⟨hev2, hoff2⟩ := evO_fr hfr hoff hev
      rw [← hH] at hev2
      refine evO_wp hc hOR hev2 hst.rel fun u w' μ' hx hR hu => hK _ _ ⟨hcl, μ', hx0.trans hx, ?_⟩
      have hH2 : HF R (add S i) = X'.plus (EF (flOf P ops) n0 R.B fun f => S f && !joinedB P ops i f && !bef ops f i) := by
        unfold HF
        rw [hcut, hX]
        congr 1
        refine EF_congr fun f hf => ?_
        have hfi : f ≠ i := fun e => by subst e; rw [(fl_mem.1 hf).2] at hfl; simp at hfl
        rw [joined_succ, hea]
        simp only [add, hfi, if_false, Bool.true_and]
        cases S f <;> cases joinedB P ops i f <;> cases bef ops f i <;> rfl
      rw [hT, hH2]
      exact hst.put o.dst hx hR hu
    | false =>
      have hea : effF P ops i = false := by unfold effF effAt; simp [hr.1, hei]
      have hcut := cutG_add_ne (e := effF P ops) (S := S) hea ops.size
      have hXe := evO_noEff hei hev
      subst hXe
      have hH := HF_two R hcdef hbS
      have hHa : HF R (add S i) = HF R S := by
        unfold HF
        rw [hcut]
        congr 1
        refine EF_congr fun f hf => ?_
        have hfi : f ≠ i := fun e => by subst e; rw [(fl_mem.1 hf).2] at hfl; simp at hfl
        simp only [add, hfi, if_false]
      have hoff : Off ((R.X c).plus (EF (flOf P ops) n0 R.B fun f => bef ops f i && !joinedB P ops c f)) (EF (flOf P ops) n0 R.B fun f => S f && !joinedB P ops c f && !bef ops f i) := by
        intro b x hb
        obtain ⟨f, g1, g2, g3, g4⟩ := EF_some hb
        simp only [Bool.and_eq_true, Bool.not_eq_true'] at g2
        have hh := hfree (fun f => S f && !joinedB P ops c f && !bef ops f i) (fun f _ hf => by simp at hf; exact hf.1.2) b x hb
        refine ⟨?_, hh.2⟩
        rw [plus_get]
        have : EF (flOf P ops) n0 R.B (fun f => bef ops f i && !joinedB P ops c f) b = none := by
          unfold EF; rw [if_neg (by omega), g1]; simp [g2.2]
        rw [this]; exact hh.1
      have hevc : ∃ A, evO P call o (R.T i) ((R.X c).plus (EF (flOf P ops) n0 R.B fun f => bef ops f i && !joinedB P ops c f)) = some (R.V i, A) := by
        cases hrd : isRd o.op with
        | false => exact ⟨_, evO_noH hei hrd hev _⟩
        | true =>
          by_cases hex : ∃ j, j < ops.size ∧ effF P ops j = true ∧ ((c ≤ j ∧ j < i) ∨ (i ≤ j ∧ j < c))
          · have hl : looseF P ops i c = true := by
              unfold looseF
              rw [Bool.and_eq_true, Bool.and_eq_true, Bool.and_eq_true]
              refine ⟨⟨⟨by unfold rdAt; simp [hr.1, hrd, hei], ?_⟩, ?_⟩, ?_⟩
              · rcases cutG_pos (e := effF P ops) S ops.size with h | ⟨j, h1, h2, h3, h4⟩
                · simp [hcdef, h]
                · have : c - 1 = j := by omega
                  simp [this, h4]
              · rw [List.all_eq_true]
                intro j hj
                rw [List.mem_range] at hj
                cases hej : effF P ops j with
                | false => simp
                | true =>
                  simp only [Bool.not_true, Bool.false_or]
                  split
                  · rename_i hlt
                    cases hb : bef ops i j with
                    | false => rfl
                    | true =>
                      have h1 := cutF_in (P := P) hok hS (j := j) (by omega) hej
                      rw [rdyF_after hok hS hr hb] at h1; simp at h1
                  · rename_i hlt
                    cases hb : bef ops j i with
                    | false => rfl
                    | true =>
                      have h1 := rdyF_before hok hS hr hb
                      exact (cutG_above (e := effF P ops) S ops.size j (by omega) hj ⟨h1, hej⟩).elim
              · rw [List.any_eq_true]
                obtain ⟨j, h1, h2, h3⟩ := hex
                refine ⟨j, by simpa using h1, ?_⟩
                simp only [h2, Bool.true_and, Bool.or_eq_true, Bool.and_eq_true, decide_eq_true_eq]
                exact h3
            obtain ⟨v, A, B, e1, e2⟩ := hob i o c hr.1 hl hw
            rw [hev] at e2
            simp only [Option.some.injEq, Prod.mk.injEq] at e2
            exact ⟨A, by rw [e1, e2.1]⟩
          · have hno : ∀ j, ((c ≤ j ∧ j < i) ∨ (i ≤ j ∧ j < c)) → effF P ops j = false := fun j hj => by
              cases hej : effF P ops j with
              | false => rfl
              | true => exact (hex ⟨j, by omega, hej, hj⟩).elim
            rcases Nat.le_total c i with hle | hle
            · have hXc : R.X c = R.X i := R.X_keep hle (by omega) fun j h1 h2 => hno j (.inl ⟨h1, h2⟩)
              have hjc : ∀ f, joinedB P ops i f = joinedB P ops c f := fun f => joined_keep hle fun j h1 h2 => hno j (.inl ⟨h1, h2⟩)
              simp only [hjc] at hev
              rw [hXc]; exact ⟨_, hev⟩
            · have hXc : R.X i = R.X c := R.X_keep hle (by omega) fun j h1 h2 => hno j (.inr ⟨h1, h2⟩)
              have hjc : ∀ f, joinedB P ops c f = joinedB P ops i f := fun f => joined_keep hle fun j h1 h2 => hno j (.inr ⟨h1, h2⟩)
              simp only [hjc]
              rw [← hXc]; exact ⟨_, hev⟩
      obtain ⟨A, hevc⟩ := hevc
      have hA := evO_noEff hei hevc
      subst hA
      have hev2 := (evO_fr hfr hoff hevc).1
      rw [← hH] at hev2
      refine evO_wp hc hOR hev2 hst.rel fun u w' μ' hx hR hu => hK _ _ ⟨hcl, μ', hx0.trans hx, ?_⟩
      rw [hT, hHa]
      exact hst.put o.dst hx hR hu
  · -- not wanted
    rw [hw]
    simp only [Bool.false_eq_true, if_false]
    refine hK _ _ ⟨hcl, μ, hx0, ?_⟩
    have hHa : HF R (add S i) = HF R S := by
      cases hei : isEff P o.op with
      | true =>
        have hea : effF P ops i = true := by unfold effF effAt; simp [hr.1, hei, hfl]
        obtain ⟨hle, hno⟩ := cutF_eff hok hS hr hea
        have hXc : R.X c = R.X i := R.X_keep (by omega) (by omega) fun j h1 h2 => hno j (by omega) h2
        have hjc : ∀ f, joinedB P ops i f = joinedB P ops c f := fun f => joined_keep (by omega) fun j h1 h2 => hno j (by omega) h2
        have hcut := cutG_add_eff (e := effF P ops) (S := S) hea (fun j h1 h2 => rdyF_after hok hS hr ((okF_of hok).2 i j o ops[j]! hr.1 (by
          have : j < ops.size := by
            have := (effF_of h2).1
            unfold effAt at this
            split at this
            · rename_i x hx; exact lt_of_get hx
            · simp at this
          simp [this]) h1 (.inr ⟨hea, h2⟩))) ops.size hi
        rw [hei] at hX
        simp only [if_true] at hX
        have hH := HF_two R hcdef hbS
        rw [hXc] at hH
        simp only [← hjc] at hH
        rw [hH]
        unfold HF
        rw [hcut, hX]
        congr 1
        refine EF_congr fun f hf => ?_
        have hfi : f ≠ i := fun e => by subst e; rw [(fl_mem.1 hf).2] at hfl; simp at hfl
        rw [joined_succ, hea]
        simp only [add, hfi, if_false, Bool.true_and]
        cases S f <;> cases joinedB P ops i f <;> cases bef ops f i <;> rfl
      | false =>
        have hea : effF P ops i = false := by unfold effF effAt; simp [hr.1, hei]
        unfold HF
        rw [cutG_add_ne hea]
        congr 1
        refine EF_congr fun f hf => ?_
        have hfi : f ≠ i := fun e => by subst e; rw [(fl_mem.1 hf).2] at hfl; simp at hfl
        simp only [add, hfi, if_false]
    rw [hT, hHa, hv]
    exact hst.put o.dst (Ext.refl _) hst.rel VR_U
end
end Go.Ev

/- Regions with what floats: the evaluator's run of them is sound; and all regions. -/
namespace Go.Ev
open Go Go.RowKit
set_option linter.unusedSimpArgs false
set_option linter.unusedVariables false
set_option linter.unusedSectionVars false
section
variable {P : Program} {w0 : World} {call : CallF} {ops : Array Oper} {n0 : Nat}
theorem wpAny_ofF (hc : CallOK P w0 call) (hfr : CallFr call) {n : Nat} (hoo : okOps n ops = true) (hok : okF P ops = true) {μ0 : Mu} {R : RunF P call ops n0}
    (h0 : ∀ f ∈ flOf P ops, (R.X 0).get (n0 + (flOf P ops).idxOf f) = some .res ∧ n0 + (flOf P ops).idxOf f < (R.X 0).next)
    (hob : ∀ i o p, ops[i]? = some o → looseF P ops i p = true → wantA ops (R.T i) o = true → ∃ v A B, evO P call o (R.T i) ((R.X p).plus (EF (flOf P ops) n0 R.B fun f => bef ops f i && !joinedB P ops p f)) = some (v, A) ∧
      evO P call o (R.T i) ((R.X i).plus (EF (flOf P ops) n0 R.B fun f => bef ops f i && !joinedB P ops i f)) = some (v, B)) {Q : Exit → Act → World → Prop}
    (hQ : ∀ a w μ, Ext μ0 μ → St P w0 n μ (R.T ops.size) ((R.X ops.size).plus (EF (flOf P ops) n0 R.B fun f => !joinedB P ops ops.size f)) a w → Q .normal a w) :
    ∀ (fuel : Nat) (b : Array Bool) (a : Act) (w : World), b.size = ops.size → left b = fuel → AtF P w0 n μ0 R (fun k => b.getD k false) a w → wpAny P .any ops Q fuel b a w
  | 0, b, a, w, hb, hf, hA => by
    have hall := left_zero hf
    have hallf : ∀ k, k < ops.size → b.getD k false = true := by
      intro k hk
      have := hall k
      simp [Array.getD, hb, hk] at this ⊢; exact this
    simp only [wpAny]
    refine ⟨?_, ?_⟩
    · unfold Region.ready
      rw [List.filter_eq_nil_iff]
      intro i hi
      simp [hall i]
    · obtain ⟨hS, μ, hx, hst⟩ := hA
      have hTS : ∀ k, k ≤ ops.size → TF R (fun k => b.getD k false) k = R.T k := by
        intro k
        induction k with
        | zero => intro _; rfl
        | succ k ih =>
          intro hk
          simp only [TF, hallf k (by omega), if_true]
          rw [ih (by omega), R.T_succ (by omega)]
      have hG : HF R (fun k => b.getD k false) = (R.X ops.size).plus (EF (flOf P ops) n0 R.B fun f => !joinedB P ops ops.size f) := by
        have hle := cutG_le (e := effF P ops) (fun k => b.getD k false) ops.size
        have hno : ∀ j, cutG (effF P ops) (fun k => b.getD k false) ops.size ≤ j → j < ops.size → effF P ops j = false := fun j h1 h2 => by
          cases hej : effF P ops j with
          | false => rfl
          | true => exact (cutG_above (e := effF P ops) _ ops.size j h1 h2 ⟨hallf j h2, hej⟩).elim
        unfold HF
        rw [R.X_keep hle (Nat.le_refl _) hno]
        congr 1
        refine EF_congr fun f hf => ?_
        rw [joined_keep hle hno]
        show (b.getD f false && _) = _
        rw [hallf f (fl_mem.1 hf).1]; rfl
      rw [hTS _ (Nat.le_refl _), hG] at hst
      exact hQ a w μ hx hst
  | fuel + 1, b, a, w, hb, hf, hA => by
    simp only [wpAny]
    have hmem : ∀ i, i ∈ Region.ready .any ops b → ∃ o, ReadyAt ops (fun k => b.getD k false) i o ∧ b[i]? = some false := by
      intro i hi
      unfold Region.ready at hi
      simp only [List.mem_filter, List.mem_range, Bool.and_eq_true, Bool.not_eq_true'] at hi
      obtain ⟨h1, h2, h3⟩ := hi
      refine ⟨ops[i], ⟨by simp [h1], by simp [Array.getD, hb, h1] at h2 ⊢; exact h2, ?_⟩, ?_⟩
      · intro e hex hbd
        simp only [h1, Array.getElem?_eq_getElem, Option.map_some, Option.getD_some] at h3
        rw [Array.all_eq_true'] at h3
        have := h3 e (by simpa using hex)
        simpa [hbd] using this
      · simp [Array.getD, hb, h1] at h2
        simp [hb, h1, h2]
    refine ⟨fun hnil => ?_, fun i hi => ?_⟩
    · exfalso
      -- the first that isn't listed is ready
      have hex : ∃ i : Nat, b[i]? = some false := by
        have : left b ≠ 0 := by omega
        unfold left at this
        rw [Ne, List.length_eq_zero_iff, List.filter_eq_nil_iff] at this
        have ⟨x, hx⟩ := Classical.not_forall.1 this
        have ⟨hx1, hx2⟩ := Classical.not_imp.1 hx
        have hxf : x = false := by simpa using hx2
        obtain ⟨i, hi, hxi⟩ := List.mem_iff_getElem.1 hx1
        refine ⟨i, ?_⟩
        rw [← Array.getElem?_toList, List.getElem?_eq_getElem hi, hxi, hxf]
      have hmin : ∃ i : Nat, b[i]? = some false ∧ ∀ j, j < i → b[j]? ≠ some false := by
        obtain ⟨i, hi⟩ := hex
        induction i using Nat.strongRecOn with
        | _ i ih =>
          by_cases h : ∃ j, j < i ∧ b[j]? = some false
          · obtain ⟨j, h1, h2⟩ := h
            exact ih j h1 h2
          · exact ⟨i, hi, fun j hj hb => h ⟨j, hj, hb⟩⟩
      obtain ⟨i, hi, hlo⟩ := hmin
      have hlt : i < ops.size := by
        rw [← hb]
        rcases Nat.lt_or_ge i b.size with hh | hh
        · exact hh
        · rw [Array.getElem?_eq_none hh] at hi; simp at hi
      have : i ∈ Region.ready .any ops b := by
        unfold Region.ready
        simp only [List.mem_filter, List.mem_range, Bool.and_eq_true, Bool.not_eq_true']
        refine ⟨hlt, by simp [Array.getD_eq_getD_getElem?, hi], ?_⟩
        simp only [hlt, Array.getElem?_eq_getElem, Option.map_some, Option.getD_some]
        rw [Array.all_eq_true']
        intro e hex
        cases hbd : Region.binds .any e with
        | false => simp
        | true =>
          have hon : e.on < i := by
            have he := (okF_of hok).1
            unfold edgesOk at he
            rw [List.all_eq_true] at he
            have := he (ops[i], i) (by rw [List.mem_zipIdx_iff_getElem?]; simp [hlt])
            rw [List.all_eq_true] at this
            have := this e (by simpa using hex)
            simpa [hbd] using this
          have := hlo e.on hon
          have hlt2 : e.on < b.size := by omega
          simp [hlt2] at this
          simp [Array.getD, hlt2, this]
      rw [hnil] at this; simp at this
    · obtain ⟨o, hr, hbi⟩ := hmem i hi
      refine hA.step hc hfr hoo hok h0 hob hr fun a' w' hA' => ?_
      refine wpAny_ofF hc hfr hoo hok h0 hob hQ fuel _ a' w' (by simpa using hb) (by have := left_set hbi; omega) ?_
      have : (fun k => (b.setIfInBounds i true).getD k false) = add (fun k => b.getD k false) i := by
        funext k
        unfold add
        rw [Array.getD_eq_getD_getElem?, Array.getElem?_setIfInBounds]
        have hlt : i < b.size := by
          rcases Nat.lt_or_ge i b.size with hh | hh
          · exact hh
          · rw [Array.getElem?_eq_none hh] at hbi; simp at hbi
        by_cases hk : k = i
        · subst hk; simp [hlt]
        · rw [if_neg (fun e => hk e.symm), if_neg hk]; simp [Array.getD_eq_getD_getElem?]
      rw [this]; exact hA'


/-- one operation of the run -/
def StepF (P : Program) (call : CallF) (ops : Array Oper) (I : FI) (n0 k : Nat) (o : Oper) (a b : Tm × AH × Tab) : Prop :=
  (I.fl.contains k = true ∧ b.2.1 = a.2.1 ∧ ∃ s x, fltO P o.op a.1 = some (s, x) ∧ b.1 = put a.1 o.dst (s.av (n0 + I.fl.idxOf k)) ∧ b.2.2 = a.2.2 ++ [(k, n0 + I.fl.idxOf k, x)]) ∨
  (I.fl.contains k = false ∧ wantA ops a.1 o = true ∧ b.2.2 = a.2.2 ∧ ∃ v X', evO P call o a.1 (plusT a.2.2 (I.ad.getD k []) a.2.1) = some (v, X') ∧ b.1 = put a.1 o.dst v ∧ b.2.1 = if isEff P o.op then X' else a.2.1) ∨
  (I.fl.contains k = false ∧ wantA ops a.1 o = false ∧ b.2.2 = a.2.2 ∧ b.1 = put a.1 o.dst U ∧ b.2.1 = if isEff P o.op then plusT a.2.2 (I.ad.getD k []) a.2.1 else a.2.1)
theorem evHistF_facts {I : FI} : ∀ {l : List Oper} {k : Nat} {τ : Tm} {X : AH} {tab : Tab} {hs : List (Tm × AH × Tab)}, evHistF P call n0 ops I k l τ X tab = some hs →
    hs.length = l.length + 1 ∧ hs[0]? = some (τ, X, tab) ∧ ∀ j o, l[j]? = some o → ∃ a b, hs[j]? = some a ∧ hs[j + 1]? = some b ∧ StepF P call ops I n0 (k + j) o a b
  | [], k, τ, X, tab, hs, h => by
    simp only [evHistF, Option.some.injEq] at h; subst h
    exact ⟨rfl, rfl, fun j o hj => by simp at hj⟩
  | o :: l, k, τ, X, tab, hs, h => by
    have fin : ∀ {τ' X' tab' r}, evHistF P call n0 ops I (k + 1) l τ' X' tab' = some r → hs = (τ, X, tab) :: r → StepF P call ops I n0 k o (τ, X, tab) (τ', X', tab') →
        hs.length = (o :: l).length + 1 ∧ hs[0]? = some (τ, X, tab) ∧ ∀ j x, (o :: l)[j]? = some x → ∃ a b, hs[j]? = some a ∧ hs[j + 1]? = some b ∧ StepF P call ops I n0 (k + j) x a b := by
      intro τ' X' tab' r hr hh hst
      subst hh
      obtain ⟨h1, h2, h3⟩ := evHistF_facts hr
      refine ⟨by simp [h1], rfl, fun j x hj => ?_⟩
      cases j with
      | zero => simp at hj; subst hj; exact ⟨_, _, rfl, by simpa using h2, hst⟩
      | succ j =>
        obtain ⟨a, b, e1, e2, e3⟩ := h3 j x (by simpa using hj)
        exact ⟨a, b, by simpa using e1, by simpa using e2, by rw [show k + (j + 1) = k + 1 + j by omega]; exact e3⟩
    simp only [evHistF] at h
    split at h
    · rename_i hk
      split at h
      · rename_i s x hs'
        split at h
        · rename_i r hr
          simp only [Option.some.injEq] at h
          exact fin hr h.symm (.inl ⟨hk, rfl, s, x, hs', rfl, rfl⟩)
        · simp at h
      · simp at h
    · rename_i hk
      have hk' : I.fl.contains k = false := by simpa using hk
      split at h
      · rename_i hw
        split at h
        · rename_i v X1 hv
          split at h
          · rename_i r hr
            simp only [Option.some.injEq] at h
            exact fin hr h.symm (.inr (.inl ⟨hk', hw, rfl, v, X1, hv, rfl, rfl⟩))
          · simp at h
        · simp at h
      · rename_i hw
        split at h
        · rename_i r hr
          simp only [Option.some.injEq] at h
          exact fin hr h.symm (.inr (.inr ⟨hk', by simpa using hw, rfl, rfl, rfl⟩))
        · simp at h
/-- the table holds just the floating blocks made so far -/
def TabOk (fl : List Nat) (n0 : Nat) (B : Nat → Blk) (k : Nat) (t : Tab) : Prop := ∀ f, t.lookup f = if f < k ∧ f ∈ fl then some (n0 + fl.idxOf f, B f) else none
theorem plusT_EF {fl : List Nat} (hnd : fl.Nodup) {B : Nat → Blk} {k : Nat} {t : Tab} (ht : TabOk fl n0 B k t) : ∀ {l : List Nat} (X : AH), (∀ f ∈ l, f ∈ fl ∧ f < k) → plusT t l X = X.plus (EF fl n0 B fun f => l.contains f)
  | [], X, _ => by
    rw [plus_none]; rfl
    intro f _; rfl
  | f :: l, X, h => by
    obtain ⟨h1, h2⟩ := h f (by simp)
    have ih := plusT_EF hnd ht (l := l) X fun g hg => h g (by simp [hg])
    simp only [plusT]
    rw [ht f, if_pos ⟨h2, h1⟩]
    simp only
    rw [ih]
    refine AH.ext' (fun b => ?_) rfl
    rw [AH.set_get, plus_get, plus_get]
    by_cases hb : b = n0 + fl.idxOf f
    · rw [if_pos hb, hb]
      have : EF fl n0 B (fun g => (f :: l).contains g) (n0 + fl.idxOf f) = some (B f) := by
        unfold EF; rw [if_neg (by omega), Nat.add_sub_cancel_left, idx_get h1]; simp
      rw [this]
    · rw [if_neg hb]
      have : EF fl n0 B (fun g => (f :: l).contains g) b = EF fl n0 B (fun g => l.contains g) b := by
        unfold EF
        split
        · rfl
        · cases hg : fl[b - n0]? with
          | none => rfl
          | some g =>
            have hgf : g ≠ f := fun e => by
              subst e
              have := get_idx hnd hg
              omega
            simp [hgf]
      rw [this]
theorem infoOf_some {I : FI} (hI : infoOf P ops = some I) : okF P ops = true ∧ I.fl = flOf P ops ∧ (∀ k, k < ops.size → I.ad.getD k [] = adOf P ops k k) ∧ I.fin = (flOf P ops).filter (fun f => !joinedB P ops ops.size f) ∧
    ∀ i p, looseF P ops i p = true → i < ops.size → p ≤ ops.size → (i, p, adOf P ops i p) ∈ I.ls := by
  unfold infoOf at hI
  split at hI
  · rename_i hok
    simp only [Option.some.injEq] at hI; subst hI
    refine ⟨hok, rfl, fun k hk => ?_, rfl, fun i p h hi hp => ?_⟩
    · simp [List.getD_eq_getElem?_getD, hk]
    · simp only [List.mem_flatMap, List.mem_range, List.mem_filterMap]
      exact ⟨i, hi, p, by omega, by rw [if_pos h]⟩
  · simp at hI
theorem ad_mem (hok : okF P ops = true) {k p f : Nat} (h : f ∈ adOf P ops k p) : f ∈ flOf P ops ∧ f < k := by
  unfold adOf at h
  rw [List.mem_filter, Bool.and_eq_true] at h
  exact ⟨h.1, bef_lt (okF_of hok).1 h.2.1⟩
theorem ad_EF {B : Nat → Blk} (k p : Nat) : EF (flOf P ops) n0 B (fun f => (adOf P ops k p).contains f) = EF (flOf P ops) n0 B fun f => bef ops f k && !joinedB P ops p f := by
  refine EF_congr fun f hf => ?_
  unfold adOf
  rw [Bool.eq_iff_iff, List.contains_iff_mem, List.mem_filter]
  simp [hf]
theorem evFlt_sound (hm : P.follows .mixedOrders = true) (hc : CallOK P w0 call) (hfr : CallFr call) {n : Nat} (hoo : okOps n ops = true) {I : FI} (hI : infoOf P ops = some I) {id : Nat} {τ τ' : Tm} {H H' : AH} {μ : Mu} {a : Act} {w : World}
    (h : evFlt P call ops I τ H = some (τ', H')) (hS : St P w0 n μ τ H a w) {Q : Exit → Act → World → Prop} (hQ : ∀ a' w' μ', Ext μ μ' → St P w0 n μ' τ' H' a' w' → Q .normal a' w') : (Code.region id ops true).wp P Q a w := by
  obtain ⟨hok, hfl, had, hfin, hls⟩ := infoOf_some hI
  unfold evFlt at h
  split at h
  · rename_i hs hh
    split at h
    · rename_i τ1 X1 tab1 hlast
      split at h
      · rename_i hobs
        simp only [Option.some.injEq, Prod.mk.injEq] at h
        obtain ⟨rfl, rfl⟩ := h
        obtain ⟨hlen, hzero, hstep⟩ := evHistF_facts hh
        have hlen' : hs.length = ops.size + 1 := by simpa using hlen
        -- the run
        let T : Nat → Tm := fun k => (hs.getD k (τ, H, [])).1
        let X : Nat → AH := fun k => (hs.getD k (τ, H, [])).2.1
        let t : Nat → Tab := fun k => (hs.getD k (τ, H, [])).2.2
        let B : Nat → Blk := fun f => match (t (f + 1)).lookup f with | some q => q.2 | none => .res
        have hget : ∀ k, k ≤ ops.size → hs[k]? = some (T k, X k, t k) := fun k hk => by
          show hs[k]? = some (hs.getD k (τ, H, []))
          rw [List.getD_eq_getElem?_getD, List.getElem?_eq_getElem (by omega)]; rfl
        have hst : ∀ k o, ops[k]? = some o → StepF P call ops I H.next k o (T k, X k, t k) (T (k + 1), X (k + 1), t (k + 1)) := fun k o ho => by
          have hk := lt_of_get ho
          obtain ⟨a, b, e1, e2, e3⟩ := hstep k o (by simpa using ho)
          rw [hget k (by omega)] at e1
          rw [hget (k + 1) (by omega)] at e2
          simp only [Option.some.injEq] at e1 e2
          subst e1 e2
          simpa using e3
        have h00 := hget 0 (by omega)
        rw [hzero] at h00
        simp only [Option.some.injEq, Prod.mk.injEq] at h00
        obtain ⟨hT0, hX0, ht0⟩ := h00
        have hcon : ∀ k, I.fl.contains k = true ↔ k ∈ flOf P ops := fun k => by rw [hfl]; exact List.contains_iff_mem
        have htab : ∀ k, k ≤ ops.size → TabOk (flOf P ops) H.next B k (t k) := by
          intro k
          induction k with
          | zero => intro _ f; rw [← ht0]; simp [List.lookup]
          | succ k ih =>
            intro hk f
            have ih := ih (by omega)
            have hk' : k < ops.size := by omega
            rcases hst k ops[k] (by simp [hk']) with ⟨c1, _, s, x, _, _, c2⟩ | ⟨c1, _, c2, _⟩ | ⟨c1, _, c2, _⟩
            · simp only at c2
              have hkm := (hcon k).1 c1
              have hBk : B k = x := by
                show (match (t (k + 1)).lookup k with | some q => q.2 | none => .res) = x
                rw [c2, List.lookup_append, ih k, if_neg (by omega)]
                simp [List.lookup]
              rw [c2, List.lookup_append, ih f]
              by_cases hfk : f = k
              · subst hfk
                rw [if_neg (by omega), if_pos ⟨by omega, hkm⟩, hBk, hfl]
                simp [List.lookup]
              · by_cases hc2 : f < k ∧ f ∈ flOf P ops
                · rw [if_pos hc2, if_pos ⟨by omega, hc2.2⟩]; rfl
                · rw [if_neg hc2, if_neg (fun e => hc2 ⟨by omega, e.2⟩)]
                  have : (f == k) = false := by simpa using hfk
                  simp [List.lookup, this]
            all_goals
              simp only at c2
              rw [c2, ih f]
              have hkn : k ∉ flOf P ops := fun e => by rw [(hcon k).2 e] at c1; simp at c1
              by_cases hc2 : f < k ∧ f ∈ flOf P ops
              · rw [if_pos hc2, if_pos ⟨by omega, hc2.2⟩]
              · rw [if_neg hc2, if_neg ?_]
                rintro ⟨e1, e2⟩
                have : f ≠ k := fun e' => hkn (e' ▸ e2)
                exact hc2 ⟨by omega, e2⟩
        have hplus : ∀ k, k < ops.size → ∀ Y, plusT (t k) (I.ad.getD k []) Y = Y.plus (EF (flOf P ops) H.next B fun f => bef ops f k && !joinedB P ops k f) := fun k hk Y => by
          rw [had k hk, plusT_EF fl_nodup (htab k (by omega)) Y (fun f hf => ad_mem hok hf), ad_EF]
        have hnf : ∀ k, k < ops.size → I.fl.contains k = false → fltAt P ops k = false := fun k hk hc => by
          cases hf : fltAt P ops k with
          | false => rfl
          | true => rw [(hcon k).2 (fl_mem.2 ⟨hk, hf⟩)] at hc; simp at hc
        let R : RunF P call ops H.next := ⟨T, X, fun k => match ops[k]? with
          | some o => if fltAt P ops k then (match fltO P o.op (T k) with | some (s, _) => s.av (H.next + (flOf P ops).idxOf k) | none => U)
              else if wantA ops (T k) o then (match evO P call o (T k) (plusT (t k) (I.ad.getD k []) (X k)) with | some (v, _) => v | none => U) else U
          | none => U, B, by
          intro k o ho
          have hk := lt_of_get ho
          rcases hst k o ho with ⟨c1, c2, s, x, c3, c4, c5⟩ | ⟨c1, c2, c3, v, X', c4, c5, c6⟩ | ⟨c1, c2, c3, c5, c6⟩
          · simp only at c2 c3 c4 c5
            have hf := (fl_mem.1 ((hcon k).1 c1)).2
            have hB : B k = x := by
              show (match (t (k + 1)).lookup k with | some q => q.2 | none => .res) = x
              rw [c5, List.lookup_append, htab k (by omega) k, if_neg (by omega)]
              simp [List.lookup]
            simp only [ho, hf, if_true, c3]
            rw [hfl] at c4
            exact ⟨c4, .inl ⟨trivial, c2, s, by rw [hB], rfl⟩⟩
          · simp only at c2 c4 c5 c6
            have hf := hnf k hk c1
            simp only [ho, hf, if_false, Bool.false_eq_true, c2, if_true, c4]
            refine ⟨c5, .inr (.inl ⟨trivial, trivial, X', ?_, c6⟩)⟩
            rw [← hplus k hk]; exact c4
          · simp only at c2 c5 c6
            have hf := hnf k hk c1
            simp only [ho, hf, if_false, Bool.false_eq_true, c2]
            refine ⟨c5, .inr (.inr ⟨trivial, trivial, trivial, ?_⟩)⟩
            rw [← hplus k hk]; exact c6⟩
        have hlast' : (τ1, X1, tab1) = (T ops.size, X ops.size, t ops.size) := by
          rw [List.getLast?_eq_getElem?, hlen'] at hlast
          simp only [Nat.add_sub_cancel] at hlast
          rw [hget _ (Nat.le_refl _)] at hlast
          simpa using hlast.symm
        simp only [Prod.mk.injEq] at hlast'
        obtain ⟨hl1, hl2, hl3⟩ := hlast'
        have hfinal : plusT tab1 I.fin X1 = (R.X ops.size).plus (EF (flOf P ops) H.next R.B fun f => !joinedB P ops ops.size f) := by
          rw [hl2, hl3, plusT_EF fl_nodup (htab _ (Nat.le_refl _)) _ (fun f hf => ?_)]
          · congr 1
            refine EF_congr fun f hf => ?_
            rw [hfin, Bool.eq_iff_iff, List.contains_iff_mem, List.mem_filter]
            simp [hf]
          · rw [hfin, List.mem_filter] at hf
            exact ⟨hf.1, (fl_mem.1 hf.1).1⟩
        have h0 : ∀ f ∈ flOf P ops, (R.X 0).get (H.next + (flOf P ops).idxOf f) = some .res ∧ H.next + (flOf P ops).idxOf f < (R.X 0).next := fun f hf => by
          have hlt := List.idxOf_lt_length_iff.2 hf
          show (X 0).get _ = _ ∧ _ < (X 0).next
          rw [← hX0, hfl]
          exact ⟨if_pos ⟨by omega, by omega⟩, by show _ < H.next + _; omega⟩
        have hob : ∀ i o p, ops[i]? = some o → looseF P ops i p = true → wantA ops (R.T i) o = true → ∃ v A B, evO P call o (R.T i) ((R.X p).plus (EF (flOf P ops) H.next R.B fun f => bef ops f i && !joinedB P ops p f)) = some (v, A) ∧
            evO P call o (R.T i) ((R.X i).plus (EF (flOf P ops) H.next R.B fun f => bef ops f i && !joinedB P ops i f)) = some (v, B) := fun i o p ho hl hw => by
          have hi := lt_of_get ho
          have hp : p ≤ ops.size := by
            unfold looseF at hl
            simp only [Bool.and_eq_true, Bool.or_eq_true, beq_iff_eq] at hl
            rcases hl.1.1.2 with h | h
            · omega
            · have := (effF_of h).1
              unfold effAt at this
              split at this
              · rename_i x hx; have := lt_of_get hx; omega
              · simp at this
          have hq := (ObsF_iff P call ops I).1 hobs _ (hls i p hl hi hp)
          unfold ObF at hq
          simp only [hget i (by omega), hget p hp, ho] at hq
          obtain ⟨v, A, B', e1, e2⟩ := hq hw
          refine ⟨v, A, B', ?_, ?_⟩
          · rw [hl3, plusT_EF fl_nodup (htab _ (Nat.le_refl _)) _ (fun f hf => ⟨(ad_mem hok hf).1, by have := (ad_mem hok hf).2; omega⟩), ad_EF] at e1
            exact e1
          · rw [hplus i hi] at e2; exact e2
        refine wp_region_any hm (wpAny_ofF hc hfr hoo hok (R := R) h0 hob (fun a w μ' hx hst => hQ a w μ' hx ?_) ops.size _ a _ (by simp) ?_ ?_)
        · rw [hl1, hfinal]; exact hst
        · unfold left; simp
        · have hf : (fun k => (Array.replicate ops.size false).getD k false) = fun _ => false := by
            funext k; simp [Array.getD_eq_getD_getElem?, Array.getElem?_replicate]
            split <;> rfl
          rw [hf]
          refine ⟨fun j o hj => by simp at hj, μ, Ext.refl _, ?_⟩
          have hTS : ∀ k, TF R (fun _ => false) k = R.T 0 := by
            intro k; induction k with
            | zero => rfl
            | succ k ih => simp [TF, ih]
          have hcut : ∀ k, cutG (effF P ops) (fun _ => false) k = 0 := by
            intro k; induction k with
            | zero => rfl
            | succ k ih => simp [cutG, ih]
          have hHF : HF R (fun _ => false) = H.res I.fl.length := by
            unfold HF
            rw [hcut, plus_none]
            · exact hX0.symm
            · intro f _; simp
          rw [hTS, hHF]
          have hTT : R.T 0 = τ := hT0.symm
          rw [hTT]
          exact ⟨(hS.rel.resv _).drewN _, hS.tm, hS.size, hS.defers⟩
      · simp at h
    · simp at h
  · simp at h
/-- THE ORDER IS OPEN: the evaluator's run is what every order comes to. -/
theorem evDraw_sound (hm : P.follows .mixedOrders = true) (hc : CallOK P w0 call) (hfr : CallFr call) {n : Nat} (hok : okOps n ops = true) {id : Nat} {τ τ' : Tm} {H H' : AH} {μ : Mu} {a : Act} {w : World} (h : evDraw P call ops τ H = some (τ', H')) (hS : St P w0 n μ τ H a w)
    {Q : Exit → Act → World → Prop} (hQ : ∀ a' w' μ', Ext μ μ' → St P w0 n μ' τ' H' a' w' → Q .normal a' w') : (Code.region id ops true).wp P Q a w := by
  unfold evDraw at h
  split at h
  · exact evDraw1_sound hm hc hok h hS hQ
  · split at h
    · rename_i I hI
      exact evFlt_sound hm hc hfr hok hI h hS hQ
    · simp at h
end
end Go.Ev
