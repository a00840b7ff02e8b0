/- Lemmas of an evaluator of the given code and of what the functions answer; no condition of its own. -/
import Derived.Test.YtomhcdfflfonfaaEv3
/- The machine does what the evaluator of code and calls does. -/
namespace Go.Ev
open Go Go.RowKit
set_option linter.unusedSimpArgs false
set_option linter.unusedVariables false

section
variable {P : Program} {w0 : World} {call : CallF}

theorem evCode_sound (hm : P.follows .mixedOrders = true) (hc : CallOK P w0 call) (hfr : CallFr call) (n : Nat) {nt : Nat} : ∀ (c : Code) (_ : okCode nt c = true) {τ τ' : Tm} {H H' : AH} {e : Ex} {μ : Mu} {a : Act} {w : World},
    evCode P call n c τ H = some (e, τ', H') → St P w0 nt μ τ H a w → ∀ {Q : Exit → Act → World → Prop}, (∀ a' w' μ', Ext μ μ' → St P w0 nt μ' τ' H' a' w' → Q e.toExit a' w') → c.wp P Q a w
  | .skip, _, τ, τ', H, H', e, μ, a, w, h, hS, Q, hQ => by
    simp only [evCode, Option.some.injEq, Prod.mk.injEq] at h
    obtain ⟨rfl, rfl, rfl⟩ := h
    exact wp_skip (hQ a w μ (Ext.refl _) hS)
  | .label l, _, τ, τ', H, H', e, μ, a, w, h, hS, Q, hQ => by
    simp only [evCode, Option.some.injEq, Prod.mk.injEq] at h
    obtain ⟨rfl, rfl, rfl⟩ := h
    exact wp_label (hQ a w μ (Ext.refl _) hS)
  | .region id ops draw, hok, τ, τ', H, H', e, μ, a, w, h, hS, Q, hQ => by
    simp only [evCode] at h
    simp only [okCode] at hok
    cases draw with
    | true =>
      simp only [if_true] at h
      split at h
      · rename_i τ1 H1 h1
        simp only [Option.some.injEq, Prod.mk.injEq] at h
        obtain ⟨rfl, rfl, rfl⟩ := h
        exact evDraw_sound hm hc hfr hok h1 hS hQ
      · simp at h
    | false =>
      simp only [Bool.false_eq_true, if_false] at h
      split at h
      · rename_i τ1 H1 h1
        simp only [Option.some.injEq, Prod.mk.injEq] at h
        obtain ⟨rfl, rfl, rfl⟩ := h
        refine wp_region_list (evOps_sound hc hok ?_ h1 hS hQ)
        intro o ho
        unfold okOps at hok
        rw [List.all_eq_true] at hok
        exact hok o ho
      · simp at h
  | .seq x y, hok, τ, τ', H, H', e, μ, a, w, h, hS, Q, hQ => by
    simp only [evCode] at h
    simp only [okCode, Bool.and_eq_true] at hok
    refine wp_seq ?_
    split at h
    · rename_i τ1 H1 h1
      refine evCode_sound hm hc hfr n x hok.1 h1 hS fun a1 w1 μ1 hx1 hS1 => ?_
      exact evCode_sound hm hc hfr n y hok.2 h hS1 fun a2 w2 μ2 hx2 hS2 => hQ a2 w2 μ2 (hx1.trans hx2) hS2
    · rename_i hne
      refine evCode_sound hm hc hfr n x hok.1 h hS fun a1 w1 μ1 hx1 hS1 => ?_
      cases e with
      | normal => exact (hne _ _ h).elim
      | exit id => exact hQ a1 w1 μ1 hx1 hS1
      | ret => exact hQ a1 w1 μ1 hx1 hS1
  | .cond c x y, hok, τ, τ', H, H', e, μ, a, w, h, hS, Q, hQ => by
    simp only [evCode] at h
    simp only [okCode, Bool.and_eq_true] at hok
    split at h
    · rename_i q hq
      have hv := opnd_sound hS.tm (by rw [hS.size]; exact hok.1.1) hq
      simp only [VR] at hv
      refine wp_cond hv ?_
      cases q with
      | true =>
        simp only [if_true] at h ⊢
        exact evCode_sound hm hc hfr n x hok.1.2 h hS hQ
      | false =>
        simp only [Bool.false_eq_true, if_false] at h ⊢
        exact evCode_sound hm hc hfr n y hok.2 h hS hQ
    · simp at h
  | .block id x, hok, τ, τ', H, H', e, μ, a, w, h, hS, Q, hQ => by
    simp only [evCode] at h
    simp only [okCode] at hok
    refine wp_block ?_
    split at h
    · rename_i id' τ1 H1 h1
      split at h
      · rename_i hid
        simp only [Option.some.injEq, Prod.mk.injEq] at h
        obtain ⟨rfl, rfl, rfl⟩ := h
        refine evCode_sound hm hc hfr n x hok h1 hS fun a1 w1 μ1 hx1 hS1 => ?_
        simp only [Ex.toExit, Exit.inBlock, hid, if_true]
        exact hQ a1 w1 μ1 hx1 hS1
      · rename_i hid
        simp only [Option.some.injEq, Prod.mk.injEq] at h
        obtain ⟨rfl, rfl, rfl⟩ := h
        refine evCode_sound hm hc hfr n x hok h1 hS fun a1 w1 μ1 hx1 hS1 => ?_
        simp only [Ex.toExit, Exit.inBlock, hid, if_false]
        exact hQ a1 w1 μ1 hx1 hS1
    · rename_i hne
      refine evCode_sound hm hc hfr n x hok h hS fun a1 w1 μ1 hx1 hS1 => ?_
      cases e with
      | normal => exact hQ a1 w1 μ1 hx1 hS1
      | exit id' => exact (hne _ _ _ h).elim
      | ret => exact hQ a1 w1 μ1 hx1 hS1
  | .loop x, hok, τ, τ', H, H', e, μ, a, w, h, hS, Q, hQ => by
    simp only [evCode] at h
    simp only [okCode] at hok
    refine wp_loop_rounds n ?_
    have key : ∀ (m : Nat) {τ : Tm} {H : AH} {μ : Mu} {a : Act} {w : World}, iter (evCode P call n x) m τ H = some (e, τ', H') → St P w0 nt μ τ H a w →
        (∀ a' w' μ', Ext μ μ' → St P w0 nt μ' τ' H' a' w' → Q e.toExit a' w') → Code.rounds P x Q m a w := by
      intro m
      induction m with
      | zero => intro τ H μ a w h; simp [iter] at h
      | succ m ih =>
        intro τ H μ a w h hS hQ
        simp only [iter] at h
        rw [rounds_succ]
        split at h
        · rename_i τ1 H1 h1
          refine evCode_sound hm hc hfr n x hok h1 hS fun a1 w1 μ1 hx1 hS1 => ?_
          exact ih h hS1 fun a2 w2 μ2 hx2 hS2 => hQ a2 w2 μ2 (hx1.trans hx2) hS2
        · rename_i hne
          refine evCode_sound hm hc hfr n x hok h hS fun a1 w1 μ1 hx1 hS1 => ?_
          cases e with
          | normal => exact (hne _ _ h).elim
          | exit id => exact hQ a1 w1 μ1 hx1 hS1
          | ret => exact hQ a1 w1 μ1 hx1 hS1
    exact key n h hS hQ
  | .exit id, _, τ, τ', H, H', e, μ, a, w, h, hS, Q, hQ => by
    simp only [evCode, Option.some.injEq, Prod.mk.injEq] at h
    obtain ⟨rfl, rfl, rfl⟩ := h
    exact wp_exit (hQ a w μ (Ext.refl _) hS)
  | .scope x, hok, τ, τ', H, H', e, μ, a, w, h, hS, Q, hQ => by
    simp only [evCode] at h
    simp only [okCode] at hok
    refine wp_scope_straight (evCode_sound hm hc hfr n x hok h hS fun a1 w1 μ1 hx1 hS1 => ?_)
    cases e <;> exact hQ a1 w1 μ1 hx1 hS1
  | .ret, _, τ, τ', H, H', e, μ, a, w, h, hS, Q, hQ => by
    simp only [evCode, Option.some.injEq, Prod.mk.injEq] at h
    obtain ⟨rfl, rfl, rfl⟩ := h
    exact wp_ret (hQ a w μ (Ext.refl _) hS)
  | .rangeFunc .., _, τ, τ', H, H', e, μ, a, w, h, hS, Q, hQ => by simp [evCode] at h
  | .goto .., _, τ, τ', H, H', e, μ, a, w, h, hS, Q, hQ => by simp [evCode] at h
  | .refuse .., _, τ, τ', H, H', e, μ, a, w, h, hS, Q, hQ => by simp [evCode] at h

def resF (tmps : Array Value) : ResultVar → Sem Value
  | .tmp t => pure (tmps.getD t undef)
  | .cell a t => do loadVar t (← asAddr (tmps.getD a undef))
theorem results_eq (fn : Func) (tmps : Array Value) : results fn tmps = (do
    let vs ← fn.results.mapM (resF tmps)
    pure (if h : vs.size = 1 then vs[0] else .tuple vs)) := by
  unfold results
  congr 1
theorem resL_sound {n : Nat} {μ : Mu} {τ : Tm} {H : AH} {a : Act} {w : World} (hS : St P w0 n μ τ H a w) : ∀ (rs : List ResultVar) {l : List AV}, rs.all (fun | .tmp t => decide (t < n) | .cell a _ => decide (a < n)) = true → resL P τ H rs = some l →
    ∃ vs, (rs.mapM (resF a.tmps)).run P w = .ok vs w ∧ VRs μ l vs
  | [], l, _, h => by
    simp only [resL, Option.some.injEq] at h; subst h
    exact ⟨[], rfl, by simp [VRs]⟩
  | r :: rs, l, hok, h => by
    rw [List.all_cons, Bool.and_eq_true] at hok
    simp only [resL] at h
    split at h
    · rename_i x xs hx hxs
      simp only [Option.some.injEq] at h; subst h
      obtain ⟨vs, h1, h2⟩ := resL_sound hS rs hok.2 hxs
      have hslot : ∀ t, t < n → VR μ (τ t) (a.tmps.getD t undef) := by
        intro t ht
        have hsz := hS.size
        have : a.tmps.getD t undef = a.tmps[t] := by simp [Array.getD, hsz, ht]
        rw [this]
        exact hS.tm t _ (by simp [hsz, ht])
      cases r with
      | tmp t =>
        simp only [resR, Option.some.injEq] at hx; subst hx
        refine ⟨a.tmps.getD t undef :: vs, ?_, by simp only [VRs]; exact ⟨_, _, rfl, hslot t (by simpa using hok.1), h2⟩⟩
        rw [List.mapM_cons]
        simp only [resF, Sem.run_bind, Sem.run_pure, Result.andThen_ok, h1]
      | cell x0 t =>
        simp only [resR] at hx
        split at hx
        · rename_i b o hp
          have hv := hslot x0 (by simpa using hok.1)
          rw [hp] at hv
          simp only [VR] at hv
          obtain ⟨L, g1, g2⟩ := hv
          obtain ⟨u, g3, g4⟩ := ldVar_sound hS.rel hx g1
          refine ⟨u :: vs, ?_, by simp only [VRs]; exact ⟨_, _, rfl, g4, h2⟩⟩
          rw [List.mapM_cons]
          have ha : (asAddr (a.tmps.getD x0 undef)).run P w = .ok ⟨L.c, L.base + o, none⟩ w := by rw [g2]; rfl
          have hf : (resF a.tmps (.cell x0 t)).run P w = .ok u w := by
            simp only [resF, Sem.run_bind, ha, Result.andThen_ok, g3]
          simp only [Sem.run_bind, hf, Result.andThen_ok, h1, Sem.run_pure]
        · simp at hx
    · simp at h

theorem resA_sound {fn : Func} {n : Nat} {μ : Mu} {τ : Tm} {H : AH} {a : Act} {w : World} (hS : St P w0 n μ τ H a w) (hok : okRes n fn.results = true) {r : AV} (h : resA P fn.results.toList τ H = some r) :
    ∃ v, (results fn a.tmps).run P w = .ok v w ∧ VR μ r v := by
  unfold resA at h
  have key : ∀ l, resL P τ H fn.results.toList = some l → ∃ vs : Array Value, (fn.results.mapM (resF a.tmps)).run P w = .ok vs w ∧ VRs μ l vs.toList := by
    intro l hl
    obtain ⟨vs, h1, h2⟩ := resL_sound hS fn.results.toList hok hl
    refine ⟨vs.toArray, ?_, by simpa using h2⟩
    rw [Array.mapM_eq_mapM_toList]
    simp only [Sem.run_map]
    rw [h1]; rfl
  split at h
  · rename_i x hl
    simp only [Option.some.injEq] at h; subst h
    obtain ⟨vs, h1, h2⟩ := key _ hl
    simp only [VRs] at h2
    obtain ⟨u, us, h3, h4, rfl⟩ := h2
    have : vs = #[u] := by rw [← Array.toArray_toList (xs := vs), h3]
    subst this
    refine ⟨u, ?_, h4⟩
    rw [results_eq, Sem.run_bind, h1]; rfl
  · rename_i l hne hl
    simp only [Option.some.injEq] at h; subst h
    obtain ⟨vs, h1, h2⟩ := key _ hl
    refine ⟨.tuple vs, ?_, by simp only [VR]; exact ⟨vs, rfl, h2⟩⟩
    have hsz : vs.size ≠ 1 := by
      intro e
      have := h2.length
      simp only [Array.length_toList, e] at this
      match l, this with
      | [x], _ => exact hne x rfl
    rw [results_eq, Sem.run_bind, h1]
    simp [hsz]
  · simp at h

theorem ev_sound (hm : P.follows .mixedOrders = true) : ∀ n, CallOK P w0 (ev P n)
  | 0 => fun f args H r H' μ w vs h => by simp [ev] at h
  | n + 1 => fun f args H r H' μ w vs h hR hv => by
    simp only [ev] at h
    split at h
    · rename_i fn hf
      split at h
      · rename_i hok
        obtain ⟨hok, hlen⟩ := hok
        unfold fnOk at hok
        unfold evFn at h
        split at hok
        · rename_i c hb
          rw [Bool.and_eq_true, Bool.and_eq_true] at hok
          obtain ⟨⟨hok1, hok2⟩, hok3⟩ := hok
          refine ⟨⟨fn, hf, by simpa using hok3, by simp [hb]⟩, ?_⟩
          simp only [hb] at h
          have hvl := hv.length
          simp only [Array.length_toList] at hvl
          have hS : St P w0 fn.ntmps μ (tm0 args) H { tmps := vs ++ Array.replicate (fn.ntmps - vs.size) undef, defers := [] } w := by
            refine ⟨hR, fun i u hu => ?_, by simp; omega, rfl⟩
            unfold tm0
            simp only at hu
            rw [List.getD_eq_getElem?_getD]
            rw [Array.getElem?_append] at hu
            split at hu
            · rename_i hi
              have hi' : i < args.length := by omega
              rw [List.getElem?_eq_getElem hi']
              obtain ⟨u', h1, h2⟩ := hv.get i args[i] (by simp [hi'])
              rw [Array.getElem?_toList, hu] at h1
              simp only [Option.some.injEq] at h1; subst h1
              exact h2
            · rename_i hi
              rw [List.getElem?_eq_none (by omega)]
              rw [Array.getElem?_replicate] at hu
              split at hu
              · simp only [Option.some.injEq] at hu; subst hu; exact VR_U
              · simp at hu
          refine calls_of_wp hf hb ?_
          split at h
          · rename_i τ' H2 he
            simp only [Option.map_eq_some_iff, Prod.mk.injEq] at h
            obtain ⟨r', hr, rfl, rfl⟩ := h
            refine evCode_sound hm (ev_sound hm n) (ev_fr n) n c hok1 he hS fun a' w' μ' hx hS' => ?_
            obtain ⟨v, h1, h2⟩ := resA_sound (fn := fn) hS' hok2 hr
            exact ⟨hS'.defers, v, h1, v, μ', rfl, hx, hS'.rel, h2⟩
          · rename_i τ' H2 he
            simp only [Option.map_eq_some_iff, Prod.mk.injEq] at h
            obtain ⟨r', hr, rfl, rfl⟩ := h
            refine evCode_sound hm (ev_sound hm n) (ev_fr n) n c hok1 he hS fun a' w' μ' hx hS' => ?_
            obtain ⟨v, h1, h2⟩ := resA_sound (fn := fn) hS' hok2 hr
            exact ⟨hS'.defers, v, h1, v, μ', rfl, hx, hS'.rel, h2⟩
          · simp at h
        · simp at hok
      · simp at h
    · simp at h
end
end Go.Ev

/- More rounds answer the same. -/
namespace Go.Ev
open Go Go.RowKit
set_option linter.unusedSimpArgs false
set_option linter.unusedVariables false

def LeC (c c' : CallF) : Prop := ∀ f a H r, c f a H = some r → c' f a H = some r
section
variable {P : Program} {call call' : CallF}

theorem evO_mono (hc : LeC call call') {o : Oper} {τ : Tm} {H : AH} {r : AV × AH} (h : evO P call o τ H = some r) : evO P call' o τ H = some r := by
  obtain ⟨dst, op, ty, pos, after, guard⟩ := o
  cases op <;> try exact h
  rename_i c
  obtain ⟨callee, args, ats⟩ := c
  cases callee with
  | builtin b => exact h
  | value f =>
    simp only [evO] at h ⊢
    generalize opnd τ f = A at h ⊢
    generalize opndL τ args.toList = B at h ⊢
    split at h
    · exact hc _ _ _ _ h
    · simp at h
  | invoke v name =>
    simp only [evO] at h ⊢
    generalize opnd τ v = A at h ⊢
    generalize opndL τ args.toList = B at h ⊢
    split at h
    · rename_i t v xs
      generalize mthA P t name = C at h ⊢
      split at h
      · exact hc _ _ _ _ h
      · simp at h
    · simp at h
theorem evO_rd {o : Oper} (hne : isEff P o.op = false) (τ : Tm) (H : AH) : evO P call' o τ H = evO P call o τ H := by
  obtain ⟨dst, op, ty, pos, after, guard⟩ := o
  cases op <;> try rfl
  rename_i c
  obtain ⟨callee, args, ats⟩ := c
  cases callee with
  | builtin b => rfl
  | value f => simp [isEff] at hne
  | invoke v name => simp [isEff] at hne
theorem stepA_mono (hc : LeC call call') {ops : Array Oper} {o : Oper} {τ : Tm} {H : AH} {r : Tm × AH} (h : stepA P call ops o τ H = some r) : stepA P call' ops o τ H = some r := by
  unfold stepA at h ⊢
  split
  · rename_i hw
    rw [if_pos hw] at h
    split at h
    · rename_i v H' hv
      rw [evO_mono hc hv]; exact h
    · simp at h
  · rename_i hw
    rw [if_neg hw] at h; exact h
theorem evOps_mono (hc : LeC call call') {ops : Array Oper} : ∀ {l : List Oper} {τ : Tm} {H : AH} {r : Tm × AH}, evOps P call ops l τ H = some r → evOps P call' ops l τ H = some r
  | [], _, _, _, h => h
  | o :: l, τ, H, r, h => by
    simp only [evOps] at h ⊢
    split at h
    · rename_i τ' H' hst
      rw [stepA_mono hc hst]; exact evOps_mono hc h
    · simp at h
theorem evHist_mono (hc : LeC call call') {ops : Array Oper} : ∀ {l : List Oper} {τ : Tm} {H : AH} {r : List (Tm × AH)}, evHist P call ops l τ H = some r → evHist P call' ops l τ H = some r
  | [], _, _, _, h => h
  | o :: l, τ, H, r, h => by
    simp only [evHist] at h ⊢
    split at h
    · rename_i τ' H' hst
      rw [stepA_mono hc hst]
      simp only
      split at h
      · rename_i r' hr
        rw [evHist_mono hc hr]; exact h
      · simp at h
    · simp at h
theorem loose_rd {ops : Array Oper} {q : Nat × Nat} (h : q ∈ looseOf P ops) : rdAt P ops q.1 = true := by
  unfold looseOf at h
  simp only [List.mem_flatMap, List.mem_range, List.mem_filterMap] at h
  obtain ⟨i, hi, p, hp, h⟩ := h
  split at h
  · rename_i hb
    simp only [Option.some.injEq] at h; subst h
    unfold looseB at hb
    simp only [Bool.and_eq_true] at hb
    exact hb.1.1.1
  · simp at h
theorem evDraw1_mono (hc : LeC call call') {ops : Array Oper} {τ : Tm} {H : AH} {r : Tm × AH} (h : evDraw1 P call ops τ H = some r) : evDraw1 P call' ops τ H = some r := by
  unfold evDraw1 at h ⊢
  split at h
  · rename_i hd
    rw [if_pos hd]
    split at h
    · rename_i hl
      rw [if_pos hl]; exact evOps_mono hc h
    · rename_i hl
      rw [if_neg hl]
      split at h
      · rename_i hs hh
        rw [evHist_mono hc hh]
        split at h
        · rename_i ho
          refine (if_pos ?_).trans h
          · intro q hq
            have := ho q hq
            have hr := loose_rd hq
            unfold ObOk at this ⊢
            unfold rdAt at hr
            split at this
            · rename_i τ1 H1 τ2 Hp o e1 e2 e3
              rw [e3] at hr
              simp only [Bool.and_eq_true, Bool.not_eq_true'] at hr
              try simp only [e1, e2, e3]
              intro hw
              rw [evO_rd (call := call) hr.2, evO_rd (call := call) (call' := call') hr.2]
              exact this hw
            · exact this.elim
        · simp at h
      · simp at h
  · simp at h
theorem evHistF_mono (hc : LeC call call') {n0 : Nat} {ops : Array Oper} {I : FI} : ∀ {l : List Oper} {k : Nat} {τ : Tm} {H : AH} {t : Tab} {r : List (Tm × AH × Tab)}, evHistF P call n0 ops I k l τ H t = some r → evHistF P call' n0 ops I k l τ H t = some r
  | [], _, _, _, _, _, h => h
  | o :: l, k, τ, H, t, r, h => by
    simp only [evHistF] at h ⊢
    split at h
    · rename_i hk
      rw [if_pos hk]
      split at h
      · split at h
        · rename_i r' hr
          rw [evHistF_mono hc hr]; exact h
        · simp at h
      · simp at h
    · rename_i hk
      rw [if_neg hk]
      split at h
      · rename_i hw
        rw [if_pos hw]
        split at h
        · rename_i v X hv
          rw [evO_mono hc hv]
          simp only
          split at h
          · rename_i r' hr
            rw [evHistF_mono hc hr]; exact h
          · simp at h
        · simp at h
      · rename_i hw
        rw [if_neg hw]
        split at h
        · rename_i r' hr
          rw [evHistF_mono hc hr]; exact h
        · simp at h
theorem evFlt_mono (hc : LeC call call') {ops : Array Oper} {I : FI} {τ : Tm} {H : AH} {r : Tm × AH} (h : evFlt P call ops I τ H = some r) : evFlt P call' ops I τ H = some r := by
  unfold evFlt at h ⊢
  split at h
  · rename_i hs hh
    rw [evHistF_mono hc hh]
    split at h
    · rename_i τ' X tab hl
      simp only [hl]
      split at h
      · rename_i ho
        rw [if_pos]
        · exact h
        · refine (ObsF_iff P call' ops I).2 fun q hq => ?_
          have := (ObsF_iff P call ops I).1 ho q hq
          unfold ObF at this ⊢
          split at this
          · rename_i e1 e2 e3
            try simp only [e1, e2, e3]
            intro hw
            obtain ⟨v, A, B, g1, g2⟩ := this hw
            exact ⟨v, A, B, evO_mono hc g1, evO_mono hc g2⟩
          · exact this.elim
      · simp at h
    · simp at h
  · simp at h
theorem evDraw_mono (hc : LeC call call') {ops : Array Oper} {τ : Tm} {H : AH} {r : Tm × AH} (h : evDraw P call ops τ H = some r) : evDraw P call' ops τ H = some r := by
  unfold evDraw at h ⊢
  split at h
  · rename_i hd
    rw [if_pos hd]; exact evDraw1_mono hc h
  · rename_i hd
    rw [if_neg hd]
    split at h
    · exact evFlt_mono hc h
    · simp at h
theorem iter_mono {f g : Tm → AH → Out} (hfg : ∀ τ H r, f τ H = some r → g τ H = some r) : ∀ {n m : Nat} {τ : Tm} {H : AH} {r : Ex × Tm × AH}, n ≤ m → iter f n τ H = some r → iter g m τ H = some r
  | 0, m, τ, H, r, _, h => by simp [iter] at h
  | n + 1, 0, τ, H, r, hn, h => by omega
  | n + 1, m + 1, τ, H, r, hn, h => by
    simp only [iter] at h ⊢
    split at h
    · rename_i τ' H' hf
      rw [hfg _ _ _ hf]; exact iter_mono hfg (by omega) h
    · rename_i hne
      rw [hfg _ _ _ h]
      obtain ⟨e, τ', H'⟩ := r
      cases e with
      | normal => exact (hne _ _ h).elim
      | _ => rfl
theorem evCode_mono (hc : LeC call call') {n m : Nat} (hn : n ≤ m) : ∀ (c : Code) {τ : Tm} {H : AH} {r : Ex × Tm × AH}, evCode P call n c τ H = some r → evCode P call' m c τ H = some r
  | .skip, τ, H, r, h => h
  | .label _, τ, H, r, h => h
  | .region id ops draw, τ, H, r, h => by
    simp only [evCode] at h ⊢
    cases draw with
    | true =>
      simp only [if_true] at h ⊢
      split at h
      · rename_i τ' H' h1
        rw [evDraw_mono hc h1]; exact h
      · simp at h
    | false =>
      simp only [Bool.false_eq_true, if_false] at h ⊢
      split at h
      · rename_i τ' H' h1
        rw [evOps_mono hc h1]; exact h
      · simp at h
  | .seq a b, τ, H, r, h => by
    simp only [evCode] at h ⊢
    split at h
    · rename_i τ' H' h1
      rw [evCode_mono hc hn a h1]; exact evCode_mono hc hn b h
    · rename_i hne
      rw [evCode_mono hc hn a h]
      obtain ⟨e, τ', H'⟩ := r
      cases e with
      | normal => exact (hne _ _ h).elim
      | _ => rfl
  | .cond c a b, τ, H, r, h => by
    simp only [evCode] at h ⊢
    split at h
    · rename_i q hq
      cases q
      · exact evCode_mono hc hn b h
      · exact evCode_mono hc hn a h
    · simp at h
  | .block id a, τ, H, r, h => by
    simp only [evCode] at h ⊢
    split at h
    · rename_i id' τ' H' h1
      rw [evCode_mono hc hn a h1]; exact h
    · rename_i hne
      rw [evCode_mono hc hn a h]
      obtain ⟨e, τ', H'⟩ := r
      cases e with
      | exit id' => exact (hne _ _ _ h).elim
      | _ => rfl
  | .loop a, τ, H, r, h => by
    simp only [evCode] at h ⊢
    exact iter_mono (fun τ H r h => evCode_mono hc hn a h) hn h
  | .exit _, τ, H, r, h => h
  | .scope a, τ, H, r, h => by
    simp only [evCode] at h ⊢
    exact evCode_mono hc hn a h
  | .ret, τ, H, r, h => h
  | .rangeFunc .., τ, H, r, h => by simp [evCode] at h
  | .goto .., τ, H, r, h => by simp [evCode] at h
  | .refuse .., τ, H, r, h => by simp [evCode] at h
theorem evFn_mono (hc : LeC call call') {n m : Nat} (hn : n ≤ m) {fn : Func} {args : List AV} {H : AH} {r : AV × AH} (h : evFn P call n fn args H = some r) : evFn P call' m fn args H = some r := by
  unfold evFn at h ⊢
  split at h
  · rename_i c hb
    split at h
    · rename_i τ H' h1
      rw [evCode_mono hc hn c h1]; exact h
    · rename_i τ H' h1
      rw [evCode_mono hc hn c h1]; exact h
    · simp at h
  · simp at h
theorem ev_succ : ∀ n, LeC (ev P n) (ev P (n + 1))
  | 0 => fun f a H r h => by simp [ev] at h
  | n + 1 => fun f a H r h => by
    have ih := ev_succ n
    rw [ev] at h ⊢
    split at h
    · rename_i fn hf
      split at h
      · rename_i hok
        rw [if_pos hok]
        exact evFn_mono ih (Nat.le_succ n) h
      · simp at h
    · simp at h
theorem ev_mono {n m : Nat} (h : n ≤ m) : LeC (ev P n) (ev P m) := by
  induction h with
  | refl => exact fun _ _ _ _ h => h
  | step _ ih => exact fun f a H r h => ev_succ _ f a H r (ih f a H r h)

/-- A call answers r, with enough rounds. -/
def Ans (P : Program) (f : FuncId) (args : List AV) (H : AH) (r : AV) (H' : AH) : Prop := ∃ n, ev P n f args H = some (r, H')
theorem Ans.at {f : FuncId} {args : List AV} {H : AH} {r : AV} {H' : AH} (h : Ans P f args H r H') : ∃ n, ∀ m, n ≤ m → ev P m f args H = some (r, H') :=
  let ⟨n, hn⟩ := h; ⟨n, fun m hm => ev_mono hm _ _ _ _ hn⟩
end
end Go.Ev
