/- Lemmas of an evaluator of the given code and of what the functions answer; no condition of its own. -/
import Derived.Test.YtnoacfilglgbgaaEv11
/- Credit: what arrives, in the reference. -/
namespace Go.Ev
open Go Go.Proofs
set_option linter.unusedSimpArgs false
set_option linter.unusedVariables false

structure AzT (τ : Tm) (q : Nat) (id n : Int) : Prop where
  t0 : τ 0 = .ptr q 0
  t1 : τ 1 = .int .i64 id
  t2 : τ 2 = .int .i64 n
/-- behind the streams that came: the stream, the sums, the answer -/
theorem arZ {S : Sup} {F : Fw} {q : Nat} {v : AV} {bs : List Nat} {h : AH} (X : FsS S F q v bs h) (hbk : ∀ s ∈ F.L, -1000000000 ≤ s.to ∧ s.to ≤ 1000000000) (hca : ∀ s ∈ F.L, 0 ≤ s.ca) (hsum : sumI Bk.ca F.L ≤ F.tc) (htc : F.tc ≤ 1000000000) (id n : Int) (hn : inW n) (m : Nat) (hm : 1000010 ≤ m) (τ : Tm) (T : AzT τ q id n) :
    ∃ h' c G, resM Try.prog [.tmp 6] (evAt Try.prog (ev Try.prog m) m 201 31 τ h) = some (.int .i64 c, h') ∧ StpS S G q bs h h' ∧ (G, c) = (match getsP S F.L id with
    | none => (F, 7)
    | some i => if (F.at_ i).to < max n (F.at_ i).ca ∨ F.tc - (sumI Bk.ca F.L - (F.at_ i).ca) < max n (F.at_ i).ca then (F, 8) else (F.upd i fun s => { s with ca := max n (F.at_ i).ca }, 0)) := by
  obtain ⟨t0, t1, t2⟩ := T
  have e1 := gets_ev X id m (by omega)
  have st0 : StpS S F q bs h h := ⟨v, bs, X, KoS.refl _ _, fun b hb => .inl hb⟩
  cases hs : getsP S F.L id with
  | none =>
    rw [hs] at e1
    simp only [ixI] at e1
    exact ⟨h, 7, F, by rw [at_M Try.func201 31 (by decide) 5 (by decide) (by kernel_rfl) []]; simp [Try.f201, t0, t1, e1], st0, rfl⟩
  | some i =>
    rw [hs] at e1
    simp only [ixI] at e1
    have hi := getsP_lt hs
    have ei : ((i : Int) < 0) = False := eq_false (by omega)
    have hsn := sumI_nn hca
    have hcm := sumI_mem hca F.L[i] (List.getElem_mem hi)
    have hc0 := hca F.L[i] (List.getElem_mem hi)
    have hb1 := hbk F.L[i] (List.getElem_mem hi)
    rw [← at_L hi] at hcm hc0 hb1
    have hsl := asLoop (n := n) X hca (by omega) hi m (by omega)
    obtain ⟨b, o, x1, x2, u1, u2, u3, u4, u5, u6, ok, u7⟩ := X.upd hi
    obtain ⟨_, _, _, r3, r4, _, _⟩ := FsS.row_ld (S := S) (F := F) (q := q) (v := v) (bs := bs) u5 u6
    have l9 := X.ld
    have l17 : ldVar Try.prog 3 q 17 h = some (.int .i64 F.tc) := by have := X.gq; simp [ldVar, this, fsC]
    unfold inW at hn
    dsimp only
    generalize F.at_ i = s at *
    generalize hK : max n s.ca = K at *
    have hmx : (if n < s.ca then s.ca else n) = K := by rw [← hK]; split <;> omega
    have w1 : IntKind.i64.wrap (F.tc - (sumI Bk.ca F.L - s.ca)) = F.tc - (sumI Bk.ca F.L - s.ca) := wrap_i64 (n := F.tc - (sumI Bk.ca F.L - s.ca)) (by omega) (by omega)
    by_cases c1 : s.to < K
    · rw [if_pos (.inl c1)]
      refine ⟨h, 8, F, ?_, st0, rfl⟩
      rw [at_M Try.func201 31 (by decide) 5 (by decide) (by kernel_rfl) []]
      simp [Try.f201, t0, t1, e1, ei]
      generalize hLo : evLoop _ _ _ _ _ _ = R
      obtain ⟨e, τ', H', rfl, rfl, rfl, ⟨v0, v2, v12⟩, v13⟩ := loop_at hLo (hsl _ ⟨0, by simp, rfl, ⟨by simp [t0], by simp [t2], by simp⟩, by simp [sumB, sumI], by simp⟩)
      simp [Try.f201, v0, v2, v12, v13, l9, u1, r3, r4, mx2, foldA, hmx, c1]
    · by_cases c2 : F.tc - (sumI Bk.ca F.L - s.ca) < K
      · rw [if_pos (.inr c2)]
        refine ⟨h, 8, F, ?_, st0, rfl⟩
        rw [at_M Try.func201 31 (by decide) 5 (by decide) (by kernel_rfl) []]
        simp [Try.f201, t0, t1, e1, ei]
        generalize hLo : evLoop _ _ _ _ _ _ = R
        obtain ⟨e, τ', H', rfl, rfl, rfl, ⟨v0, v2, v12⟩, v13⟩ := loop_at hLo (hsl _ ⟨0, by simp, rfl, ⟨by simp [t0], by simp [t2], by simp⟩, by simp [sumB, sumI], by simp⟩)
        simp [Try.f201, v0, v2, v12, v13, l9, l17, u1, r3, r4, mx2, foldA, hmx, w1, c1, c2]
      · rw [if_neg (by intro h; rcases h with h | h; exact c1 h; exact c2 h)]
        have X1 := u7 (fun s => { s with ca := K }) ⟨ok.id, ok.cr, ok.se, ok.to, InK.i64 (by simp only; omega) (by simp only; omega), ok.re⟩
        have hst := st_mid (P := Try.prog) (T := 3) (j := 4) (v := .int .i64 K) u5 u6 (by simp) rfl (by simp [Bk.c])
        have hset : s.c.set 4 (.int .i64 K) = Bk.c { s with ca := K } := rfl
        rw [hset] at hst
        have c1' := eq_false c1; have c2' := eq_false c2
        refine ⟨_, 0, _, ?_, ⟨v, bs, X1, (KoS.refl _ _).set1 (List.mem_cons_of_mem _ u4) _, fun b hb => .inl hb⟩, rfl⟩
        rw [at_M Try.func201 31 (by decide) 5 (by decide) (by kernel_rfl) []]
        simp [Try.f201, t0, t1, e1, ei]
        generalize hLo : evLoop _ _ _ _ _ _ = R
        obtain ⟨e, τ', H', rfl, rfl, rfl, ⟨v0, v2, v12⟩, v13⟩ := loop_at hLo (hsl _ ⟨0, by simp, rfl, ⟨by simp [t0], by simp [t2], by simp⟩, by simp [sumB, sumI], by simp⟩)
        simp [Try.f201, v0, v2, v12, v13, l9, l17, u1, r3, r4, mx2, foldA, hmx, w1, c1', c2', hst]
theorem addAll_all {S : Sup} {sv w : Bool} {P : Bk → Prop} : ∀ (n : Nat) {F : Fw}, (∀ s ∈ F.L, P s) → (∀ k, k < n → P (newBk S (idOf sv w k))) → ∀ s ∈ (addAll S sv w n F).L, P s
  | 0, F, h, _ => h
  | n + 1, F, h, hk => by
    have ih := addAll_all n h fun k hkn => hk k (by omega)
    simp only [addAll, addP]
    split
    · intro s hs
      simp only [putP, List.mem_append, List.mem_singleton] at hs
      rcases hs with hs | rfl
      · exact ih s hs
      · exact hk n (by omega)
    · exact ih
theorem addAll_sum {S : Sup} {sv w : Bool} (f : Bk → Int) (hf : ∀ id, f (newBk S id) = 0) : ∀ (n : Nat) (F : Fw), sumI f (addAll S sv w n F).L = sumI f F.L
  | 0, F => rfl
  | n + 1, F => by
    have ih := addAll_sum (S := S) (sv := sv) (w := w) f hf n F
    simp only [addAll, addP]
    split
    · simp only [putP, sumI_app, ih, sumI, hf]; omega
    · exact ih
theorem arrive_ev {S : Sup} {F : Fw} {k : Nat} {q : Nat} {v : AV} {bs : List Nat} {h : AH} (X : FsS S F q v bs h) (G : F.good S k) (id n : Int) (m : Nat) (hm : 1000020 ≤ m) :
    ∃ h', ev Try.prog m 201 [.ptr q 0, .int .i64 id, .int .i64 n] h = some (.int .i64 (arriveP S F id n).2, h') ∧ StpS S (arriveP S F id n).1 q bs h h' := by
  obtain ⟨m, rfl⟩ : ∃ k, m = k + 1 := ⟨m - 1, by omega⟩
  have e1 := IdPartsS_ev id h m (by omega)
  have e2 := fun H => l05VarF_ev n H m (by omega)
  have st0 : StpS S F q bs h h := ⟨v, bs, X, KoS.refl _ _, fun b hb => .inl hb⟩
  have hkk := G.kk; have hsup := G.sup; have hCA := G.ca; have hTC := G.tc
  have hbk : ∀ s ∈ F.L, -1000000000 ≤ s.to ∧ s.to ≤ 1000000000 := fun s hs => by
    have := (G.bk s hs).to; have := (G.bk s hs).ca; have := (G.bk s hs).re; omega
  unfold arriveP
  by_cases c1 : idOk id
  · rw [if_pos c1] at e1
    by_cases c2 : inW n
    · rw [if_neg (by simp [c1, c2])]
      by_cases c3 : idSv id = S.sv
      · have c3' : (idSv id != S.sv) = false := by simpa using c3
        rw [if_neg (by simp [c3])]
        have hh : ∃ τ', ev Try.prog (m + 1) 201 [.ptr q 0, .int .i64 id, .int .i64 n] h = resM Try.prog [.tmp 6] (evAt Try.prog (ev Try.prog m) m 201 31 τ' h) ∧ AzT τ' q id n := by
          have g := X.gq
          have l0 : ldVar Try.prog 4 q 0 h = some (.bool S.sv) := by simp [ldVar, g, fsC]
          rw [ev_M Try.func201 ok201 [31] m _ h (by simp [Try.f201])]
          exact ⟨_, by simp [Try.f201, tm0, e1, e2, c2, c3, l0]; rfl, by simp [tm0], by simp [tm0], by simp [tm0]⟩
        obtain ⟨τ1, e3, T1⟩ := hh
        obtain ⟨h', c, G', e4, s4, g4⟩ := arZ X hbk (good_ca G) hCA (by omega) id n c2 m (by omega) τ1 T1
        refine ⟨h', ?_, ?_⟩
        · rw [e3, e4]
          have := congrArg Prod.snd g4
          simp only [c3, ne_eq, not_true_eq_false, if_false]
          simp only at this
          rw [this]
          cases getsP S F.L id <;> rfl
        · have := congrArg Prod.fst g4
          simp only [c3, ne_eq, not_true_eq_false, if_false]
          simp only at this
          rw [this] at s4
          cases hgs : getsP S F.L id <;> rw [hgs] at s4 <;> exact s4
      · have c3' : (idSv id == S.sv) = false := by simpa using c3
        have c3n : (idSv id != S.sv) = true := by simpa using c3
        have g := X.gq
        have l0 : ldVar Try.prog 4 q 0 h = some (.bool S.sv) := by simp [ldVar, g, fsC]
        have li : ldVar Try.prog 3 q (if idOw id then 16 else 15) h = some (.int .i64 (F.i (idOw id))) := by simp only [fsC] at g; cases idOw id <;> simp [ldVar, g, Fw.i]
        have ew := fun H => l08Way_ev (idOw id) H m (by omega)
        have hI := G.i (idOw id)
        unfold idOk at c1
        by_cases c4 : F.i (idOw id) ≤ id / 4
        · rw [if_pos ⟨c3, c4⟩]
          refine ⟨h, ?_, st0⟩
          rw [ev_M Try.func201 ok201 [] m _ h (by simp [Try.f201])]
          generalize F.i (idOw id) = I at *
          cases hw : idOw id <;> simp only [hw, Bool.false_eq_true, if_false, if_true] at e1 li ew <;>
            simp [Try.f201, tm0, e1, e2, c2, c3, c3', c3n, l0, li, ew, ia0, ia1, c4, evHist, ObsOk, ObOk, List.getElem?_cons_zero]
        · rw [if_neg (by simp [c4])]
          have hal := arLoop (S := S) (F := F) (q := q) (bs := bs) (H := h) (h0 := h) (id := id) (n := n) (sv := idSv id) (w := idOw id) (p := id / 4) hsup (by have := G.len; omega) (by omega) m (by omega)
          have hh : ∃ τ' h1, ev Try.prog (m + 1) 201 [.ptr q 0, .int .i64 id, .int .i64 n] h = resM Try.prog [.tmp 6] (evAt Try.prog (ev Try.prog m) m 201 31 τ' h1) ∧ AzT τ' q id n ∧ StpS S (addAll S (idSv id) (idOw id) (id / 4 + 1).toNat F) q bs h h1 := by
            have c4' := eq_false c4
            rw [ev_M Try.func201 ok201 [31] m _ h (by simp [Try.f201])]
            generalize F.i (idOw id) = I at *
            cases hw : idOw id <;> simp only [hw, Bool.false_eq_true, if_false, if_true] at e1 li ew hal ⊢
            all_goals
              simp [Try.f201, tm0, e1, e2, c2, c3, c3', c3n, l0, li, ew, ia0, ia1, c4', evHist, ObsOk, ObOk, List.getElem?_cons_zero]
              generalize hLo : evLoop _ _ _ _ _ _ = R
              obtain ⟨e, τ', H', rfl, rfl, ⟨t0, t1, t2, t7, t8, t9⟩, hst⟩ := loop_at hLo (hal _ ⟨0, by omega, ⟨by simp, by simp, by simp, by simp, by simp, by simp⟩, by simp, st0⟩)
              exact ⟨τ', H', by simp, ⟨t0, t1, t2⟩, hst⟩
          obtain ⟨τ1, h1, e3, T1, v1, bs1, x1, x2, x3⟩ := hh
          have hsa := addAll_same S (idSv id) (idOw id) (id / 4 + 1).toNat F
          have hs1 := addAll_sum (S := S) (sv := idSv id) (w := idOw id) Bk.ca (fun _ => rfl) (id / 4 + 1).toNat F
          obtain ⟨h', c, G', e4, s4, g4⟩ := arZ x1 (addAll_all _ hbk fun k _ => by have := hsup.sw; simp only [newBk]; omega) (addAll_all _ (good_ca G) fun k _ => by simp [newBk]) (by rw [hs1, hsa.tc]; exact hCA) (by rw [hsa.tc]; omega) id n c2 m (by omega) τ1 T1
          have s5 := StpS.trans x1 x2 x3 s4
          refine ⟨h', ?_, ?_⟩
          · rw [e3, e4]
            have := congrArg Prod.snd g4
            simp only [ne_eq, c3, not_false_eq_true, if_true]
            simp only at this
            rw [this]
            cases getsP S (addAll S (idSv id) (idOw id) (id / 4 + 1).toNat F).L id <;> rfl
          · have := congrArg Prod.fst g4
            simp only [ne_eq, c3, not_false_eq_true, if_true]
            simp only at this
            rw [this] at s5
            cases hgs : getsP S (addAll S (idSv id) (idOw id) (id / 4 + 1).toNat F).L id <;> rw [hgs] at s5 <;> exact s5
    · rw [if_pos (.inr c2)]
      refine ⟨h, ?_, st0⟩
      rw [ev_M Try.func201 ok201 [] m _ h (by simp [Try.f201])]
      simp [Try.f201, tm0, e1, e2, c2]
  · rw [if_neg c1] at e1
    rw [if_pos (.inl c1)]
    refine ⟨h, ?_, st0⟩
    rw [ev_M Try.func201 ok201 [] m _ h (by simp [Try.f201])]
    simp [Try.f201, tm0, e1, U]
end Go.Ev

/- Credit: one operation of the reference. -/
namespace Go.Ev
open Go Go.Proofs
set_option linter.unusedSimpArgs false
set_option linter.unusedVariables false

theorem StpO.fin {S : Sup} {F' : Fw} {d : Ob} {q : Nat} {bs : List Nat} {h A h' : AH} {c : List AV} (X : StpO S F' d q bs A h' c) (kA : Kp h A) {p : Nat} (hbs : ∀ b ∈ bs, b < h.next) (hq : q < h.next) (p1 : h.next ≤ p) (p2 : p < A.next) (x : Blk) : StpO S F' d q bs h (h'.set p x) c := by
  obtain ⟨v', bs', bo, a1, a2, a3, a4, a5, a6, a7⟩ := X
  have n1 := kA.next
  have n2 := a2.next
  have hb' : ∀ b ∈ bs', b ≠ p := fun b hb => by rcases a3 b hb with h | h; have := hbs b h; omega; omega
  refine ⟨v', bs', bo, a1.stay (by simp) (AH.set_getN _ _ (by omega)) (fun b hb => AH.set_getN _ _ (hb' b hb)), ⟨by simp; omega, fun b hb hx => ?_⟩, fun b hb => (a3 b hb).imp id (fun h => by omega), a4.stay (by simp) (fun b hb => AH.set_getN _ _ (by have := a6 b hb; omega)), a5, fun b hb => by have := a6 b hb; omega, a7⟩
  rw [AH.set_getN _ _ (by omega), a2.get b (by omega) hx]; exact kA.get b hb
theorem StpO.cells {S : Sup} {F' : Fw} {d : Ob} {q : Nat} {bs : List Nat} {h h' : AH} {c : List AV} (X : StpO S F' d q bs h h' c) : ∃ c0 c1 c2 va, c = obC c0 c1 c2 va ∧ va.one = true := by
  obtain ⟨v', bs', bo, a1, a2, a3, a4, _⟩ := X
  obtain ⟨x0, x1, x2, x3⟩ := d
  obtain ⟨va, bx, rfl, _, r, _⟩ := o63 a4
  exact ⟨x0, x1, x2, va, rfl, r.sl_one⟩
set_option maxRecDepth 20000 in
theorem do_ev {S : Sup} {F : Fw} {k0 : Nat} {q : Nat} {v : AV} {bs : List Nat} {h : AH} (X : FsS S F q v bs h) (G : F.good S k0) (k id n : Int) (w : Bool) (m : Nat) (hm : 1000040 ≤ m) :
    ∃ c h', ev Try.prog m 106 [.ptr q 0, .agg (opC k id n w)] h = some (.agg c, h') ∧ StpO S (doF S F (k, id, n, w)).1 (doF S F (k, id, n, w)).2 q bs h h' c := by
  obtain ⟨m, rfl⟩ : ∃ k, m = k + 1 := ⟨m - 1, by omega⟩
  let A0 : AH := (h.push (.cells 65 false (opC k id n w))).push (.cells 63 false (obC 0 0 0 .nilSlice))
  have kA : Kp h A0 := ((Kp.refl h).push _).push _
  have X0 := X.kp kA
  have qn := X.qn
  have hbn : ∀ b ∈ bs, b < h.next := X.R.mem
  have nA : A0.next = h.next + 2 := by simp [A0]
  have p0 : A0.get h.next = some (.cells 65 false (opC k id n w)) := by simp [A0]
  have p1 : A0.get (h.next + 1) = some (.cells 63 false (obC 0 0 0 .nilSlice)) := by simp [A0]
  have i0 : InK .i64 0 := InK.i64 (by omega) (by omega)
  have o0 : ldVar Try.prog 3 h.next 0 A0 = some (.int .i64 k) := by simp only [opC] at p0; simp [ldVar, p0]
  have o1 : ldVar Try.prog 3 h.next 1 A0 = some (.int .i64 id) := by simp only [opC] at p0; simp [ldVar, p0]
  have o2 : ldVar Try.prog 3 h.next 2 A0 = some (.int .i64 n) := by simp only [opC] at p0; simp [ldVar, p0]
  have o3 : ldVar Try.prog 4 h.next 3 A0 = some (.bool w) := by simp only [opC] at p0; simp [ldVar, p0]
  have o4 : ldVar Try.prog 65 h.next 0 A0 = some (.agg (opC k id n w)) := by simp only [opC] at p0 ⊢; simp [ldVar, p0]
  have hA0 : (h.push (.cells 65 false [.int .i64 k, .int .i64 id, .int .i64 n, .bool w])).push (.cells 63 false [.int .i64 0, .int .i64 0, .int .i64 0, .nilSlice]) = A0 := rfl
  have st0 : StpS S F q bs A0 A0 := ⟨v, bs, X0, KoS.refl _ _, fun b hb => .inl hb⟩
  -- what a store of the answer does
  have stO : ∀ {F' d h' c}, StpO S F' d q bs A0 h' c → stVar Try.prog 63 (h.next + 1) 0 (.agg c) h' = some (h'.set (h.next + 1) (.cells 63 false c)) ∧ ldVar Try.prog 63 (h.next + 1) 0 (h'.set (h.next + 1) (.cells 63 false c)) = some (.agg c) := by
    intro F' d h' c Y
    obtain ⟨c0, c1, c2, va, rfl, ov⟩ := Y.cells
    obtain ⟨v', bs', bo, a1, a2, _⟩ := Y
    have pp := (a2.get (h.next + 1) (by omega) (by intro hx; simp at hx; rcases hx with e | e; omega; have := hbn _ e; omega)).trans p1
    simp only [obC] at pp ⊢
    refine ⟨?_, by simp [ldVar]⟩
    simp only [stVar, pp]; simp [spl, ov]
  have fin : ∀ {F' d h' c}, StpO S F' d q bs A0 h' c → StpO S F' d q bs h (h'.set (h.next + 1) (.cells 63 false c)) c := fun Y => Y.fin kA hbn qn (by omega) (by omega) _
  by_cases k1 : k = 1
  · subst k1
    obtain ⟨c, i, n', h', e1, d1, s1⟩ := open_ev X0 G w m (by omega)
    have hd : doF S F (1, id, n, w) = openP S F w := by simp [doF]
    have hK : InK .i64 c ∧ InK .i64 i ∧ InK .i64 n' := by
      have := G.o w; have := G.kk
      unfold openP ob at d1
      split at d1
      · simp at d1; obtain ⟨rfl, rfl, rfl⟩ := d1; exact ⟨InK.i64 (by omega) (by omega), i0, i0⟩
      · simp at d1
        obtain ⟨rfl, rfl, rfl⟩ := d1
        refine ⟨i0, ?_, i0⟩
        unfold idOf
        rw [if_neg (by omega)]
        exact InK.i64 (by split <;> split <;> omega) (by split <;> split <;> omega)
    have Y := s1.o hK.1 hK.2.1 hK.2.2
    rw [hd, d1]
    obtain ⟨f1, f2⟩ := stO Y
    refine ⟨_, _, ?_, fin Y⟩
    simp only [obC, opC] at e1 f1 f2 hA0 ⊢
    clear_value A0
    rw [ev_M Try.func106 ok106 [] m _ h (by simp [Try.f106])]
    simp [Try.f106, tm0, hA0, o0, o3, e1, f1, f2, fillA]
  by_cases k2 : k = 2
  · subst k2
    obtain ⟨c, i, n', h', e1, d1, hn', s1⟩ := send_ev X0 G id n m (by omega)
    have hd : doF S F (2, id, n, w) = sendP S F id n := by simp [doF]
    have hK : InK .i64 c ∧ InK .i64 i := by
      unfold sendP ob at d1
      split at d1
      · simp at d1; obtain ⟨rfl, rfl, rfl⟩ := d1; exact ⟨InK.i64 (by omega) (by omega), i0⟩
      · split at d1 <;> simp at d1 <;> obtain ⟨rfl, rfl, _⟩ := d1 <;> exact ⟨InK.i64 (by omega) (by omega), i0⟩
    have Y := s1.o hK.1 hK.2 hn'
    rw [hd, d1]
    obtain ⟨f1, f2⟩ := stO Y
    refine ⟨_, _, ?_, fin Y⟩
    simp only [obC, opC] at e1 f1 f2 hA0 ⊢
    clear_value A0
    rw [ev_M Try.func106 ok106 [] m _ h (by simp [Try.f106])]
    simp [Try.f106, tm0, hA0, o0, o1, o2, e1, f1, f2, fillA]
  by_cases k3 : k = 3
  · subst k3
    obtain ⟨h', e1, s1⟩ := arrive_ev X0 G id n m (by omega)
    have hd : doF S F (3, id, n, w) = ((arriveP S F id n).1, ob (arriveP S F id n).2 0 0 []) := by simp [doF]
    have hK : InK .i64 (arriveP S F id n).2 := by
      simp only [arriveP]
      repeat' split
      all_goals (dsimp only; exact InK.i64 (by omega) (by omega))
    have Y := s1.o hK i0 i0
    rw [hd]
    obtain ⟨f1, f2⟩ := stO Y
    refine ⟨_, _, ?_, fin Y⟩
    simp only [obC, opC] at f1 f2 hA0 ⊢
    clear_value A0
    rw [ev_M Try.func106 ok106 [] m _ h (by simp [Try.f106])]
    simp [Try.f106, tm0, hA0, o0, o1, o2, e1, f1, f2, fillA, spl]
  by_cases k4 : k = 4
  · subst k4
    obtain ⟨c, h', e1, Y⟩ := read_ev X0 G id n m (by omega)
    have hd : doF S F (4, id, n, w) = readP S F id n := by simp [doF]
    rw [hd]
    obtain ⟨f1, f2⟩ := stO Y
    refine ⟨_, _, ?_, fin Y⟩
    simp only [opC] at hA0 ⊢
    clear_value A0
    rw [ev_M Try.func106 ok106 [] m _ h (by simp [Try.f106])]
    simp [Try.f106, tm0, hA0, o0, o1, o2, e1, f1, f2, fillA]
  by_cases k5 : k = 5
  · subst k5
    obtain ⟨c, h', e1, Y⟩ := over_ev X0 G id m (by omega)
    have hd : doF S F (5, id, n, w) = overP S F id := by simp [doF]
    rw [hd]
    obtain ⟨f1, f2⟩ := stO Y
    refine ⟨_, _, ?_, fin Y⟩
    simp only [opC] at hA0 ⊢
    clear_value A0
    rw [ev_M Try.func106 ok106 [] m _ h (by simp [Try.f106])]
    simp [Try.f106, tm0, hA0, o0, o1, e1, f1, f2, fillA]
  by_cases k6 : k = 6 ∨ k = 7 ∨ k = 8
  · obtain ⟨h', e1, s1⟩ := told_ev X0 G k id n w k6 m (by omega)
    have hd : doF S F (k, id, n, w) = ((toldP S F k id n w).1, ob (toldP S F k id n w).2 0 0 []) := by simp [doF, k1, k2, k3, k4, k5, k6]
    have hK : InK .i64 (toldP S F k id n w).2 := by
      simp only [toldP]
      repeat' split
      all_goals (dsimp only; exact InK.i64 (by omega) (by omega))
    have Y := s1.o hK i0 i0
    rw [hd]
    obtain ⟨f1, f2⟩ := stO Y
    refine ⟨_, _, ?_, fin Y⟩
    generalize (toldP S F k id n w).2 = r at *
    simp only [obC, opC] at e1 f1 f2 hA0 o4 ⊢
    clear_value A0
    rw [ev_M Try.func106 ok106 [] m _ h (by simp [Try.f106])]
    rcases k6 with rfl | rfl | rfl <;> simp [Try.f106, tm0, hA0, o0, o4, e1, f1, f2, fillA, spl]
  · have hd : doF S F (k, id, n, w) = (F, ob 1 0 0 []) := by simp [doF, k1, k2, k3, k4, k5, k6]
    simp only [not_or] at k6
    obtain ⟨k6, k7, k8⟩ := k6
    have Y := st0.o (InK.i64 (by decide) (by decide) : InK .i64 1) i0 i0
    rw [hd]
    obtain ⟨f1, f2⟩ := stO Y
    refine ⟨_, _, ?_, fin Y⟩
    simp only [obC, opC] at f1 f2 hA0 ⊢
    clear_value A0
    rw [ev_M Try.func106 ok106 [] m _ h (by simp [Try.f106])]
    simp [Try.f106, tm0, hA0, o0, f1, f2, fillA, spl, beqF, k1, k2, k3, k4, k5, k6, k7, k8]
end Go.Ev

/- Credit: setups, both sides; the reference's books at the start. -/
namespace Go.Ev
open Go Go.Proofs
set_option linter.unusedSimpArgs false
set_option linter.unusedVariables false

noncomputable instance (S : Sup) : Decidable S.ok := Classical.propDecidable _
def suC (S : Sup) : List AV := [.bool S.sv, .int .i64 S.cw, .int .i64 S.sw, .int .i64 S.tw, .int .i64 S.ow, .int .i64 S.pc, .int .i64 S.ps, .int .i64 S.ptw, .int .i64 S.pow]
def wdw (S : Sup) : Prop := 1 ≤ S.cw ∧ S.cw ≤ 16384 ∧ 1 ≤ S.sw ∧ S.sw ≤ 16384
def wys (S : Sup) : Prop := 0 ≤ S.tw ∧ S.tw ≤ 64 ∧ 0 ≤ S.ow ∧ S.ow ≤ 64
def prs (S : Sup) : Prop := inW S.pc ∧ inW S.ps ∧ 0 ≤ S.ptw ∧ S.ptw ≤ 1152921504606846976 ∧ 0 ≤ S.pow ∧ S.pow ≤ 1152921504606846976
theorem supOK_iff (S : Sup) : S.ok ↔ wdw S ∧ wys S ∧ prs S :=
  ⟨fun h => ⟨⟨h.cw.1, h.cw.2, h.sw.1, h.sw.2⟩, ⟨h.tw.1, h.tw.2, h.ow.1, h.ow.2⟩, ⟨h.pc, h.ps, h.ptw.1, h.ptw.2, h.pow.1, h.pow.2⟩⟩,
   fun ⟨⟨a1, a2, a3, a4⟩, ⟨b1, b2, b3, b4⟩, ⟨c1, c2, c3, c4, c5, c6⟩⟩ => ⟨⟨a1, a2⟩, ⟨a3, a4⟩, ⟨b1, b2⟩, ⟨b3, b4⟩, c1, c2, ⟨c3, c4⟩, ⟨c5, c6⟩⟩⟩
instance (S : Sup) : Decidable (wdw S) := by unfold wdw; infer_instance
instance (S : Sup) : Decidable (wys S) := by unfold wys; infer_instance
instance (S : Sup) : Decidable (prs S) := by unfold prs; infer_instance
theorem within_ev (x lo hi : Int) (H : AH) (m : Nat) (hm : 1 ≤ m) : ev Try.prog m 205 [.int .i64 x, .int .i64 lo, .int .i64 hi] H = some (.bool (decide (lo ≤ x ∧ x ≤ hi)), H) := by
  obtain ⟨m, rfl⟩ : ∃ k, m = k + 1 := ⟨m - 1, by omega⟩
  rw [ev_M Try.func205 ok205 [] m _ H (by simp [Try.f205])]
  by_cases h0 : lo ≤ x
  · by_cases h1 : x ≤ hi <;> simp [Try.f205, tm0, h0, h1]
  · simp [Try.f205, tm0, h0]
theorem supS1 {S : Sup} {p : Nat} {h : AH} (g : h.get p = some (.cells 49 false (suC S))) (m : Nat) (τ : Tm) (t1 : τ 1 = .ptr p 0) :
    ∃ τ', evAt Try.prog (ev Try.prog m) m 104 3 τ h = evAt Try.prog (ev Try.prog m) m 104 7 τ' h ∧ τ' 1 = .ptr p 0 ∧ τ' 3 = .bool (decide (wdw S)) := by
  simp only [suC] at g
  obtain ⟨sv, cw, sw, tw, ow, pc, ps, ptw, pow⟩ := S
  simp only at g
  rw [at_M Try.func104 3 (by decide) 2 (by decide) (by kernel_rfl) [7]]
  unfold wdw
  simp only
  by_cases c1 : 1 ≤ cw
  · by_cases c2 : cw ≤ 16384
    · by_cases c3 : 1 ≤ sw
      · by_cases c4 : sw ≤ 16384
        · exact ⟨_, by simp [Try.f104, t1, g, ldVar, c1, c2, c3, c4]; rfl, by simp [t1], by simp [c1, c2, c3, c4]⟩
        · exact ⟨_, by simp [Try.f104, t1, g, ldVar, c1, c2, c3, c4]; rfl, by simp [t1], by simp [c1, c2, c3, c4]⟩
      · exact ⟨_, by simp [Try.f104, t1, g, ldVar, c1, c2, c3]; rfl, by simp [t1], by simp [c1, c2, c3]⟩
    · exact ⟨_, by simp [Try.f104, t1, g, ldVar, c1, c2]; rfl, by simp [t1], by simp [c1, c2]⟩
  · exact ⟨_, by simp [Try.f104, t1, g, ldVar, c1]; rfl, by simp [t1], by simp [c1]⟩
theorem supS2 {S : Sup} {p : Nat} {h : AH} {b3 : Bool} (g : h.get p = some (.cells 49 false (suC S))) (m : Nat) (τ : Tm) (t1 : τ 1 = .ptr p 0) (t3 : τ 3 = .bool b3) :
    ∃ τ', evAt Try.prog (ev Try.prog m) m 104 7 τ h = evAt Try.prog (ev Try.prog m) m 104 15 τ' h ∧ τ' 1 = .ptr p 0 ∧ τ' 3 = .bool b3 ∧ τ' 4 = .bool (decide (wys S)) := by
  simp only [suC] at g
  obtain ⟨sv, cw, sw, tw, ow, pc, ps, ptw, pow⟩ := S
  simp only at g
  rw [at_M Try.func104 7 (by decide) 3 (by decide) (by kernel_rfl) [15]]
  unfold wys
  simp only
  by_cases c1 : 0 ≤ tw
  · by_cases c2 : tw ≤ 64
    · by_cases c3 : 0 ≤ ow
      · by_cases c4 : ow ≤ 64
        · exact ⟨_, by simp [Try.f104, t1, g, ldVar, c1, c2, c3, c4]; rfl, by simp [t1], by simp [t3], by simp [c1, c2, c3, c4]⟩
        · exact ⟨_, by simp [Try.f104, t1, g, ldVar, c1, c2, c3, c4]; rfl, by simp [t1], by simp [t3], by simp [c1, c2, c3, c4]⟩
      · exact ⟨_, by simp [Try.f104, t1, g, ldVar, c1, c2, c3]; rfl, by simp [t1], by simp [t3], by simp [c1, c2, c3]⟩
    · exact ⟨_, by simp [Try.f104, t1, g, ldVar, c1, c2]; rfl, by simp [t1], by simp [t3], by simp [c1, c2]⟩
  · exact ⟨_, by simp [Try.f104, t1, g, ldVar, c1]; rfl, by simp [t1], by simp [t3], by simp [c1]⟩
set_option maxRecDepth 20000 in
theorem supS3 {S : Sup} {p : Nat} {h : AH} {b3 b4 : Bool} (g : h.get p = some (.cells 49 false (suC S))) (m : Nat) (hm : 1 ≤ m) (τ : Tm) (t1 : τ 1 = .ptr p 0) (t3 : τ 3 = .bool b3) (t4 : τ 4 = .bool b4) :
    resM Try.prog [.tmp 2] (evAt Try.prog (ev Try.prog m) m 104 15 τ h) = some (.bool (b3 && b4 && decide (prs S)), h) := by
  simp only [suC] at g
  obtain ⟨sv, cw, sw, tw, ow, pc, ps, ptw, pow⟩ := S
  simp only at g
  have e1 := fun H => l05VarF_ev pc H m hm
  have e2 := fun H => l05VarF_ev ps H m hm
  rw [at_M Try.func104 15 (by decide) 4 (by decide) (by kernel_rfl) []]
  unfold prs
  simp only
  cases b3
  · simp [Try.f104, t1, t3, t4, g, ldVar, U]
  cases b4
  · simp [Try.f104, t1, t3, t4, g, ldVar, U]
  by_cases c1 : inW pc
  · by_cases c2 : inW ps
    · by_cases c3 : 0 ≤ ptw
      · by_cases c4 : ptw ≤ 1152921504606846976
        · by_cases c5 : 0 ≤ pow
          · by_cases c6 : pow ≤ 1152921504606846976 <;> simp [Try.f104, t1, t3, t4, g, ldVar, e1, e2, c1, c2, c3, c4, c5, c6]
          · simp [Try.f104, t1, t3, t4, g, ldVar, e1, e2, c1, c2, c3, c4, c5]
        · simp [Try.f104, t1, t3, t4, g, ldVar, e1, e2, c1, c2, c3, c4]
      · simp [Try.f104, t1, t3, t4, g, ldVar, e1, e2, c1, c2, c3]
    · simp [Try.f104, t1, t3, t4, g, ldVar, e1, e2, c1, c2]
  · simp [Try.f104, t1, t3, t4, g, ldVar, e1, e2, c1]
theorem supS_ev (S : Sup) (H : AH) (m : Nat) (hm : 2 ≤ m) : ev Try.prog m 104 [.agg (suC S)] H = some (.bool (decide S.ok), H.push (.cells 49 false (suC S))) := by
  obtain ⟨m, rfl⟩ : ∃ k, m = k + 1 := ⟨m - 1, by omega⟩
  have hh : ∃ τ', ev Try.prog (m + 1) 104 [.agg (suC S)] H = resM Try.prog [.tmp 2] (evAt Try.prog (ev Try.prog m) m 104 3 τ' (H.push (.cells 49 false (suC S)))) ∧ τ' 1 = .ptr H.next 0 := by
    simp only [suC]
    rw [ev_M Try.func104 ok104 [3] m _ H (by simp [Try.f104])]
    exact ⟨_, by simp [Try.f104, tm0]; rfl, by simp⟩
  obtain ⟨τ1, e1, t1⟩ := hh
  have g : (H.push (.cells 49 false (suC S))).get H.next = some (.cells 49 false (suC S)) := by simp
  obtain ⟨τ2, e2, u1, u3⟩ := supS1 g m τ1 t1
  obtain ⟨τ3, e3, v1, v3, v4⟩ := supS2 g m τ2 u1 u3
  have e4 := supS3 g m (by omega) τ3 v1 v3 v4
  rw [e1, e2, e3, e4]
  have : (decide (wdw S) && decide (wys S) && decide (prs S)) = decide S.ok := by
    rw [Bool.eq_iff_iff]; simp [supOK_iff, and_assoc]
  rw [this]
set_option maxRecDepth 20000 in
theorem supI_ev (S : Sup) (H : AH) (m : Nat) (hm : 2 ≤ m) : ev Try.prog m 108 [.agg (suC S)] H = some (.bool (decide S.ok), H.push (.cells 49 false (suC S))) := by
  obtain ⟨m, rfl⟩ : ∃ k, m = k + 1 := ⟨m - 1, by omega⟩
  have e0 := fun x lo hi H => within_ev x lo hi H m (by omega)
  have e1 := fun x H => inVarF_ev x H m (by omega)
  have hd : decide S.ok = decide ((1 ≤ S.cw ∧ S.cw ≤ 16384) ∧ (1 ≤ S.sw ∧ S.sw ≤ 16384) ∧ (0 ≤ S.tw ∧ S.tw ≤ 64) ∧ (0 ≤ S.ow ∧ S.ow ≤ 64) ∧ inW S.pc ∧ inW S.ps ∧ (0 ≤ S.ptw ∧ S.ptw ≤ 1152921504606846976) ∧ (0 ≤ S.pow ∧ S.pow ≤ 1152921504606846976)) := by
    rw [Bool.eq_iff_iff]; simp only [decide_eq_true_eq]
    exact ⟨fun h => ⟨h.cw, h.sw, h.tw, h.ow, h.pc, h.ps, h.ptw, h.pow⟩, fun ⟨a, b, c, d, e, f, g, i⟩ => ⟨a, b, c, d, e, f, g, i⟩⟩
  rw [hd]
  obtain ⟨sv, cw, sw, tw, ow, pc, ps, ptw, pow⟩ := S
  simp only [suC]
  rw [ev_M Try.func108 ok108 [] m _ H (by simp [Try.f108])]
  by_cases c1 : 1 ≤ cw ∧ cw ≤ 16384
  · by_cases c2 : 1 ≤ sw ∧ sw ≤ 16384
    · by_cases c3 : 0 ≤ tw ∧ tw ≤ 64
      · by_cases c4 : 0 ≤ ow ∧ ow ≤ 64
        · by_cases c5 : inW pc
          · by_cases c6 : inW ps
            · by_cases c7 : 0 ≤ ptw ∧ ptw ≤ 1152921504606846976
              · by_cases c8 : 0 ≤ pow ∧ pow ≤ 1152921504606846976 <;> simp [Try.f108, tm0, ldVar, e0, e1, c1, c2, c3, c4, c5, c6, c7, c8, -Bool.decide_and]
              · simp [Try.f108, tm0, ldVar, e0, e1, c1, c2, c3, c4, c5, c6, c7, U, -Bool.decide_and]
            · simp [Try.f108, tm0, ldVar, e0, e1, c1, c2, c3, c4, c5, c6, U, -Bool.decide_and]
          · simp [Try.f108, tm0, ldVar, e0, e1, c1, c2, c3, c4, c5, U, -Bool.decide_and]
        · simp [Try.f108, tm0, ldVar, e0, e1, c1, c2, c3, c4, U, -Bool.decide_and]
      · simp [Try.f108, tm0, ldVar, e0, e1, c1, c2, c3, U, -Bool.decide_and]
    · simp [Try.f108, tm0, ldVar, e0, e1, c1, c2, U, -Bool.decide_and]
  · simp [Try.f108, tm0, ldVar, e0, e1, c1, U, -Bool.decide_and]
end Go.Ev

/- Credit: the books at the start; what holds behind each operation. -/
namespace Go.Ev
open Go Go.Proofs
set_option linter.unusedSimpArgs false
set_option linter.unusedVariables false

theorem AH.push_set' {H : AH} {p : Nat} (hp : p = H.next) (a b : Blk) : (H.push a).set p b = H.push b := by
  subst hp
  refine AH.eq_of ?_ rfl
  funext x
  rw [AH.set_get, AH.push_get, AH.push_get]
  split <;> rfl
def Fw0 (S : Sup) : Fw := ⟨[], 0, 0, S.ptw, S.pow, S.pc, S.tw, S.ow, S.cw, 0⟩
theorem newS_ev (S : Sup) (H : AH) (m : Nat) (hm : 2 ≤ m) : ∃ H', ev Try.prog m 105 [.agg (suC S)] H = some (.ptr (H.next + 1) 0, H') ∧ FsS S (Fw0 S) (H.next + 1) .nilSlice [] H' ∧ Kp H H' := by
  obtain ⟨m, rfl⟩ : ∃ k, m = k + 1 := ⟨m - 1, by omega⟩
  have n1 : ¬ (H.next = H.next + 1) := by omega
  have n2 : ¬ (H.next + 1 = H.next) := by omega
  refine ⟨((H.push (.cells 49 false (suC S))).push (.cells 263 false (fsC S (Fw0 S) .nilSlice))), ?_, ⟨by simp, .inl ⟨rfl, rfl, rfl⟩, by simp, by simp, by simp, by simp [Fw0]⟩, ((Kp.refl H).push _).push _⟩
  obtain ⟨sv, cw, sw, tw, ow, pc, ps, ptw, pow⟩ := S
  simp only [suC, fsC, Fw0]
  rw [ev_M Try.func105 ok105 [] m _ H (by simp [Try.f105])]
  simp [Try.f105, tm0, ldVar, stVar, spl, fillA, ia0, ia1, n1, n2, evHist, ObsOk, ObOk, List.getElem?_cons_zero]
  exact AH.push_set' (by simp) _ _
theorem Fw0_good {S : Sup} (h : S.ok) : (Fw0 S).good S 0 := by
  have h1 := h.pc; have h2 := h.cw; have h3 := h.tw; have h4 := h.ow; have h5 := h.ptw; have h6 := h.pow
  unfold inW at h1
  exact ⟨h, by omega, by simp [Fw0], by simp [Fw0], by simp [Fw0], fun w => by cases w <;> simp [Fw0, Fw.o], fun w => by cases w <;> simp [Fw0, Fw.m] <;> omega, fun w => by cases w <;> simp [Fw0, Fw.i] <;> omega, by simp [Fw0, sumI]; omega, by simp [Fw0]; omega, by simp [Fw0, sumI]; omega, by simp [Fw0]; omega, by simp [Fw0, sumI]⟩
/-- more operations: weaker -/
theorem Bk.good.mono {s : Bk} {k k' : Nat} (h : s.good k) (hk : k ≤ k') : s.good k' := ⟨h.id, h.se, h.cr, h.re, h.ca, by have := h.to; omega⟩
theorem Fw.good.mono {S : Sup} {F : Fw} {k k' : Nat} (h : F.good S k) (hk : k ≤ k') (hk' : k' ≤ 400) : F.good S k' :=
  ⟨h.sup, hk', fun s hs => (h.bk s hs).mono hk, h.own, by have := h.len; omega, fun w => by have := h.o w; omega, h.m, fun w => by have := h.i w; omega, h.se, h.cc, h.ca, by have := h.tc; omega, h.rc⟩
theorem creditP_rng {r w t : Int} (h1 : 0 ≤ r) (h2 : r ≤ t) (h3 : t ≤ 1000000000) (hw : 1 ≤ w ∧ w ≤ 16384) : t ≤ creditP r w t ∧ creditP r w t ≤ max t (r + w) := by
  unfold creditP
  rw [if_neg (by omega)]
  split <;> omega
theorem idOf_ok {sv w : Bool} {n : Int} (h : 0 ≤ n) (h2 : n < 1152921504606846976) : idOk (idOf sv w n) ∧ idSv (idOf sv w n) = sv ∧ idOw (idOf sv w n) = w ∧ idOf sv w n / 4 = n := by
  unfold idOf
  rw [if_neg (by omega)]
  refine ⟨?_, ?_, ?_, ?_⟩
  · unfold idOk; cases sv <;> cases w <;> simp <;> omega
  · unfold idSv; cases sv <;> cases w <;> simp <;> omega
  · unfold idOw; cases sv <;> cases w <;> simp <;> omega
  · cases sv <;> cases w <;> simp <;> omega
theorem newBk_good {S : Sup} (hS : S.ok) {id : Int} (hi : idOk id) (k : Nat) : (newBk S id).good k := by
  have h1 := hS.ps; have h2 := hS.sw
  unfold inW at h1
  exact ⟨hi, by simp only [newBk]; omega, by simp only [newBk]; omega, by simp [newBk], by simp only [newBk]; omega, by simp only [newBk]; omega⟩
theorem open_good {S : Sup} {F : Fw} {k : Nat} (G : F.good S k) (hk : k + 1 ≤ 400) (w : Bool) : (openP S F w).1.good S (k + 1) := by
  unfold openP
  split
  · exact G.mono (by omega) hk
  · rename_i hlt
    have ho := G.o w
    have hm := G.m w
    obtain ⟨i1, i2, i3, i4⟩ := idOf_ok (sv := S.sv) (w := w) (n := F.o w) (by omega) (by omega)
    have hL : (putP S (F.incO w) (idOf S.sv w (F.o w))).L = F.L ++ [newBk S (idOf S.sv w (F.o w))] := by cases w <;> rfl
    have hO : ∀ w', (putP S (F.incO w) (idOf S.sv w (F.o w))).o w' = if w' = w then F.o w + 1 else F.o w' := fun w' => by cases w <;> cases w' <;> rfl
    refine ⟨G.sup, hk, ?_, ?_, ?_, ?_, fun w' => by have := G.m w'; cases w <;> cases w' <;> exact this, fun w' => by have := G.i w'; cases w <;> cases w' <;> simp only [putP, Fw.incO, Fw.i] at this ⊢ <;> simp only [Bool.false_eq_true, if_false, if_true] at this ⊢ <;> omega, ?_, by have := G.cc; cases w <;> exact this, ?_, ?_, ?_⟩
    · rw [hL]; intro s hs
      rcases List.mem_append.1 hs with hs | hs
      · exact (G.bk s hs).mono (by omega)
      · simp at hs; subst hs; exact newBk_good G.sup i1 _
    · rw [hL]; intro s hs hsv
      rw [hO]
      rcases List.mem_append.1 hs with hs | hs
      · have := G.own s hs hsv
        split
        · rename_i e; rw [e] at this; omega
        · exact this
      · simp at hs; subst hs
        have : (newBk S (idOf S.sv w (F.o w))).id = idOf S.sv w (F.o w) := rfl
        rw [this, i3, i4]; simp <;> omega
    · rw [hL]; have := G.len; simp; omega
    · intro w'; rw [hO]; have := G.o w'; split <;> omega
    · rw [hL, sumI_app]; have := G.se; cases w <;> simp [putP, Fw.incO, sumI, newBk] <;> exact this
    · rw [hL, sumI_app]; have := G.ca; cases w <;> simp [putP, Fw.incO, sumI, newBk] <;> exact this
    · have := G.tc; cases w <;> simp only [putP, Fw.incO] <;> simp only [Bool.false_eq_true, if_false, if_true] <;> omega
    · rw [hL, sumI_app]; have := G.rc; cases w <;> simp [putP, Fw.incO, sumI, newBk] <;> exact this
theorem open_new {S : Sup} {F : Fw} {k : Nat} (G : F.good S k) (w : Bool) (hlt : F.o w < F.m w) : stIx F.L (idOf S.sv w (F.o w)) = none := by
  have ho := G.o w
  have hm := G.m w
  obtain ⟨i1, i2, i3, i4⟩ := idOf_ok (sv := S.sv) (w := w) (n := F.o w) (by omega) (by omega)
  unfold stIx
  rw [List.findIdx?_eq_none_iff]
  intro s hs
  simp only [beq_eq_false_iff_ne]
  intro e
  have := G.own s hs (by rw [e]; exact i2)
  rw [e, i3, i4] at this
  omega
end Go.Ev

/- Credit: what holds behind each operation. -/
namespace Go.Ev
open Go Go.Proofs
set_option linter.unusedSimpArgs false
set_option linter.unusedVariables false

theorem mk_upd {S : Sup} {F F' : Fw} {k i : Nat} (G : F.good S k) (hk : k + 1 ≤ 400) (hi : i < F.L.length) (s' : Bk) (hs' : s'.good (k + 1)) (hid : s'.id = (F.at_ i).id) (hL : F'.L = F.L.set i s') (o : ∀ w, F'.o w = F.o w) (m : ∀ w, 0 ≤ F'.m w ∧ F'.m w ≤ 1152921504606846976)
    (ii : ∀ w, 0 ≤ F'.i w ∧ F'.i w ≤ 64 + (k + 1 : Nat)) (se : sumI Bk.se F.L - (F.at_ i).se + s'.se ≤ F'.cc) (cc : F'.cc ≤ 4611686018427387903) (ca : sumI Bk.ca F.L - (F.at_ i).ca + s'.ca ≤ F'.tc) (tc : F'.tc ≤ 16384 * (((k + 1 : Nat) : Int) + 1)) (rc : F'.rc = F.rc - (F.at_ i).re + s'.re) : F'.good S (k + 1) := by
  rw [at_L hi] at hid se ca rc
  refine ⟨G.sup, hk, ?_, ?_, by rw [hL, List.length_set]; have := G.len; omega, fun w => by rw [o]; have := G.o w; omega, m, ii, by rw [hL, sumI_set Bk.se F.L i hi]; exact se, cc, by rw [hL, sumI_set Bk.ca F.L i hi]; exact ca, tc, by rw [hL, sumI_set Bk.re F.L i hi, rc, G.rc]⟩
  · rw [hL]; intro s hs
    rcases List.mem_or_eq_of_mem_set hs with h | rfl
    · exact (G.bk s h).mono (by omega)
    · exact hs'
  · rw [hL]; intro s hs hsv
    rw [o]
    rcases List.mem_or_eq_of_mem_set hs with h | rfl
    · exact G.own s h hsv
    · rw [hid] at hsv ⊢; exact G.own _ (List.getElem_mem hi) hsv
theorem Fw.good.at_ {S : Sup} {F : Fw} {k i : Nat} (G : F.good S k) (hi : i < F.L.length) : (F.at_ i).good k := by rw [at_L hi]; exact G.bk _ (List.getElem_mem hi)
theorem send_good {S : Sup} {F : Fw} {k : Nat} (G : F.good S k) (hk : k + 1 ≤ 400) (id n : Int) : (sendP S F id n).1.good S (k + 1) := by
  unfold sendP
  split
  · exact G.mono (by omega) hk
  · cases hs : sendsP S F.L id with
    | none => exact G.mono (by omega) hk
    | some i =>
      have hi := sendsP_lt hs
      have g := G.at_ hi
      have h1 := g.se; have h2 := g.cr; have h3 := G.se; have h4 := G.cc; have h5 := G.ca; have h6 := G.tc
      have hI := fun w => G.i w
      dsimp only
      refine mk_upd G hk hi { F.at_ i with se := (F.at_ i).se + min (min n ((F.at_ i).cr - (F.at_ i).se)) (F.cc - sumI Bk.se F.L) } ⟨g.id, ?_, g.cr, g.re, g.ca, by have := g.to; simp only; omega⟩ rfl rfl (fun w => rfl) (fun w => G.m w) (fun w => by have := hI w; show 0 ≤ F.i w ∧ F.i w ≤ _; omega) ?_ G.cc ?_ ?_ ?_
      · simp only; omega
      · simp only; show _ ≤ F.cc; omega
      · simp only; show _ ≤ F.tc; omega
      · show F.tc ≤ _; omega
      · show F.rc = _; simp only; omega
theorem told_good {S : Sup} {F : Fw} {kk : Nat} (G : F.good S kk) (hk : kk + 1 ≤ 400) (k id n : Int) (w : Bool) (hk8 : k = 6 ∨ k = 7 ∨ k = 8) : (toldP S F k id n w).1.good S (kk + 1) := by
  have G1 := G.mono (k' := kk + 1) (by omega) hk
  unfold toldP
  split
  · exact G1
  · rename_i hn
    have hn1 : inW n := by
      apply Classical.byContradiction; intro h; exact hn (.inl h)
    have hn2 : ¬ (k = 8 ∧ 1152921504606846976 < n) := fun h => hn (.inr h)
    unfold inW at hn1
    split
    · have h3 := G1.se; have h4 := G1.cc
      exact ⟨G1.sup, hk, G1.bk, G1.own, G1.len, G1.o, G1.m, G1.i, by simp only; omega, by simp only; omega, G1.ca, G1.tc, G1.rc⟩
    · split
      · cases hs : sendsP S F.L id with
        | none => exact G1
        | some i =>
          have hi := sendsP_lt hs
          have g := G.at_ hi
          have h1 := g.se; have h2 := g.cr; have h3 := G.se; have h4 := G.cc; have h5 := G.ca; have h6 := G.tc
          dsimp only
          refine mk_upd G hk hi { F.at_ i with cr := max (F.at_ i).cr n } ⟨g.id, ?_, ?_, g.re, g.ca, by have := g.to; simp only; omega⟩ rfl rfl (fun w => rfl) (fun w => G.m w) (fun w => G1.i w) ?_ G.cc ?_ G1.tc ?_
          · simp only; omega
          · simp only; omega
          · simp only; show _ ≤ F.cc; omega
          · simp only; show _ ≤ F.tc; omega
          · show F.rc = _; simp only; omega
      · have hm := fun w => G1.m w
        rename_i k6 k7
        have k8 : k = 8 := by omega
        have hn3 : n ≤ 1152921504606846976 := by
          apply Classical.byContradiction; intro h; exact hn2 ⟨k8, by omega⟩
        refine ⟨G1.sup, hk, by cases w <;> exact G1.bk, ?_, by cases w <;> exact G1.len, fun w' => by have := G1.o w'; cases w <;> cases w' <;> exact this, fun w' => ?_, fun w' => by have := G1.i w'; cases w <;> cases w' <;> exact this, by cases w <;> exact G1.se, by cases w <;> exact G1.cc, by cases w <;> exact G1.ca, by cases w <;> exact G1.tc, by cases w <;> exact G1.rc⟩
        · have : ∀ w', (F.maxM w n).o w' = F.o w' := fun w' => by cases w <;> cases w' <;> rfl
          intro s hs hsv
          rw [this]; exact G1.own s (by cases w <;> exact hs) hsv
        · have := hm w'
          cases w <;> cases w' <;> simp only [Fw.m, Fw.maxM, Bool.false_eq_true, if_false, if_true] at this ⊢ <;> omega
theorem over_good {S : Sup} {F : Fw} {k : Nat} (G : F.good S k) (hk : k + 1 ≤ 400) (id : Int) : (overP S F id).1.good S (k + 1) := by
  have G1 := G.mono (k' := k + 1) (by omega) hk
  unfold overP
  cases hs : stIx F.L id with
  | none => exact G1
  | some i =>
    obtain ⟨hi, _⟩ := stIx_some hs
    have g := G.at_ hi
    have h1 := g.se; have h3 := G.se; have h4 := G.cc; have h5 := G.ca; have h6 := G.tc
    have hG : (F.upd i fun s => { s with ov := true }).good S (k + 1) := by
      refine mk_upd G hk hi { F.at_ i with ov := true } ⟨g.id, g.se, g.cr, g.re, g.ca, by have := g.to; simp only; omega⟩ rfl rfl (fun w => rfl) (fun w => G.m w) (fun w => G1.i w) ?_ G.cc ?_ G1.tc ?_
      · simp only; show _ ≤ F.cc; omega
      · simp only; show _ ≤ F.tc; omega
      · show F.rc = _; simp only; omega
    dsimp only
    split
    · exact G1
    · split
      · exact hG
      · have hI := fun w => G.i w
        generalize idOw id = w
        have hu : ∀ w', (F.upd i fun s => { s with ov := true }).i w' = F.i w' := fun w' => rfl
        generalize (F.upd i fun s => { s with ov := true }) = F1 at *
        refine ⟨hG.sup, hk, by cases w <;> exact hG.bk, ?_, by cases w <;> exact hG.len, fun w' => by have := hG.o w'; cases w <;> cases w' <;> exact this, fun w' => by have := hG.m w'; cases w <;> cases w' <;> exact this, fun w' => ?_, by cases w <;> exact hG.se, by cases w <;> exact hG.cc, by cases w <;> exact hG.ca, by cases w <;> exact hG.tc, by cases w <;> exact hG.rc⟩
        · have : ∀ w', (F1.incI w).o w' = F1.o w' := fun w' => by cases w <;> cases w' <;> rfl
          intro s hs hsv
          rw [this]; exact hG.own s (by cases w <;> exact hs) hsv
        · have h1 := hI w'
          have h2 := hu w'
          cases w <;> cases w' <;> simp only [Fw.i, Fw.incI, Bool.false_eq_true, if_false, if_true] at h1 h2 ⊢ <;> omega
theorem sumI_le {f g : Bk → Int} : ∀ {L : List Bk}, (∀ s ∈ L, f s ≤ g s) → sumI f L ≤ sumI g L
  | [], _ => by simp [sumI]
  | s :: l, h => by
    have h1 := h s (by simp)
    have h2 := sumI_le (L := l) fun x hx => h x (by simp [hx])
    simp only [sumI]; omega
theorem read_good {S : Sup} {F : Fw} {k : Nat} (G : F.good S k) (hk : k + 1 ≤ 400) (id n : Int) : (readP S F id n).1.good S (k + 1) := by
  have G1 := G.mono (k' := k + 1) (by omega) hk
  unfold readP
  cases hs : getsP S F.L id with
  | none => exact G1
  | some i =>
    have hi := getsP_lt hs
    have g := G.at_ hi
    dsimp only
    split
    · exact G1
    · rename_i hn
      have h1 := g.re; have h2 := g.ca; have h3 := g.to; have h4 := G.ca; have h5 := G.tc; have h6 := G.rc
      have hr : sumI Bk.re F.L - (F.at_ i).re + ((F.at_ i).re + n) ≤ F.tc := by
        have h7 : sumI Bk.re (F.L.set i { F.at_ i with re := (F.at_ i).re + n }) ≤ sumI Bk.ca (F.L.set i { F.at_ i with re := (F.at_ i).re + n }) := sumI_le fun s hs => by
          rcases List.mem_or_eq_of_mem_set hs with h | rfl
          · exact (G.bk s h).re.2
          · simp only; omega
        rw [sumI_set Bk.re F.L i hi, sumI_set Bk.ca F.L i hi, ← at_L hi] at h7
        simp only at h7; omega
      have hr0 := sumI_nn (f := Bk.re) (fun s hs => (G.bk s hs).re.1)
      have c1 := creditP_rng (r := (F.at_ i).re + n) (w := S.sw) (t := (F.at_ i).to) (by omega) (by omega) (by omega) G.sup.sw
      have c2 := creditP_rng (r := F.rc + n) (w := S.cw) (t := F.tc) (by omega) (by omega) (by omega) G.sup.cw
      have hsw := G.sup.sw; have hcw := G.sup.cw
      refine mk_upd G hk hi { F.at_ i with re := (F.at_ i).re + n, to := creditP ((F.at_ i).re + n) S.sw (F.at_ i).to } ⟨g.id, g.se, g.cr, by simp only; omega, by simp only; omega, by simp only; omega⟩ rfl rfl (fun w => rfl) (fun w => G.m w) (fun w => G1.i w) ?_ G.cc ?_ ?_ ?_
      · simp only; show _ ≤ F.cc; have := G.se; omega
      · simp only; omega
      · simp only; omega
      · show F.rc + n = _; simp only; omega
theorem addAll_good {S : Sup} {F : Fw} {k : Nat} (G : F.good S k) (hk : k + 1 ≤ 400) {sv : Bool} (hsv : sv ≠ S.sv) (w : Bool) {n : Nat} (hn : n ≤ 470) : (addAll S sv w n F).good S (k + 1) := by
  have G1 := G.mono (k' := k + 1) (by omega) hk
  have hs := addAll_same S sv w n F
  have h1 := addAll_sum (S := S) (sv := sv) (w := w) Bk.se (fun _ => rfl) n F
  have h2 := addAll_sum (S := S) (sv := sv) (w := w) Bk.ca (fun _ => rfl) n F
  have h3 := addAll_sum (S := S) (sv := sv) (w := w) Bk.re (fun _ => rfl) n F
  have hl := addAll_len S sv w n F
  have hid : ∀ j : Nat, j < n → idOk (idOf sv w j) ∧ idSv (idOf sv w j) = sv ∧ idOw (idOf sv w j) = w ∧ idOf sv w j / 4 = j := fun j hj => idOf_ok (by omega) (by omega)
  have ho : ∀ w', (addAll S sv w n F).o w' = F.o w' := fun w' => by cases w' <;> simp only [Fw.o, hs.o0, hs.o1]
  refine ⟨G.sup, hk, addAll_all n G1.bk fun j hj => newBk_good G.sup (hid j hj).1 _, ?_, by have := G.len; omega, fun w' => by rw [ho]; exact G1.o w', fun w' => by have := G1.m w'; cases w' <;> simp only [Fw.m, hs.m0, hs.m1] at this ⊢ <;> exact this, fun w' => by have := G1.i w'; cases w' <;> simp only [Fw.i, hs.i0, hs.i1] at this ⊢ <;> exact this, by rw [h1, hs.cc]; exact G.se, by rw [hs.cc]; exact G.cc, by rw [h2, hs.tc]; exact G.ca, by rw [hs.tc]; exact G1.tc, by rw [hs.rc, h3]; exact G.rc⟩
  have := addAll_all (S := S) (sv := sv) (w := w) (P := fun s => idSv s.id = S.sv → s.id / 4 < F.o (idOw s.id)) n (F := F) G.own fun j hj h => by
    have h4 : idSv (newBk S (idOf sv w j)).id = sv := (hid j hj).2.1
    rw [h4] at h; exact absurd h hsv
  intro s hs' h
  rw [ho]; exact this s hs' h
theorem arrive_good {S : Sup} {F : Fw} {k : Nat} (G : F.good S k) (hk : k + 1 ≤ 400) (id n : Int) : (arriveP S F id n).1.good S (k + 1) := by
  have G1 := G.mono (k' := k + 1) (by omega) hk
  unfold arriveP
  split
  · exact G1
  · rename_i hok
    split
    · exact G1
    · rename_i h9
      have hG : (if idSv id ≠ S.sv then addAll S (idSv id) (idOw id) (id / 4 + 1).toNat F else F).good S (k + 1) := by
        split
        · rename_i hne
          have hI := G.i (idOw id)
          have : ¬ (F.i (idOw id) ≤ id / 4) := fun h => h9 ⟨hne, h⟩
          exact addAll_good G hk hne _ (by omega)
        · exact G1
      dsimp only
      generalize (if idSv id ≠ S.sv then addAll S (idSv id) (idOw id) (id / 4 + 1).toNat F else F) = H at *
      cases hs : getsP S H.L id with
      | none => exact hG
      | some i =>
        dsimp only
        split
        · exact hG
        · rename_i hlt
          have hi := getsP_lt hs
          have g := hG.at_ hi
          have h1 := g.re; have h2 := g.ca
          have hs1 := sumI_set Bk.ca H.L i hi { H.at_ i with ca := max n (H.at_ i).ca }
          rw [← at_L hi] at hs1
          refine ⟨hG.sup, hk, ?_, ?_, by simp only [Fw.upd, List.length_set]; exact hG.len, hG.o, hG.m, hG.i, ?_, hG.cc, ?_, hG.tc, ?_⟩
          · intro s hs
            rcases List.mem_or_eq_of_mem_set hs with h | rfl
            · exact hG.bk s h
            · exact ⟨g.id, g.se, g.cr, by simp only; omega, by simp only; omega, g.to⟩
          · intro s hs hsv
            rcases List.mem_or_eq_of_mem_set hs with h | rfl
            · exact hG.own s h hsv
            · have := hG.own _ (List.getElem_mem hi)
              rw [← at_L hi] at this
              exact this hsv
          · simp only [Fw.upd]; rw [sumI_set Bk.se H.L i hi, ← at_L hi]; have := hG.se; simp only; omega
          · simp only [Fw.upd]; rw [hs1]; simp only; omega
          · simp only [Fw.upd]; rw [sumI_set Bk.re H.L i hi, ← at_L hi]; have := hG.rc; simp only; omega
theorem doF_good {S : Sup} {F : Fw} {k : Nat} (G : F.good S k) (hk : k + 1 ≤ 400) (op : tT65.D) : (doF S F op).1.good S (k + 1) := by
  unfold doF
  split
  · exact open_good G hk _
  · split
    · exact send_good G hk _ _
    · split
      · exact arrive_good G hk _ _
      · split
        · exact read_good G hk _ _
        · split
          · exact over_good G hk _
          · split
            · rename_i h; exact told_good G hk _ _ _ _ h
            · exact G.mono (by omega) hk
end Go.Ev

/- Credit: the reference's run. -/
namespace Go.Ev
open Go Go.Proofs
set_option linter.unusedSimpArgs false
set_option linter.unusedVariables false

def runF (S : Sup) : Fw → List tT65.D → List Ob
  | _, [] => []
  | F, op :: l => (doF S F op).2 :: runF S (doF S F op).1 l
noncomputable def FlowP (S : Sup) (ops : List tT65.D) : List Ob × Int := if 400 < ops.length then ([], 4) else if S.ok then (runF S (Fw0 S) ops, 0) else ([], 1)
theorem app63 {X : AH} {v : AV} {l : List Ob} {bs b1 : List Nat} {c : List AV} {d : Ob} (h : (Ty.sl 63 tT63).R true X [v] l bs) (hc : tT63.R true X c d b1) (hnd : (bs ++ b1).Nodup) (hl : l.length ≤ 1000) :
    ∃ v' X' bs', appA Try.prog 46 46 v (.slice X.next 0 1) (X.push (.cells 63 false c)) = some (v', X') ∧ (Ty.sl 63 tT63).R true X' [v'] (l ++ [d]) bs' ∧ bs'.Nodup ∧ (∀ b ∈ bs', b ∈ bs ∨ b ∈ b1 ∨ X.next ≤ b) ∧ KoS bs X X' :=
  Ty.R.app1 (P := Try.prog) (T := 46) h hc hnd (by simp) (by simp) (by simp [Ty.n]) (by_ := 48) (by simp) (z := obC 0 0 0 .nilSlice) (by simp [obC]) (by simp [obC, Ty.n]) (by omega) (by omega)
theorem opAt {rw : Bool} {H : AH} {s : AV} {ops : List tT65.D} {bs : List Nat} (hr : (Ty.sl 65 tT65).R rw H [s] ops bs) {k : Nat} (hk : k < ops.length) :
    ∃ b o ro L, idxA Try.prog 51 s (.int .i64 k) = some (.ptr b o) ∧ b < H.next ∧ H.get b = some (.cells 65 ro L) ∧ o + 4 ≤ L.length ∧ (L.drop o).take 4 = opC ops[k].1 ops[k].2.1 ops[k].2.2.1 ops[k].2.2.2 := by
  obtain ⟨b, o, ro, x1, c, x2, bk, u1, u2, u3, u4, u5, u6, u7, u8⟩ := Ty.R.at_ hr (P := Try.prog) (T := 51) (by simp) (by simp [Ty.n]) (k := k) hk
  rcases hx : ops[k] with ⟨x0, x1', x2', x3⟩
  rw [hx] at u5
  obtain ⟨rfl, _, _⟩ := o65 u5
  subst u4
  exact ⟨b, _, ro, _, u1, u2, u3, by simp, by simp [opC]⟩
def RuS (S : Sup) (ops : List tT65.D) (s : AV) (H : AH) (q : Nat) (d : Nat) (τ : Tm) (h : AH) : Prop :=
  ∃ (i : Nat) (F : Fw) (v : AV) (bs : List Nat) (outs : List Ob) (vo : AV) (bo : List Nat), i + d = ops.length ∧ τ 1 = s ∧ τ 6 = .ptr q 0 ∧ τ 7 = vo ∧ τ 8 = .int .i64 i ∧ FsS S F q v bs h ∧ F.good S i ∧ (Ty.sl 63 tT63).R true h [vo] outs bo ∧ bo.Nodup ∧
    (∀ b ∈ bo, b ∉ bs ∧ b ≠ q) ∧ (∀ b ∈ bs, H.next ≤ b) ∧ (∀ b ∈ bo, H.next ≤ b) ∧ H.next ≤ q ∧ Kp H h ∧ outs ++ runF S F (ops.drop i) = runF S (Fw0 S) ops ∧ outs.length = i
set_option maxRecDepth 20000 in
theorem ruLoopS {Hb H h0 : AH} {S : Sup} {s : AV} {q : Nat} {ops : List tT65.D} {bx : List Nat} {rw : Bool} (hd : (Ty.sl 65 tT65).R rw Hb [s] ops bx) (hKb : Kp Hb H) (hlen : ops.length ≤ 400) (m : Nat) (hm : 1000050 ≤ m) (τ : Tm) (hI : RuS S ops s H q ops.length τ h0) :
    ∃ e τ' H', evLoop Try.prog (ev Try.prog m) m (lp Try.prog 26 506) τ h0 = some (e, τ', H') ∧ e = .exit 0 ∧ RuS S ops s H q 0 τ' H' := by
  have hL := Ty.R.lenA hd (P := Try.prog) (T := 51) (by simp)
  refine loop_rule (d := ops.length) (RuS S ops s H q) (fun e τ h => e = .exit 0 ∧ RuS S ops s H q 0 τ h) ?_ hI (by omega)
  rintro d τ h ⟨i, F, v, bs, outs, vo, bo, hi, t1, t6, t7, t8, X, G, hR, hnd, hdj, hlo, hlo2, hlq, hK, hrun, hol⟩
  rw [lp_M Try.func26 506 (by decide) 9 (by decide) (by kernel_rfl) []]
  by_cases hd0 : d = 0
  · subst hd0
    have hkn : ¬ ((i : Int) < ops.length) := by omega
    simp [Try.f26, t1, t8, hL, hkn]
    exact ⟨i, F, v, bs, outs, vo, bo, hi, by simp [t1], by simp [t6], by simp [t7], by simp [t8], X, G, hR, hnd, hdj, hlo, hlo2, hlq, hK, hrun, hol⟩
  · have hlt : i < ops.length := by omega
    have hlt' : (i : Int) < ops.length := by omega
    obtain ⟨b, o, ro, L, u1, u2, u3, L1, L2⟩ := opAt (hd.kp (hKb.trans hK)) hlt
    rcases hop : ops[i] with ⟨k, id, n, w⟩
    rw [hop] at L2
    simp only at L2
    obtain ⟨c, h2, e1, v2, bs2, b1, y1, y2, y3, y4, y5, y6, y7⟩ := do_ev X G k id n w m (by omega)
    have G2 := doF_good G (by omega) (k, id, n, w)
    have hdrop : ops.drop i = (k, id, n, w) :: ops.drop (i + 1) := by rw [List.drop_eq_getElem_cons hlt, hop]
    rw [hdrop] at hrun
    simp only [runF] at hrun
    generalize doF S F (k, id, n, w) = D at *
    have hbo := hR.mem
    have hqbs : ∀ x ∈ bo, x ∉ q :: bs := fun x hx h => by rcases List.mem_cons.1 h with e | e; exact (hdj x hx).2 e; exact (hdj x hx).1 e
    have hR2 : (Ty.sl 63 tT63).R true h2 [vo] outs bo := hR.koS y2 hqbs
    have hnd2 : (bo ++ b1).Nodup := by
      rw [List.nodup_append]
      exact ⟨hnd, y5, fun x hx y hy e => by have := hbo x hx; have := y6 y hy; omega⟩
    obtain ⟨v', X', bo', a1, a2, a3, a4, a5⟩ := app63 hR2 y4 hnd2 (by omega)
    have hc := y4.len
    have ny2 := y2.next
    have ny5 := a5.next
    have hKn := hK.next
    have hqn := X.qn
    have X2 : FsS S D.1 q v2 bs2 X' := y1.stay a5.next (a5.get q y1.qn (fun hx => (hdj q hx).2 rfl)) (fun x hx => a5.get x (y1.R.mem x hx) (fun hxb => by
      rcases y3 x hx with h | h
      · exact (hdj x hxb).1 h
      · have := hbo x hxb; omega))
    have w1 : IntKind.i64.wrap ((i : Int) + 1) = ((i + 1 : Nat) : Int) := by rw [wrap_i64 (n := (i : Int) + 1) (by omega) (by omega)]; omega
    have l65 : ldVar Try.prog 65 b o h = some (.agg (opC k id n w)) := by simp [ldVar, u3, L1, L2]
    obtain ⟨c0, c1, c2, va, rfl, ova⟩ := StpO.cells (S := S) (F' := D.1) (d := D.2) (q := q) (bs := bs) (h := h) (h' := h2) (c := c) ⟨v2, bs2, b1, y1, y2, y3, y4, y5, y6, y7⟩
    simp only [obC] at e1 a1
    simp [Try.f26, t1, t6, t7, t8, hL, hlt', u1, l65, e1, zerosA, spl, fillA, ova, a1, w1]
    refine ⟨d - 1, by omega, i + 1, D.1, v2, bs2, outs ++ [D.2], v', bo', by omega, by simp [t1], by simp [t6], by simp, by simp, X2, G2, a2, a3, ?_, ?_, ?_, hlq, ?_, by simpa using hrun, by simp [hol]⟩
    · intro x hx
      rcases a4 x hx with h | h | h
      · refine ⟨fun hb => ?_, (hdj x h).2⟩
        rcases y3 x hb with h4 | h4
        · exact (hdj x h).1 h4
        · have := hbo x h; omega
      · exact ⟨y7 x h, fun e => by have := y6 x h; omega⟩
      · exact ⟨fun hb => by have := y1.R.mem x hb; omega, by omega⟩
    · intro x hx
      rcases y3 x hx with h | h
      · exact hlo x h
      · omega
    · intro x hx
      rcases a4 x hx with h | h | h
      · exact hlo2 x h
      · have := y6 x h; omega
      · omega
    · refine ⟨by omega, fun x hx => ?_⟩
      rw [a5.get x (by omega) (fun hb => by have := hlo2 x hb; omega), y2.get x (by omega) (fun hb => by rcases List.mem_cons.1 hb with e | e; omega; have := hlo x e; omega)]
      exact hK.get x hx
theorem runF_len (S : Sup) : ∀ (F : Fw) (ops : List tT65.D), (runF S F ops).length = ops.length
  | _, [] => rfl
  | F, op :: l => by simp only [runF, List.length_cons, runF_len S _ l]
theorem empty63 {H : AH} {p : Nat} (hp : p < H.next) (hg : H.get p = some (.cells 63 false [])) : (Ty.sl 63 tT63).R true H [.slice p 0 0] [] [p] :=
  .inr ⟨p, 0, false, [], [], rfl, rfl, hp, hg, fun _ => ⟨rfl, rfl, by simp⟩, by simp, by simp [Rows]⟩
theorem flowS_ev {Hb H : AH} {S : Sup} {s : AV} {ops : List tT65.D} {bx : List Nat} {rw : Bool} (hd : (Ty.sl 65 tT65).R rw Hb [s] ops bx) (hKb : Kp Hb H) (m : Nat) (hm : 1000060 ≤ m) :
    ∃ r H' bo, ev Try.prog m 26 [.agg (suC S), s] H = some (.tuple [r, .int .i64 (FlowP S ops).2], H') ∧ Kp H H' ∧ (Ty.sl 63 tT63).R true H' [r] (FlowP S ops).1 bo ∧ bo.Nodup ∧ ∀ b ∈ bo, H.next ≤ b := by
  obtain ⟨m, rfl⟩ : ∃ k, m = k + 1 := ⟨m - 1, by omega⟩
  have hL := Ty.R.lenA hd (P := Try.prog) (T := 51) (by simp)
  unfold FlowP
  by_cases c1 : 400 < ops.length
  · rw [if_pos c1]
    have c1' : 400 < (ops.length : Int) := by omega
    refine ⟨.slice (H.next + 1) 0 0, (H.push (.cells 49 false (suC S))).push (.cells 63 false []), [H.next + 1], ?_, ((Kp.refl H).push _).push _, empty63 (by simp) (by simp), by simp, by simp⟩
    simp only [suC]
    rw [ev_M Try.func26 ok26 [] m _ H (by simp [Try.f26])]
    simp [Try.f26, tm0, hL, c1', zerosA]
  · rw [if_neg c1]
    have c1' : (400 < (ops.length : Int)) = False := eq_false (by omega)
    have e1 := fun H => supS_ev S H m (by omega)
    have lz : ldVar Try.prog 49 H.next 0 (H.push (.cells 49 false (suC S))) = some (.agg (suC S)) := by simp [ldVar, suC]
    have hA0 : H.push (.cells 49 false [.bool S.sv, .int .i64 S.cw, .int .i64 S.sw, .int .i64 S.tw, .int .i64 S.ow, .int .i64 S.pc, .int .i64 S.ps, .int .i64 S.ptw, .int .i64 S.pow]) = H.push (.cells 49 false (suC S)) := rfl
    by_cases c2 : S.ok
    · rw [if_pos c2]
      simp only [c2, decide_true] at e1
      let A1 : AH := (H.push (.cells 49 false (suC S))).push (.cells 49 false (suC S))
      have lz1 : ldVar Try.prog 49 H.next 0 A1 = some (.agg (suC S)) := by simp [ldVar, suC, A1]
      obtain ⟨A2, e2, X2, k2⟩ := newS_ev S A1 m (by omega)
      have kA1 : Kp H A1 := ((Kp.refl H).push _).push _
      have n2 := k2.next
      simp [A1] at n2
      let A3 : AH := A2.push (.cells 63 false [])
      have kA3 : Kp A2 A3 := (Kp.refl A2).push _
      have X3 := X2.kp kA3
      have hK3 : Kp H A3 := (kA1.trans k2).trans kA3
      have key : ∃ τ' H', ev Try.prog (m + 1) 26 [.agg (suC S), s] H = resM Try.prog [.tmp 4, .tmp 5] (evAt Try.prog (ev Try.prog m) m 26 127 τ' H') ∧ RuS S ops s H (A1.next + 1) 0 τ' H' := by
        have hls := ruLoopS (S := S) (q := A1.next + 1) (h0 := A3) hd hKb (by omega) m (by omega)
        have hA1 : (H.push (.cells 49 false (suC S))).push (.cells 49 false (suC S)) = A1 := rfl
        have hA3 : A2.push (.cells 63 false []) = A3 := rfl
        have hn3 : A2.next < A3.next := by simp [A3]
        have hg3 : A3.get A2.next = some (.cells 63 false []) := by simp [A3]
        have hqn : A1.next + 1 < A2.next := X2.qn
        have hlo1 : H.next ≤ A1.next := kA1.next
        have hA1n : A1.next = H.next + 2 := by simp [A1]
        clear_value A1 A3
        simp only [suC] at e1 e2 lz lz1 hA0 hA1 ⊢
        rw [ev_M Try.func26 ok26 [127] m _ H (by simp [Try.f26])]
        simp [Try.f26, tm0, hL, c1', lz, e1, hA1, lz1, e2, hA3, zerosA]
        generalize hLo : evLoop _ _ _ _ _ _ = R
        obtain ⟨e, τ', H', rfl, rfl, g⟩ := loop_at hLo (hls _ ⟨0, Fw0 S, .nilSlice, [], [], .slice A2.next 0 0, [A2.next], by omega, by simp, by simp, by simp, by simp, X3, Fw0_good c2, empty63 hn3 hg3, by simp, by simp; omega, by simp, by simp; omega, by omega, hK3, by simp, rfl⟩)
        exact ⟨τ', H', by simp, g⟩
      obtain ⟨τ1, H1, e3, i, F, v, bs, outs, vo, bo, hi, t1, t6, t7, t8, X, G, hR, hnd, hdj, hlo, hlo2, hlq, hK, hrun, hol⟩ := key
      have hi' : ops.length ≤ i := by omega
      rw [List.drop_eq_nil_of_le hi'] at hrun
      simp only [runF, List.append_nil] at hrun
      rw [← hrun]
      refine ⟨vo, H1, bo, ?_, hK, hR, hnd, hlo2⟩
      rw [e3]
      rw [at_M Try.func26 127 (by decide) 7 (by decide) (by kernel_rfl) []]
      simp [Try.f26, t7]
    · rw [if_neg c2]
      simp only [c2, decide_false] at e1
      refine ⟨.slice (H.next + 2) 0 0, ((H.push (.cells 49 false (suC S))).push (.cells 49 false (suC S))).push (.cells 63 false []), [H.next + 2], ?_, (((Kp.refl H).push _).push _).push _, empty63 (by simp) (by simp), by simp, by simp⟩
      simp only [suC] at e1 lz hA0 ⊢
      rw [ev_M Try.func26 ok26 [] m _ H (by simp [Try.f26])]
      simp [Try.f26, tm0, hL, c1', lz, e1, zerosA]
end Go.Ev

/- Credit: the program's books. -/
namespace Go.Ev
open Go Go.Proofs
set_option linter.unusedSimpArgs false
set_option linter.unusedVariables false

def ents (L : List Bk) (bs : List Nat) : List (AV × AV) := (L.zip bs).map fun p => (.int .i64 p.1.id, .ptr p.2 0)
def Bk.c5 (s : Bk) : List AV := [.int .i64 s.cr, .int .i64 s.se, .int .i64 s.to, .int .i64 s.ca, .int .i64 s.re, .bool s.ov]
def fiC (S : Sup) (F : Fw) (mp op pt tl : Nat) : List AV := [.bool S.sv, .int .i64 S.cw, .int .i64 S.sw, .int .i64 S.tw, .int .i64 S.ow, .int .i64 S.pc, .int .i64 S.ps, .int .i64 S.ptw, .int .i64 S.pow, .map mp, .map op, .map pt, .map tl, .int .i64 F.cc, .int .i64 (sumI Bk.se F.L), .int .i64 F.tc, .int .i64 (sumI Bk.ca F.L), .int .i64 F.rc]
/-- a map of both ways -/
def BM (l : List (AV × AV)) (a b : Int) : Prop :=
  (l = [] ∧ a = 0 ∧ b = 0) ∨ (l = [(.bool false, .int .i64 a)] ∧ b = 0) ∨ (l = [(.bool true, .int .i64 b)] ∧ a = 0) ∨ l = [(.bool false, .int .i64 a), (.bool true, .int .i64 b)] ∨ l = [(.bool true, .int .i64 b), (.bool false, .int .i64 a)]
structure FwI (S : Sup) (F : Fw) (q mp op pt tl : Nat) (bs : List Nat) (h : AH) : Prop where
  gq : h.get q = some (.cells 271 false (fiC S F mp op pt tl))
  gm : h.get mp = some (.map (ents F.L bs))
  go : ∃ l, h.get op = some (.map l) ∧ BM l F.o0 F.o1
  gp : ∃ l, h.get pt = some (.map l) ∧ BM l F.m0 F.m1
  gt : ∃ l, h.get tl = some (.map l) ∧ BM l F.i0 F.i1
  len : bs.length = F.L.length
  gb : ∀ i (hi : i < F.L.length), h.get (bs.getD i 0) = some (.cells 277 false (F.L[i].c5))
  nd : (q :: mp :: op :: pt :: tl :: bs).Nodup
  lt : ∀ b ∈ q :: mp :: op :: pt :: tl :: bs, b < h.next
theorem find_ents (id : Int) : ∀ (L : List Bk) (bs : List Nat) (n : Nat), bs.length = L.length → findA (.int .i64 id) (ents L bs) n = some ((stIx L id).map fun i => (n + i, .ptr (bs.getD i 0) 0))
  | [], [], n, _ => by simp [ents, findA, stIx]
  | s :: L, b :: bs, n, h => by
    have ih := find_ents id L bs (n + 1) (by simpa using h)
    unfold stIx at ih ⊢
    rw [List.findIdx?_cons]
    simp only [ents] at ih
    simp only [ents, List.zip_cons_cons, List.map_cons, findA, sameK, if_true]
    by_cases e : s.id = id
    · subst e; simp
    · have e1 : (id == s.id) = false := by simpa using fun h => e h.symm
      have e2 : (s.id == id) = false := by simpa using e
      simp only [e1, e2, Bool.false_eq_true, if_false]
      rw [ih]
      cases L.findIdx? (fun s => s.id == id) <;> simp; omega
def strm (L : List Bk) (bs : List Nat) (id : Int) : AV := match stIx L id with
  | some i => .ptr (bs.getD i 0) 0
  | none => .nilPtr
theorem FwI.look {S : Sup} {F : Fw} {q mp op pt tl : Nat} {bs : List Nat} {h : AH} (X : FwI S F q mp op pt tl bs h) (id : Int) : lookA Try.prog 268 (.map mp) (.int .i64 id) h false = some (strm F.L bs id) := by
  have h1 := find_ents id F.L bs 0 X.len
  have h2 := X.gm
  unfold lookA strm
  cases hs : stIx F.L id <;> simp [mapT, keyOk, h2, h1, hs]
theorem BM.look {l : List (AV × AV)} {a b : Int} {p : Nat} {h : AH} (H : BM l a b) (g : h.get p = some (.map l)) (w : Bool) : lookA Try.prog 269 (.map p) (.bool w) h false = some (.int .i64 (if w then b else a)) := by
  unfold lookA
  rcases H with ⟨rfl, rfl, rfl⟩ | ⟨rfl, rfl⟩ | ⟨rfl, rfl⟩ | rfl | rfl <;> cases w <;> simp [mapT, keyOk, g, findA, sameK]
theorem BM.upd {l : List (AV × AV)} {a b : Int} {p : Nat} {h : AH} (H : BM l a b) (g : h.get p = some (.map l)) (w : Bool) (v : Int) : ∃ l', updA Try.prog 269 (.map p) (.bool w) (.int .i64 v) h = some (h.set p (.map l')) ∧ BM l' (if w then a else v) (if w then v else b) := by
  unfold updA
  rcases H with ⟨rfl, rfl, rfl⟩ | ⟨rfl, rfl⟩ | ⟨rfl, rfl⟩ | rfl | rfl <;> cases w <;> simp [mapT, keyOk, g, mapPut, findA, sameK, BM] <;> exact ⟨_, rfl, by simp⟩
theorem FwI.lo {S : Sup} {F : Fw} {q mp op pt tl : Nat} {bs : List Nat} {h : AH} (X : FwI S F q mp op pt tl bs h) (w : Bool) : lookA Try.prog 269 (.map op) (.bool w) h false = some (.int .i64 (F.o w)) := by
  obtain ⟨l, g, H⟩ := X.go; exact H.look g w
theorem FwI.lp {S : Sup} {F : Fw} {q mp op pt tl : Nat} {bs : List Nat} {h : AH} (X : FwI S F q mp op pt tl bs h) (w : Bool) : lookA Try.prog 269 (.map pt) (.bool w) h false = some (.int .i64 (F.m w)) := by
  obtain ⟨l, g, H⟩ := X.gp; exact H.look g w
theorem FwI.lt_ {S : Sup} {F : Fw} {q mp op pt tl : Nat} {bs : List Nat} {h : AH} (X : FwI S F q mp op pt tl bs h) (w : Bool) : lookA Try.prog 269 (.map tl) (.bool w) h false = some (.int .i64 (F.i w)) := by
  obtain ⟨l, g, H⟩ := X.gt; exact H.look g w
theorem ents_set {L : List Bk} {bs : List Nat} {i : Nat} (hi : i < L.length) {s' : Bk} (h : s'.id = L[i].id) : ents (L.set i s') bs = ents L bs := by
  unfold ents
  apply List.ext_getElem
  · simp
  · intro j h1 h2
    simp only [List.getElem_map, List.getElem_zip]
    simp only [List.length_map, List.length_zip] at h2
    by_cases e : i = j
    · subst e; simp [h]
    · rw [List.getElem_set_ne e]
theorem mem6 {b q mp op pt tl : Nat} {bs : List Nat} (h : b ∈ bs) : b ∈ q :: mp :: op :: pt :: tl :: bs := by simp [h]
theorem mem5 {b mp op pt tl : Nat} {bs : List Nat} (h : b ∈ bs) : b ∈ mp :: op :: pt :: tl :: bs := by simp [h]
theorem FwI.nds {S : Sup} {F : Fw} {q mp op pt tl : Nat} {bs : List Nat} {h : AH} (X : FwI S F q mp op pt tl bs h) {i : Nat} (hi : i < F.L.length) : bs.getD i 0 ∈ bs ∧ bs.getD i 0 < h.next ∧ bs.getD i 0 ≠ q ∧ bs.getD i 0 ≠ mp ∧ bs.getD i 0 ≠ op ∧ bs.getD i 0 ≠ pt ∧ bs.getD i 0 ≠ tl := by
  have hl := X.len
  have hm : bs.getD i 0 ∈ bs := by
    rw [List.getD_eq_getElem?_getD, List.getElem?_eq_getElem (by omega)]; exact List.getElem_mem _
  have nd := X.nd
  simp only [List.nodup_cons, List.mem_cons, not_or] at nd
  obtain ⟨⟨n1, n2, n3, n4, n5⟩, ⟨n6, n7, n8, n9⟩, ⟨n10, n11, n12⟩, ⟨n13, n14⟩, n15, n16⟩ := nd
  exact ⟨hm, X.lt _ (mem6 hm), fun e => n5 (e ▸ hm), fun e => n9 (e ▸ hm), fun e => n12 (e ▸ hm), fun e => n14 (e ▸ hm), fun e => n15 (e ▸ hm)⟩
theorem FwI.nq {S : Sup} {F : Fw} {q mp op pt tl : Nat} {bs : List Nat} {h : AH} (X : FwI S F q mp op pt tl bs h) : q < h.next ∧ mp ≠ q ∧ op ≠ q ∧ pt ≠ q ∧ tl ≠ q ∧ (∀ b ∈ bs, b ≠ q) := by
  have nd := X.nd
  simp only [List.nodup_cons, List.mem_cons, not_or] at nd
  obtain ⟨⟨n1, n2, n3, n4, n5⟩, _⟩ := nd
  exact ⟨X.lt q (by simp), fun e => n1 e.symm, fun e => n2 e.symm, fun e => n3 e.symm, fun e => n4 e.symm, fun b hb e => n5 (e ▸ hb)⟩
/-- a stream's record changed, and fields of the books -/
theorem FwI.upd {S : Sup} {F F' : Fw} {q mp op pt tl : Nat} {bs : List Nat} {h h' : AH} (X : FwI S F q mp op pt tl bs h) {i : Nat} (hi : i < F.L.length) (s' : Bk) (hid : s'.id = F.L[i].id) (hL : F'.L = F.L.set i s') (ho : F'.o0 = F.o0 ∧ F'.o1 = F.o1) (hm : F'.m0 = F.m0 ∧ F'.m1 = F.m1) (hii : F'.i0 = F.i0 ∧ F'.i1 = F.i1)
    (hn : h.next ≤ h'.next) (hq : h'.get q = some (.cells 271 false (fiC S F' mp op pt tl))) (hb : h'.get (bs.getD i 0) = some (.cells 277 false s'.c5)) (hr : ∀ x, x ∈ mp :: op :: pt :: tl :: bs → x ≠ bs.getD i 0 → h'.get x = h.get x) : FwI S F' q mp op pt tl bs h' := by
  obtain ⟨u0, u1, u2, u3, u4, u5, u6⟩ := X.nds hi
  have hlen := X.len
  refine ⟨hq, by rw [hr mp (by simp) (fun e => u3 e.symm), X.gm, hL, ents_set hi hid], by rw [hr op (by simp) (fun e => u4 e.symm), ho.1, ho.2]; exact X.go, by rw [hr pt (by simp) (fun e => u5 e.symm), hm.1, hm.2]; exact X.gp, by rw [hr tl (by simp) (fun e => u6 e.symm), hii.1, hii.2]; exact X.gt, by rw [hL]; simpa using hlen, ?_, X.nd, fun b hb => Nat.lt_of_lt_of_le (X.lt b hb) hn⟩
  intro j hj
  have hj' : j < F.L.length := by rw [hL] at hj; simpa using hj
  by_cases e : i = j
  · subst e
    have : F'.L[i] = s' := by simp [hL]
    rw [this]; exact hb
  · have e2 : F'.L[j] = F.L[j] := by simp only [hL]; rw [List.getElem_set_ne e]
    rw [e2, hr _ (mem5 (X.nds hj').1) ?_]
    · exact X.gb j hj'
    · intro e3
      have nd := X.nd
      simp only [List.nodup_cons] at nd
      have hnb := nd.2.2.2.2.2
      rw [List.getD_eq_getElem?_getD, List.getD_eq_getElem?_getD, List.getElem?_eq_getElem (by omega), List.getElem?_eq_getElem (by omega)] at e3
      simp only [Option.getD_some] at e3
      exact e ((List.getElem_inj hnb).1 e3).symm
/-- only the books' own cells changed -/
theorem FwI.fld {S : Sup} {F F' : Fw} {q mp op pt tl : Nat} {bs : List Nat} {h h' : AH} (X : FwI S F q mp op pt tl bs h) (hL : F'.L = F.L) (ho : F'.o0 = F.o0 ∧ F'.o1 = F.o1) (hm : F'.m0 = F.m0 ∧ F'.m1 = F.m1) (hii : F'.i0 = F.i0 ∧ F'.i1 = F.i1)
    (hn : h.next ≤ h'.next) (hq : h'.get q = some (.cells 271 false (fiC S F' mp op pt tl))) (hr : ∀ x, x ∈ mp :: op :: pt :: tl :: bs → h'.get x = h.get x) : FwI S F' q mp op pt tl bs h' :=
  ⟨hq, by rw [hr mp (by simp), X.gm, hL], by rw [hr op (by simp), ho.1, ho.2]; exact X.go, by rw [hr pt (by simp), hm.1, hm.2]; exact X.gp, by rw [hr tl (by simp), hii.1, hii.2]; exact X.gt, by rw [hL]; exact X.len, fun i hi => by
    have hi' : i < F.L.length := by rw [hL] at hi; exact hi
    have e : F'.L[i] = F.L[i] := by simp only [hL]
    rw [hr _ (mem5 (X.nds hi').1), e]; exact X.gb i hi', X.nd, fun b hb => Nat.lt_of_lt_of_le (X.lt b hb) hn⟩
theorem FwI.stay {S : Sup} {F : Fw} {q mp op pt tl : Nat} {bs : List Nat} {h h' : AH} (X : FwI S F q mp op pt tl bs h) (hn : h.next ≤ h'.next) (hr : ∀ x, x ∈ q :: mp :: op :: pt :: tl :: bs → h'.get x = h.get x) : FwI S F q mp op pt tl bs h' :=
  X.fld rfl ⟨rfl, rfl⟩ ⟨rfl, rfl⟩ ⟨rfl, rfl⟩ hn (by rw [hr q (by simp)]; exact X.gq) fun x hx => hr x (List.mem_cons_of_mem _ hx)
theorem FwI.kp {S : Sup} {F : Fw} {q mp op pt tl : Nat} {bs : List Nat} {h h' : AH} (X : FwI S F q mp op pt tl bs h) (hK : Kp h h') : FwI S F q mp op pt tl bs h' := X.stay hK.next fun x hx => hK.get x (X.lt x hx)
end Go.Ev

/- Credit: the program's streams. -/
namespace Go.Ev
open Go Go.Proofs
set_option linter.unusedSimpArgs false
set_option linter.unusedVariables false

def StpI (S : Sup) (F' : Fw) (q mp op pt tl : Nat) (bs : List Nat) (h h' : AH) : Prop := ∃ bs', FwI S F' q mp op pt tl bs' h' ∧ KoS (q :: mp :: op :: pt :: tl :: bs) h h' ∧ ∀ b ∈ bs', b ∈ bs ∨ h.next ≤ b
theorem StpI.trans {S : Sup} {F G : Fw} {q mp op pt tl : Nat} {bs bs1 : List Nat} {A B C : AH} (X : FwI S F q mp op pt tl bs1 B) (k : KoS (q :: mp :: op :: pt :: tl :: bs) A B) (hb : ∀ b ∈ bs1, b ∈ bs ∨ A.next ≤ b) (Y : StpI S G q mp op pt tl bs1 B C) : StpI S G q mp op pt tl bs A C := by
  obtain ⟨bs2, y1, y2, y3⟩ := Y
  have kn := k.next
  refine ⟨bs2, y1, k.trans y2 (fun b hb' => ?_), fun b hb' => ?_⟩
  · simp only [List.mem_cons] at hb' ⊢
    rcases hb' with h | h | h | h | h | h
    · exact .inl (.inl h)
    · exact .inl (.inr (.inl h))
    · exact .inl (.inr (.inr (.inl h)))
    · exact .inl (.inr (.inr (.inr (.inl h))))
    · exact .inl (.inr (.inr (.inr (.inr (.inl h)))))
    · exact (hb b h).imp (fun h => .inr (.inr (.inr (.inr (.inr h))))) id
  · rcases y3 b hb' with h | h
    · exact hb b h
    · exact .inr (by omega)
theorem ours_ev {S : Sup} {F : Fw} {q mp op pt tl : Nat} {bs : List Nat} {h : AH} (X : FwI S F q mp op pt tl bs h) (id : Int) (m : Nat) (hm : 1 ≤ m) : ev Try.prog m 212 [.ptr q 0, .int .i64 id] h = some (.bool (idSv id == S.sv), h) := by
  obtain ⟨m, rfl⟩ : ∃ k, m = k + 1 := ⟨m - 1, by omega⟩
  have g := X.gq
  have a1 := and_1 id
  have l0 : ldVar Try.prog 4 q 0 h = some (.bool S.sv) := by simp only [fiC] at g; simp [ldVar, g]
  rw [ev_M Try.func212 ok212 [] m _ h (by simp [Try.f212])]
  unfold idSv
  by_cases c : id % 2 = 1
  · rw [c] at a1; simp [Try.f212, tm0, a1, l0, c]
  · have : id % 2 = 0 := by omega
    rw [this] at a1; simp [Try.f212, tm0, a1, l0, this]
def ptrO (bs : List Nat) : Option Nat → AV
  | some i => .ptr (bs.getD i 0) 0
  | none => .nilPtr
theorem strm_o (L : List Bk) (bs : List Nat) (id : Int) : strm L bs id = ptrO bs (stIx L id) := by unfold strm ptrO; cases stIx L id <;> rfl
theorem sending_ev {S : Sup} {F : Fw} {k : Nat} {q mp op pt tl : Nat} {bs : List Nat} {h : AH} (X : FwI S F q mp op pt tl bs h) (G : F.good S k) (id : Int) (m : Nat) (hm : 2 ≤ m) : ev Try.prog m 207 [.ptr q 0, .int .i64 id] h = some (ptrO bs (sendsP S F.L id), h) := by
  obtain ⟨m, rfl⟩ : ∃ k, m = k + 1 := ⟨m - 1, by omega⟩
  have g := X.gq
  have e1 := ours_ev X id m (by omega)
  have a2 := and_2 id
  have l9 : ldVar Try.prog 268 q 9 h = some (.map mp) := by simp only [fiC] at g; simp [ldVar, g]
  have lk := X.look id
  rw [strm_o] at lk
  rw [ev_M Try.func207 ok207 [] m _ h (by simp [Try.f207])]
  unfold sendsP
  cases hs : stIx F.L id with
  | none =>
    rw [hs] at lk
    simp only [ptrO] at lk
    simp [Try.f207, tm0, l9, lk, ptrO, U]
  | some i =>
    rw [hs] at lk
    simp only [ptrO] at lk
    obtain ⟨hi, hid⟩ := stIx_some hs
    have hok := (G.bk _ (List.getElem_mem hi)).id
    rw [hid] at hok
    by_cases c1 : idSv id = S.sv
    · simp [Try.f207, tm0, l9, lk, e1, c1, ptrO, hok, U]
    · have c1' : (idSv id == S.sv) = false := by simpa using c1
      rw [c1'] at e1
      by_cases c2 : id / 2 % 2 = 1
      · rw [if_pos c2] at a2
        simp [Try.f207, tm0, l9, lk, e1, a2, c1, c2, ptrO, hok, idOw, U]
      · rw [if_neg c2] at a2
        simp [Try.f207, tm0, l9, lk, e1, a2, c1, c2, ptrO, hok, idOw, U]
theorem getting_ev {S : Sup} {F : Fw} {k : Nat} {q mp op pt tl : Nat} {bs : List Nat} {h : AH} (X : FwI S F q mp op pt tl bs h) (G : F.good S k) (id : Int) (m : Nat) (hm : 2 ≤ m) : ev Try.prog m 210 [.ptr q 0, .int .i64 id] h = some (ptrO bs (getsP S F.L id), h) := by
  obtain ⟨m, rfl⟩ : ∃ k, m = k + 1 := ⟨m - 1, by omega⟩
  have g := X.gq
  have e1 := ours_ev X id m (by omega)
  have a2 := and_2 id
  have l9 : ldVar Try.prog 268 q 9 h = some (.map mp) := by simp only [fiC] at g; simp [ldVar, g]
  have lk := X.look id
  rw [strm_o] at lk
  rw [ev_M Try.func210 ok210 [] m _ h (by simp [Try.f210])]
  unfold getsP
  cases hs : stIx F.L id with
  | none =>
    rw [hs] at lk
    simp only [ptrO] at lk
    simp [Try.f210, tm0, l9, lk, ptrO, U]
  | some i =>
    rw [hs] at lk
    simp only [ptrO] at lk
    obtain ⟨hi, hid⟩ := stIx_some hs
    have hok := (G.bk _ (List.getElem_mem hi)).id
    rw [hid] at hok
    by_cases c1 : idSv id = S.sv
    · have c1' : (idSv id == S.sv) = true := by simpa using c1
      rw [c1'] at e1
      by_cases c2 : id / 2 % 2 = 1
      · rw [if_pos c2] at a2
        simp [Try.f210, tm0, l9, lk, e1, a2, c1, c2, ptrO, hok, idOw, U]
      · rw [if_neg c2] at a2
        simp [Try.f210, tm0, l9, lk, e1, a2, c1, c2, ptrO, hok, idOw, U]
    · have c1' : (idSv id == S.sv) = false := by simpa using c1
      rw [c1'] at e1
      simp [Try.f210, tm0, l9, lk, e1, c1, ptrO, hok, U]
theorem add_ev {S : Sup} {F : Fw} {q mp op pt tl : Nat} {bs : List Nat} {h : AH} (X : FwI S F q mp op pt tl bs h) (id : Int) (m : Nat) (hm : 1 ≤ m) :
    ∃ h', ev Try.prog m 206 [.ptr q 0, .int .i64 id] h = some (U, h') ∧ StpI S (addP S F id) q mp op pt tl bs h h' := by
  obtain ⟨m, rfl⟩ : ∃ k, m = k + 1 := ⟨m - 1, by omega⟩
  have g := X.gq
  have l9 : ldVar Try.prog 268 q 9 h = some (.map mp) := by simp only [fiC] at g; simp [ldVar, g]
  have lk := X.look id
  rw [strm_o] at lk
  unfold addP
  cases hs : stIx F.L id with
  | some i =>
    rw [hs] at lk
    simp only [ptrO] at lk
    rw [if_neg (by simp)]
    refine ⟨h, ?_, bs, X, KoS.refl _ _, fun b hb => .inl hb⟩
    rw [ev_M Try.func206 ok206 [] m _ h (by simp [Try.f206])]
    simp [Try.f206, tm0, l9, lk, U]
  | none =>
    rw [hs] at lk
    simp only [ptrO] at lk
    rw [if_pos rfl]
    have gm := X.gm
    have hf := find_ents id F.L bs 0 X.len
    rw [hs] at hf
    have hnq := X.nq
    have hlt := X.lt
    have nm : ¬ (mp = h.next) := fun e => by have := hlt mp (by simp); omega
    have hup : updA Try.prog 268 (.map mp) (.int .i64 id) (.ptr h.next 0) (h.push (.cells 277 false (newBk S id).c5)) = some ((h.push (.cells 277 false (newBk S id).c5)).set mp (.map (ents F.L bs ++ [(.int .i64 id, .ptr h.next 0)]))) := by
      unfold updA
      simp [mapT, keyOk, AH.push_get, nm, gm, mapPut, hf]
    have hz : ents (F.L ++ [newBk S id]) (bs ++ [h.next]) = ents F.L bs ++ [(.int .i64 id, .ptr h.next 0)] := by
      unfold ents
      rw [List.zip_append (by rw [X.len])]
      simp [newBk]
    have hsum : sumI Bk.se (F.L ++ [newBk S id]) = sumI Bk.se F.L ∧ sumI Bk.ca (F.L ++ [newBk S id]) = sumI Bk.ca F.L := by
      constructor <;> rw [sumI_app] <;> simp [sumI, newBk]
    have hget : ∀ x, x ≠ mp → x < h.next → ((h.push (.cells 277 false (newBk S id).c5)).set mp (.map (ents F.L bs ++ [(.int .i64 id, .ptr h.next 0)]))).get x = h.get x := fun x h1 h2 => by
      rw [AH.set_getN _ _ h1, AH.push_get, if_neg (by omega)]
    have nd := X.nd
    have nd' := X.nd
    simp only [List.nodup_cons, List.mem_cons, not_or] at nd
    obtain ⟨⟨n1, n2, n3, n4, n5⟩, ⟨n6, n7, n8, n9⟩, ⟨n10, n11, n12⟩, ⟨n13, n14⟩, n15, n16⟩ := nd
    have lm := X.len
    refine ⟨_, ?_, bs ++ [h.next], ⟨?_, ?_, ?_, ?_, ?_, by simp [putP, lm], ?_, ?_, ?_⟩, ⟨by simp, fun b hb hx => hget b (fun e => hx (by simp [e])) hb⟩, fun b hb => ?_⟩
    · have l0 : ldVar Try.prog 3 q 6 h = some (.int .i64 S.ps) := by simp only [fiC] at g; simp [ldVar, g]
      have l2 : ldVar Try.prog 3 q 2 h = some (.int .i64 S.sw) := by simp only [fiC] at g; simp [ldVar, g]
      have kz : Kp h (h.push (.cells 277 false (newBk S id).c5)) := (Kp.refl h).push _
      have gz := (X.kp kz).gq
      have l9' : ldVar Try.prog 268 q 9 (h.push (.cells 277 false (newBk S id).c5)) = some (.map mp) := by simp only [fiC] at gz; simp only [ldVar, gz]; simp
      simp only [newBk, Bk.c5] at hup l9' ⊢
      rw [ev_M Try.func206 ok206 [] m _ h (by simp [Try.f206])]
      simp [Try.f206, tm0, l9, l9', lk, l0, l2, fillA, spl, hup, U, evHist, ObsOk, ObOk, List.getElem?_cons_zero]
    · rw [hget q (fun e => n1 e) hnq.1]
      rw [g]; simp only [fiC, putP, hsum.1, hsum.2]
    · simp only [putP, hz]; simp
    · rw [hget op (fun e => n6 e.symm) (hlt op (by simp))]; exact X.go
    · rw [hget pt (fun e => n7 e.symm) (hlt pt (by simp))]; exact X.gp
    · rw [hget tl (fun e => n8 e.symm) (hlt tl (by simp))]; exact X.gt
    · intro i hi
      simp only [putP, List.length_append, List.length_singleton] at hi
      by_cases e : i < F.L.length
      · have e1 : (bs ++ [h.next]).getD i 0 = bs.getD i 0 := by
          rw [List.getD_eq_getElem?_getD, List.getD_eq_getElem?_getD, List.getElem?_append_left (by omega)]
        have e2 : (putP S F id).L[i] = F.L[i] := by simp only [putP]; rw [List.getElem_append_left e]
        obtain ⟨u0, u1, u2, u3, _⟩ := X.nds e
        rw [e1, e2, hget _ u3 u1]; exact X.gb i e
      · have e3 : i = F.L.length := by omega
        subst e3
        have e1 : (bs ++ [h.next]).getD F.L.length 0 = h.next := by
          rw [List.getD_eq_getElem?_getD, List.getElem?_append_right (by omega)]; simp [lm]
        have e2 : (putP S F id).L[F.L.length] = newBk S id := by simp only [putP]; rw [List.getElem_append_right (by omega)]; simp
        rw [e1, e2, AH.set_getN _ _ (fun e => nm e.symm)]; simp
    · have hmem : ∀ b ∈ q :: mp :: op :: pt :: tl :: bs, b ≠ h.next := fun b hb e => by have := hlt b hb; omega
      have : q :: mp :: op :: pt :: tl :: (bs ++ [h.next]) = (q :: mp :: op :: pt :: tl :: bs) ++ [h.next] := by simp
      rw [this, List.nodup_append]
      exact ⟨nd', by simp, fun a ha b hb e => by simp at hb; exact hmem a ha (by omega)⟩
    · intro b hb
      have : b ∈ (q :: mp :: op :: pt :: tl :: bs) ∨ b = h.next := by
        simp only [List.mem_cons, List.mem_append, List.not_mem_nil, or_false] at hb ⊢; grind
      rcases this with h1 | h1
      · have := hlt b h1; simp; omega
      · simp [h1]
    · rcases List.mem_append.1 hb with h1 | h1
      · exact .inl h1
      · simp at h1; exact .inr (by omega)
end Go.Ev

/- Credit: the program opens a stream, sends. -/
namespace Go.Ev
open Go Go.Proofs
set_option linter.unusedSimpArgs false
set_option linter.unusedVariables false

/-- the maps of both ways, one changed -/
theorem FwI.incO {S : Sup} {F : Fw} {q mp op pt tl : Nat} {bs : List Nat} {h : AH} (X : FwI S F q mp op pt tl bs h) (w : Bool) : ∃ l', updA Try.prog 269 (.map op) (.bool w) (.int .i64 (F.o w + 1)) h = some (h.set op (.map l')) ∧ FwI S (F.incO w) q mp op pt tl bs (h.set op (.map l')) := by
  obtain ⟨l, g, H⟩ := X.go
  obtain ⟨l', e1, H'⟩ := H.upd g w (F.o w + 1)
  have nd := X.nd
  simp only [List.nodup_cons, List.mem_cons, not_or] at nd
  obtain ⟨⟨n1, n2, n3, n4, n5⟩, ⟨n6, n7, n8, n9⟩, ⟨n10, n11, n12⟩, ⟨n13, n14⟩, n15, n16⟩ := nd
  refine ⟨l', e1, ⟨by rw [AH.set_getN _ _ n2]; cases w <;> exact X.gq, by rw [AH.set_getN _ _ n6]; cases w <;> exact X.gm, ⟨l', by simp, ?_⟩, by rw [AH.set_getN _ _ (fun e => n10 e.symm)]; cases w <;> exact X.gp, by rw [AH.set_getN _ _ (fun e => n11 e.symm)]; cases w <;> exact X.gt, by cases w <;> exact X.len, ?_, X.nd, fun b hb => X.lt b hb⟩⟩
  · cases w <;> exact H'
  · intro i hi
    have hi' : i < F.L.length := by cases w <;> exact hi
    obtain ⟨u0, u1, u2, u3, u4, u5, u6⟩ := X.nds hi'
    rw [AH.set_getN _ _ u4]
    cases w <;> exact X.gb i hi'
theorem FwI.incI {S : Sup} {F : Fw} {q mp op pt tl : Nat} {bs : List Nat} {h : AH} (X : FwI S F q mp op pt tl bs h) (w : Bool) : ∃ l', updA Try.prog 269 (.map tl) (.bool w) (.int .i64 (F.i w + 1)) h = some (h.set tl (.map l')) ∧ FwI S (F.incI w) q mp op pt tl bs (h.set tl (.map l')) := by
  obtain ⟨l, g, H⟩ := X.gt
  obtain ⟨l', e1, H'⟩ := H.upd g w (F.i w + 1)
  have nd := X.nd
  simp only [List.nodup_cons, List.mem_cons, not_or] at nd
  obtain ⟨⟨n1, n2, n3, n4, n5⟩, ⟨n6, n7, n8, n9⟩, ⟨n10, n11, n12⟩, ⟨n13, n14⟩, n15, n16⟩ := nd
  refine ⟨l', e1, ⟨by rw [AH.set_getN _ _ n4]; cases w <;> exact X.gq, by rw [AH.set_getN _ _ n8]; cases w <;> exact X.gm, by rw [AH.set_getN _ _ n11]; cases w <;> exact X.go, by rw [AH.set_getN _ _ n13]; cases w <;> exact X.gp, ⟨l', by simp, ?_⟩, by cases w <;> exact X.len, ?_, X.nd, fun b hb => X.lt b hb⟩⟩
  · cases w <;> exact H'
  · intro i hi
    have hi' : i < F.L.length := by cases w <;> exact hi
    obtain ⟨u0, u1, u2, u3, u4, u5, u6⟩ := X.nds hi'
    rw [AH.set_getN _ _ u6]
    cases w <;> exact X.gb i hi'
theorem FwI.maxM {S : Sup} {F : Fw} {q mp op pt tl : Nat} {bs : List Nat} {h : AH} (X : FwI S F q mp op pt tl bs h) (w : Bool) (n : Int) : ∃ l', updA Try.prog 269 (.map pt) (.bool w) (.int .i64 (max (F.m w) n)) h = some (h.set pt (.map l')) ∧ FwI S (F.maxM w n) q mp op pt tl bs (h.set pt (.map l')) := by
  obtain ⟨l, g, H⟩ := X.gp
  obtain ⟨l', e1, H'⟩ := H.upd g w (max (F.m w) n)
  have nd := X.nd
  simp only [List.nodup_cons, List.mem_cons, not_or] at nd
  obtain ⟨⟨n1, n2, n3, n4, n5⟩, ⟨n6, n7, n8, n9⟩, ⟨n10, n11, n12⟩, ⟨n13, n14⟩, n15, n16⟩ := nd
  refine ⟨l', e1, ⟨by rw [AH.set_getN _ _ n3]; cases w <;> exact X.gq, by rw [AH.set_getN _ _ n7]; cases w <;> exact X.gm, by rw [AH.set_getN _ _ n10]; cases w <;> exact X.go, ⟨l', by simp, ?_⟩, by rw [AH.set_getN _ _ (fun e => n13 e.symm)]; cases w <;> exact X.gt, by cases w <;> exact X.len, ?_, X.nd, fun b hb => X.lt b hb⟩⟩
  · cases w <;> exact H'
  · intro i hi
    have hi' : i < F.L.length := by cases w <;> exact hi
    obtain ⟨u0, u1, u2, u3, u4, u5, u6⟩ := X.nds hi'
    rw [AH.set_getN _ _ u5]
    cases w <;> exact X.gb i hi'
theorem openI_ev {S : Sup} {F : Fw} {k : Nat} {q mp op pt tl : Nat} {bs : List Nat} {h : AH} (X : FwI S F q mp op pt tl bs h) (G : F.good S k) (w : Bool) (m : Nat) (hm : 10 ≤ m) :
    ∃ i c h', ev Try.prog m 110 [.ptr q 0, .bool w] h = some (.tuple [.int .i64 i, .int .i64 c], h') ∧ (openP S F w).2 = ob c i 0 [] ∧ StpI S (openP S F w).1 q mp op pt tl bs h h' := by
  obtain ⟨m, rfl⟩ : ∃ k, m = k + 1 := ⟨m - 1, by omega⟩
  have g := X.gq
  have la := X.lo w
  have lb := X.lp w
  have ho := G.o w; have hM := G.m w; have hk := G.kk
  have l10 : ldVar Try.prog 269 q 10 h = some (.map op) := by simp only [fiC] at g; simp [ldVar, g]
  have l11 : ldVar Try.prog 269 q 11 h = some (.map pt) := by simp only [fiC] at g; simp [ldVar, g]
  have l0 : ldVar Try.prog 4 q 0 h = some (.bool S.sv) := by simp only [fiC] at g; simp [ldVar, g]
  unfold openP
  by_cases c1 : F.m w ≤ F.o w
  · rw [if_pos c1]
    refine ⟨0, 9, h, ?_, rfl, bs, X, KoS.refl _ _, fun b hb => .inl hb⟩
    rw [ev_M Try.func110 ok110 [] m _ h (by simp [Try.f110])]
    simp [Try.f110, tm0, l10, l11, la, lb, c1]
  · rw [if_neg c1]
    have c1' := eq_false c1
    obtain ⟨l', e1, X1⟩ := X.incO w
    obtain ⟨h2, e2, s2⟩ := add_ev X1 (idOf S.sv w (F.o w)) m (by omega)
    have hnew := open_new G w (by omega)
    have hL : (F.incO w).L = F.L := by cases w <;> rfl
    rw [addP, if_pos (by rw [hL]; exact hnew)] at s2
    have e3 := fun H => IdOfI_ev S.sv w (F.o w) H m (by omega)
    have w1 : IntKind.i64.wrap (F.o w + 1) = F.o w + 1 := wrap_i64 (n := F.o w + 1) (by omega) (by omega)
    refine ⟨idOf S.sv w (F.o w), 0, h2, ?_, rfl, StpI.trans X1 ((KoS.refl _ _).set1 (by simp) _) (fun b hb => .inl hb) s2⟩
    rw [ev_M Try.func110 ok110 [] m _ h (by simp [Try.f110])]
    simp [Try.f110, tm0, l10, l11, l0, la, lb, c1', e3, w1, e1, e2]
theorem sendI_ev {S : Sup} {F : Fw} {k : Nat} {q mp op pt tl : Nat} {bs : List Nat} {h : AH} (X : FwI S F q mp op pt tl bs h) (G : F.good S k) (id n : Int) (m : Nat) (hm : 10 ≤ m) :
    ∃ n' c h', ev Try.prog m 111 [.ptr q 0, .int .i64 id, .int .i64 n] h = some (.tuple [.int .i64 n', .int .i64 c], h') ∧ (sendP S F id n).2 = ob c 0 n' [] ∧ StpI S (sendP S F id n).1 q mp op pt tl bs h h' := by
  obtain ⟨m, rfl⟩ : ∃ k, m = k + 1 := ⟨m - 1, by omega⟩
  have g := X.gq
  unfold sendP
  by_cases c1 : n < 0
  · rw [if_pos c1]
    refine ⟨0, 1, h, ?_, rfl, bs, X, KoS.refl _ _, fun b hb => .inl hb⟩
    rw [ev_M Try.func111 ok111 [] m _ h (by simp [Try.f111])]
    simp [Try.f111, tm0, c1]
  · rw [if_neg c1]
    have c1' := eq_false c1
    have e1 := sending_ev X G id m (by omega)
    cases hs : sendsP S F.L id with
    | none =>
      rw [hs] at e1
      simp only [ptrO] at e1
      refine ⟨0, 7, h, ?_, rfl, bs, X, KoS.refl _ _, fun b hb => .inl hb⟩
      rw [ev_M Try.func111 ok111 [] m _ h (by simp [Try.f111])]
      simp [Try.f111, tm0, c1', e1]
    | some i =>
      rw [hs] at e1
      simp only [ptrO] at e1
      have hi := sendsP_lt hs
      have gb := X.gb i hi
      obtain ⟨u0, u1, u2, u3, u4, u5, u6⟩ := X.nds hi
      have hgs := G.at_ hi
      have hcc := G.se; have hc2 := G.cc; have hg1 := hgs.se; have hg2 := hgs.cr
      have hsn := sumI_nn (good_se G)
      rw [at_L hi] at hg1 hg2
      dsimp only
      rw [at_L hi]
      generalize hB : bs.getD i 0 = b at *
      generalize hK : min (min n (F.L[i].cr - F.L[i].se)) (F.cc - sumI Bk.se F.L) = K at *
      have hm2 : max 0 (min (F.L[i].cr - F.L[i].se) (F.cc - sumI Bk.se F.L)) = min (F.L[i].cr - F.L[i].se) (F.cc - sumI Bk.se F.L) := by omega
      have hupd : ∀ s', (F.upd i fun s => s').L = F.L.set i s' := fun s' => rfl
      have hsum : sumI Bk.se (F.L.set i { F.L[i] with se := F.L[i].se + K }) = sumI Bk.se F.L + K := by rw [sumI_set Bk.se F.L i hi]; simp only; omega
      have hsum2 : sumI Bk.ca (F.L.set i { F.L[i] with se := F.L[i].se + K }) = sumI Bk.ca F.L := by rw [sumI_set Bk.ca F.L i hi]; simp only; omega
      have w1 : IntKind.i64.wrap (F.L[i].cr - F.L[i].se) = F.L[i].cr - F.L[i].se := wrap_i64 (n := F.L[i].cr - F.L[i].se) (by omega) (by omega)
      have w2 : IntKind.i64.wrap (F.cc - sumI Bk.se F.L) = F.cc - sumI Bk.se F.L := wrap_i64 (n := F.cc - sumI Bk.se F.L) (by omega) (by omega)
      have w3 : IntKind.i64.wrap (F.L[i].se + K) = F.L[i].se + K := wrap_i64 (n := F.L[i].se + K) (by omega) (by omega)
      have w4 : IntKind.i64.wrap (sumI Bk.se F.L + K) = sumI Bk.se F.L + K := wrap_i64 (n := sumI Bk.se F.L + K) (by omega) (by omega)
      have e2 : ∀ m, 1 ≤ m → ev Try.prog m 208 [.ptr q 0, .ptr b 0] h = some (.int .i64 (min (F.L[i].cr - F.L[i].se) (F.cc - sumI Bk.se F.L)), h) := by
        intro m hm
        obtain ⟨m, rfl⟩ : ∃ k, m = k + 1 := ⟨m - 1, by omega⟩
        have hmx : (if 0 < (if F.cc - sumI Bk.se F.L < F.L[i].cr - F.L[i].se then F.cc - sumI Bk.se F.L else F.L[i].cr - F.L[i].se) then (if F.cc - sumI Bk.se F.L < F.L[i].cr - F.L[i].se then F.cc - sumI Bk.se F.L else F.L[i].cr - F.L[i].se) else 0) = min (F.L[i].cr - F.L[i].se) (F.cc - sumI Bk.se F.L) := by split <;> split <;> omega
        simp only [fiC] at g
        simp only [Bk.c5] at gb
        rw [ev_M Try.func208 ok208 [] m _ h (by simp [Try.f208])]
        simp [Try.f208, tm0, g, gb, ldVar, w1, w2, mn2, mx2, foldA, hmx, evHist, ObsOk, ObOk, List.getElem?_cons_zero]
      have e2' := e2 m (by omega)
      have hK2 : (if min (F.L[i].cr - F.L[i].se) (F.cc - sumI Bk.se F.L) < n then min (F.L[i].cr - F.L[i].se) (F.cc - sumI Bk.se F.L) else n) = K := by rw [← hK]; split <;> omega
      generalize min (F.L[i].cr - F.L[i].se) (F.cc - sumI Bk.se F.L) = R at *
      refine ⟨K, 0, (h.set b (.cells 277 false (Bk.c5 { F.L[i] with se := F.L[i].se + K }))).set q (.cells 271 false (fiC S (F.upd i fun s => { s with se := s.se + K }) mp op pt tl)), ?_, rfl, bs, ?_, ((KoS.refl _ _).set1 (mem6 (hB ▸ u0)) _).set1 (by simp) _, fun b hb => .inl hb⟩
      · have nqb : ¬ (q = b) := fun e => u2 e.symm
        simp only [fiC, Bk.c5, Fw.upd, at_L hi, hsum, hsum2] at g gb ⊢
        rw [ev_M Try.func111 ok111 [] m _ h (by simp [Try.f111])]
        simp [Try.f111, tm0, c1', e1, e2', mn2, foldA, hK2, g, gb, nqb, u2, ldVar, stVar, spl, w3, w4]
      · refine X.upd hi { F.L[i] with se := F.L[i].se + K } rfl (by simp only [Fw.upd, at_L hi]) ⟨rfl, rfl⟩ ⟨rfl, rfl⟩ ⟨rfl, rfl⟩ (by simp) (by simp) (by rw [hB, AH.set_getN _ _ u2]; simp) (fun x hx hxb => ?_)
        have hxq : x ≠ q := fun e => by have := X.nd; rw [List.nodup_cons] at this; exact this.1 (e ▸ hx)
        rw [hB] at hxb
        rw [AH.set_getN _ _ hxq, AH.set_getN _ _ hxb]
end Go.Ev

/- Credit: the program ends a stream, is told. -/
namespace Go.Ev
open Go Go.Proofs
set_option linter.unusedSimpArgs false
set_option linter.unusedVariables false

def StpF (S : Sup) (F' : Fw) (l : List Fr) (q mp op pt tl : Nat) (bs : List Nat) (h h' : AH) (r : AV) : Prop :=
  ∃ bs' bo, FwI S F' q mp op pt tl bs' h' ∧ KoS (q :: mp :: op :: pt :: tl :: bs) h h' ∧ (∀ b ∈ bs', b ∈ bs ∨ h.next ≤ b) ∧ (Ty.sl 72 tT72).R true h' [r] l bo ∧ bo.Nodup ∧ (∀ b ∈ bo, h.next ≤ b) ∧ ∀ b ∈ bo, b ∉ bs'
theorem nil72 {rw : Bool} {H : AH} : (Ty.sl 72 tT72).R rw H [.nilSlice] [] [] := .inl ⟨rfl, rfl, rfl⟩
theorem endI_ev {S : Sup} {F : Fw} {k : Nat} {q mp op pt tl : Nat} {bs : List Nat} {h : AH} (X : FwI S F q mp op pt tl bs h) (G : F.good S k) (id : Int) (m : Nat) (hm : 10 ≤ m) :
    ∃ r c l h', ev Try.prog m 114 [.ptr q 0, .int .i64 id] h = some (.tuple [r, .int .i64 c], h') ∧ (overP S F id).2 = ob c 0 0 l ∧ StpF S (overP S F id).1 l q mp op pt tl bs h h' r := by
  obtain ⟨m, rfl⟩ : ∃ k, m = k + 1 := ⟨m - 1, by omega⟩
  have g := X.gq
  have l9 : ldVar Try.prog 268 q 9 h = some (.map mp) := by simp only [fiC] at g; simp [ldVar, g]
  have lk := X.look id
  rw [strm_o] at lk
  have e1 := ours_ev X id m (by omega)
  have a2 := and_2 id
  have bad : (overP S F id) = (F, ob 7 0 0 []) → ev Try.prog (m + 1) 114 [.ptr q 0, .int .i64 id] h = some (.tuple [.nilSlice, .int .i64 7], h) → 
      ∃ r c l h', ev Try.prog (m + 1) 114 [.ptr q 0, .int .i64 id] h = some (.tuple [r, .int .i64 c], h') ∧ (overP S F id).2 = ob c 0 0 l ∧ StpF S (overP S F id).1 l q mp op pt tl bs h h' r :=
    fun h1 h2 => ⟨_, 7, [], h, h2, by rw [h1], bs, [], by rw [h1]; exact X, KoS.refl _ _, fun b hb => .inl hb, nil72, by simp, by simp, by simp⟩
  cases hs : stIx F.L id with
  | none =>
    rw [hs] at lk
    simp only [ptrO] at lk
    refine bad (by unfold overP; rw [hs]) ?_
    rw [ev_M Try.func114 ok114 [] m _ h (by simp [Try.f114])]
    simp [Try.f114, tm0, l9, lk, U]
  | some i =>
    rw [hs] at lk
    simp only [ptrO] at lk
    obtain ⟨hi, hid⟩ := stIx_some hs
    have hok := (G.bk _ (List.getElem_mem hi)).id
    rw [hid] at hok
    have gb := X.gb i hi
    obtain ⟨u0, u1, u2, u3, u4, u5, u6⟩ := X.nds hi
    have l5 : ldVar Try.prog 4 (bs.getD i 0) 5 h = some (.bool F.L[i].ov) := by simp only [Bk.c5] at gb; simp only [ldVar, gb]; simp
    by_cases c1 : idSv id = S.sv
    · have c1' : (idSv id == S.sv) = true := by simpa using c1
      rw [c1'] at e1
      refine bad (by unfold overP; rw [hs]; simp only; rw [if_pos (.inr (.inl c1))]) ?_
      rw [ev_M Try.func114 ok114 [] m _ h (by simp [Try.f114])]
      simp [Try.f114, tm0, l9, lk, e1, U]
    · have c1' : (idSv id == S.sv) = false := by simpa using c1
      rw [c1'] at e1
      by_cases c2 : F.L[i].ov = true
      · rw [c2] at l5
        refine bad (by unfold overP; rw [hs]; simp only; rw [if_pos (.inr (.inr (by rw [at_L hi]; exact c2)))]) ?_
        generalize bs.getD i 0 = b at *
        rw [ev_M Try.func114 ok114 [] m _ h (by simp [Try.f114])]
        simp [Try.f114, tm0, l9, lk, e1, l5, U]
      · have c2' : F.L[i].ov = false := by simpa using c2
        rw [c2'] at l5
        have hi2 := G.i (idOw id)
        have hk2 := G.kk
        have hov : overP S F id = ((F.upd i fun s => { s with ov := true }).incI (idOw id), ob 0 0 0 [frm 18 (F.i (idOw id) + 1) (if idOw id then 1 else 0)]) := by
          unfold overP
          rw [hs]
          simp only
          rw [if_neg (by simp [hok, c1, at_L hi, c2']), if_neg (by omega)]
        rw [hov]
        have hsum : sumI Bk.se (F.L.set i { F.L[i] with ov := true }) = sumI Bk.se F.L := by rw [sumI_set Bk.se F.L i hi]; simp only; omega
        have hsum2 : sumI Bk.ca (F.L.set i { F.L[i] with ov := true }) = sumI Bk.ca F.L := by rw [sumI_set Bk.ca F.L i hi]; simp only; omega
        have X1 : FwI S (F.upd i fun s => { s with ov := true }) q mp op pt tl bs (h.set (bs.getD i 0) (.cells 277 false (Bk.c5 { F.L[i] with ov := true }))) := by
          refine X.upd hi { F.L[i] with ov := true } rfl (by simp only [Fw.upd, at_L hi]) ⟨rfl, rfl⟩ ⟨rfl, rfl⟩ ⟨rfl, rfl⟩ (by simp) ?_ (by simp) (fun x hx hxb => AH.set_getN _ _ hxb)
          rw [AH.set_getN _ _ (fun e => u2 e.symm), g]
          simp only [fiC, Fw.upd, at_L hi, hsum, hsum2]
        have hst : stVar Try.prog 4 (bs.getD i 0) 5 (.bool true) h = some (h.set (bs.getD i 0) (.cells 277 false (Bk.c5 { F.L[i] with ov := true }))) := by simp only [Bk.c5] at gb ⊢; simp only [stVar, gb]; simp [spl]
        have kB : KoS (q :: mp :: op :: pt :: tl :: bs) h (h.set (bs.getD i 0) (.cells 277 false (Bk.c5 { F.L[i] with ov := true }))) := (KoS.refl _ _).set1 (mem6 u0) _
        have hin : (F.upd i fun s => { s with ov := true }).i (idOw id) = F.i (idOw id) := by cases idOw id <;> rfl
        have nB : (h.set (bs.getD i 0) (.cells 277 false (Bk.c5 { F.L[i] with ov := true }))).next = h.next := rfl
        generalize (F.upd i fun s => { s with ov := true }) = F1 at *
        generalize h.set (bs.getD i 0) (.cells 277 false (Bk.c5 { F.L[i] with ov := true })) = B at *
        generalize bs.getD i 0 = b at *
        obtain ⟨l', e2, X2⟩ := X1.incI (idOw id)
        have lt1 := X1.lt_ (idOw id)
        have lt2 := X2.lt_ (idOw id)
        have hin2 : (F1.incI (idOw id)).i (idOw id) = F.i (idOw id) + 1 := by rw [← hin]; cases idOw id <;> rfl
        rw [hin] at lt1 e2
        rw [hin2] at lt2
        have g1 := X1.gq
        have g2 := X2.gq
        have l12 : ldVar Try.prog 269 q 12 B = some (.map tl) := by simp only [fiC] at g1; simp [ldVar, g1]
        have l12' : ldVar Try.prog 269 q 12 (B.set tl (.map l')) = some (.map tl) := by simp only [fiC] at g2; simp only [ldVar, g2]; simp
        have kX : Kp (B.set tl (.map l')) ((B.set tl (.map l')).push (.cells 72 false (frmC 18 (F.i (idOw id) + 1) (if idOw id then 1 else 0)))) := (Kp.refl _).push _
        have X3 := X2.kp kX
        have hbs : ∀ x ∈ bs, x < h.next := fun x hx => X.lt x (mem6 hx)
        refine ⟨.slice h.next 0 1, 0, _, (B.set tl (.map l')).push (.cells 72 false (frmC 18 (F.i (idOw id) + 1) (if idOw id then 1 else 0))), ?_, rfl, bs, [h.next], X3, ?_, fun b hb => .inl hb, one72 (by simp [nB]) (by simp [nB]) (InK.i64 (by omega) (by omega)) (InK.i64 (by omega) (by omega)) (InK.i64 (by split <;> omega) (by split <;> omega)), by simp, by simp, fun b hb hx => by simp at hb; have := hbs b hx; omega⟩
        · have w1 : IntKind.i64.wrap (F.i (idOw id) + 1) = F.i (idOw id) + 1 := wrap_i64 (n := F.i (idOw id) + 1) (by omega) (by omega)
          have w2 : (F.i (idOw id) == 1152921504606846976) = false := by simp; omega
          have nC : (B.set tl (.map l')).next = h.next := by simpa using nB
          generalize hI : F.i (idOw id) = I at *
          generalize hC : B.set tl (.map l') = C at *
          clear bad kX X3 X2 X1 kB
          rw [ev_M Try.func114 ok114 [] m _ h (by simp [Try.f114])]
          by_cases c3 : id / 2 % 2 = 1
          · have hw : idOw id = true := by simp [idOw, c3]
            rw [if_pos c3] at a2
            simp only [hw, if_true, frmC] at lt1 lt2 e2 ⊢
            simp [Try.f114, tm0, l9, lk, e1, l5, hst, a2, l12, l12', lt1, lt2, e2, w1, w2, fillA, zerosA, spl, nC, U]
          · have hw : idOw id = false := by simp [idOw, c3]
            rw [if_neg c3] at a2
            simp only [hw, Bool.false_eq_true, if_false, frmC] at lt1 lt2 e2 ⊢
            simp [Try.f114, tm0, l9, lk, e1, l5, hst, a2, l12, l12', lt1, lt2, e2, w1, w2, fillA, zerosA, spl, nC, U]
        · exact ((kB.set1 (by simp) _).trans (kX.koS (q :: mp :: op :: pt :: tl :: bs)) (fun b hb => .inl hb))
theorem raiseI_ev {S : Sup} {F : Fw} {k0 : Nat} {q mp op pt tl : Nat} {bs : List Nat} {h : AH} (X : FwI S F q mp op pt tl bs h) (G : F.good S k0) (k id n : Int) (w : Bool) (hk : k = 6 ∨ k = 7 ∨ k = 8) (m : Nat) (hm : 10 ≤ m) :
    ∃ h', ev Try.prog m 115 [.ptr q 0, .agg (opC k id n w)] h = some (.int .i64 (toldP S F k id n w).2, h') ∧ StpI S (toldP S F k id n w).1 q mp op pt tl bs h h' := by
  obtain ⟨m, rfl⟩ : ∃ k, m = k + 1 := ⟨m - 1, by omega⟩
  let A0 : AH := h.push (.cells 65 false (opC k id n w))
  have kA : Kp h A0 := (Kp.refl h).push _
  have X0 := X.kp kA
  have qn := X.nq.1
  have nq : ¬ (q = h.next) := by omega
  have np : ¬ (h.next = q) := by omega
  have e1 := sending_ev X0 G id m (by omega)
  have g := X.gq
  have g0 := X0.gq
  have st0 : StpI S F q mp op pt tl bs h A0 := ⟨bs, X0, kA.koS _, fun b hb => .inl hb⟩
  have hA0 : h.push (.cells 65 false [.int .i64 k, .int .i64 id, .int .i64 n, .bool w]) = A0 := rfl
  have a0 : ldVar Try.prog 3 h.next 0 A0 = some (.int .i64 k) := by simp [ldVar, A0, opC]
  have a1 : ldVar Try.prog 3 h.next 1 A0 = some (.int .i64 id) := by simp [ldVar, A0, opC]
  have a2 : ldVar Try.prog 3 h.next 2 A0 = some (.int .i64 n) := by simp [ldVar, A0, opC]
  have a3 : ldVar Try.prog 4 h.next 3 A0 = some (.bool w) := by simp [ldVar, A0, opC]
  unfold toldP
  by_cases c0 : n < 0
  · have : ¬ inW n := fun h => by have := h.1; omega
    rw [if_pos (.inl this)]
    refine ⟨A0, ?_, st0⟩
    clear_value A0
    simp only [opC]
    rw [ev_M Try.func115 ok115 [] m _ h (by simp [Try.f115])]
    rcases hk with rfl | rfl | rfl <;> simp [Try.f115, tm0, hA0, a0, a2, c0, U]
  have c0' := eq_false c0
  by_cases c1 : inW n
  · have c1a : (4611686018427387903 < n) = False := eq_false (by have := c1.2; omega)
    by_cases c2 : k = 8 ∧ 1152921504606846976 < n
    · obtain ⟨rfl, c2'⟩ := c2
      rw [if_pos (.inr ⟨rfl, c2'⟩)]
      refine ⟨A0, ?_, st0⟩
      clear_value A0
      simp only [opC]
      rw [ev_M Try.func115 ok115 [] m _ h (by simp [Try.f115])]
      simp [Try.f115, tm0, hA0, a0, a2, c0', c2', U]
    · rw [if_neg (by intro h; rcases h with h | h; exact h c1; exact c2 h)]
      rcases hk with rfl | rfl | rfl
      · rw [if_pos rfl]
        have hmx : (if F.cc < n then n else F.cc) = max F.cc n := by split <;> omega
        have l13 : ldVar Try.prog 3 q 13 A0 = some (.int .i64 F.cc) := by simp only [fiC] at g0; simp only [ldVar, g0]; simp
        have s13 : stVar Try.prog 3 q 13 (.int .i64 (max F.cc n)) A0 = some (A0.set q (.cells 271 false (fiC S { F with cc := max F.cc n } mp op pt tl))) := by simp only [fiC] at g0 ⊢; simp only [stVar, g0]; simp [spl]
        refine ⟨A0.set q (.cells 271 false (fiC S { F with cc := max F.cc n } mp op pt tl)), ?_, bs, X0.fld rfl ⟨rfl, rfl⟩ ⟨rfl, rfl⟩ ⟨rfl, rfl⟩ (by simp) (by simp) (fun x hx => AH.set_getN _ _ (fun e => by have := X.nd; rw [List.nodup_cons] at this; exact this.1 (e ▸ hx))), (kA.koS _).set1 (by simp) _, fun b hb => .inl hb⟩
        clear_value A0
        simp only [opC]
        rw [ev_M Try.func115 ok115 [] m _ h (by simp [Try.f115])]
        simp [Try.f115, tm0, hA0, a0, a2, c0', c1a, l13, mx2, foldA, hmx, s13, evHist, ObsOk, ObOk, List.getElem?_cons_zero]
      · rw [if_neg (by decide), if_pos rfl]
        cases hs : sendsP S F.L id with
        | none =>
          rw [hs] at e1
          refine ⟨A0, ?_, st0⟩
          simp only [ptrO] at e1
          clear_value A0
          simp only [opC]
          rw [ev_M Try.func115 ok115 [] m _ h (by simp [Try.f115])]
          simp [Try.f115, tm0, hA0, a0, a1, a2, c0', c1a, e1]
        | some i =>
          rw [hs] at e1
          simp only [ptrO] at e1
          have hi := sendsP_lt hs
          have gb := X0.gb i hi
          obtain ⟨u0, u1, u2, u3, u4, u5, u6⟩ := X0.nds hi
          dsimp only
          have hmx : (if F.L[i].cr < n then n else F.L[i].cr) = max F.L[i].cr n := by split <;> omega
          have lc : ldVar Try.prog 3 (bs.getD i 0) 0 A0 = some (.int .i64 F.L[i].cr) := by simp only [Bk.c5] at gb; simp only [ldVar, gb]; simp
          have sc : stVar Try.prog 3 (bs.getD i 0) 0 (.int .i64 (max F.L[i].cr n)) A0 = some (A0.set (bs.getD i 0) (.cells 277 false (Bk.c5 { F.L[i] with cr := max F.L[i].cr n }))) := by simp only [Bk.c5] at gb ⊢; simp only [stVar, gb]; simp [spl]
          have hsum : sumI Bk.se (F.L.set i { F.L[i] with cr := max F.L[i].cr n }) = sumI Bk.se F.L := by rw [sumI_set Bk.se F.L i hi]; simp only; omega
          have hsum2 : sumI Bk.ca (F.L.set i { F.L[i] with cr := max F.L[i].cr n }) = sumI Bk.ca F.L := by rw [sumI_set Bk.ca F.L i hi]; simp only; omega
          refine ⟨A0.set (bs.getD i 0) (.cells 277 false (Bk.c5 { F.L[i] with cr := max F.L[i].cr n })), ?_, bs, ?_, (kA.koS _).set1 (mem6 u0) _, fun b hb => .inl hb⟩
          · generalize bs.getD i 0 = b at *
            clear_value A0
            simp only [opC]
            rw [ev_M Try.func115 ok115 [] m _ h (by simp [Try.f115])]
            simp [Try.f115, tm0, hA0, a0, a1, a2, c0', c1a, e1, lc, mx2, foldA, hmx, sc, evHist, ObsOk, ObOk, List.getElem?_cons_zero]
          · refine X0.upd hi { F.L[i] with cr := max F.L[i].cr n } rfl (by simp only [Fw.upd, at_L hi]) ⟨rfl, rfl⟩ ⟨rfl, rfl⟩ ⟨rfl, rfl⟩ (by simp) ?_ (by simp) (fun x hx hxb => AH.set_getN _ _ hxb)
            rw [AH.set_getN _ _ (fun e => u2 e.symm), g0]
            simp only [fiC, Fw.upd, at_L hi, hsum, hsum2]
      · rw [if_neg (by decide), if_neg (by decide)]
        have c2' : (1152921504606846976 < n) = False := eq_false (fun h => c2 ⟨rfl, h⟩)
        obtain ⟨l', e2, X2⟩ := X0.maxM w n
        have lp := X0.lp w
        have hmx : (if F.m w < n then n else F.m w) = max (F.m w) n := by split <;> omega
        have l11 : ldVar Try.prog 269 q 11 A0 = some (.map pt) := by simp only [fiC] at g0; simp only [ldVar, g0]; simp
        refine ⟨A0.set pt (.map l'), ?_, bs, X2, (kA.koS _).set1 (by simp) _, fun b hb => .inl hb⟩
        clear_value A0
        simp only [opC]
        rw [ev_M Try.func115 ok115 [] m _ h (by simp [Try.f115])]
        simp [Try.f115, tm0, hA0, a0, a2, a3, c0', c2', l11, lp, mx2, foldA, hmx, e2, evHist, ObsOk, ObOk, List.getElem?_cons_zero]
  · rw [if_pos (.inl c1)]
    have c1a : 4611686018427387903 < n := by
      apply Classical.byContradiction; intro h; exact c1 ⟨by omega, by omega⟩
    have c1b : 1152921504606846976 < n := by omega
    refine ⟨A0, ?_, st0⟩
    clear_value A0
    simp only [opC]
    rw [ev_M Try.func115 ok115 [] m _ h (by simp [Try.f115])]
    rcases hk with rfl | rfl | rfl <;> simp [Try.f115, tm0, hA0, a0, a2, c0', c1a, c1b, U]
end Go.Ev

/- Credit: what arrives, in the program. -/
namespace Go.Ev
open Go Go.Proofs
set_option linter.unusedSimpArgs false
set_option linter.unusedVariables false

theorem idOf_id {id : Int} (h : idOk id) : idOf (idSv id) (idOw id) (id / 4) = id := by
  unfold idOk at h
  unfold idOf
  rw [if_neg (by omega)]
  unfold idSv idOw
  by_cases c1 : id % 2 = 1 <;> by_cases c2 : id / 2 % 2 = 1 <;> simp [c1, c2] <;> omega
theorem stIx_mem {L : List Bk} {id : Int} (h : ∃ s ∈ L, s.id = id) : stIx L id ≠ none := by
  intro e
  unfold stIx at e
  rw [List.findIdx?_eq_none_iff] at e
  obtain ⟨s, hs, hid⟩ := h
  have := e s hs
  simp [hid] at this
theorem addP_has (S : Sup) (F : Fw) (id : Int) : stIx (addP S F id).L id ≠ none := by
  unfold addP
  split
  · exact stIx_mem ⟨newBk S id, by simp [putP], rfl⟩
  · assumption
structure LeT (τ : Tm) (q : Nat) (w : Bool) (p : Int) : Prop where
  t0 : τ 0 = .ptr q 0
  t6 : τ 6 = .bool w
  t7 : τ 7 = .int .i64 p
def LeI (S : Sup) (F : Fw) (q mp op pt tl : Nat) (bs : List Nat) (H : AH) (sv w : Bool) (p : Int) (d : Nat) (τ : Tm) (h : AH) : Prop :=
  ∃ j : Nat, (j : Int) + d = p + 1 ∧ LeT τ q w p ∧ τ 9 = .int .i64 j ∧ StpI S (addAll S sv w j F) q mp op pt tl bs H h
set_option maxRecDepth 20000 in
theorem leLoop {S : Sup} {F : Fw} {q mp op pt tl : Nat} {bs : List Nat} {H h0 : AH} {sv w : Bool} {p : Int} (hsv : sv = !S.sv) (hp : 0 ≤ p ∧ p ≤ 1000) (m : Nat) (hm : 1010 ≤ m) (τ : Tm) (hI : LeI S F q mp op pt tl bs H sv w p (p + 1).toNat τ h0) :
    ∃ e τ' H', evLoop Try.prog (ev Try.prog m) m (lp Try.prog 209 506) τ h0 = some (e, τ', H') ∧ e = .exit 0 ∧ LeT τ' q w p ∧ StpI S (addAll S sv w (p + 1).toNat F) q mp op pt tl bs H H' := by
  refine loop_rule (d := (p + 1).toNat) (LeI S F q mp op pt tl bs H sv w p) (fun e τ h => e = .exit 0 ∧ LeT τ q w p ∧ StpI S (addAll S sv w (p + 1).toNat F) q mp op pt tl bs H h) ?_ hI (by omega)
  rintro d τ h ⟨j, hj, ⟨t0, t6, t7⟩, t9, hX⟩
  rw [lp_M Try.func209 506 (by decide) 9 (by decide) (by kernel_rfl) []]
  by_cases hd : d = 0
  · subst hd
    have hjp : (p + 1).toNat = j := by omega
    have c1 : ((j : Int) ≤ p) = False := eq_false (by omega)
    simp [Try.f209, t7, t9, c1]
    rw [hjp]
    exact ⟨⟨by simp [t0], by simp [t6], by simp [t7]⟩, hX⟩
  · have c1 : ((j : Int) ≤ p) = True := eq_true (by omega)
    obtain ⟨bs1, x1, x2, x3⟩ := hX
    have w1 : IntKind.i64.wrap ((j : Int) + 1) = ((j + 1 : Nat) : Int) := by rw [wrap_i64 (n := (j : Int) + 1) (by omega) (by omega)]; omega
    have e1 := fun H => IdOfI_ev sv w j H m (by omega)
    have g := x1.gq
    have l0 : ldVar Try.prog 4 q 0 h = some (.bool S.sv) := by simp only [fiC] at g; simp [ldVar, g]
    obtain ⟨h2, e3, s2⟩ := add_ev x1 (idOf sv w j) m (by omega)
    have hadd : addAll S sv w (j + 1) F = addP S (addAll S sv w j F) (idOf sv w j) := rfl
    rw [hsv] at e1
    rw [← hsv] at e1
    have e1' : ∀ H, ev Try.prog m 37 [.bool (!S.sv), .bool w, .int .i64 j] H = some (.int .i64 (idOf sv w j), H) := fun H => by rw [← hsv]; exact e1 H
    simp [Try.f209, t0, t6, t7, t9, c1, l0, e1', e3, w1]
    refine ⟨d - 1, by omega, j + 1, by omega, ⟨by simp [t0], by simp [t6], by simp [t7]⟩, by simp, ?_⟩
    rw [hadd]
    exact StpI.trans x1 x2 x3 s2
theorem let_ev {S : Sup} {F : Fw} {k : Nat} {q mp op pt tl : Nat} {bs : List Nat} {h : AH} (X : FwI S F q mp op pt tl bs h) (G : F.good S k) (hk : k + 1 ≤ 400) (id : Int) (hid : idOk id) (m : Nat) (hm : 1020 ≤ m) :
    ∃ c h', ev Try.prog m 209 [.ptr q 0, .int .i64 id] h = some (.int .i64 c, h') ∧
      (idSv id ≠ S.sv ∧ F.i (idOw id) ≤ id / 4 → c = 9 ∧ h' = h) ∧
      (¬ (idSv id ≠ S.sv ∧ F.i (idOw id) ≤ id / 4) → StpI S (if idSv id ≠ S.sv then addAll S (idSv id) (idOw id) (id / 4 + 1).toNat F else F) q mp op pt tl bs h h' ∧
        c = if getsP S (if idSv id ≠ S.sv then addAll S (idSv id) (idOw id) (id / 4 + 1).toNat F else F).L id = none then 7 else 0) := by
  obtain ⟨m, rfl⟩ : ∃ k, m = k + 1 := ⟨m - 1, by omega⟩
  have e1 := IdPartsI_ev id h m (by omega)
  rw [if_pos hid] at e1
  have e2 := ours_ev X id m (by omega)
  have e3 := getting_ev X G id m (by omega)
  have g := X.gq
  have l12 : ldVar Try.prog 269 q 12 h = some (.map tl) := by simp only [fiC] at g; simp [ldVar, g]
  by_cases c1 : idSv id = S.sv
  · have c1' : (idSv id == S.sv) = true := by simpa using c1
    rw [c1'] at e2
    cases hs : getsP S F.L id with
    | none =>
      rw [hs] at e3
      simp only [ptrO] at e3
      refine ⟨7, h, ?_, fun h => absurd c1 h.1, fun _ => ⟨by simp only [ne_eq, c1, not_true_eq_false, if_false]; exact ⟨bs, X, KoS.refl _ _, fun b hb => .inl hb⟩, by simp [c1, hs]⟩⟩
      rw [ev_M Try.func209 ok209 [] m _ h (by simp [Try.f209])]
      simp [Try.f209, tm0, e1, e2, e3]
    | some i =>
      rw [hs] at e3
      simp only [ptrO] at e3
      refine ⟨0, h, ?_, fun h => absurd c1 h.1, fun _ => ⟨by simp only [ne_eq, c1, not_true_eq_false, if_false]; exact ⟨bs, X, KoS.refl _ _, fun b hb => .inl hb⟩, by simp [c1, hs]⟩⟩
      generalize bs.getD i 0 = b at *
      rw [ev_M Try.func209 ok209 [] m _ h (by simp [Try.f209])]
      simp [Try.f209, tm0, e1, e2, e3]
  · have c1' : (idSv id == S.sv) = false := by simpa using c1
    rw [c1'] at e2
    have lt := X.lt_ (idOw id)
    have hI := G.i (idOw id)
    have hkk := G.kk
    by_cases c4 : F.i (idOw id) ≤ id / 4
    · refine ⟨9, h, ?_, fun _ => ⟨rfl, rfl⟩, fun hn => absurd ⟨c1, c4⟩ hn⟩
      generalize F.i (idOw id) = I at *
      rw [ev_M Try.func209 ok209 [] m _ h (by simp [Try.f209])]
      simp [Try.f209, tm0, e1, e2, l12, lt, c4]
    · have c4' := eq_false c4
      have hsv : idSv id = !S.sv := by cases h1 : idSv id <;> cases h2 : S.sv <;> simp_all
      have hid' := hid
      unfold idOk at hid'
      have hal := leLoop (S := S) (F := F) (q := q) (mp := mp) (op := op) (pt := pt) (tl := tl) (bs := bs) (H := h) (h0 := h) (w := idOw id) (p := id / 4) hsv (by omega) m (by omega)
      have key : ∃ h', ev Try.prog (m + 1) 209 [.ptr q 0, .int .i64 id] h = some (.int .i64 0, h') ∧ StpI S (addAll S (idSv id) (idOw id) (id / 4 + 1).toNat F) q mp op pt tl bs h h' := by
        generalize F.i (idOw id) = I at *
        rw [ev_M Try.func209 ok209 [] m _ h (by simp [Try.f209])]
        simp [Try.f209, tm0, e1, e2, l12, lt, c4']
        generalize hLo : evLoop _ _ _ _ _ _ = R
        obtain ⟨e, τ', H', rfl, rfl, _, hst⟩ := loop_at hLo (hal _ ⟨0, by omega, ⟨by simp, by simp, by simp⟩, by simp, bs, X, KoS.refl _ _, fun b hb => .inl hb⟩)
        exact ⟨H', by simp, hst⟩
      obtain ⟨h', e5, s5⟩ := key
      refine ⟨0, h', e5, fun hn => absurd hn.2 c4, fun _ => ⟨by simp only [ne_eq, c1, not_false_eq_true, if_true]; exact s5, ?_⟩⟩
      have hne : getsP S (addAll S (idSv id) (idOw id) (id / 4 + 1).toNat F).L id ≠ none := by
        unfold getsP
        rw [if_neg (by simp [hid, c1])]
        have e6 : (id / 4 + 1).toNat = (id / 4).toNat + 1 := by omega
        rw [e6]
        have := addP_has S (addAll S (idSv id) (idOw id) (id / 4).toNat F) id
        have e7 : addAll S (idSv id) (idOw id) ((id / 4).toNat + 1) F = addP S (addAll S (idSv id) (idOw id) (id / 4).toNat F) id := by
          simp only [addAll]
          have : (((id / 4).toNat : Nat) : Int) = id / 4 := by omega
          rw [this, idOf_id hid]
        rw [e7]; exact this
      rw [if_pos c1, if_neg hne]
end Go.Ev

/- Credit: what arrives, in the program, whole. -/
namespace Go.Ev
open Go Go.Proofs
set_option linter.unusedSimpArgs false
set_option linter.unusedVariables false

theorem getsP_st {S : Sup} {L : List Bk} {id : Int} {i : Nat} (h : getsP S L id = some i) : stIx L id = some i := by
  unfold getsP at h
  split at h
  · simp at h
  · exact h
/-- the last steps of what arrives -/
theorem arI2 {S : Sup} {F : Fw} {k : Nat} {q mp op pt tl : Nat} {bs : List Nat} {h : AH} (X : FwI S F q mp op pt tl bs h) (G : F.good S k) (id n : Int) (hn : inW n) {i : Nat} (hs : getsP S F.L id = some i) (m : Nat) (τ : Tm) (t0 : τ 0 = .ptr q 0) (t1 : τ 1 = .int .i64 id) (t2 : τ 2 = .int .i64 n) :
    ∃ c F' h', resM Try.prog [.tmp 6] (evAt Try.prog (ev Try.prog m) m 112 15 τ h) = some (.int .i64 c, h') ∧ StpI S F' q mp op pt tl bs h h' ∧
      (F', c) = (if (F.at_ i).to < max n (F.at_ i).ca ∨ F.tc - (sumI Bk.ca F.L - (F.at_ i).ca) < max n (F.at_ i).ca then (F, 8) else (F.upd i fun s => { s with ca := max n (F.at_ i).ca }, 0)) := by
  have g := X.gq
  have l9 : ldVar Try.prog 268 q 9 h = some (.map mp) := by simp only [fiC] at g; simp [ldVar, g]
  have lk := X.look id
  rw [strm_o, getsP_st hs] at lk
  simp only [ptrO] at lk
  have hi := getsP_lt hs
  have gb := X.gb i hi
  obtain ⟨u0, u1, u2, u3, u4, u5, u6⟩ := X.nds hi
  have hgs := G.at_ hi
  rw [at_L hi] at hgs
  have h1 := hgs.re; have h2 := hgs.ca; have h3 := hgs.to; have h4 := G.ca; have h5 := G.tc; have hkk := G.kk
  have hcm := sumI_mem (good_ca G) F.L[i] (List.getElem_mem hi)
  rw [at_L hi]
  unfold inW at hn
  have l2 : ldVar Try.prog 3 (bs.getD i 0) 2 h = some (.int .i64 F.L[i].to) := by simp only [Bk.c5] at gb; simp only [ldVar, gb]; simp
  have l3 : ldVar Try.prog 3 (bs.getD i 0) 3 h = some (.int .i64 F.L[i].ca) := by simp only [Bk.c5] at gb; simp only [ldVar, gb]; simp
  have l15 : ldVar Try.prog 3 q 15 h = some (.int .i64 F.tc) := by simp only [fiC] at g; simp [ldVar, g]
  have l16 : ldVar Try.prog 3 q 16 h = some (.int .i64 (sumI Bk.ca F.L)) := by simp only [fiC] at g; simp [ldVar, g]
  generalize hM : max 0 (n - F.L[i].ca) = M at *
  have hmx : (if F.L[i].ca < n then n - F.L[i].ca else 0) = M := by rw [← hM]; split <;> omega
  have hK : max n F.L[i].ca = F.L[i].ca + M := by omega
  rw [hK]
  have w1 : IntKind.i64.wrap (n - F.L[i].ca) = n - F.L[i].ca := wrap_i64 (n := n - F.L[i].ca) (by omega) (by omega)
  have w2 : IntKind.i64.wrap (sumI Bk.ca F.L + M) = sumI Bk.ca F.L + M := wrap_i64 (n := sumI Bk.ca F.L + M) (by omega) (by omega)
  by_cases c1 : F.L[i].to < n
  · rw [if_pos (.inl (by omega))]
    refine ⟨8, F, h, ?_, ⟨bs, X, KoS.refl _ _, fun b hb => .inl hb⟩, rfl⟩
    generalize bs.getD i 0 = b at *
    rw [at_M Try.func112 15 (by decide) 4 (by decide) (by kernel_rfl) []]
    simp [Try.f112, t0, t1, t2, l9, lk, l2, l3, w1, mx2, foldA, hmx, c1, evHist, ObsOk, ObOk, List.getElem?_cons_zero]
  · have c1' := eq_false c1
    by_cases c2 : F.tc < sumI Bk.ca F.L + M
    · rw [if_pos (.inr (by omega))]
      refine ⟨8, F, h, ?_, ⟨bs, X, KoS.refl _ _, fun b hb => .inl hb⟩, rfl⟩
      generalize bs.getD i 0 = b at *
      rw [at_M Try.func112 15 (by decide) 4 (by decide) (by kernel_rfl) []]
      simp [Try.f112, t0, t1, t2, l9, lk, l2, l3, l15, l16, w1, w2, mx2, foldA, hmx, c1', c2, evHist, ObsOk, ObOk, List.getElem?_cons_zero]
    · rw [if_neg (by omega)]
      have c2' := eq_false c2
      have w3 : IntKind.i64.wrap (F.L[i].ca + M) = F.L[i].ca + M := wrap_i64 (n := F.L[i].ca + M) (by omega) (by omega)
      have hsum : sumI Bk.ca (F.L.set i { F.L[i] with ca := F.L[i].ca + M }) = sumI Bk.ca F.L + M := by rw [sumI_set Bk.ca F.L i hi]; simp only; omega
      have hsum2 : sumI Bk.se (F.L.set i { F.L[i] with ca := F.L[i].ca + M }) = sumI Bk.se F.L := by rw [sumI_set Bk.se F.L i hi]; simp only; omega
      have s3 : stVar Try.prog 3 (bs.getD i 0) 3 (.int .i64 (F.L[i].ca + M)) h = some (h.set (bs.getD i 0) (.cells 277 false (Bk.c5 { F.L[i] with ca := F.L[i].ca + M }))) := by simp only [Bk.c5] at gb ⊢; simp only [stVar, gb]; simp [spl]
      have gB : (h.set (bs.getD i 0) (.cells 277 false (Bk.c5 { F.L[i] with ca := F.L[i].ca + M }))).get q = some (.cells 271 false (fiC S F mp op pt tl)) := by rw [AH.set_getN _ _ (fun e => u2 e.symm)]; exact g
      refine ⟨0, _, (h.set (bs.getD i 0) (.cells 277 false (Bk.c5 { F.L[i] with ca := F.L[i].ca + M }))).set q (.cells 271 false (fiC S (F.upd i fun s => { s with ca := F.L[i].ca + M }) mp op pt tl)), ?_, ⟨bs, ?_, ((KoS.refl _ _).set1 (mem6 u0) _).set1 (by simp) _, fun b hb => .inl hb⟩, rfl⟩
      · have l16' : ldVar Try.prog 3 q 16 (h.set (bs.getD i 0) (.cells 277 false (Bk.c5 { F.L[i] with ca := F.L[i].ca + M }))) = some (.int .i64 (sumI Bk.ca F.L)) := by simp only [fiC] at gB; simp only [ldVar, gB]; simp
        have s16 : stVar Try.prog 3 q 16 (.int .i64 (sumI Bk.ca F.L + M)) (h.set (bs.getD i 0) (.cells 277 false (Bk.c5 { F.L[i] with ca := F.L[i].ca + M }))) = some ((h.set (bs.getD i 0) (.cells 277 false (Bk.c5 { F.L[i] with ca := F.L[i].ca + M }))).set q (.cells 271 false (fiC S (F.upd i fun s => { s with ca := F.L[i].ca + M }) mp op pt tl))) := by
          simp only [fiC, Fw.upd, at_L hi, hsum, hsum2] at gB ⊢
          simp only [stVar, gB]; simp [spl]
        generalize h.set (bs.getD i 0) (.cells 277 false (Bk.c5 { F.L[i] with ca := F.L[i].ca + M })) = B at *
        generalize bs.getD i 0 = b at *
        rw [at_M Try.func112 15 (by decide) 4 (by decide) (by kernel_rfl) []]
        simp [Try.f112, t0, t1, t2, l9, lk, l2, l3, l15, l16, w1, w2, w3, mx2, foldA, hmx, c1', c2', s3, l16', s16, evHist, ObsOk, ObOk, List.getElem?_cons_zero]
      · refine X.upd hi { F.L[i] with ca := F.L[i].ca + M } rfl (by simp only [Fw.upd, at_L hi]) ⟨rfl, rfl⟩ ⟨rfl, rfl⟩ ⟨rfl, rfl⟩ (by simp) (by simp) (by rw [AH.set_getN _ _ u2]; simp) (fun x hx hxb => ?_)
        have hxq : x ≠ q := fun e => by have := X.nd; rw [List.nodup_cons] at this; exact this.1 (e ▸ hx)
        rw [AH.set_getN _ _ hxq, AH.set_getN _ _ hxb]
theorem arriveI_ev {S : Sup} {F : Fw} {k : Nat} {q mp op pt tl : Nat} {bs : List Nat} {h : AH} (X : FwI S F q mp op pt tl bs h) (G : F.good S k) (hk : k + 1 ≤ 400) (id n : Int) (m : Nat) (hm : 1030 ≤ m) :
    ∃ h', ev Try.prog m 112 [.ptr q 0, .int .i64 id, .int .i64 n] h = some (.int .i64 (arriveP S F id n).2, h') ∧ StpI S (arriveP S F id n).1 q mp op pt tl bs h h' := by
  obtain ⟨m, rfl⟩ : ∃ k, m = k + 1 := ⟨m - 1, by omega⟩
  have e1 := IdPartsI_ev id h m (by omega)
  have e2 := fun H => inVarF_ev n H m (by omega)
  have st0 : StpI S F q mp op pt tl bs h h := ⟨bs, X, KoS.refl _ _, fun b hb => .inl hb⟩
  unfold arriveP
  by_cases c1 : idOk id
  · rw [if_pos c1] at e1
    by_cases c2 : inW n
    · rw [if_neg (by simp [c1, c2])]
      obtain ⟨c, h1, e3, f1, f2⟩ := let_ev X G hk id c1 m (by omega)
      by_cases c3 : idSv id ≠ S.sv ∧ F.i (idOw id) ≤ id / 4
      · rw [if_pos c3]
        obtain ⟨rfl, rfl⟩ := f1 c3
        refine ⟨h1, ?_, st0⟩
        rw [ev_M Try.func112 ok112 [] m _ h1 (by simp [Try.f112])]
        simp [Try.f112, tm0, e1, e2, c2, e3]
      · rw [if_neg c3]
        obtain ⟨s1, hc⟩ := f2 c3
        have hG : (if idSv id ≠ S.sv then addAll S (idSv id) (idOw id) (id / 4 + 1).toNat F else F).good S (k + 1) := by
          split
          · rename_i hne
            have hI := G.i (idOw id)
            have hkk := G.kk
            have : ¬ (F.i (idOw id) ≤ id / 4) := fun h => c3 ⟨hne, h⟩
            exact addAll_good G hk hne _ (by omega)
          · exact G.mono (by omega) hk
        dsimp only
        generalize (if idSv id ≠ S.sv then addAll S (idSv id) (idOw id) (id / 4 + 1).toNat F else F) = H at *
        cases hs : getsP S H.L id with
        | none =>
          rw [hs] at hc
          simp only [if_true] at hc
          subst hc
          refine ⟨h1, ?_, s1⟩
          rw [ev_M Try.func112 ok112 [] m _ h (by simp [Try.f112])]
          simp [Try.f112, tm0, e1, e2, c2, e3]
        | some i =>
          rw [hs] at hc
          simp only [reduceCtorEq, if_false] at hc
          subst hc
          obtain ⟨bs1, x1, x2, x3⟩ := s1
          have hh : ∃ τ', ev Try.prog (m + 1) 112 [.ptr q 0, .int .i64 id, .int .i64 n] h = resM Try.prog [.tmp 6] (evAt Try.prog (ev Try.prog m) m 112 15 τ' h1) ∧ τ' 0 = .ptr q 0 ∧ τ' 1 = .int .i64 id ∧ τ' 2 = .int .i64 n := by
            rw [ev_M Try.func112 ok112 [15] m _ h (by simp [Try.f112])]
            exact ⟨_, by simp [Try.f112, tm0, e1, e2, c2, e3]; rfl, by simp [tm0], by simp [tm0], by simp [tm0]⟩
          obtain ⟨τ1, e4, t0, t1, t2⟩ := hh
          obtain ⟨c, F', h', e5, s5, g5⟩ := arI2 x1 hG id n c2 hs m τ1 t0 t1 t2
          have s6 := StpI.trans x1 x2 x3 s5
          dsimp only
          rw [← g5]
          exact ⟨h', by rw [e4, e5], s6⟩
    · rw [if_pos (.inr c2)]
      refine ⟨h, ?_, st0⟩
      rw [ev_M Try.func112 ok112 [] m _ h (by simp [Try.f112])]
      simp [Try.f112, tm0, e1, e2, c2]
  · rw [if_neg c1] at e1
    rw [if_pos (.inl c1)]
    refine ⟨h, ?_, st0⟩
    rw [ev_M Try.func112 ok112 [] m _ h (by simp [Try.f112])]
    simp [Try.f112, tm0, e1, U]
end Go.Ev

/- Credit: the program reads. -/
namespace Go.Ev
open Go Go.Proofs
set_option linter.unusedSimpArgs false
set_option linter.unusedVariables false

structure RiT (τ : Tm) (q b : Nat) (id : Int) (va : AV) : Prop where
  t0 : τ 0 = .ptr q 0
  t1 : τ 1 = .int .i64 id
  t8 : τ 8 = .ptr b 0
  t9 : τ 9 = va
structure RiF (va : AV) (l : List Fr) (bo : List Nat) (lo : Nat) (H : AH) : Prop where
  R : (Ty.sl 72 tT72).R true H [va] l bo
  nd : bo.Nodup
  lo : ∀ b ∈ bo, lo ≤ b
set_option maxRecDepth 20000 in
theorem riB {S : Sup} {F : Fw} {q mp op pt tl : Nat} {bs : List Nat} {H : AH} {i : Nat} {id : Int} {va : AV} {bo : List Nat} {lo : Nat} (X : FwI S F q mp op pt tl bs H) (hi : i < F.L.length) (hid : InK .i64 id) (h1 : -1000000000 ≤ F.L[i].re ∧ F.L[i].re ≤ 1000000000) (h2 : -1000000000 ≤ F.L[i].to ∧ F.L[i].to ≤ 1000000000) (h3 : S.ok)
    (A : RiF va [] bo lo H) (hbo : ∀ b ∈ bo, b ∉ q :: mp :: op :: pt :: tl :: bs) (hlo : lo ≤ H.next) (m : Nat) (hm : 10 ≤ m) (τ : Tm) (T : RiT τ q (bs.getD i 0) id va) :
    ∃ τ' H' va' bo', evAt Try.prog (ev Try.prog m) m 113 255 τ H = evAt Try.prog (ev Try.prog m) m 113 511 τ' H' ∧ RiT τ' q (bs.getD i 0) id va' ∧ FwI S (F.upd i fun s => { s with to := creditP F.L[i].re S.sw F.L[i].to }) q mp op pt tl bs H' ∧
      RiF va' (if creditP F.L[i].re S.sw F.L[i].to ≠ F.L[i].to then [frm 17 id (creditP F.L[i].re S.sw F.L[i].to)] else []) bo' lo H' ∧ (∀ b ∈ bo', b ∈ bo ∨ H.next ≤ b) ∧ KoS (bo ++ (q :: mp :: op :: pt :: tl :: bs)) H H' := by
  obtain ⟨t0, t1, t8, t9⟩ := T
  obtain ⟨hR, hnd, hlob⟩ := A
  have g := X.gq
  have gb := X.gb i hi
  obtain ⟨u0, u1, u2, u3, u4, u5, u6⟩ := X.nds hi
  have e2 := fun H => CreditI_ev F.L[i].re S.sw F.L[i].to H m (by omega)
  have ct : InK .i64 (creditP F.L[i].re S.sw F.L[i].to) := by
    have := h3.sw
    unfold creditP; split
    · exact InK.i64 (by omega) (by omega)
    · split <;> exact InK.i64 (by omega) (by omega)
  have ls : ldVar Try.prog 3 q 2 H = some (.int .i64 S.sw) := by simp only [fiC] at g; simp [ldVar, g]
  have l2 : ldVar Try.prog 3 (bs.getD i 0) 2 H = some (.int .i64 F.L[i].to) := by simp only [Bk.c5] at gb; simp only [ldVar, gb]; simp
  have l4 : ldVar Try.prog 3 (bs.getD i 0) 4 H = some (.int .i64 F.L[i].re) := by simp only [Bk.c5] at gb; simp only [ldVar, gb]; simp
  have hbb : bs.getD i 0 ∉ bo := fun h => hbo _ h (mem6 u0)
  by_cases hne : creditP F.L[i].re S.sw F.L[i].to = F.L[i].to
  · have hne' : (creditP F.L[i].re S.sw F.L[i].to != F.L[i].to) = false := by simpa using hne
    have hF : (F.upd i fun s => { s with to := creditP F.L[i].re S.sw F.L[i].to }) = F := by
      rw [hne]
      simp only [Fw.upd, at_L hi]
      have : F.L.set i { F.L[i] with to := F.L[i].to } = F.L := by
        have : ({ F.L[i] with to := F.L[i].to } : Bk) = F.L[i] := rfl
        rw [this]; exact List.set_getElem_self hi
      rw [this]
    rw [hF, if_neg (by simpa using hne)]
    have hex : ∃ τ', evAt Try.prog (ev Try.prog m) m 113 255 τ H = evAt Try.prog (ev Try.prog m) m 113 511 τ' H ∧ RiT τ' q (bs.getD i 0) id va := by
      generalize bs.getD i 0 = b at *
      generalize creditP F.L[i].re S.sw F.L[i].to = t at *
      rw [at_M Try.func113 255 (by decide) 8 (by decide) (by kernel_rfl) [511]]
      exact ⟨_, by simp [Try.f113, t0, t8, ls, l2, l4, e2, hne', evHist, ObsOk, ObOk, List.getElem?_cons_zero]; rfl, by simp [t0], by simp [t1], by simp [t8], by simp [t9]⟩
    obtain ⟨τ', e3, T'⟩ := hex
    exact ⟨τ', H, va, bo, e3, T', X, ⟨hR, hnd, hlob⟩, fun b hb => .inl hb, KoS.refl _ _⟩
  · have hne' : (creditP F.L[i].re S.sw F.L[i].to != F.L[i].to) = true := by simpa using hne
    rw [if_pos hne]
    have hsum : sumI Bk.se (F.L.set i { F.L[i] with to := creditP F.L[i].re S.sw F.L[i].to }) = sumI Bk.se F.L := by rw [sumI_set Bk.se F.L i hi]; simp only; omega
    have hsum2 : sumI Bk.ca (F.L.set i { F.L[i] with to := creditP F.L[i].re S.sw F.L[i].to }) = sumI Bk.ca F.L := by rw [sumI_set Bk.ca F.L i hi]; simp only; omega
    have s2 : stVar Try.prog 3 (bs.getD i 0) 2 (.int .i64 (creditP F.L[i].re S.sw F.L[i].to)) H = some (H.set (bs.getD i 0) (.cells 277 false (Bk.c5 { F.L[i] with to := creditP F.L[i].re S.sw F.L[i].to }))) := by simp only [Bk.c5] at gb ⊢; simp only [stVar, gb]; simp [spl]
    have X1 : FwI S (F.upd i fun s => { s with to := creditP F.L[i].re S.sw F.L[i].to }) q mp op pt tl bs (H.set (bs.getD i 0) (.cells 277 false (Bk.c5 { F.L[i] with to := creditP F.L[i].re S.sw F.L[i].to }))) := by
      refine X.upd hi { F.L[i] with to := creditP F.L[i].re S.sw F.L[i].to } rfl (by simp only [Fw.upd, at_L hi]) ⟨rfl, rfl⟩ ⟨rfl, rfl⟩ ⟨rfl, rfl⟩ (by simp) ?_ (by simp) (fun x hx hxb => AH.set_getN _ _ hxb)
      rw [AH.set_getN _ _ (fun e => u2 e.symm), g]
      simp only [fiC, Fw.upd, at_L hi, hsum, hsum2]
    have hR1 : (Ty.sl 72 tT72).R true (H.set (bs.getD i 0) (.cells 277 false (Bk.c5 { F.L[i] with to := creditP F.L[i].re S.sw F.L[i].to }))) [va] [] bo := hR.stay (by simp) fun x hx => AH.set_getN _ _ (fun e => hbb (e ▸ hx))
    have kB : KoS (bo ++ (q :: mp :: op :: pt :: tl :: bs)) H (H.set (bs.getD i 0) (.cells 277 false (Bk.c5 { F.L[i] with to := creditP F.L[i].re S.sw F.L[i].to }))) := (KoS.refl _ _).set1 (List.mem_append_right _ (mem6 u0)) _
    have nB : (H.set (bs.getD i 0) (.cells 277 false (Bk.c5 { F.L[i] with to := creditP F.L[i].re S.sw F.L[i].to }))).next = H.next := rfl
    generalize H.set (bs.getD i 0) (.cells 277 false (Bk.c5 { F.L[i] with to := creditP F.L[i].re S.sw F.L[i].to })) = B at *
    obtain ⟨vb, Y, bo', a1, a2, a3, a4, a5⟩ := app72 (k := 17) (a := id) (b := creditP F.L[i].re S.sw F.L[i].to) hR1 hnd (InK.i64 (by omega) (by omega)) hid ct (by simp)
    have X2 : FwI S (F.upd i fun s => { s with to := creditP F.L[i].re S.sw F.L[i].to }) q mp op pt tl bs Y := X1.stay a5.next fun x hx => a5.get x (X1.lt x hx) (fun hb => hbo x hb hx)
    have hex : ∃ τ', evAt Try.prog (ev Try.prog m) m 113 255 τ H = evAt Try.prog (ev Try.prog m) m 113 511 τ' Y ∧ RiT τ' q (bs.getD i 0) id vb := by
      simp only [frmC] at a1
      generalize bs.getD i 0 = b at *
      generalize creditP F.L[i].re S.sw F.L[i].to = t at *
      rw [at_M Try.func113 255 (by decide) 8 (by decide) (by kernel_rfl) [511]]
      exact ⟨_, by simp [Try.f113, t0, t1, t8, t9, ls, l2, l4, e2, hne', s2, fillA, zerosA, spl, a1, evHist, ObsOk, ObOk, List.getElem?_cons_zero]; rfl, by simp [t0], by simp [t1], by simp [t8], by simp⟩
    obtain ⟨τ', e3, T'⟩ := hex
    refine ⟨τ', Y, vb, bo', e3, T', X2, ⟨a2, a3, fun x hx => (a4 x hx).elim (hlob x) (fun h => by omega)⟩, fun x hx => (a4 x hx).imp (fun h => h) (fun h => by omega), kB.trans a5 (fun x hx => .inl (List.mem_append_left _ hx))⟩
set_option maxRecDepth 20000 in
theorem riC {S : Sup} {F : Fw} {q mp op pt tl b : Nat} {bs : List Nat} {H : AH} {id : Int} {va : AV} {l : List Fr} {bo : List Nat} {lo : Nat} (X : FwI S F q mp op pt tl bs H) (h1 : -1000000000 ≤ F.rc ∧ F.rc ≤ 1000000000) (h2 : -1000000000 ≤ F.tc ∧ F.tc ≤ 1000000000) (h3 : S.ok) (hl : l.length ≤ 5)
    (A : RiF va l bo lo H) (hbo : ∀ b ∈ bo, b ∉ q :: mp :: op :: pt :: tl :: bs) (hlo : lo ≤ H.next) (m : Nat) (hm : 10 ≤ m) (τ : Tm) (T : RiT τ q b id va) :
    ∃ H' va' bo', resM Try.prog [.tmp 6, .tmp 7] (evAt Try.prog (ev Try.prog m) m 113 511 τ H) = some (.tuple [va', .int .i64 0], H') ∧ FwI S { F with tc := creditP F.rc S.cw F.tc } q mp op pt tl bs H' ∧
      RiF va' (l ++ (if creditP F.rc S.cw F.tc ≠ F.tc then [frm 16 (creditP F.rc S.cw F.tc) 0] else [])) bo' lo H' ∧ (∀ b ∈ bo', b ∈ bo ∨ H.next ≤ b) ∧ KoS (bo ++ (q :: mp :: op :: pt :: tl :: bs)) H H' := by
  obtain ⟨t0, t1, t8, t9⟩ := T
  obtain ⟨hR, hnd, hlob⟩ := A
  have g := X.gq
  have e2 := fun H => CreditI_ev F.rc S.cw F.tc H m (by omega)
  have ct : InK .i64 (creditP F.rc S.cw F.tc) := by
    have := h3.cw
    unfold creditP; split
    · exact InK.i64 (by omega) (by omega)
    · split <;> exact InK.i64 (by omega) (by omega)
  have ls : ldVar Try.prog 3 q 1 H = some (.int .i64 S.cw) := by simp only [fiC] at g; simp [ldVar, g]
  have l15 : ldVar Try.prog 3 q 15 H = some (.int .i64 F.tc) := by simp only [fiC] at g; simp [ldVar, g]
  have l17 : ldVar Try.prog 3 q 17 H = some (.int .i64 F.rc) := by simp only [fiC] at g; simp [ldVar, g]
  by_cases hne : creditP F.rc S.cw F.tc = F.tc
  · have hne' : (creditP F.rc S.cw F.tc != F.tc) = false := by simpa using hne
    have hF : ({ F with tc := creditP F.rc S.cw F.tc } : Fw) = F := by rw [hne]
    rw [hF, if_neg (by simpa using hne), List.append_nil]
    refine ⟨H, va, bo, ?_, X, ⟨hR, hnd, hlob⟩, fun b hb => .inl hb, KoS.refl _ _⟩
    generalize creditP F.rc S.cw F.tc = t at *
    rw [at_M Try.func113 511 (by decide) 9 (by decide) (by kernel_rfl) []]
    simp [Try.f113, t0, t9, ls, l15, l17, e2, hne', evHist, ObsOk, ObOk, List.getElem?_cons_zero]
  · have hne' : (creditP F.rc S.cw F.tc != F.tc) = true := by simpa using hne
    rw [if_pos hne]
    have hqb : q ∉ bo := fun h => hbo q h (by simp)
    have s15 : stVar Try.prog 3 q 15 (.int .i64 (creditP F.rc S.cw F.tc)) H = some (H.set q (.cells 271 false (fiC S { F with tc := creditP F.rc S.cw F.tc } mp op pt tl))) := by simp only [fiC] at g ⊢; simp only [stVar, g]; simp [spl]
    have X1 : FwI S { F with tc := creditP F.rc S.cw F.tc } q mp op pt tl bs (H.set q (.cells 271 false (fiC S { F with tc := creditP F.rc S.cw F.tc } mp op pt tl))) := X.fld rfl ⟨rfl, rfl⟩ ⟨rfl, rfl⟩ ⟨rfl, rfl⟩ (by simp) (by simp) (fun x hx => AH.set_getN _ _ (fun e => by have := X.nd; rw [List.nodup_cons] at this; exact this.1 (e ▸ hx)))
    have hR1 : (Ty.sl 72 tT72).R true (H.set q (.cells 271 false (fiC S { F with tc := creditP F.rc S.cw F.tc } mp op pt tl))) [va] l bo := hR.stay (by simp) fun x hx => AH.set_getN _ _ (fun e => hqb (e ▸ hx))
    have kB : KoS (bo ++ (q :: mp :: op :: pt :: tl :: bs)) H (H.set q (.cells 271 false (fiC S { F with tc := creditP F.rc S.cw F.tc } mp op pt tl))) := (KoS.refl _ _).set1 (by simp) _
    have nB : (H.set q (.cells 271 false (fiC S { F with tc := creditP F.rc S.cw F.tc } mp op pt tl))).next = H.next := rfl
    generalize H.set q (.cells 271 false (fiC S { F with tc := creditP F.rc S.cw F.tc } mp op pt tl)) = B at *
    obtain ⟨vb, Y, bo', a1, a2, a3, a4, a5⟩ := app72 (k := 16) (a := creditP F.rc S.cw F.tc) (b := 0) hR1 hnd (InK.i64 (by omega) (by omega)) ct (InK.i64 (by omega) (by omega)) (by omega)
    have X2 : FwI S { F with tc := creditP F.rc S.cw F.tc } q mp op pt tl bs Y := X1.stay a5.next fun x hx => a5.get x (X1.lt x hx) (fun hb => hbo x hb hx)
    refine ⟨Y, vb, bo', ?_, X2, ⟨a2, a3, fun x hx => (a4 x hx).elim (hlob x) (fun h => by omega)⟩, fun x hx => (a4 x hx).imp (fun h => h) (fun h => by omega), kB.trans a5 (fun x hx => .inl (List.mem_append_left _ hx))⟩
    simp only [frmC] at a1
    generalize creditP F.rc S.cw F.tc = t at *
    rw [at_M Try.func113 511 (by decide) 9 (by decide) (by kernel_rfl) []]
    simp [Try.f113, t0, t9, ls, l15, l17, e2, hne', s15, fillA, zerosA, spl, a1, evHist, ObsOk, ObOk, List.getElem?_cons_zero]
end Go.Ev
