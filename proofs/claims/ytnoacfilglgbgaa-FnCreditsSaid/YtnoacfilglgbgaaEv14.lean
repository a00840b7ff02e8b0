/- Lemmas of an evaluator of the given code and of what the functions answer; no condition of its own. -/
import Derived.Test.YtnoacfilglgbgaaEv13
import Derived.Test.YtnoacfilglgbgaaEv7
import Derived.WideShapes
/- Credit: what arrives, in the program. -/
namespace Go.Ev
open Go Go.Proofs
set_option linter.unusedSimpArgs false
set_option linter.unusedVariables false

theorem idOf_id {id : Int} (h : idOk id) : idOf (idSv id) (idOw id) (id / 4) = id := by
  unfold idOk at h
  unfold idOf
  rw [if_neg (by omega)]
  unfold idSv idOw
  by_cases c1 : id % 2 = 1 <;> by_cases c2 : id / 2 % 2 = 1 <;> simp [c1, c2] <;> omega
theorem stIx_mem {L : List Bk} {id : Int} (h : ∃ s ∈ L, s.id = id) : stIx L id ≠ none := by
  intro e
  unfold stIx at e
  rw [List.findIdx?_eq_none_iff] at e
  obtain ⟨s, hs, hid⟩ := h
  have := e s hs
  simp [hid] at this
theorem addP_has (S : Sup) (F : Fw) (id : Int) : stIx (addP S F id).L id ≠ none := by
  unfold addP
  split
  · exact stIx_mem ⟨newBk S id, by simp [putP], rfl⟩
  · assumption
structure LeT (τ : Tm) (q : Nat) (w : Bool) (p : Int) : Prop where
  t0 : τ 0 = .ptr q 0
  t6 : τ 6 = .bool w
  t7 : τ 7 = .int .i64 p
def LeI (S : Sup) (F : Fw) (q mp op pt tl : Nat) (bs : List Nat) (H : AH) (sv w : Bool) (p : Int) (d : Nat) (τ : Tm) (h : AH) : Prop :=
  ∃ j : Nat, (j : Int) + d = p + 1 ∧ LeT τ q w p ∧ τ 9 = .int .i64 j ∧ StpI S (addAll S sv w j F) q mp op pt tl bs H h
set_option maxRecDepth 20000 in
theorem leLoop {S : Sup} {F : Fw} {q mp op pt tl : Nat} {bs : List Nat} {H h0 : AH} {sv w : Bool} {p : Int} (hsv : sv = !S.sv) (hp : 0 ≤ p ∧ p ≤ 1000) (m : Nat) (hm : 1010 ≤ m) (τ : Tm) (hI : LeI S F q mp op pt tl bs H sv w p (p + 1).toNat τ h0) :
    ∃ e τ' H', evLoop Try.prog (ev Try.prog m) m (lp Try.prog 209 506) τ h0 = some (e, τ', H') ∧ e = .exit 0 ∧ LeT τ' q w p ∧ StpI S (addAll S sv w (p + 1).toNat F) q mp op pt tl bs H H' := by
  refine loop_rule (d := (p + 1).toNat) (LeI S F q mp op pt tl bs H sv w p) (fun e τ h => e = .exit 0 ∧ LeT τ q w p ∧ StpI S (addAll S sv w (p + 1).toNat F) q mp op pt tl bs H h) ?_ hI (by omega)
  rintro d τ h ⟨j, hj, ⟨t0, t6, t7⟩, t9, hX⟩
  rw [lp_M Try.func209 506 (by decide) 9 (by decide) (by kernel_rfl) []]
  by_cases hd : d = 0
  · subst hd
    have hjp : (p + 1).toNat = j := by omega
    have c1 : ((j : Int) ≤ p) = False := eq_false (by omega)
    simp [Try.f209, t7, t9, c1]
    rw [hjp]
    exact ⟨⟨by simp [t0], by simp [t6], by simp [t7]⟩, hX⟩
  · have c1 : ((j : Int) ≤ p) = True := eq_true (by omega)
    obtain ⟨bs1, x1, x2, x3⟩ := hX
    have w1 : IntKind.i64.wrap ((j : Int) + 1) = ((j + 1 : Nat) : Int) := by rw [wrap_i64 (n := (j : Int) + 1) (by omega) (by omega)]; omega
    have e1 := fun H => IdOfI_ev sv w j H m (by omega)
    have g := x1.gq
    have l0 : ldVar Try.prog 4 q 0 h = some (.bool S.sv) := by simp only [fiC] at g; simp [ldVar, g]
    obtain ⟨h2, e3, s2⟩ := add_ev x1 (idOf sv w j) m (by omega)
    have hadd : addAll S sv w (j + 1) F = addP S (addAll S sv w j F) (idOf sv w j) := rfl
    rw [hsv] at e1
    rw [← hsv] at e1
    have e1' : ∀ H, ev Try.prog m 37 [.bool (!S.sv), .bool w, .int .i64 j] H = some (.int .i64 (idOf sv w j), H) := fun H => by rw [← hsv]; exact e1 H
    simp [Try.f209, t0, t6, t7, t9, c1, l0, e1', e3, w1]
    refine ⟨d - 1, by omega, j + 1, by omega, ⟨by simp [t0], by simp [t6], by simp [t7]⟩, by simp, ?_⟩
    rw [hadd]
    exact StpI.trans x1 x2 x3 s2
theorem let_ev {S : Sup} {F : Fw} {k : Nat} {q mp op pt tl : Nat} {bs : List Nat} {h : AH} (X : FwI S F q mp op pt tl bs h) (G : F.good S k) (hk : k + 1 ≤ 400) (id : Int) (hid : idOk id) (m : Nat) (hm : 1020 ≤ m) :
    ∃ c h', ev Try.prog m 209 [.ptr q 0, .int .i64 id] h = some (.int .i64 c, h') ∧
      (idSv id ≠ S.sv ∧ F.i (idOw id) ≤ id / 4 → c = 9 ∧ h' = h) ∧
      (¬ (idSv id ≠ S.sv ∧ F.i (idOw id) ≤ id / 4) → StpI S (if idSv id ≠ S.sv then addAll S (idSv id) (idOw id) (id / 4 + 1).toNat F else F) q mp op pt tl bs h h' ∧
        c = if getsP S (if idSv id ≠ S.sv then addAll S (idSv id) (idOw id) (id / 4 + 1).toNat F else F).L id = none then 7 else 0) := by
  obtain ⟨m, rfl⟩ : ∃ k, m = k + 1 := ⟨m - 1, by omega⟩
  have e1 := IdPartsI_ev id h m (by omega)
  rw [if_pos hid] at e1
  have e2 := ours_ev X id m (by omega)
  have e3 := getting_ev X G id m (by omega)
  have g := X.gq
  have l12 : ldVar Try.prog 269 q 12 h = some (.map tl) := by simp only [fiC] at g; simp [ldVar, g]
  by_cases c1 : idSv id = S.sv
  · have c1' : (idSv id == S.sv) = true := by simpa using c1
    rw [c1'] at e2
    cases hs : getsP S F.L id with
    | none =>
      rw [hs] at e3
      simp only [ptrO] at e3
      refine ⟨7, h, ?_, fun h => absurd c1 h.1, fun _ => ⟨by simp only [ne_eq, c1, not_true_eq_false, if_false]; exact ⟨bs, X, KoS.refl _ _, fun b hb => .inl hb⟩, by simp [c1, hs]⟩⟩
      rw [ev_M Try.func209 ok209 [] m _ h (by simp [Try.f209])]
      simp [Try.f209, tm0, e1, e2, e3]
    | some i =>
      rw [hs] at e3
      simp only [ptrO] at e3
      refine ⟨0, h, ?_, fun h => absurd c1 h.1, fun _ => ⟨by simp only [ne_eq, c1, not_true_eq_false, if_false]; exact ⟨bs, X, KoS.refl _ _, fun b hb => .inl hb⟩, by simp [c1, hs]⟩⟩
      generalize bs.getD i 0 = b at *
      rw [ev_M Try.func209 ok209 [] m _ h (by simp [Try.f209])]
      simp [Try.f209, tm0, e1, e2, e3]
  · have c1' : (idSv id == S.sv) = false := by simpa using c1
    rw [c1'] at e2
    have lt := X.lt_ (idOw id)
    have hI := G.i (idOw id)
    have hkk := G.kk
    by_cases c4 : F.i (idOw id) ≤ id / 4
    · refine ⟨9, h, ?_, fun _ => ⟨rfl, rfl⟩, fun hn => absurd ⟨c1, c4⟩ hn⟩
      generalize F.i (idOw id) = I at *
      rw [ev_M Try.func209 ok209 [] m _ h (by simp [Try.f209])]
      simp [Try.f209, tm0, e1, e2, l12, lt, c4]
    · have c4' := eq_false c4
      have hsv : idSv id = !S.sv := by cases h1 : idSv id <;> cases h2 : S.sv <;> simp_all
      have hid' := hid
      unfold idOk at hid'
      have hal := leLoop (S := S) (F := F) (q := q) (mp := mp) (op := op) (pt := pt) (tl := tl) (bs := bs) (H := h) (h0 := h) (w := idOw id) (p := id / 4) hsv (by omega) m (by omega)
      have key : ∃ h', ev Try.prog (m + 1) 209 [.ptr q 0, .int .i64 id] h = some (.int .i64 0, h') ∧ StpI S (addAll S (idSv id) (idOw id) (id / 4 + 1).toNat F) q mp op pt tl bs h h' := by
        generalize F.i (idOw id) = I at *
        rw [ev_M Try.func209 ok209 [] m _ h (by simp [Try.f209])]
        simp [Try.f209, tm0, e1, e2, l12, lt, c4']
        generalize hLo : evLoop _ _ _ _ _ _ = R
        obtain ⟨e, τ', H', rfl, rfl, _, hst⟩ := loop_at hLo (hal _ ⟨0, by omega, ⟨by simp, by simp, by simp⟩, by simp, bs, X, KoS.refl _ _, fun b hb => .inl hb⟩)
        exact ⟨H', by simp, hst⟩
      obtain ⟨h', e5, s5⟩ := key
      refine ⟨0, h', e5, fun hn => absurd hn.2 c4, fun _ => ⟨by simp only [ne_eq, c1, not_false_eq_true, if_true]; exact s5, ?_⟩⟩
      have hne : getsP S (addAll S (idSv id) (idOw id) (id / 4 + 1).toNat F).L id ≠ none := by
        unfold getsP
        rw [if_neg (by simp [hid, c1])]
        have e6 : (id / 4 + 1).toNat = (id / 4).toNat + 1 := by omega
        rw [e6]
        have := addP_has S (addAll S (idSv id) (idOw id) (id / 4).toNat F) id
        have e7 : addAll S (idSv id) (idOw id) ((id / 4).toNat + 1) F = addP S (addAll S (idSv id) (idOw id) (id / 4).toNat F) id := by
          simp only [addAll]
          have : (((id / 4).toNat : Nat) : Int) = id / 4 := by omega
          rw [this, idOf_id hid]
        rw [e7]; exact this
      rw [if_pos c1, if_neg hne]
end Go.Ev

/- Credit: what arrives, in the program, whole. -/
namespace Go.Ev
open Go Go.Proofs
set_option linter.unusedSimpArgs false
set_option linter.unusedVariables false

theorem getsP_st {S : Sup} {L : List Bk} {id : Int} {i : Nat} (h : getsP S L id = some i) : stIx L id = some i := by
  unfold getsP at h
  split at h
  · simp at h
  · exact h
/-- the last steps of what arrives -/
theorem arI2 {S : Sup} {F : Fw} {k : Nat} {q mp op pt tl : Nat} {bs : List Nat} {h : AH} (X : FwI S F q mp op pt tl bs h) (G : F.good S k) (id n : Int) (hn : inW n) {i : Nat} (hs : getsP S F.L id = some i) (m : Nat) (τ : Tm) (t0 : τ 0 = .ptr q 0) (t1 : τ 1 = .int .i64 id) (t2 : τ 2 = .int .i64 n) :
    ∃ c F' h', resM Try.prog [.tmp 6] (evAt Try.prog (ev Try.prog m) m 112 15 τ h) = some (.int .i64 c, h') ∧ StpI S F' q mp op pt tl bs h h' ∧
      (F', c) = (if (F.at_ i).to < max n (F.at_ i).ca ∨ F.tc - (sumI Bk.ca F.L - (F.at_ i).ca) < max n (F.at_ i).ca then (F, 8) else (F.upd i fun s => { s with ca := max n (F.at_ i).ca }, 0)) := by
  have g := X.gq
  have l9 : ldVar Try.prog 268 q 9 h = some (.map mp) := by simp only [fiC] at g; simp [ldVar, g]
  have lk := X.look id
  rw [strm_o, getsP_st hs] at lk
  simp only [ptrO] at lk
  have hi := getsP_lt hs
  have gb := X.gb i hi
  obtain ⟨u0, u1, u2, u3, u4, u5, u6⟩ := X.nds hi
  have hgs := G.at_ hi
  rw [at_L hi] at hgs
  have h1 := hgs.re; have h2 := hgs.ca; have h3 := hgs.to; have h4 := G.ca; have h5 := G.tc; have hkk := G.kk
  have hcm := sumI_mem (good_ca G) F.L[i] (List.getElem_mem hi)
  rw [at_L hi]
  unfold inW at hn
  have l2 : ldVar Try.prog 3 (bs.getD i 0) 2 h = some (.int .i64 F.L[i].to) := by simp only [Bk.c5] at gb; simp only [ldVar, gb]; simp
  have l3 : ldVar Try.prog 3 (bs.getD i 0) 3 h = some (.int .i64 F.L[i].ca) := by simp only [Bk.c5] at gb; simp only [ldVar, gb]; simp
  have l15 : ldVar Try.prog 3 q 15 h = some (.int .i64 F.tc) := by simp only [fiC] at g; simp [ldVar, g]
  have l16 : ldVar Try.prog 3 q 16 h = some (.int .i64 (sumI Bk.ca F.L)) := by simp only [fiC] at g; simp [ldVar, g]
  generalize hM : max 0 (n - F.L[i].ca) = M at *
  have hmx : (if F.L[i].ca < n then n - F.L[i].ca else 0) = M := by rw [← hM]; split <;> omega
  have hK : max n F.L[i].ca = F.L[i].ca + M := by omega
  rw [hK]
  have w1 : IntKind.i64.wrap (n - F.L[i].ca) = n - F.L[i].ca := wrap_i64 (n := n - F.L[i].ca) (by omega) (by omega)
  have w2 : IntKind.i64.wrap (sumI Bk.ca F.L + M) = sumI Bk.ca F.L + M := wrap_i64 (n := sumI Bk.ca F.L + M) (by omega) (by omega)
  by_cases c1 : F.L[i].to < n
  · rw [if_pos (.inl (by omega))]
    refine ⟨8, F, h, ?_, ⟨bs, X, KoS.refl _ _, fun b hb => .inl hb⟩, rfl⟩
    generalize bs.getD i 0 = b at *
    rw [at_M Try.func112 15 (by decide) 4 (by decide) (by kernel_rfl) []]
    simp [Try.f112, t0, t1, t2, l9, lk, l2, l3, w1, mx2, foldA, hmx, c1, evHist, ObsOk, ObOk, List.getElem?_cons_zero]
  · have c1' := eq_false c1
    by_cases c2 : F.tc < sumI Bk.ca F.L + M
    · rw [if_pos (.inr (by omega))]
      refine ⟨8, F, h, ?_, ⟨bs, X, KoS.refl _ _, fun b hb => .inl hb⟩, rfl⟩
      generalize bs.getD i 0 = b at *
      rw [at_M Try.func112 15 (by decide) 4 (by decide) (by kernel_rfl) []]
      simp [Try.f112, t0, t1, t2, l9, lk, l2, l3, l15, l16, w1, w2, mx2, foldA, hmx, c1', c2, evHist, ObsOk, ObOk, List.getElem?_cons_zero]
    · rw [if_neg (by omega)]
      have c2' := eq_false c2
      have w3 : IntKind.i64.wrap (F.L[i].ca + M) = F.L[i].ca + M := wrap_i64 (n := F.L[i].ca + M) (by omega) (by omega)
      have hsum : sumI Bk.ca (F.L.set i { F.L[i] with ca := F.L[i].ca + M }) = sumI Bk.ca F.L + M := by rw [sumI_set Bk.ca F.L i hi]; simp only; omega
      have hsum2 : sumI Bk.se (F.L.set i { F.L[i] with ca := F.L[i].ca + M }) = sumI Bk.se F.L := by rw [sumI_set Bk.se F.L i hi]; simp only; omega
      have s3 : stVar Try.prog 3 (bs.getD i 0) 3 (.int .i64 (F.L[i].ca + M)) h = some (h.set (bs.getD i 0) (.cells 277 false (Bk.c5 { F.L[i] with ca := F.L[i].ca + M }))) := by simp only [Bk.c5] at gb ⊢; simp only [stVar, gb]; simp [spl]
      have gB : (h.set (bs.getD i 0) (.cells 277 false (Bk.c5 { F.L[i] with ca := F.L[i].ca + M }))).get q = some (.cells 271 false (fiC S F mp op pt tl)) := by rw [AH.set_getN _ _ (fun e => u2 e.symm)]; exact g
      refine ⟨0, _, (h.set (bs.getD i 0) (.cells 277 false (Bk.c5 { F.L[i] with ca := F.L[i].ca + M }))).set q (.cells 271 false (fiC S (F.upd i fun s => { s with ca := F.L[i].ca + M }) mp op pt tl)), ?_, ⟨bs, ?_, ((KoS.refl _ _).set1 (mem6 u0) _).set1 (by simp) _, fun b hb => .inl hb⟩, rfl⟩
      · have l16' : ldVar Try.prog 3 q 16 (h.set (bs.getD i 0) (.cells 277 false (Bk.c5 { F.L[i] with ca := F.L[i].ca + M }))) = some (.int .i64 (sumI Bk.ca F.L)) := by simp only [fiC] at gB; simp only [ldVar, gB]; simp
        have s16 : stVar Try.prog 3 q 16 (.int .i64 (sumI Bk.ca F.L + M)) (h.set (bs.getD i 0) (.cells 277 false (Bk.c5 { F.L[i] with ca := F.L[i].ca + M }))) = some ((h.set (bs.getD i 0) (.cells 277 false (Bk.c5 { F.L[i] with ca := F.L[i].ca + M }))).set q (.cells 271 false (fiC S (F.upd i fun s => { s with ca := F.L[i].ca + M }) mp op pt tl))) := by
          simp only [fiC, Fw.upd, at_L hi, hsum, hsum2] at gB ⊢
          simp only [stVar, gB]; simp [spl]
        generalize h.set (bs.getD i 0) (.cells 277 false (Bk.c5 { F.L[i] with ca := F.L[i].ca + M })) = B at *
        generalize bs.getD i 0 = b at *
        rw [at_M Try.func112 15 (by decide) 4 (by decide) (by kernel_rfl) []]
        simp [Try.f112, t0, t1, t2, l9, lk, l2, l3, l15, l16, w1, w2, w3, mx2, foldA, hmx, c1', c2', s3, l16', s16, evHist, ObsOk, ObOk, List.getElem?_cons_zero]
      · refine X.upd hi { F.L[i] with ca := F.L[i].ca + M } rfl (by simp only [Fw.upd, at_L hi]) ⟨rfl, rfl⟩ ⟨rfl, rfl⟩ ⟨rfl, rfl⟩ (by simp) (by simp) (by rw [AH.set_getN _ _ u2]; simp) (fun x hx hxb => ?_)
        have hxq : x ≠ q := fun e => by have := X.nd; rw [List.nodup_cons] at this; exact this.1 (e ▸ hx)
        rw [AH.set_getN _ _ hxq, AH.set_getN _ _ hxb]
theorem arriveI_ev {S : Sup} {F : Fw} {k : Nat} {q mp op pt tl : Nat} {bs : List Nat} {h : AH} (X : FwI S F q mp op pt tl bs h) (G : F.good S k) (hk : k + 1 ≤ 400) (id n : Int) (m : Nat) (hm : 1030 ≤ m) :
    ∃ h', ev Try.prog m 112 [.ptr q 0, .int .i64 id, .int .i64 n] h = some (.int .i64 (arriveP S F id n).2, h') ∧ StpI S (arriveP S F id n).1 q mp op pt tl bs h h' := by
  obtain ⟨m, rfl⟩ : ∃ k, m = k + 1 := ⟨m - 1, by omega⟩
  have e1 := IdPartsI_ev id h m (by omega)
  have e2 := fun H => inVarF_ev n H m (by omega)
  have st0 : StpI S F q mp op pt tl bs h h := ⟨bs, X, KoS.refl _ _, fun b hb => .inl hb⟩
  unfold arriveP
  by_cases c1 : idOk id
  · rw [if_pos c1] at e1
    by_cases c2 : inW n
    · rw [if_neg (by simp [c1, c2])]
      obtain ⟨c, h1, e3, f1, f2⟩ := let_ev X G hk id c1 m (by omega)
      by_cases c3 : idSv id ≠ S.sv ∧ F.i (idOw id) ≤ id / 4
      · rw [if_pos c3]
        obtain ⟨rfl, rfl⟩ := f1 c3
        refine ⟨h1, ?_, st0⟩
        rw [ev_M Try.func112 ok112 [] m _ h1 (by simp [Try.f112])]
        simp [Try.f112, tm0, e1, e2, c2, e3]
      · rw [if_neg c3]
        obtain ⟨s1, hc⟩ := f2 c3
        have hG : (if idSv id ≠ S.sv then addAll S (idSv id) (idOw id) (id / 4 + 1).toNat F else F).good S (k + 1) := by
          split
          · rename_i hne
            have hI := G.i (idOw id)
            have hkk := G.kk
            have : ¬ (F.i (idOw id) ≤ id / 4) := fun h => c3 ⟨hne, h⟩
            exact addAll_good G hk hne _ (by omega)
          · exact G.mono (by omega) hk
        dsimp only
        generalize (if idSv id ≠ S.sv then addAll S (idSv id) (idOw id) (id / 4 + 1).toNat F else F) = H at *
        cases hs : getsP S H.L id with
        | none =>
          rw [hs] at hc
          simp only [if_true] at hc
          subst hc
          refine ⟨h1, ?_, s1⟩
          rw [ev_M Try.func112 ok112 [] m _ h (by simp [Try.f112])]
          simp [Try.f112, tm0, e1, e2, c2, e3]
        | some i =>
          rw [hs] at hc
          simp only [reduceCtorEq, if_false] at hc
          subst hc
          obtain ⟨bs1, x1, x2, x3⟩ := s1
          have hh : ∃ τ', ev Try.prog (m + 1) 112 [.ptr q 0, .int .i64 id, .int .i64 n] h = resM Try.prog [.tmp 6] (evAt Try.prog (ev Try.prog m) m 112 15 τ' h1) ∧ τ' 0 = .ptr q 0 ∧ τ' 1 = .int .i64 id ∧ τ' 2 = .int .i64 n := by
            rw [ev_M Try.func112 ok112 [15] m _ h (by simp [Try.f112])]
            exact ⟨_, by simp [Try.f112, tm0, e1, e2, c2, e3]; rfl, by simp [tm0], by simp [tm0], by simp [tm0]⟩
          obtain ⟨τ1, e4, t0, t1, t2⟩ := hh
          obtain ⟨c, F', h', e5, s5, g5⟩ := arI2 x1 hG id n c2 hs m τ1 t0 t1 t2
          have s6 := StpI.trans x1 x2 x3 s5
          dsimp only
          rw [← g5]
          exact ⟨h', by rw [e4, e5], s6⟩
    · rw [if_pos (.inr c2)]
      refine ⟨h, ?_, st0⟩
      rw [ev_M Try.func112 ok112 [] m _ h (by simp [Try.f112])]
      simp [Try.f112, tm0, e1, e2, c2]
  · rw [if_neg c1] at e1
    rw [if_pos (.inl c1)]
    refine ⟨h, ?_, st0⟩
    rw [ev_M Try.func112 ok112 [] m _ h (by simp [Try.f112])]
    simp [Try.f112, tm0, e1, U]
end Go.Ev

/- Credit: the program reads. -/
namespace Go.Ev
open Go Go.Proofs
set_option linter.unusedSimpArgs false
set_option linter.unusedVariables false

structure RiT (τ : Tm) (q b : Nat) (id : Int) (va : AV) : Prop where
  t0 : τ 0 = .ptr q 0
  t1 : τ 1 = .int .i64 id
  t8 : τ 8 = .ptr b 0
  t9 : τ 9 = va
structure RiF (va : AV) (l : List Fr) (bo : List Nat) (lo : Nat) (H : AH) : Prop where
  R : (Ty.sl 72 tT72).R true H [va] l bo
  nd : bo.Nodup
  lo : ∀ b ∈ bo, lo ≤ b
set_option maxRecDepth 20000 in
theorem riB {S : Sup} {F : Fw} {q mp op pt tl : Nat} {bs : List Nat} {H : AH} {i : Nat} {id : Int} {va : AV} {bo : List Nat} {lo : Nat} (X : FwI S F q mp op pt tl bs H) (hi : i < F.L.length) (hid : InK .i64 id) (h1 : -1000000000 ≤ F.L[i].re ∧ F.L[i].re ≤ 1000000000) (h2 : -1000000000 ≤ F.L[i].to ∧ F.L[i].to ≤ 1000000000) (h3 : S.ok)
    (A : RiF va [] bo lo H) (hbo : ∀ b ∈ bo, b ∉ q :: mp :: op :: pt :: tl :: bs) (hlo : lo ≤ H.next) (m : Nat) (hm : 10 ≤ m) (τ : Tm) (T : RiT τ q (bs.getD i 0) id va) :
    ∃ τ' H' va' bo', evAt Try.prog (ev Try.prog m) m 113 255 τ H = evAt Try.prog (ev Try.prog m) m 113 511 τ' H' ∧ RiT τ' q (bs.getD i 0) id va' ∧ FwI S (F.upd i fun s => { s with to := creditP F.L[i].re S.sw F.L[i].to }) q mp op pt tl bs H' ∧
      RiF va' (if creditP F.L[i].re S.sw F.L[i].to ≠ F.L[i].to then [frm 17 id (creditP F.L[i].re S.sw F.L[i].to)] else []) bo' lo H' ∧ (∀ b ∈ bo', b ∈ bo ∨ H.next ≤ b) ∧ KoS (bo ++ (q :: mp :: op :: pt :: tl :: bs)) H H' := by
  obtain ⟨t0, t1, t8, t9⟩ := T
  obtain ⟨hR, hnd, hlob⟩ := A
  have g := X.gq
  have gb := X.gb i hi
  obtain ⟨u0, u1, u2, u3, u4, u5, u6⟩ := X.nds hi
  have e2 := fun H => CreditI_ev F.L[i].re S.sw F.L[i].to H m (by omega)
  have ct : InK .i64 (creditP F.L[i].re S.sw F.L[i].to) := by
    have := h3.sw
    unfold creditP; split
    · exact InK.i64 (by omega) (by omega)
    · split <;> exact InK.i64 (by omega) (by omega)
  have ls : ldVar Try.prog 3 q 2 H = some (.int .i64 S.sw) := by simp only [fiC] at g; simp [ldVar, g]
  have l2 : ldVar Try.prog 3 (bs.getD i 0) 2 H = some (.int .i64 F.L[i].to) := by simp only [Bk.c5] at gb; simp only [ldVar, gb]; simp
  have l4 : ldVar Try.prog 3 (bs.getD i 0) 4 H = some (.int .i64 F.L[i].re) := by simp only [Bk.c5] at gb; simp only [ldVar, gb]; simp
  have hbb : bs.getD i 0 ∉ bo := fun h => hbo _ h (mem6 u0)
  by_cases hne : creditP F.L[i].re S.sw F.L[i].to = F.L[i].to
  · have hne' : (creditP F.L[i].re S.sw F.L[i].to != F.L[i].to) = false := by simpa using hne
    have hF : (F.upd i fun s => { s with to := creditP F.L[i].re S.sw F.L[i].to }) = F := by
      rw [hne]
      simp only [Fw.upd, at_L hi]
      have : F.L.set i { F.L[i] with to := F.L[i].to } = F.L := by
        have : ({ F.L[i] with to := F.L[i].to } : Bk) = F.L[i] := rfl
        rw [this]; exact List.set_getElem_self hi
      rw [this]
    rw [hF, if_neg (by simpa using hne)]
    have hex : ∃ τ', evAt Try.prog (ev Try.prog m) m 113 255 τ H = evAt Try.prog (ev Try.prog m) m 113 511 τ' H ∧ RiT τ' q (bs.getD i 0) id va := by
      generalize bs.getD i 0 = b at *
      generalize creditP F.L[i].re S.sw F.L[i].to = t at *
      rw [at_M Try.func113 255 (by decide) 8 (by decide) (by kernel_rfl) [511]]
      exact ⟨_, by simp [Try.f113, t0, t8, ls, l2, l4, e2, hne', evHist, ObsOk, ObOk, List.getElem?_cons_zero]; rfl, by simp [t0], by simp [t1], by simp [t8], by simp [t9]⟩
    obtain ⟨τ', e3, T'⟩ := hex
    exact ⟨τ', H, va, bo, e3, T', X, ⟨hR, hnd, hlob⟩, fun b hb => .inl hb, KoS.refl _ _⟩
  · have hne' : (creditP F.L[i].re S.sw F.L[i].to != F.L[i].to) = true := by simpa using hne
    rw [if_pos hne]
    have hsum : sumI Bk.se (F.L.set i { F.L[i] with to := creditP F.L[i].re S.sw F.L[i].to }) = sumI Bk.se F.L := by rw [sumI_set Bk.se F.L i hi]; simp only; omega
    have hsum2 : sumI Bk.ca (F.L.set i { F.L[i] with to := creditP F.L[i].re S.sw F.L[i].to }) = sumI Bk.ca F.L := by rw [sumI_set Bk.ca F.L i hi]; simp only; omega
    have s2 : stVar Try.prog 3 (bs.getD i 0) 2 (.int .i64 (creditP F.L[i].re S.sw F.L[i].to)) H = some (H.set (bs.getD i 0) (.cells 277 false (Bk.c5 { F.L[i] with to := creditP F.L[i].re S.sw F.L[i].to }))) := by simp only [Bk.c5] at gb ⊢; simp only [stVar, gb]; simp [spl]
    have X1 : FwI S (F.upd i fun s => { s with to := creditP F.L[i].re S.sw F.L[i].to }) q mp op pt tl bs (H.set (bs.getD i 0) (.cells 277 false (Bk.c5 { F.L[i] with to := creditP F.L[i].re S.sw F.L[i].to }))) := by
      refine X.upd hi { F.L[i] with to := creditP F.L[i].re S.sw F.L[i].to } rfl (by simp only [Fw.upd, at_L hi]) ⟨rfl, rfl⟩ ⟨rfl, rfl⟩ ⟨rfl, rfl⟩ (by simp) ?_ (by simp) (fun x hx hxb => AH.set_getN _ _ hxb)
      rw [AH.set_getN _ _ (fun e => u2 e.symm), g]
      simp only [fiC, Fw.upd, at_L hi, hsum, hsum2]
    have hR1 : (Ty.sl 72 tT72).R true (H.set (bs.getD i 0) (.cells 277 false (Bk.c5 { F.L[i] with to := creditP F.L[i].re S.sw F.L[i].to }))) [va] [] bo := hR.stay (by simp) fun x hx => AH.set_getN _ _ (fun e => hbb (e ▸ hx))
    have kB : KoS (bo ++ (q :: mp :: op :: pt :: tl :: bs)) H (H.set (bs.getD i 0) (.cells 277 false (Bk.c5 { F.L[i] with to := creditP F.L[i].re S.sw F.L[i].to }))) := (KoS.refl _ _).set1 (List.mem_append_right _ (mem6 u0)) _
    have nB : (H.set (bs.getD i 0) (.cells 277 false (Bk.c5 { F.L[i] with to := creditP F.L[i].re S.sw F.L[i].to }))).next = H.next := rfl
    generalize H.set (bs.getD i 0) (.cells 277 false (Bk.c5 { F.L[i] with to := creditP F.L[i].re S.sw F.L[i].to })) = B at *
    obtain ⟨vb, Y, bo', a1, a2, a3, a4, a5⟩ := app72 (k := 17) (a := id) (b := creditP F.L[i].re S.sw F.L[i].to) hR1 hnd (InK.i64 (by omega) (by omega)) hid ct (by simp)
    have X2 : FwI S (F.upd i fun s => { s with to := creditP F.L[i].re S.sw F.L[i].to }) q mp op pt tl bs Y := X1.stay a5.next fun x hx => a5.get x (X1.lt x hx) (fun hb => hbo x hb hx)
    have hex : ∃ τ', evAt Try.prog (ev Try.prog m) m 113 255 τ H = evAt Try.prog (ev Try.prog m) m 113 511 τ' Y ∧ RiT τ' q (bs.getD i 0) id vb := by
      simp only [frmC] at a1
      generalize bs.getD i 0 = b at *
      generalize creditP F.L[i].re S.sw F.L[i].to = t at *
      rw [at_M Try.func113 255 (by decide) 8 (by decide) (by kernel_rfl) [511]]
      exact ⟨_, by simp [Try.f113, t0, t1, t8, t9, ls, l2, l4, e2, hne', s2, fillA, zerosA, spl, a1, evHist, ObsOk, ObOk, List.getElem?_cons_zero]; rfl, by simp [t0], by simp [t1], by simp [t8], by simp⟩
    obtain ⟨τ', e3, T'⟩ := hex
    refine ⟨τ', Y, vb, bo', e3, T', X2, ⟨a2, a3, fun x hx => (a4 x hx).elim (hlob x) (fun h => by omega)⟩, fun x hx => (a4 x hx).imp (fun h => h) (fun h => by omega), kB.trans a5 (fun x hx => .inl (List.mem_append_left _ hx))⟩
set_option maxRecDepth 20000 in
theorem riC {S : Sup} {F : Fw} {q mp op pt tl b : Nat} {bs : List Nat} {H : AH} {id : Int} {va : AV} {l : List Fr} {bo : List Nat} {lo : Nat} (X : FwI S F q mp op pt tl bs H) (h1 : -1000000000 ≤ F.rc ∧ F.rc ≤ 1000000000) (h2 : -1000000000 ≤ F.tc ∧ F.tc ≤ 1000000000) (h3 : S.ok) (hl : l.length ≤ 5)
    (A : RiF va l bo lo H) (hbo : ∀ b ∈ bo, b ∉ q :: mp :: op :: pt :: tl :: bs) (hlo : lo ≤ H.next) (m : Nat) (hm : 10 ≤ m) (τ : Tm) (T : RiT τ q b id va) :
    ∃ H' va' bo', resM Try.prog [.tmp 6, .tmp 7] (evAt Try.prog (ev Try.prog m) m 113 511 τ H) = some (.tuple [va', .int .i64 0], H') ∧ FwI S { F with tc := creditP F.rc S.cw F.tc } q mp op pt tl bs H' ∧
      RiF va' (l ++ (if creditP F.rc S.cw F.tc ≠ F.tc then [frm 16 (creditP F.rc S.cw F.tc) 0] else [])) bo' lo H' ∧ (∀ b ∈ bo', b ∈ bo ∨ H.next ≤ b) ∧ KoS (bo ++ (q :: mp :: op :: pt :: tl :: bs)) H H' := by
  obtain ⟨t0, t1, t8, t9⟩ := T
  obtain ⟨hR, hnd, hlob⟩ := A
  have g := X.gq
  have e2 := fun H => CreditI_ev F.rc S.cw F.tc H m (by omega)
  have ct : InK .i64 (creditP F.rc S.cw F.tc) := by
    have := h3.cw
    unfold creditP; split
    · exact InK.i64 (by omega) (by omega)
    · split <;> exact InK.i64 (by omega) (by omega)
  have ls : ldVar Try.prog 3 q 1 H = some (.int .i64 S.cw) := by simp only [fiC] at g; simp [ldVar, g]
  have l15 : ldVar Try.prog 3 q 15 H = some (.int .i64 F.tc) := by simp only [fiC] at g; simp [ldVar, g]
  have l17 : ldVar Try.prog 3 q 17 H = some (.int .i64 F.rc) := by simp only [fiC] at g; simp [ldVar, g]
  by_cases hne : creditP F.rc S.cw F.tc = F.tc
  · have hne' : (creditP F.rc S.cw F.tc != F.tc) = false := by simpa using hne
    have hF : ({ F with tc := creditP F.rc S.cw F.tc } : Fw) = F := by rw [hne]
    rw [hF, if_neg (by simpa using hne), List.append_nil]
    refine ⟨H, va, bo, ?_, X, ⟨hR, hnd, hlob⟩, fun b hb => .inl hb, KoS.refl _ _⟩
    generalize creditP F.rc S.cw F.tc = t at *
    rw [at_M Try.func113 511 (by decide) 9 (by decide) (by kernel_rfl) []]
    simp [Try.f113, t0, t9, ls, l15, l17, e2, hne', evHist, ObsOk, ObOk, List.getElem?_cons_zero]
  · have hne' : (creditP F.rc S.cw F.tc != F.tc) = true := by simpa using hne
    rw [if_pos hne]
    have hqb : q ∉ bo := fun h => hbo q h (by simp)
    have s15 : stVar Try.prog 3 q 15 (.int .i64 (creditP F.rc S.cw F.tc)) H = some (H.set q (.cells 271 false (fiC S { F with tc := creditP F.rc S.cw F.tc } mp op pt tl))) := by simp only [fiC] at g ⊢; simp only [stVar, g]; simp [spl]
    have X1 : FwI S { F with tc := creditP F.rc S.cw F.tc } q mp op pt tl bs (H.set q (.cells 271 false (fiC S { F with tc := creditP F.rc S.cw F.tc } mp op pt tl))) := X.fld rfl ⟨rfl, rfl⟩ ⟨rfl, rfl⟩ ⟨rfl, rfl⟩ (by simp) (by simp) (fun x hx => AH.set_getN _ _ (fun e => by have := X.nd; rw [List.nodup_cons] at this; exact this.1 (e ▸ hx)))
    have hR1 : (Ty.sl 72 tT72).R true (H.set q (.cells 271 false (fiC S { F with tc := creditP F.rc S.cw F.tc } mp op pt tl))) [va] l bo := hR.stay (by simp) fun x hx => AH.set_getN _ _ (fun e => hqb (e ▸ hx))
    have kB : KoS (bo ++ (q :: mp :: op :: pt :: tl :: bs)) H (H.set q (.cells 271 false (fiC S { F with tc := creditP F.rc S.cw F.tc } mp op pt tl))) := (KoS.refl _ _).set1 (by simp) _
    have nB : (H.set q (.cells 271 false (fiC S { F with tc := creditP F.rc S.cw F.tc } mp op pt tl))).next = H.next := rfl
    generalize H.set q (.cells 271 false (fiC S { F with tc := creditP F.rc S.cw F.tc } mp op pt tl)) = B at *
    obtain ⟨vb, Y, bo', a1, a2, a3, a4, a5⟩ := app72 (k := 16) (a := creditP F.rc S.cw F.tc) (b := 0) hR1 hnd (InK.i64 (by omega) (by omega)) ct (InK.i64 (by omega) (by omega)) (by omega)
    have X2 : FwI S { F with tc := creditP F.rc S.cw F.tc } q mp op pt tl bs Y := X1.stay a5.next fun x hx => a5.get x (X1.lt x hx) (fun hb => hbo x hb hx)
    refine ⟨Y, vb, bo', ?_, X2, ⟨a2, a3, fun x hx => (a4 x hx).elim (hlob x) (fun h => by omega)⟩, fun x hx => (a4 x hx).imp (fun h => h) (fun h => by omega), kB.trans a5 (fun x hx => .inl (List.mem_append_left _ hx))⟩
    simp only [frmC] at a1
    generalize creditP F.rc S.cw F.tc = t at *
    rw [at_M Try.func113 511 (by decide) 9 (by decide) (by kernel_rfl) []]
    simp [Try.f113, t0, t9, ls, l15, l17, e2, hne', s15, fillA, zerosA, spl, a1, evHist, ObsOk, ObOk, List.getElem?_cons_zero]
end Go.Ev

/- Credit: the program reads, whole. -/
namespace Go.Ev
open Go Go.Proofs
set_option linter.unusedSimpArgs false
set_option linter.unusedVariables false

theorem empty72 {H : AH} {p : Nat} (hp : p < H.next) (hg : H.get p = some (.cells 72 false [])) : (Ty.sl 72 tT72).R true H [.slice p 0 0] [] [p] :=
  .inr ⟨p, 0, false, [], [], rfl, rfl, hp, hg, fun _ => ⟨rfl, rfl, by simp⟩, by simp, by simp [Rows]⟩
theorem readI_ev' {S : Sup} {F : Fw} {k : Nat} {q mp op pt tl : Nat} {bs : List Nat} {h : AH} (X : FwI S F q mp op pt tl bs h) (G : F.good S k) (id n : Int) (m : Nat) (hm : 20 ≤ m) :
    ∃ r c l h', ev Try.prog m 113 [.ptr q 0, .int .i64 id, .int .i64 n] h = some (.tuple [r, .int .i64 c], h') ∧ (readP S F id n).2 = ob c 0 0 l ∧ StpF S (readP S F id n).1 l q mp op pt tl bs h h' r := by
  obtain ⟨m, rfl⟩ : ∃ k, m = k + 1 := ⟨m - 1, by omega⟩
  have g := X.gq
  have e1 := getting_ev X G id m (by omega)
  have bad : ∀ c : Int, StpF S F [] q mp op pt tl bs h h .nilSlice := fun c => ⟨bs, [], X, KoS.refl _ _, fun b hb => .inl hb, nil72, by simp, by simp, by simp⟩
  unfold readP
  cases hs : getsP S F.L id with
  | none =>
    rw [hs] at e1
    simp only [ptrO] at e1
    refine ⟨.nilSlice, 7, [], h, ?_, rfl, bad 7⟩
    rw [ev_M Try.func113 ok113 [] m _ h (by simp [Try.f113])]
    simp [Try.f113, tm0, e1]
  | some i =>
    rw [hs] at e1
    simp only [ptrO] at e1
    have hi := getsP_lt hs
    have hid := getsP_ix hs
    have hidK : InK .i64 id := by unfold idOk at hid; exact InK.i64 (by omega) (by omega)
    have gb := X.gb i hi
    obtain ⟨u0, u1, u2, u3, u4, u5, u6⟩ := X.nds hi
    have hgs := G.bk F.L[i] (List.getElem_mem hi)
    have hre := sumI_mem (f := Bk.re) (fun s hs => (G.bk s hs).re.1) F.L[i] (List.getElem_mem hi)
    have hrn := sumI_nn (f := Bk.re) (fun s hs => (G.bk s hs).re.1)
    have hrc := G.rc
    have hsr : sumI Bk.re F.L ≤ sumI Bk.ca F.L := sumI_le fun s hs => (G.bk s hs).re.2
    have hca := sumI_mem (good_ca G) F.L[i] (List.getElem_mem hi)
    have hC := G.ca; have hT := G.tc; have hkk := G.kk
    have g1 := hgs.re; have g2 := hgs.ca; have g3 := hgs.to
    have l3 : ldVar Try.prog 3 (bs.getD i 0) 3 h = some (.int .i64 F.L[i].ca) := by simp only [Bk.c5] at gb; simp only [ldVar, gb]; simp
    have l4 : ldVar Try.prog 3 (bs.getD i 0) 4 h = some (.int .i64 F.L[i].re) := by simp only [Bk.c5] at gb; simp only [ldVar, gb]; simp
    have w1 : IntKind.i64.wrap (F.L[i].ca - F.L[i].re) = F.L[i].ca - F.L[i].re := wrap_i64 (n := F.L[i].ca - F.L[i].re) (by omega) (by omega)
    dsimp only
    rw [at_L hi]
    by_cases c1 : n < 1 ∨ F.L[i].ca - F.L[i].re < n
    · rw [if_pos c1]
      refine ⟨.nilSlice, 1, [], h, ?_, rfl, bad 1⟩
      generalize bs.getD i 0 = b at *
      rw [ev_M Try.func113 ok113 [] m _ h (by simp [Try.f113])]
      by_cases c2 : n < 1
      · simp [Try.f113, tm0, e1, c2, l3, l4, w1, U, evHist, ObsOk, ObOk, List.getElem?_cons_zero]
      · have c3 : F.L[i].ca - F.L[i].re < n := by omega
        simp [Try.f113, tm0, e1, c2, c3, l3, l4, w1, evHist, ObsOk, ObOk, List.getElem?_cons_zero]
    · rw [if_neg c1]
      have c2 : (n < 1) = False := eq_false (by omega)
      have c3 : (F.L[i].ca - F.L[i].re < n) = False := eq_false (by omega)
      have w2 : IntKind.i64.wrap (F.L[i].re + n) = F.L[i].re + n := wrap_i64 (n := F.L[i].re + n) (by omega) (by omega)
      have w3 : IntKind.i64.wrap (F.rc + n) = F.rc + n := wrap_i64 (n := F.rc + n) (by omega) (by omega)
      have hsum : sumI Bk.se (F.L.set i { F.L[i] with re := F.L[i].re + n }) = sumI Bk.se F.L := by rw [sumI_set Bk.se F.L i hi]; simp only; omega
      have hsum2 : sumI Bk.ca (F.L.set i { F.L[i] with re := F.L[i].re + n }) = sumI Bk.ca F.L := by rw [sumI_set Bk.ca F.L i hi]; simp only; omega
      have s4 : stVar Try.prog 3 (bs.getD i 0) 4 (.int .i64 (F.L[i].re + n)) h = some (h.set (bs.getD i 0) (.cells 277 false (Bk.c5 { F.L[i] with re := F.L[i].re + n }))) := by simp only [Bk.c5] at gb ⊢; simp only [stVar, gb]; simp [spl]
      have gB : (h.set (bs.getD i 0) (.cells 277 false (Bk.c5 { F.L[i] with re := F.L[i].re + n }))).get q = some (.cells 271 false (fiC S F mp op pt tl)) := by rw [AH.set_getN _ _ (fun e => u2 e.symm)]; exact g
      have l17' : ldVar Try.prog 3 q 17 (h.set (bs.getD i 0) (.cells 277 false (Bk.c5 { F.L[i] with re := F.L[i].re + n }))) = some (.int .i64 F.rc) := by simp only [fiC] at gB; simp only [ldVar, gB]; simp
      have s17 : stVar Try.prog 3 q 17 (.int .i64 (F.rc + n)) (h.set (bs.getD i 0) (.cells 277 false (Bk.c5 { F.L[i] with re := F.L[i].re + n }))) = some ((h.set (bs.getD i 0) (.cells 277 false (Bk.c5 { F.L[i] with re := F.L[i].re + n }))).set q (.cells 271 false (fiC S { (F.upd i fun s => { s with re := s.re + n }) with rc := F.rc + n } mp op pt tl))) := by
        simp only [fiC, Fw.upd, at_L hi, hsum, hsum2] at gB ⊢
        simp only [stVar, gB]; simp [spl]
      have X1 : FwI S { (F.upd i fun s => { s with re := s.re + n }) with rc := F.rc + n } q mp op pt tl bs ((h.set (bs.getD i 0) (.cells 277 false (Bk.c5 { F.L[i] with re := F.L[i].re + n }))).set q (.cells 271 false (fiC S { (F.upd i fun s => { s with re := s.re + n }) with rc := F.rc + n } mp op pt tl))) := by
        refine X.upd hi { F.L[i] with re := F.L[i].re + n } rfl (by simp only [Fw.upd, at_L hi]) ⟨rfl, rfl⟩ ⟨rfl, rfl⟩ ⟨rfl, rfl⟩ (by simp) (by simp) (by rw [AH.set_getN _ _ u2]; simp) (fun x hx hxb => ?_)
        have hxq : x ≠ q := fun e => by have := X.nd; rw [List.nodup_cons] at this; exact this.1 (e ▸ hx)
        rw [AH.set_getN _ _ hxq, AH.set_getN _ _ hxb]
      have kC : KoS (q :: mp :: op :: pt :: tl :: bs) h ((h.set (bs.getD i 0) (.cells 277 false (Bk.c5 { F.L[i] with re := F.L[i].re + n }))).set q (.cells 271 false (fiC S { (F.upd i fun s => { s with re := s.re + n }) with rc := F.rc + n } mp op pt tl))) := ((KoS.refl _ _).set1 (mem6 u0) _).set1 (by simp) _
      have nC : ((h.set (bs.getD i 0) (.cells 277 false (Bk.c5 { F.L[i] with re := F.L[i].re + n }))).set q (.cells 271 false (fiC S { (F.upd i fun s => { s with re := s.re + n }) with rc := F.rc + n } mp op pt tl))).next = h.next := rfl
      generalize hBB : h.set (bs.getD i 0) (.cells 277 false (Bk.c5 { F.L[i] with re := F.L[i].re + n })) = B at *
      generalize hCC : B.set q (.cells 271 false (fiC S { (F.upd i fun s => { s with re := s.re + n }) with rc := F.rc + n } mp op pt tl)) = C at *
      have kD : Kp C (C.push (.cells 72 false [])) := (Kp.refl C).push _
      have X2 := X1.kp kD
      have hhead : ∃ τ', ev Try.prog (m + 1) 113 [.ptr q 0, .int .i64 id, .int .i64 n] h = resM Try.prog [.tmp 6, .tmp 7] (evAt Try.prog (ev Try.prog m) m 113 255 τ' (C.push (.cells 72 false []))) ∧ RiT τ' q (bs.getD i 0) id (.slice h.next 0 0) := by
        generalize bs.getD i 0 = b at *
        rw [ev_M Try.func113 ok113 [255] m _ h (by simp [Try.f113])]
        exact ⟨_, by simp [Try.f113, tm0, e1, c2, c3, l3, l4, w1, w2, w3, s4, l17', s17, zerosA, evHist, ObsOk, ObOk, List.getElem?_cons_zero]; rfl, by simp [tm0], by simp [tm0], by simp, by simp [nC]⟩
      obtain ⟨τ1, e3, T1⟩ := hhead
      have hL1 : ({ (F.upd i fun s => { s with re := s.re + n }) with rc := F.rc + n } : Fw).L = F.L.set i { F.L[i] with re := F.L[i].re + n } := by simp only [Fw.upd, at_L hi]
      have hlen : i < ({ (F.upd i fun s => { s with re := s.re + n }) with rc := F.rc + n } : Fw).L.length := by rw [hL1]; simpa using hi
      have hget : ({ (F.upd i fun s => { s with re := s.re + n }) with rc := F.rc + n } : Fw).L[i] = { F.L[i] with re := F.L[i].re + n } := by simp [Fw.upd, at_L hi]
      have hlt := X.lt
      obtain ⟨τ2, H2, va, bo, e4, T2, X3, A3, f3, k3⟩ := riB (va := .slice h.next 0 0) (bo := [h.next]) (lo := h.next) X2 hlen hidK (by rw [hget]; simp only; omega) (by rw [hget]; simp only; omega) G.sup ⟨empty72 (by simp [nC]) (by simp [nC]), by simp, by simp⟩ (fun x hx hxx => by simp at hx; have := hlt x hxx; omega) (by simp [nC]) m (by omega) τ1 T1
      rw [hget] at A3 X3
      simp only at A3 X3
      have n3 := k3.next
      simp [nC] at n3
      have hlo3 := A3.lo
      obtain ⟨H3, vb, bo', e5, X4, A4, f4, k4⟩ := riC (lo := h.next) X3 (by simp only [Fw.upd]; omega) (by simp only [Fw.upd]; omega) G.sup (by split <;> simp) A3 (fun x hx hxx => by have := hlt x hxx; have := hlo3 x hx; omega) (by omega) m (by omega) τ2 T2
      have hlo4 := A4.lo
      refine ⟨vb, 0, _, H3, by rw [e3, e4, e5], rfl, bs, bo', ?_, ?_, fun b hb => .inl hb, A4.R, A4.nd, hlo4, fun b hb hx => by have := hlt b (mem6 hx); have := hlo4 b hb; omega⟩
      · have hF : ({ ({ (F.upd i fun s => { s with re := s.re + n }) with rc := F.rc + n } : Fw).upd i (fun s => { s with to := creditP (F.L[i].re + n) S.sw F.L[i].to }) with tc := creditP (F.rc + n) S.cw F.tc } : Fw) = { (F.upd i fun s => { s with re := s.re + n, to := creditP (F.L[i].re + n) S.sw F.L[i].to }) with rc := F.rc + n, tc := creditP (F.rc + n) S.cw F.tc } := by
          simp only [Fw.upd, Fw.at_, List.set_set]
          simp [hi]
        have hF2 : ({ (F.upd i fun s => { s with re := s.re + n, to := creditP (F.L[i].re + n) S.sw F.L[i].to }) with rc := F.rc + n, tc := creditP (F.rc + n) S.cw F.tc } : Fw).L = ({ ({ (F.upd i fun s => { s with re := s.re + n }) with rc := F.rc + n } : Fw).upd i (fun s => { s with to := creditP (F.L[i].re + n) S.sw F.L[i].to }) with tc := creditP (F.rc + n) S.cw F.tc } : Fw).L := by rw [hF]
        rw [← hF]; exact X4
      · refine ⟨by have := k4.next; omega, fun x hx hxx => ?_⟩
        rw [k4.get x (by omega) (fun h => by rcases List.mem_append.1 h with h | h; have := hlo3 x h; omega; exact hxx h), k3.get x (by simp [nC]; omega) (fun h => by rcases List.mem_append.1 h with h | h; simp at h; omega; exact hxx h), kD.get x (by omega)]
        exact kC.get x hx hxx
end Go.Ev

/- Credit: one operation of the program. -/
namespace Go.Ev
open Go Go.Proofs
set_option linter.unusedSimpArgs false
set_option linter.unusedVariables false

theorem newI_ev (S : Sup) (H : AH) (m : Nat) (hm : 2 ≤ m) : ∃ H', ev Try.prog m 109 [.agg (suC S)] H = some (.ptr (H.next + 5) 0, H') ∧ FwI S (Fw0 S) (H.next + 5) (H.next + 1) (H.next + 2) (H.next + 3) (H.next + 4) [] H' ∧ Kp H H' := by
  obtain ⟨m, rfl⟩ : ∃ k, m = k + 1 := ⟨m - 1, by omega⟩
  have key : ∃ H', ev Try.prog (m + 1) 109 [.agg (suC S)] H = some (.ptr (H.next + 5) 0, H') ∧ H'.next = H.next + 6 ∧ (∀ b, b < H.next → H'.get b = H.get b) ∧ H'.get (H.next + 5) = some (.cells 271 false (fiC S (Fw0 S) (H.next + 1) (H.next + 2) (H.next + 3) (H.next + 4))) ∧ H'.get (H.next + 1) = some (.map []) ∧ H'.get (H.next + 2) = some (.map []) ∧
      H'.get (H.next + 3) = some (.map [(.bool false, .int .i64 S.ptw), (.bool true, .int .i64 S.pow)]) ∧ H'.get (H.next + 4) = some (.map [(.bool false, .int .i64 S.tw), (.bool true, .int .i64 S.ow)]) := by
    obtain ⟨sv, cw, sw, tw, ow, pc, ps, ptw, pow⟩ := S
    simp only [suC, fiC, Fw0, sumI]
    have q1 : ¬ (H.next = H.next + 1) := by omega
    have q2 : ¬ (H.next = H.next + 1 + 1) := by omega
    have q3 : ¬ (H.next = H.next + 1 + 1 + 1) := by omega
    have q4 : ¬ (H.next = H.next + 1 + 1 + 1 + 1) := by omega
    rw [ev_M Try.func109 ok109 [] m _ H (by simp [Try.f109])]
    refine ⟨_, by simp [Try.f109, tm0, ldVar, updA, mapT, keyOk, mapPut, findA, sameK, fillA, spl, q1, q2, q3, q4]; rfl, ?_⟩
    refine ⟨by simp, fun b hb => ?_, ?_, ?_, ?_, ?_, ?_⟩
    · have h0 : ¬ (b = H.next) := by omega
      have h1 : ¬ (b = H.next + 1) := by omega
      have h2 : ¬ (b = H.next + 2) := by omega
      have h3 : ¬ (b = H.next + 3) := by omega
      have h4 : ¬ (b = H.next + 4) := by omega
      have h5 : ¬ (b = H.next + 5) := by omega
      simp [AH.push_get, AH.set_get, h0, h1, h2, h3, h4, h5]
    all_goals simp [AH.push_get, AH.set_get]
  obtain ⟨H', e1, n1, k1, g5, g1, g2, g3, g4⟩ := key
  refine ⟨H', e1, ⟨g5, by rw [g1]; simp [ents, Fw0], ⟨[], g2, .inl ⟨rfl, rfl, rfl⟩⟩, ⟨_, g3, .inr (.inr (.inr (.inl rfl)))⟩, ⟨_, g4, .inr (.inr (.inr (.inl rfl)))⟩, rfl, by simp [Fw0], by simp, by simp; omega⟩, ⟨by omega, k1⟩⟩
structure DiT (τ : Tm) (q p9 p10 : Nat) (k : Int) : Prop where
  t6 : τ 6 = .ptr q 0
  t9 : τ 9 = .ptr p9 0
  t10 : τ 10 = .ptr p10 0
  t28 : τ 28 = .int .i64 k
structure DiK (τ τ' : Tm) : Prop where
  k0 : τ' 7 = τ 7
  k1 : τ' 20 = τ 20
  k2 : τ' 21 = τ 21
  k3 : τ' 22 = τ 22
  k4 : τ' 6 = τ 6
  k5 : τ' 10 = τ 10
/-- an operation and its answer -/
def StpG (S : Sup) (F' : Fw) (d : Ob) (q mp op pt tl : Nat) (bs : List Nat) (h h' : AH) (p10 : Nat) : Prop :=
  ∃ bs' bo c, FwI S F' q mp op pt tl bs' h' ∧ KoS (p10 :: q :: mp :: op :: pt :: tl :: bs) h h' ∧ (∀ b ∈ bs', b ∈ bs ∨ h.next ≤ b) ∧ tT63.R true h' c d bo ∧ bo.Nodup ∧ (∀ b ∈ bo, h.next ≤ b) ∧ (∀ b ∈ bo, b ∉ bs') ∧ h'.get p10 = some (.cells 63 false c)
theorem StpI.g {S : Sup} {F' : Fw} {q mp op pt tl : Nat} {bs : List Nat} {h h' : AH} {c i n : Int} {p10 : Nat} (X : StpI S F' q mp op pt tl bs h h') (hc : InK .i64 c) (hi : InK .i64 i) (hn : InK .i64 n) (hp : p10 < h.next) (hpn : p10 ∉ q :: mp :: op :: pt :: tl :: bs) : StpG S F' (ob c i n []) q mp op pt tl bs h (h'.set p10 (.cells 63 false (obC c i n .nilSlice))) p10 := by
  obtain ⟨bs', x1, x2, x3⟩ := X
  have hpn' : p10 ∉ q :: mp :: op :: pt :: tl :: bs' := fun h => by
    simp only [List.mem_cons] at h hpn
    rcases h with h | h | h | h | h | h
    · exact hpn (.inl h)
    · exact hpn (.inr (.inl h))
    · exact hpn (.inr (.inr (.inl h)))
    · exact hpn (.inr (.inr (.inr (.inl h))))
    · exact hpn (.inr (.inr (.inr (.inr (.inl h)))))
    · rcases x3 _ h with h | h
      · exact hpn (.inr (.inr (.inr (.inr (.inr h)))))
      · omega
  refine ⟨bs', [], obC c i n .nilSlice, x1.stay (by simp) (fun x hx => AH.set_getN _ _ (fun e => hpn' (e ▸ hx))), ⟨by simpa using x2.next, fun b hb hx => ?_⟩, x3, ob_R hc hi hn, by simp, by simp, by simp, by simp⟩
  rw [AH.set_getN _ _ (fun e => hx (by simp [e]))]
  exact x2.get b hb (fun h => hx (List.mem_cons_of_mem _ h))
theorem StpF.g {S : Sup} {F' : Fw} {q mp op pt tl : Nat} {bs : List Nat} {h h' : AH} {r : AV} {l : List Fr} {c : Int} {p10 : Nat} (X : StpF S F' l q mp op pt tl bs h h' r) (hc : InK .i64 c) (hp : p10 < h.next) (hpn : p10 ∉ q :: mp :: op :: pt :: tl :: bs) : StpG S F' (ob c 0 0 l) q mp op pt tl bs h (h'.set p10 (.cells 63 false (obC c 0 0 r))) p10 := by
  obtain ⟨bs', bo, x1, x2, x3, x4, x5, x6, x7⟩ := X
  have i0 : InK .i64 0 := InK.i64 (by omega) (by omega)
  have hpn' : p10 ∉ q :: mp :: op :: pt :: tl :: bs' := fun h => by
    simp only [List.mem_cons] at h hpn
    rcases h with h | h | h | h | h | h
    · exact hpn (.inl h)
    · exact hpn (.inr (.inl h))
    · exact hpn (.inr (.inr (.inl h)))
    · exact hpn (.inr (.inr (.inr (.inl h))))
    · exact hpn (.inr (.inr (.inr (.inr (.inl h)))))
    · rcases x3 _ h with h | h
      · exact hpn (.inr (.inr (.inr (.inr (.inr h)))))
      · omega
  refine ⟨bs', bo, obC c 0 0 r, x1.stay (by simp) (fun x hx => AH.set_getN _ _ (fun e => hpn' (e ▸ hx))), ⟨by simpa using x2.next, fun b hb hx => ?_⟩, x3, ob_Rf (x4.stay (by simp) fun b hb => AH.set_getN _ _ (by have := x6 b hb; omega)) hc i0 i0, x5, x6, x7, by simp⟩
  rw [AH.set_getN _ _ (fun e => hx (by simp [e]))]
  exact x2.get b hb (fun h => hx (List.mem_cons_of_mem _ h))
set_option maxRecDepth 20000 in
theorem di_ev {S : Sup} {F : Fw} {k0 : Nat} {q mp op pt tl : Nat} {bs : List Nat} {h : AH} {p9 p10 : Nat} (X : FwI S F q mp op pt tl bs h) (G : F.good S k0) (hk0 : k0 + 1 ≤ 400) (k id n : Int) (w : Bool) (g9 : h.get p9 = some (.cells 65 false (opC k id n w))) (g10 : h.get p10 = some (.cells 63 false (obC 0 0 0 .nilSlice))) (hp : p10 < h.next) (hpn : p10 ∉ q :: mp :: op :: pt :: tl :: bs) (m : Nat) (hm : 1100 ≤ m) (τ : Tm) (T : DiT τ q p9 p10 k) :
    ∃ τ' h', evAt Try.prog (ev Try.prog m) m 29 518554 τ h = some (.normal, τ', h') ∧ DiK τ τ' ∧ StpG S (doF S F (k, id, n, w)).1 (doF S F (k, id, n, w)).2 q mp op pt tl bs h h' p10 := by
  obtain ⟨t6, t9, t10, t28⟩ := T
  have i0 : InK .i64 0 := InK.i64 (by omega) (by omega)
  have o1 : ldVar Try.prog 3 p9 1 h = some (.int .i64 id) := by simp only [opC] at g9; simp [ldVar, g9]
  have o2 : ldVar Try.prog 3 p9 2 h = some (.int .i64 n) := by simp only [opC] at g9; simp [ldVar, g9]
  have o3 : ldVar Try.prog 4 p9 3 h = some (.bool w) := by simp only [opC] at g9; simp [ldVar, g9]
  have o4 : ldVar Try.prog 65 p9 0 h = some (.agg (opC k id n w)) := by simp only [opC] at g9 ⊢; simp [ldVar, g9]
  have pI : ∀ {F' h'}, StpI S F' q mp op pt tl bs h h' → h'.get p10 = some (.cells 63 false (obC 0 0 0 .nilSlice)) := fun Y => by
    obtain ⟨bs', x1, x2, x3⟩ := Y
    exact (x2.get p10 hp hpn).trans g10
  have pF : ∀ {F' l h' r}, StpF S F' l q mp op pt tl bs h h' r → h'.get p10 = some (.cells 63 false (obC 0 0 0 .nilSlice)) ∧ r.one = true ∧ r.cells = [r] := fun Y => by
    obtain ⟨bs', bo, x1, x2, x3, x4, _⟩ := Y
    exact ⟨(x2.get p10 hp hpn).trans g10, x4.sl_one, cells_one x4.sl_one⟩
  by_cases k1 : k = 1
  · subst k1
    obtain ⟨i, c, h', e1, d1, s1⟩ := openI_ev X G w m (by omega)
    have hd : doF S F (1, id, n, w) = openP S F w := by simp [doF]
    have hK : InK .i64 c ∧ InK .i64 i := by
      have := G.o w; have := G.kk
      unfold openP ob at d1
      split at d1
      · simp at d1; obtain ⟨rfl, rfl⟩ := d1; exact ⟨InK.i64 (by omega) (by omega), i0⟩
      · simp at d1
        obtain ⟨rfl, rfl⟩ := d1
        refine ⟨i0, ?_⟩
        unfold idOf
        rw [if_neg (by omega)]
        exact InK.i64 (by split <;> split <;> omega) (by split <;> split <;> omega)
    have pp := pI s1
    rw [hd, d1]
    have hex : ∃ τ', evAt Try.prog (ev Try.prog m) m 29 518554 τ h = some (.normal, τ', h'.set p10 (.cells 63 false (obC c i 0 .nilSlice))) ∧ DiK τ τ' := by
      simp only [obC] at pp ⊢
      rw [at_M Try.func29 518554 (by decide) 19 (by decide) (by kernel_rfl) []]
      exact ⟨_, by simp [Try.f29, t6, t9, t10, t28, o3, e1, pp, stVar, spl]; rfl, by simp, by simp, by simp, by simp, by simp, by simp⟩
    obtain ⟨τ', e2, K⟩ := hex
    exact ⟨τ', _, e2, K, s1.g hK.1 hK.2 i0 hp hpn⟩
  by_cases k2 : k = 2
  · subst k2
    obtain ⟨n', c, h', e1, d1, s1⟩ := sendI_ev X G id n m (by omega)
    have hd : doF S F (2, id, n, w) = sendP S F id n := by simp [doF]
    have hK : InK .i64 c ∧ InK .i64 n' := by
      have h3 := G.se; have h4 := G.cc; have hsn := sumI_nn (good_se G)
      unfold sendP ob at d1
      split at d1
      · simp at d1; obtain ⟨rfl, rfl⟩ := d1; exact ⟨InK.i64 (by omega) (by omega), i0⟩
      · split at d1
        · simp at d1; obtain ⟨rfl, rfl⟩ := d1; exact ⟨InK.i64 (by omega) (by omega), i0⟩
        · rename_i hneg i hs
          have hg := G.at_ (sendsP_lt hs)
          have h5 := hg.se; have h6 := hg.cr
          simp at d1; obtain ⟨rfl, rfl⟩ := d1; exact ⟨i0, InK.i64 (by omega) (by omega)⟩
    have pp := pI s1
    rw [hd, d1]
    have hex : ∃ τ', evAt Try.prog (ev Try.prog m) m 29 518554 τ h = some (.normal, τ', h'.set p10 (.cells 63 false (obC c 0 n' .nilSlice))) ∧ DiK τ τ' := by
      simp only [obC] at pp ⊢
      rw [at_M Try.func29 518554 (by decide) 19 (by decide) (by kernel_rfl) []]
      exact ⟨_, by simp [Try.f29, t6, t9, t10, t28, o1, o2, e1, pp, stVar, spl]; rfl, by simp, by simp, by simp, by simp, by simp, by simp⟩
    obtain ⟨τ', e2, K⟩ := hex
    exact ⟨τ', _, e2, K, s1.g hK.1 i0 hK.2 hp hpn⟩
  by_cases k3 : k = 3
  · subst k3
    obtain ⟨h', e1, s1⟩ := arriveI_ev X G hk0 id n m (by omega)
    have hd : doF S F (3, id, n, w) = ((arriveP S F id n).1, ob (arriveP S F id n).2 0 0 []) := by simp [doF]
    have hK : InK .i64 (arriveP S F id n).2 := by
      simp only [arriveP]
      repeat' split
      all_goals (dsimp only; exact InK.i64 (by omega) (by omega))
    have pp := pI s1
    rw [hd]
    have hex : ∃ τ', evAt Try.prog (ev Try.prog m) m 29 518554 τ h = some (.normal, τ', h'.set p10 (.cells 63 false (obC (arriveP S F id n).2 0 0 .nilSlice))) ∧ DiK τ τ' := by
      generalize (arriveP S F id n).2 = c at *
      simp only [obC] at pp ⊢
      rw [at_M Try.func29 518554 (by decide) 19 (by decide) (by kernel_rfl) []]
      exact ⟨_, by simp [Try.f29, t6, t9, t10, t28, o1, o2, e1, pp, stVar, spl]; rfl, by simp, by simp, by simp, by simp, by simp, by simp⟩
    obtain ⟨τ', e2, K⟩ := hex
    exact ⟨τ', _, e2, K, s1.g hK i0 i0 hp hpn⟩
  by_cases k4 : k = 4
  · subst k4
    obtain ⟨r, c, l, h', e1, d1, s1⟩ := readI_ev' X G id n m (by omega)
    have hd : doF S F (4, id, n, w) = readP S F id n := by simp [doF]
    have hK : InK .i64 c := by
      unfold readP ob at d1
      split at d1
      · simp at d1; obtain ⟨rfl, _⟩ := d1; exact InK.i64 (by omega) (by omega)
      · dsimp only at d1
        split at d1 <;> simp at d1 <;> obtain ⟨rfl, _⟩ := d1 <;> exact InK.i64 (by omega) (by omega)
    obtain ⟨pp, ro, rc⟩ := pF s1
    rw [hd, d1]
    have hex : ∃ τ', evAt Try.prog (ev Try.prog m) m 29 518554 τ h = some (.normal, τ', h'.set p10 (.cells 63 false (obC c 0 0 r))) ∧ DiK τ τ' := by
      simp only [obC] at pp ⊢
      rw [at_M Try.func29 518554 (by decide) 19 (by decide) (by kernel_rfl) []]
      exact ⟨_, by simp [Try.f29, t6, t9, t10, t28, o1, o2, e1, pp, ro, rc, stVar, spl]; rfl, by simp, by simp, by simp, by simp, by simp, by simp⟩
    obtain ⟨τ', e2, K⟩ := hex
    exact ⟨τ', _, e2, K, s1.g hK hp hpn⟩
  by_cases k5 : k = 5
  · subst k5
    obtain ⟨r, c, l, h', e1, d1, s1⟩ := endI_ev X G id m (by omega)
    have hd : doF S F (5, id, n, w) = overP S F id := by simp [doF]
    have hK : InK .i64 c := by
      unfold overP ob at d1
      split at d1
      · simp at d1; obtain ⟨rfl, _⟩ := d1; exact InK.i64 (by omega) (by omega)
      · dsimp only at d1
        split at d1
        · simp at d1; obtain ⟨rfl, _⟩ := d1; exact InK.i64 (by omega) (by omega)
        · split at d1 <;> simp at d1 <;> obtain ⟨rfl, _⟩ := d1 <;> exact InK.i64 (by omega) (by omega)
    obtain ⟨pp, ro, rc⟩ := pF s1
    rw [hd, d1]
    have hex : ∃ τ', evAt Try.prog (ev Try.prog m) m 29 518554 τ h = some (.normal, τ', h'.set p10 (.cells 63 false (obC c 0 0 r))) ∧ DiK τ τ' := by
      simp only [obC] at pp ⊢
      rw [at_M Try.func29 518554 (by decide) 19 (by decide) (by kernel_rfl) []]
      exact ⟨_, by simp [Try.f29, t6, t9, t10, t28, o1, e1, pp, ro, rc, stVar, spl]; rfl, by simp, by simp, by simp, by simp, by simp, by simp⟩
    obtain ⟨τ', e2, K⟩ := hex
    exact ⟨τ', _, e2, K, s1.g hK hp hpn⟩
  by_cases k6 : k = 6 ∨ k = 7 ∨ k = 8
  · obtain ⟨h', e1, s1⟩ := raiseI_ev X G k id n w k6 m (by omega)
    have hd : doF S F (k, id, n, w) = ((toldP S F k id n w).1, ob (toldP S F k id n w).2 0 0 []) := by simp [doF, k1, k2, k3, k4, k5, k6]
    have hK : InK .i64 (toldP S F k id n w).2 := by
      simp only [toldP]
      repeat' split
      all_goals (dsimp only; exact InK.i64 (by omega) (by omega))
    have pp := pI s1
    rw [hd]
    have hex : ∃ τ', evAt Try.prog (ev Try.prog m) m 29 518554 τ h = some (.normal, τ', h'.set p10 (.cells 63 false (obC (toldP S F k id n w).2 0 0 .nilSlice))) ∧ DiK τ τ' := by
      generalize (toldP S F k id n w).2 = c at *
      simp only [obC, opC] at pp e1 o4 ⊢
      rw [at_M Try.func29 518554 (by decide) 19 (by decide) (by kernel_rfl) []]
      rcases k6 with rfl | rfl | rfl <;> exact ⟨_, by simp [Try.f29, t6, t9, t10, t28, o4, e1, pp, stVar, spl]; rfl, by simp, by simp, by simp, by simp, by simp, by simp⟩
    obtain ⟨τ', e2, K⟩ := hex
    exact ⟨τ', _, e2, K, s1.g hK i0 i0 hp hpn⟩
  · have hd : doF S F (k, id, n, w) = (F, ob 1 0 0 []) := by simp [doF, k1, k2, k3, k4, k5, k6]
    simp only [not_or] at k6
    obtain ⟨k6, k7, k8⟩ := k6
    have s1 : StpI S F q mp op pt tl bs h h := ⟨bs, X, KoS.refl _ _, fun b hb => .inl hb⟩
    rw [hd]
    have hex : ∃ τ', evAt Try.prog (ev Try.prog m) m 29 518554 τ h = some (.normal, τ', h.set p10 (.cells 63 false (obC 1 0 0 .nilSlice))) ∧ DiK τ τ' := by
      simp only [obC] at g10 ⊢
      rw [at_M Try.func29 518554 (by decide) 19 (by decide) (by kernel_rfl) []]
      exact ⟨_, by simp [Try.f29, t6, t9, t10, t28, beqF, k1, k2, k3, k4, k5, k6, k7, k8, g10, stVar, spl]; rfl, by simp, by simp, by simp, by simp, by simp, by simp⟩
    obtain ⟨τ', e2, K⟩ := hex
    exact ⟨τ', _, e2, K, s1.g (InK.i64 (by omega) (by omega)) i0 i0 hp hpn⟩
end Go.Ev

/- Credit: the program's run. -/
namespace Go.Ev
open Go Go.Proofs
set_option linter.unusedSimpArgs false
set_option linter.unusedVariables false

theorem st_new65 (h : AH) (k id n : Int) (w : Bool) : stVar Try.prog 65 h.next 0 (.agg [.int .i64 k, .int .i64 id, .int .i64 n, .bool w]) (h.push (.cells 65 false [.int .i64 0, .int .i64 0, .int .i64 0, .bool false])) = some (h.push (.cells 65 false [.int .i64 k, .int .i64 id, .int .i64 n, .bool w])) := by
  simp [stVar, spl]
theorem st_same63 {A : AH} {p : Nat} (g : A.get p = some (.cells 63 false [.int .i64 0, .int .i64 0, .int .i64 0, .nilSlice])) : stVar Try.prog 63 p 0 (.agg [.int .i64 0, .int .i64 0, .int .i64 0, .nilSlice]) A = some A := by
  simp only [stVar, g]
  simp [spl]
  refine AH.eq_of ?_ rfl
  funext x
  rw [AH.set_get]
  split
  · rename_i hx; rw [hx, g]
  · rfl
def RuI (S : Sup) (ops : List tT65.D) (s : AV) (H : AH) (q mp op pt tl : Nat) (d : Nat) (τ : Tm) (h : AH) : Prop :=
  ∃ (i : Nat) (F : Fw) (bs : List Nat) (outs : List Ob) (vo : AV) (bo : List Nat), i + d = ops.length ∧ τ 20 = s ∧ τ 21 = .int .i64 ops.length ∧ τ 22 = .int .i64 i ∧ τ 6 = .ptr q 0 ∧ τ 7 = vo ∧ FwI S F q mp op pt tl bs h ∧ F.good S i ∧ (Ty.sl 63 tT63).R true h [vo] outs bo ∧ bo.Nodup ∧
    (∀ b ∈ bo, b ∉ q :: mp :: op :: pt :: tl :: bs) ∧ (∀ b ∈ q :: mp :: op :: pt :: tl :: bs, H.next ≤ b) ∧ (∀ b ∈ bo, H.next ≤ b) ∧ Kp H h ∧ outs ++ runF S F (ops.drop i) = runF S (Fw0 S) ops ∧ outs.length = i
set_option maxRecDepth 20000 in
theorem ruLoopI {Hb H h0 : AH} {S : Sup} {s : AV} {q mp op pt tl : Nat} {ops : List tT65.D} {bx : List Nat} {rw : Bool} (hd : (Ty.sl 65 tT65).R rw Hb [s] ops bx) (hKb : Kp Hb H) (hlen : ops.length ≤ 400) (m : Nat) (hm : 1200 ≤ m) (τ : Tm) (hI : RuI S ops s H q mp op pt tl ops.length τ h0) :
    ∃ e τ' H', evLoop Try.prog (ev Try.prog m) m (lp Try.prog 29 506) τ h0 = some (e, τ', H') ∧ e = .exit 0 ∧ RuI S ops s H q mp op pt tl 0 τ' H' := by
  refine loop_rule (d := ops.length) (RuI S ops s H q mp op pt tl) (fun e τ h => e = .exit 0 ∧ RuI S ops s H q mp op pt tl 0 τ h) ?_ hI (by omega)
  rintro d τ h ⟨i, F, bs, outs, vo, bo, hi, t20, t21, t22, t6, t7, X, G, hR, hnd, hdj, hlo, hlo2, hK, hrun, hol⟩
  rw [lp_M Try.func29 506 (by decide) 9 (by decide) (by kernel_rfl) [518554]]
  by_cases hd0 : d = 0
  · subst hd0
    have hkn : ¬ ((i : Int) < ops.length) := by omega
    simp [Try.f29, t21, t22, hkn]
    exact ⟨i, F, bs, outs, vo, bo, hi, by simp [t20], by simp [t21], by simp [t22], by simp [t6], by simp [t7], X, G, hR, hnd, hdj, hlo, hlo2, hK, hrun, hol⟩
  · have hlt : i < ops.length := by omega
    have hlt' : (i : Int) < ops.length := by omega
    obtain ⟨b, o, ro, L, u1, u2, u3, L1, L2⟩ := opAt (hd.kp (hKb.trans hK)) hlt
    rcases hop : ops[i] with ⟨k, id, n, w⟩
    rw [hop] at L2
    simp only at L2
    have hlts := X.lt
    let A0 : AH := (h.push (.cells 65 false (opC k id n w))).push (.cells 63 false (obC 0 0 0 .nilSlice))
    have kA : Kp h A0 := ((Kp.refl h).push _).push _
    have X0 := X.kp kA
    have nA : A0.next = h.next + 2 := by simp [A0]
    have g9 : A0.get h.next = some (.cells 65 false (opC k id n w)) := by simp [A0]
    have g10 : A0.get (h.next + 1) = some (.cells 63 false (obC 0 0 0 .nilSlice)) := by simp [A0]
    have o0 : ldVar Try.prog 3 h.next 0 A0 = some (.int .i64 k) := by simp only [opC] at g9; simp [ldVar, g9]
    have l65 : ldVar Try.prog 65 b o h = some (.agg (opC k id n w)) := by simp [ldVar, u3, L1, L2]
    have hp10 : h.next + 1 ∉ q :: mp :: op :: pt :: tl :: bs := fun hx => by have := hlts _ hx; omega
    have w1 : IntKind.i64.wrap ((i : Int) + 1) = ((i + 1 : Nat) : Int) := by rw [wrap_i64 (n := (i : Int) + 1) (by omega) (by omega)]; omega
    have hdi := di_ev X0 G (by omega) k id n w g9 g10 (by omega) hp10 m (by omega)
    have G2 := doF_good G (by omega) (k, id, n, w)
    have hdrop : ops.drop i = (k, id, n, w) :: ops.drop (i + 1) := by rw [List.drop_eq_getElem_cons hlt, hop]
    rw [hdrop] at hrun
    simp only [runF] at hrun
    generalize doF S F (k, id, n, w) = D at *
    have hA0 : (h.push (.cells 65 false [.int .i64 k, .int .i64 id, .int .i64 n, .bool w])).push (.cells 63 false [.int .i64 0, .int .i64 0, .int .i64 0, .nilSlice]) = A0 := rfl
    obtain ⟨τ2, h2, e2, K, bs2, b1, c, y1, y2, y3, y4, y5, y6, y7, y8⟩ := hdi (upd (upd (upd (upd (upd (upd (upd (upd τ 23 (.bool true)) 24 (.ptr b o)) 25 (.agg (opC k id n w))) 9 (.ptr h.next 0)) 26 (.agg [.int .i64 0, .int .i64 0, .int .i64 0, .nilSlice])) 10 (.ptr (h.next + 1) 0)) 27 (.ptr h.next 0)) 28 (.int .i64 k)) ⟨by simp [t6], by simp, by simp, by simp⟩
    have hbo := hR.mem
    have hbo10 : ∀ x ∈ bo, x ∉ (h.next + 1) :: q :: mp :: op :: pt :: tl :: bs := fun x hx hxx => by
      have := hbo x hx
      rcases List.mem_cons.1 hxx with e | e
      · omega
      · exact hdj x hx e
    have hR2 : (Ty.sl 63 tT63).R true h2 [vo] outs bo := (hR.kp kA).koS y2 hbo10
    have hnd2 : (bo ++ b1).Nodup := by
      rw [List.nodup_append]
      exact ⟨hnd, y5, fun x hx y hy e => by have := hbo x hx; have := y6 y hy; omega⟩
    obtain ⟨v', X', bo', a1, a2, a3, a4, a5⟩ := app63 hR2 y4 hnd2 (by omega)
    have hc := y4.len
    have ny2 := y2.next
    have ny5 := a5.next
    have hKn := hK.next
    have X2 : FwI S D.1 q mp op pt tl bs2 X' := y1.stay a5.next fun x hx => a5.get x (y1.lt x hx) (fun hxb => by
      have hbx := hbo x hxb
      simp only [List.mem_cons] at hx
      have hmem : x ∈ q :: mp :: op :: pt :: tl :: bs ∨ A0.next ≤ x := by
        rcases hx with e | e | e | e | e | e
        · left; simp [e]
        · left; simp [e]
        · left; simp [e]
        · left; simp [e]
        · left; simp [e]
        · rcases y3 x e with h | h
          · left; simp [h]
          · right; exact h
      rcases hmem with h | h
      · exact hdj x hxb h
      · omega)
    have l63 : ldVar Try.prog 63 (h.next + 1) 0 h2 = some (.agg c) := by
      rcases hD2 : D.2 with ⟨x0, x1, x2, x3⟩
      rw [hD2] at y4
      obtain ⟨va, bx', rfl, _⟩ := o63 y4
      simp [ldVar, y8]
    have hcell : ∃ c0 c1 c2 va, c = obC c0 c1 c2 va ∧ va.one = true := by
      rcases hD2 : D.2 with ⟨x0, x1, x2, x3⟩
      rw [hD2] at y4
      obtain ⟨va, bx', rfl, _, r, _⟩ := o63 y4
      exact ⟨x0, x1, x2, va, rfl, r.sl_one⟩
    obtain ⟨c0, c1, c2, va, rfl, ova⟩ := hcell
    obtain ⟨q7, q20, q21, q22, q6, q10⟩ := K
    simp at q7 q20 q21 q22 q6 q10
    simp only [obC] at g10
    have s63 := st_same63 g10
    clear_value A0
    simp only [obC, opC] at a1 l63 l65 e2
    simp [Try.f29, t20, t21, t22, hlt', u1, l65, fillA, spl, st_new65, hA0, s63, o0, e2, q7, q10, t7, l63, zerosA, ova, a1, q22, w1]
    refine ⟨d - 1, by omega, i + 1, D.1, bs2, outs ++ [D.2], v', bo', by omega, by simp [q20, t20], by simp [q21, t21], by simp, by simp [q6, t6], by simp, X2, G2, a2, a3, ?_, ?_, ?_, ?_, by simpa using hrun, by simp [hol]⟩
    · intro x hx hxx
      have hcase : x ∈ q :: mp :: op :: pt :: tl :: bs ∨ (x ∈ bs2 ∧ A0.next ≤ x) := by
        simp only [List.mem_cons] at hxx ⊢
        rcases hxx with e | e | e | e | e | e
        · simp [e]
        · simp [e]
        · simp [e]
        · simp [e]
        · simp [e]
        · rcases y3 x e with h | h
          · simp [h]
          · exact .inr ⟨e, h⟩
      rcases a4 x hx with h1 | h1 | h1
      · rcases hcase with h3 | ⟨_, h3⟩
        · exact hdj x h1 h3
        · have := hbo x h1; omega
      · rcases hcase with h3 | ⟨h3, _⟩
        · have := hlts x h3; have := y6 x h1; omega
        · exact y7 x h1 h3
      · have := y1.lt x hxx; omega
    · intro x hx
      simp only [List.mem_cons] at hx hlo
      rcases hx with e | e | e | e | e | e
      · exact hlo x (by simp [e])
      · exact hlo x (by simp [e])
      · exact hlo x (by simp [e])
      · exact hlo x (by simp [e])
      · exact hlo x (by simp [e])
      · rcases y3 x e with h | h
        · exact hlo x (by simp [h])
        · omega
    · intro x hx
      rcases a4 x hx with h | h | h
      · exact hlo2 x h
      · have := y6 x h; omega
      · omega
    · refine ⟨by omega, fun x hx => ?_⟩
      rw [a5.get x (by omega) (fun hb => by have := hlo2 x hb; omega), y2.get x (by omega) (fun hb => by
        rcases List.mem_cons.1 hb with e | e
        · omega
        · have := hlo x e; omega), kA.get x (by omega)]
      exact hK.get x hx
theorem flowI_ev {Hb H : AH} {S : Sup} {s : AV} {ops : List tT65.D} {bx : List Nat} {rw : Bool} (hd : (Ty.sl 65 tT65).R rw Hb [s] ops bx) (hKb : Kp Hb H) (m : Nat) (hm : 1300 ≤ m) :
    ∃ r H' bo, ev Try.prog m 29 [.agg (suC S), s] H = some (.tuple [r, .int .i64 (FlowP S ops).2], H') ∧ Kp H H' ∧ (Ty.sl 63 tT63).R true H' [r] (FlowP S ops).1 bo ∧ bo.Nodup ∧ ∀ b ∈ bo, H.next ≤ b := by
  obtain ⟨m, rfl⟩ : ∃ k, m = k + 1 := ⟨m - 1, by omega⟩
  have hL := Ty.R.lenA hd (P := Try.prog) (T := 51) (by simp)
  unfold FlowP
  by_cases c1 : 400 < ops.length
  · rw [if_pos c1]
    have c1' : 400 < (ops.length : Int) := by omega
    refine ⟨.nilSlice, H.push (.cells 49 false (suC S)), [], ?_, (Kp.refl H).push _, .inl ⟨rfl, rfl, rfl⟩, by simp, by simp⟩
    simp only [suC]
    rw [ev_M Try.func29 ok29 [] m _ H (by simp [Try.f29])]
    simp [Try.f29, tm0, hL, c1']
  · rw [if_neg c1]
    have c1' : (400 < (ops.length : Int)) = False := eq_false (by omega)
    have e1 := fun H => supI_ev S H m (by omega)
    have lz : ldVar Try.prog 49 H.next 0 (H.push (.cells 49 false (suC S))) = some (.agg (suC S)) := by simp [ldVar, suC]
    by_cases c2 : S.ok
    · rw [if_pos c2]
      simp only [c2, decide_true] at e1
      let A1 : AH := (H.push (.cells 49 false (suC S))).push (.cells 49 false (suC S))
      have lz1 : ldVar Try.prog 49 H.next 0 A1 = some (.agg (suC S)) := by simp [ldVar, suC, A1]
      obtain ⟨A2, e2, X2, k2⟩ := newI_ev S A1 m (by omega)
      have kA1 : Kp H A1 := ((Kp.refl H).push _).push _
      let A3 : AH := A2.push (.cells 63 false [])
      have kA3 : Kp A2 A3 := (Kp.refl A2).push _
      have X3 := X2.kp kA3
      have hK3 : Kp H A3 := (kA1.trans k2).trans kA3
      have key : ∃ τ' H' q mp op pt tl, ev Try.prog (m + 1) 29 [.agg (suC S), s] H = resM Try.prog [.tmp 4, .tmp 5] (evAt Try.prog (ev Try.prog m) m 29 127 τ' H') ∧ RuI S ops s H q mp op pt tl 0 τ' H' := by
        have hls := ruLoopI (S := S) (q := A1.next + 5) (mp := A1.next + 1) (op := A1.next + 2) (pt := A1.next + 3) (tl := A1.next + 4) (h0 := A3) hd hKb (by omega) m (by omega)
        have hA1 : (H.push (.cells 49 false (suC S))).push (.cells 49 false (suC S)) = A1 := rfl
        have hA3 : A2.push (.cells 63 false []) = A3 := rfl
        have hn3 : A2.next < A3.next := by simp [A3]
        have hg3 : A3.get A2.next = some (.cells 63 false []) := by simp [A3]
        have hlts := X2.lt
        have hlo1 : H.next ≤ A1.next := kA1.next
        have hk2 := k2.next
        clear_value A1 A3
        simp only [suC] at e1 e2 lz lz1 hA1 ⊢
        have key2 : ∃ τ' H', ev Try.prog (m + 1) 29 [.agg [.bool S.sv, .int .i64 S.cw, .int .i64 S.sw, .int .i64 S.tw, .int .i64 S.ow, .int .i64 S.pc, .int .i64 S.ps, .int .i64 S.ptw, .int .i64 S.pow], s] H = resM Try.prog [.tmp 4, .tmp 5] (evAt Try.prog (ev Try.prog m) m 29 127 τ' H') ∧ RuI S ops s H (A1.next + 5) (A1.next + 1) (A1.next + 2) (A1.next + 3) (A1.next + 4) 0 τ' H' := by
          rw [ev_M Try.func29 ok29 [127] m _ H (by simp [Try.f29])]
          simp [Try.f29, tm0, hL, c1', lz, e1, hA1, lz1, e2, hA3, zerosA]
          generalize hLo : evLoop _ _ _ _ _ _ = R
          obtain ⟨e, τ', H', rfl, rfl, g⟩ := loop_at hLo (hls _ ⟨0, Fw0 S, [], [], .slice A2.next 0 0, [A2.next], by omega, by simp, by simp, by simp, by simp, by simp, X3, Fw0_good c2, empty63 hn3 hg3, by simp, fun x hx hxx => by simp at hx; have := hlts x hxx; omega, by simp; omega, by simp; omega, hK3, by simp, rfl⟩)
          exact ⟨τ', H', by simp, g⟩
        obtain ⟨τ', H', e, g⟩ := key2
        exact ⟨τ', H', _, _, _, _, _, e, g⟩
      obtain ⟨τ1, H1, q, mp, op, pt, tl, e3, i, F, bs, outs, vo, bo, hi, t20, t21, t22, t6, t7, X, G, hR, hnd, hdj, hlo, hlo2, hK, hrun, hol⟩ := key
      have hi' : ops.length ≤ i := by omega
      rw [List.drop_eq_nil_of_le hi'] at hrun
      simp only [runF, List.append_nil] at hrun
      rw [← hrun]
      refine ⟨vo, H1, bo, ?_, hK, hR, hnd, hlo2⟩
      rw [e3]
      rw [at_M Try.func29 127 (by decide) 7 (by decide) (by kernel_rfl) []]
      simp [Try.f29, t7]
    · rw [if_neg c2]
      simp only [c2, decide_false] at e1
      refine ⟨.nilSlice, (H.push (.cells 49 false (suC S))).push (.cells 49 false (suC S)), [], ?_, ((Kp.refl H).push _).push _, .inl ⟨rfl, rfl, rfl⟩, by simp, by simp⟩
      simp only [suC] at e1 lz ⊢
      rw [ev_M Try.func29 ok29 [] m _ H (by simp [Try.f29])]
      simp [Try.f29, tm0, hL, c1', lz, e1]
end Go.Ev

/- The law of credit's books: what lies where. -/
namespace Go.Ev
open Go Go.Proofs
set_option linter.unusedSimpArgs false
set_option linter.unusedVariables false

/-- an answer of a row -/
theorem obAt {rw : Bool} {H : AH} {s : AV} {l : List Ob} {bs : List Nat} (hr : (Ty.sl 63 tT63).R rw H [s] l bs) {k : Nat} (hk : k < l.length) :
    ∃ b o ro L v bv, idxA Try.prog 46 s (.int .i64 k) = some (.ptr b o) ∧ b < H.next ∧ H.get b = some (.cells 63 ro L) ∧ o + 4 ≤ L.length ∧ (L.drop o).take 4 = [.int .i64 l[k].1, .int .i64 l[k].2.1, .int .i64 l[k].2.2.1, v] ∧ (Ty.sl 72 tT72).R rw H [v] l[k].2.2.2 bv := by
  obtain ⟨b, o, ro, x1, c, x2, bk, u1, u2, u3, u4, u5, u6, u7, u8⟩ := Ty.R.at_ hr (P := Try.prog) (T := 46) (by simp) (by simp [Ty.n]) (k := k) hk
  rcases hx : l[k] with ⟨x0, x1', x2', x3⟩
  rw [hx] at u5
  obtain ⟨v, bv, rfl, _, R, _⟩ := o63 u5
  subst u4
  exact ⟨b, _, ro, _, v, _, u1, u2, u3, by simp, by simp, R⟩
/-- a frame of a row -/
theorem frAt {rw : Bool} {H : AH} {s : AV} {l : List Fr} {bs : List Nat} (hr : (Ty.sl 72 tT72).R rw H [s] l bs) {k : Nat} (hk : k < l.length) :
    ∃ b o ro L c bv, idxA Try.prog 61 s (.int .i64 k) = some (.ptr b o) ∧ b < H.next ∧ H.get b = some (.cells 72 ro L) ∧ o + 8 ≤ L.length ∧ (L.drop o).take 8 = c ∧ tT72.R rw H c l[k] bv := by
  obtain ⟨b, o, ro, x1, c, x2, bk, u1, u2, u3, u4, u5, u6, u7, u8⟩ := Ty.R.at_ hr (P := Try.prog) (T := 61) (by simp) (by simp [Ty.n]) (k := k) hk
  have hc := u5.len
  simp only [Ty.n] at hc
  subst u4
  exact ⟨b, _, ro, _, c, _, u1, u2, u3, by simp; omega, by rw [List.append_assoc, List.drop_left, List.take_left' (by omega)], u5⟩
end Go.Ev

/- The law of credit's books: its segments. -/
namespace Go.Ev
open Go Go.Proofs
set_option linter.unusedSimpArgs false
set_option linter.unusedVariables false

theorem at_take {L l : List AV} {o n j : Nat} (h : (L.drop o).take n = l) (hj : j < n) : L[o + j]? = l[j]? := by
  rw [← h, List.getElem?_take, if_pos hj, List.getElem?_drop]
/-- an answer lies at i of the row -/
def OAt (h : AH) (s : AV) (i : Nat) (c d n : Int) (v : AV) : Prop := ∃ b z ro xs, idxA Try.prog 46 s (.int .i64 i) = some (.ptr b z) ∧ b < h.next ∧ h.get b = some (.cells 63 ro xs) ∧ z + 4 ≤ xs.length ∧ (xs.drop z).take 4 = [.int .i64 c, .int .i64 d, .int .i64 n, v] ∧
  xs[z]? = some (.int .i64 c) ∧ xs[z + 2]? = some (.int .i64 n) ∧ xs[z + 3]? = some v
def PAt (h : AH) (s : AV) (i : Nat) (op : tT65.D) : Prop := ∃ b z ro xs, idxA Try.prog 51 s (.int .i64 i) = some (.ptr b z) ∧ b < h.next ∧ h.get b = some (.cells 65 ro xs) ∧
  xs[z]? = some (.int .i64 op.1) ∧ xs[z + 2]? = some (.int .i64 op.2.2.1) ∧ xs[z + 3]? = some (.bool op.2.2.2)
theorem OAt.kp {h h' : AH} {s : AV} {i : Nat} {c d n : Int} {v : AV} (e : OAt h s i c d n v) (hK : Kp h h') : OAt h' s i c d n v := by
  obtain ⟨b, z, ro, xs, h1, h2, h3, h4⟩ := e
  exact ⟨b, z, ro, xs, h1, by have := hK.next; omega, by rw [hK.get b h2]; exact h3, h4⟩
theorem PAt.kp {h h' : AH} {s : AV} {i : Nat} {op : tT65.D} (e : PAt h s i op) (hK : Kp h h') : PAt h' s i op := by
  obtain ⟨b, z, ro, xs, h1, h2, h3, h4⟩ := e
  exact ⟨b, z, ro, xs, h1, by have := hK.next; omega, by rw [hK.get b h2]; exact h3, h4⟩
theorem oAt {rw : Bool} {H : AH} {s : AV} {l : List Ob} {bs : List Nat} (hr : (Ty.sl 63 tT63).R rw H [s] l bs) {k : Nat} (hk : k < l.length) :
    ∃ v bv, OAt H s k l[k].1 l[k].2.1 l[k].2.2.1 v ∧ (Ty.sl 72 tT72).R rw H [v] l[k].2.2.2 bv := by
  obtain ⟨b, o, ro, L, v, bv, h1, h2, h3, h4, h5, h6⟩ := obAt hr hk
  exact ⟨v, bv, ⟨b, o, ro, L, h1, h2, h3, h4, h5, by simpa using at_take (j := 0) h5 (by omega), by simpa using at_take (j := 2) h5 (by omega), by simpa using at_take (j := 3) h5 (by omega)⟩, h6⟩
theorem pAt {rw : Bool} {H : AH} {s : AV} {l : List tT65.D} {bs : List Nat} (hr : (Ty.sl 65 tT65).R rw H [s] l bs) {k : Nat} (hk : k < l.length) : PAt H s k l[k] := by
  obtain ⟨b, o, ro, L, h1, h2, h3, h4, h5⟩ := opAt hr hk
  exact ⟨b, o, ro, L, h1, h2, h3, by simpa [opC] using at_take (j := 0) h5 (by omega), by simpa [opC] using at_take (j := 2) h5 (by omega), by simpa [opC] using at_take (j := 3) h5 (by omega)⟩
structure FbT (τ : Tm) (p3 p13 p14 : Nat) (v4 v5 v9 : AV) (cc se told : Int) (i : Nat) : Prop where
  t3 : τ 3 = .ptr p3 0
  t4 : τ 4 = v4
  t5 : τ 5 = v5
  t9 : τ 9 = v9
  t11 : τ 11 = .int .i64 cc
  t12 : τ 12 = .int .i64 se
  t13 : τ 13 = .slice p13 0 2
  t14 : τ 14 = .slice p14 0 2
  t15 : τ 15 = .int .i64 told
  t16 : τ 16 = .int .i64 i
section
variable {h : AH} {p3 p13 p14 : Nat} {v4 v5 v9 : AV} {cc se told : Int} {i : Nat} {τ : Tm} {call : CallF} {m : Nat}
set_option maxRecDepth 20000 in
theorem fb0 {c d n : Int} {v5' v9' : AV} {nf : Int} (e9 : OAt h v9 i c d n v9') (e5 : OAt h v5 i c d n v5') (l9 : ∀ H, lenA Try.prog 61 v9' H = some (.int .i64 nf)) (l5 : ∀ H, lenA Try.prog 61 v5' H = some (.int .i64 nf)) (o9 : v9'.one = true) (hτ : FbT τ p3 p13 p14 v4 v5 v9 cc se told i) :
    ∃ τ', evAt Try.prog call m 6 2097060 τ h = evAt Try.prog call m 6 8388243 τ' (h.push (.cells 63 false (obC c d n v9'))) ∧ FbT τ' p3 p13 p14 v4 v5 v9 cc se told i ∧ τ' 17 = .ptr h.next 0 := by
  obtain ⟨t3, t4, t5, t9, t11, t12, t13, t14, t15, t16⟩ := hτ
  obtain ⟨b, z, ro, xs, q1, q2, q3, q4, q5, q6, q7, q8⟩ := e9
  obtain ⟨b', z', ro', xs', r1, r2, r3, r4, r5, r6, r7, r8⟩ := e5
  have hbn : ¬ (b = h.next) := by omega
  have hbn' : ¬ (b' = h.next) := by omega
  simp only [obC]
  have oc := cells_one o9
  rw [at_M Try.func6 2097060 (by decide) 21 (by decide) (by kernel_rfl) [8388243]]
  exact ⟨_, by simp [Try.f6, t4, t5, t9, t16, q1, q3, q4, q5, r1, r3, r6, r7, r8, hbn, hbn', ldVar, stVar, spl, l5, l9, o9, oc]; rfl, ⟨by simp [t3], by simp [t4], by simp [t5], by simp [t9], by simp [t11], by simp [t12], by simp [t13], by simp [t14], by simp [t15], by simp [t16]⟩, by simp⟩
set_option maxRecDepth 20000 in
theorem fb1 {op : tT65.D} {q : AV} (e4 : PAt h v4 i op) (hτ : FbT τ p3 p13 p14 v4 v5 v9 cc se told i) (t17 : τ 17 = q) :
    ∃ τ', evAt Try.prog call m 6 8388243 τ h = evAt Try.prog call m 6 33552975 τ' h ∧ FbT τ' p3 p13 p14 v4 v5 v9 cc se told i ∧ τ' 17 = q ∧ τ' 18 = .int .i64 (if op.2.2.2 then 1 else 0) := by
  obtain ⟨t3, t4, t5, t9, t11, t12, t13, t14, t15, t16⟩ := hτ
  obtain ⟨b, z, ro, xs, q1, q2, q3, q6, q7, q8⟩ := e4
  rw [at_M Try.func6 8388243 (by decide) 23 (by decide) (by kernel_rfl) [33552975]]
  cases hw : op.2.2.2
  · rw [hw] at q8
    exact ⟨_, by simp [Try.f6, t4, t16, q1, q3, q8, ldVar]; rfl, ⟨by simp [t3], by simp [t4], by simp [t5], by simp [t9], by simp [t11], by simp [t12], by simp [t13], by simp [t14], by simp [t15], by simp [t16]⟩, by simp [t17], by simp⟩
  · rw [hw] at q8
    exact ⟨_, by simp [Try.f6, t4, t16, q1, q3, q8, ldVar]; rfl, ⟨by simp [t3], by simp [t4], by simp [t5], by simp [t9], by simp [t11], by simp [t12], by simp [t13], by simp [t14], by simp [t15], by simp [t16]⟩, by simp [t17], by simp⟩
theorem ix0 (p : Nat) : idxA Try.prog 60 (.slice p 0 2) (.int .i64 0) = some (.ptr p 0) := by simp [idxA]
theorem ix1 (p : Nat) : idxA Try.prog 60 (.slice p 0 2) (.int .i64 1) = some (.ptr p 1) := by simp [idxA]
def row2 (a : Bool → Int) : List AV := [.int .i64 (a false), .int .i64 (a true)]
set_option maxRecDepth 20000 in
theorem fb2 {S : Sup} {op : tT65.D} {q : Nat} {c d n : Int} {v : AV} {a a' : Bool → Int} (e4 : PAt h v4 i op) (g17 : h.get q = some (.cells 63 false (obC c d n v))) (g3 : h.get p3 = some (.cells 49 false (suC S))) (g13 : h.get p13 = some (.cells 3 false (row2 a)))
    (hx : c = 0 → op.1 = 1 → idOk d ∧ idSv d = S.sv ∧ idOw d = op.2.2.2 ∧ d / 4 = a op.2.2.2 ∧ idOf S.sv op.2.2.2 (a op.2.2.2) = d)
    (ha : ∀ w, a' w = if c = 0 ∧ op.1 = 1 ∧ w = op.2.2.2 then a w + 1 else a w) (hb : ∀ w, 0 ≤ a w ∧ a w ≤ 1000000)
    (m : Nat) (hm : 5 ≤ m) (hτ : FbT τ p3 p13 p14 v4 v5 v9 cc se told i) (t17 : τ 17 = .ptr q 0) (t18 : τ 18 = .int .i64 (if op.2.2.2 then 1 else 0)) :
    ∃ τ' h', evAt Try.prog (ev Try.prog m) m 6 33552975 τ h = evAt Try.prog (ev Try.prog m) m 6 67105951 τ' h' ∧ FbT τ' p3 p13 p14 v4 v5 v9 cc se told i ∧ τ' 17 = .ptr q 0 ∧ τ' 18 = .int .i64 (if op.2.2.2 then 1 else 0) ∧
      h'.next = h.next ∧ (∀ b, b ≠ p13 → h'.get b = h.get b) ∧ h'.get p13 = some (.cells 3 false (row2 a')) := by
  obtain ⟨t3, t4, t5, t9, t11, t12, t13, t14, t15, t16⟩ := hτ
  obtain ⟨b, z, ro, xs, q1, q2, q3, q6, q7, q8⟩ := e4
  simp only [obC] at g17
  simp only [row2] at g13 ⊢
  simp only [suC] at g3
  have hno : ∀ w, ¬ (c = 0 ∧ op.1 = 1) → a' w = a w := fun w h => by rw [ha, if_neg]; rintro ⟨h1, h2, -⟩; exact h ⟨h1, h2⟩
  rw [at_M Try.func6 33552975 (by decide) 25 (by decide) (by kernel_rfl) [67105951]]
  by_cases c1 : c = 0
  · by_cases k1 : op.1 = 1
    · obtain ⟨x1, x2, x3, x4, x5⟩ := hx c1 k1
      have hid := IdPartsI_ev d h m (by omega)
      rw [if_pos x1] at hid
      have hof := IdOfI_ev S.sv op.2.2.2 (a op.2.2.2) h m (by omega)
      rw [x2, x3, x4] at hid
      rw [x5] at hof
      have hw1 := hb op.2.2.2
      have w1 : IntKind.i64.wrap (a op.2.2.2 + 1) = a op.2.2.2 + 1 := wrap_i64 (by omega) (by omega)
      rw [k1] at q6
      subst c1
      cases hw : op.2.2.2
      · rw [hw] at q8 t18 hid hof w1
        have e0 : a' false = a false + 1 := by rw [ha, if_pos ⟨rfl, k1, hw.symm⟩]
        have e1 : a' true = a true := by rw [ha, if_neg (by rw [hw]; simp)]
        rw [e0, e1]
        refine ⟨_, h.set p13 (.cells 3 false [.int .i64 (a false + 1), .int .i64 (a true)]), by simp [Try.f6, t3, t4, t13, t16, t17, t18, g17, g3, g13, q1, q3, q6, q8, hid, hof, w1, ldVar, stVar, spl, ix0, ix1]; rfl, ⟨by simp [t3], by simp [t4], by simp [t5], by simp [t9], by simp [t11], by simp [t12], by simp [t13], by simp [t14], by simp [t15], by simp [t16]⟩, by simp [t17], by simp [t18], rfl, fun b hb => AH.set_getN _ _ hb, by simp⟩
      · rw [hw] at q8 t18 hid hof w1
        have e0 : a' false = a false := by rw [ha, if_neg (by rw [hw]; simp)]
        have e1 : a' true = a true + 1 := by rw [ha, if_pos ⟨rfl, k1, hw.symm⟩]
        rw [e0, e1]
        refine ⟨_, h.set p13 (.cells 3 false [.int .i64 (a false), .int .i64 (a true + 1)]), by simp [Try.f6, t3, t4, t13, t16, t17, t18, g17, g3, g13, q1, q3, q6, q8, hid, hof, w1, ldVar, stVar, spl, ix0, ix1]; rfl, ⟨by simp [t3], by simp [t4], by simp [t5], by simp [t9], by simp [t11], by simp [t12], by simp [t13], by simp [t14], by simp [t15], by simp [t16]⟩, by simp [t17], by simp [t18], rfl, fun b hb => AH.set_getN _ _ hb, by simp⟩
    · rw [hno false (fun h => k1 h.2), hno true (fun h => k1 h.2)]
      have k1' : (op.1 == 1) = false := by simpa using k1
      exact ⟨_, h, by simp [Try.f6, t4, t16, t17, t18, g17, q1, q3, q6, c1, k1', ldVar]; rfl, ⟨by simp [t3], by simp [t4], by simp [t5], by simp [t9], by simp [t11], by simp [t12], by simp [t13], by simp [t14], by simp [t15], by simp [t16]⟩, by simp [t17], by simp [t18], rfl, fun b hb => rfl, g13⟩
  · rw [hno false (fun h => c1 h.1), hno true (fun h => c1 h.1)]
    have c1' : (c == 0) = false := by simpa using c1
    exact ⟨_, h, by simp [Try.f6, t4, t16, t17, t18, g17, c1', ldVar]; rfl, ⟨by simp [t3], by simp [t4], by simp [t5], by simp [t9], by simp [t11], by simp [t12], by simp [t13], by simp [t14], by simp [t15], by simp [t16]⟩, by simp [t17], by simp [t18], rfl, fun b hb => rfl, g13⟩
set_option maxRecDepth 20000 in
theorem fb3 {op : tT65.D} {q : Nat} {c d n cc' w : Int} {v : AV} (e4 : PAt h v4 i op) (g17 : h.get q = some (.cells 63 false (obC c d n v))) (hc : cc' = if c = 0 ∧ op.1 = 6 then max cc op.2.2.1 else cc)
    (hτ : FbT τ p3 p13 p14 v4 v5 v9 cc se told i) (t17 : τ 17 = .ptr q 0) (t18 : τ 18 = .int .i64 w) :
    ∃ τ', evAt Try.prog call m 6 67105951 τ h = evAt Try.prog call m 6 134211903 τ' h ∧ FbT τ' p3 p13 p14 v4 v5 v9 cc' se told i ∧ τ' 17 = .ptr q 0 ∧ τ' 18 = .int .i64 w := by
  obtain ⟨t3, t4, t5, t9, t11, t12, t13, t14, t15, t16⟩ := hτ
  obtain ⟨b, z, ro, xs, q1, q2, q3, q6, q7, q8⟩ := e4
  simp only [obC] at g17
  rw [at_M Try.func6 67105951 (by decide) 26 (by decide) (by kernel_rfl) [134211903]]
  by_cases c1 : c = 0
  · by_cases k1 : op.1 = 6
    · rw [if_pos ⟨c1, k1⟩] at hc
      rw [k1] at q6
      by_cases hn : cc < op.2.2.1
      · have : cc' = op.2.2.1 := by omega
        subst this
        exact ⟨_, by simp [Try.f6, t4, t11, t16, t17, t18, g17, q1, q3, q6, q7, c1, hn, ldVar]; rfl, ⟨by simp [t3], by simp [t4], by simp [t5], by simp [t9], by simp, by simp [t12], by simp [t13], by simp [t14], by simp [t15], by simp [t16]⟩, by simp [t17], by simp [t18]⟩
      · have : cc' = cc := by omega
        subst this
        have hn' := eq_false hn
        exact ⟨_, by simp [Try.f6, t4, t11, t16, t17, t18, g17, q1, q3, q6, q7, c1, hn', ldVar]; rfl, ⟨by simp [t3], by simp [t4], by simp [t5], by simp [t9], by simp, by simp [t12], by simp [t13], by simp [t14], by simp [t15], by simp [t16]⟩, by simp [t17], by simp [t18]⟩
    · have k1' : (op.1 == 6) = false := by simpa using k1
      rw [if_neg (fun h => k1 h.2)] at hc
      subst hc
      exact ⟨_, by simp [Try.f6, t4, t16, t17, t18, g17, q1, q3, q6, c1, k1', ldVar]; rfl, ⟨by simp [t3], by simp [t4], by simp [t5], by simp [t9], by simp [t11], by simp [t12], by simp [t13], by simp [t14], by simp [t15], by simp [t16]⟩, by simp [t17], by simp [t18]⟩
  · have c1' : (c == 0) = false := by simpa using c1
    rw [if_neg (fun h => c1 h.1)] at hc
    subst hc
    exact ⟨_, by simp [Try.f6, t4, t16, t17, t18, g17, c1', ldVar]; rfl, ⟨by simp [t3], by simp [t4], by simp [t5], by simp [t9], by simp [t11], by simp [t12], by simp [t13], by simp [t14], by simp [t15], by simp [t16]⟩, by simp [t17], by simp [t18]⟩
set_option maxRecDepth 20000 in
theorem fb4 {op : tT65.D} {q : Nat} {c d n : Int} {v : AV} {a a' : Bool → Int} (e4 : PAt h v4 i op) (g17 : h.get q = some (.cells 63 false (obC c d n v))) (g14 : h.get p14 = some (.cells 3 false (row2 a)))
    (ha : ∀ w, a' w = if c = 0 ∧ op.1 = 8 ∧ w = op.2.2.2 then max (a w) op.2.2.1 else a w)
    (hτ : FbT τ p3 p13 p14 v4 v5 v9 cc se told i) (t17 : τ 17 = .ptr q 0) (t18 : τ 18 = .int .i64 (if op.2.2.2 then 1 else 0)) :
    ∃ τ' h', evAt Try.prog call m 6 134211903 τ h = evAt Try.prog call m 6 268423807 τ' h' ∧ FbT τ' p3 p13 p14 v4 v5 v9 cc se told i ∧ τ' 17 = .ptr q 0 ∧
      h'.next = h.next ∧ (∀ b, b ≠ p14 → h'.get b = h.get b) ∧ h'.get p14 = some (.cells 3 false (row2 a')) := by
  obtain ⟨t3, t4, t5, t9, t11, t12, t13, t14, t15, t16⟩ := hτ
  obtain ⟨b, z, ro, xs, q1, q2, q3, q6, q7, q8⟩ := e4
  simp only [obC] at g17
  simp only [row2] at g14 ⊢
  have hno : ∀ w, ¬ (c = 0 ∧ op.1 = 8) → a' w = a w := fun w h => by rw [ha, if_neg]; rintro ⟨h1, h2, -⟩; exact h ⟨h1, h2⟩
  rw [at_M Try.func6 134211903 (by decide) 27 (by decide) (by kernel_rfl) [268423807]]
  by_cases c1 : c = 0
  · by_cases k1 : op.1 = 8
    · rw [k1] at q6
      subst c1
      cases hw : op.2.2.2
      · rw [hw] at q8 t18
        have e1 : a' true = a true := by rw [ha, if_neg (by rw [hw]; simp)]
        have e0 : a' false = max (a false) op.2.2.1 := by rw [ha, if_pos ⟨rfl, k1, hw.symm⟩]
        rw [e1]
        by_cases hn : a false < op.2.2.1
        · have : a' false = op.2.2.1 := by omega
          rw [this]
          refine ⟨_, h.set p14 (.cells 3 false [.int .i64 op.2.2.1, .int .i64 (a true)]), by simp [Try.f6, t4, t14, t16, t17, t18, g17, g14, q1, q3, q6, q7, hn, ldVar, stVar, spl, ix0, ix1, evHist, ObsOk, ObOk, List.getElem?_cons_zero]; rfl, ⟨by simp [t3], by simp [t4], by simp [t5], by simp [t9], by simp [t11], by simp [t12], by simp [t13], by simp [t14], by simp [t15], by simp [t16]⟩, by simp [t17], rfl, fun b hb => AH.set_getN _ _ hb, by simp⟩
        · have : a' false = a false := by omega
          rw [this]
          have hn' := eq_false hn
          refine ⟨_, h.set p14 (.cells 3 false [.int .i64 (a false), .int .i64 (a true)]), by simp [Try.f6, t4, t14, t16, t17, t18, g17, g14, q1, q3, q6, q7, hn', ldVar, stVar, spl, ix0, ix1, evHist, ObsOk, ObOk, List.getElem?_cons_zero]; rfl, ⟨by simp [t3], by simp [t4], by simp [t5], by simp [t9], by simp [t11], by simp [t12], by simp [t13], by simp [t14], by simp [t15], by simp [t16]⟩, by simp [t17], rfl, fun b hb => AH.set_getN _ _ hb, by simp⟩
      · rw [hw] at q8 t18
        have e1 : a' false = a false := by rw [ha, if_neg (by rw [hw]; simp)]
        have e0 : a' true = max (a true) op.2.2.1 := by rw [ha, if_pos ⟨rfl, k1, hw.symm⟩]
        rw [e1]
        by_cases hn : a true < op.2.2.1
        · have : a' true = op.2.2.1 := by omega
          rw [this]
          refine ⟨_, h.set p14 (.cells 3 false [.int .i64 (a false), .int .i64 op.2.2.1]), by simp [Try.f6, t4, t14, t16, t17, t18, g17, g14, q1, q3, q6, q7, hn, ldVar, stVar, spl, ix0, ix1, evHist, ObsOk, ObOk, List.getElem?_cons_zero]; rfl, ⟨by simp [t3], by simp [t4], by simp [t5], by simp [t9], by simp [t11], by simp [t12], by simp [t13], by simp [t14], by simp [t15], by simp [t16]⟩, by simp [t17], rfl, fun b hb => AH.set_getN _ _ hb, by simp⟩
        · have : a' true = a true := by omega
          rw [this]
          have hn' := eq_false hn
          refine ⟨_, h.set p14 (.cells 3 false [.int .i64 (a false), .int .i64 (a true)]), by simp [Try.f6, t4, t14, t16, t17, t18, g17, g14, q1, q3, q6, q7, hn', ldVar, stVar, spl, ix0, ix1, evHist, ObsOk, ObOk, List.getElem?_cons_zero]; rfl, ⟨by simp [t3], by simp [t4], by simp [t5], by simp [t9], by simp [t11], by simp [t12], by simp [t13], by simp [t14], by simp [t15], by simp [t16]⟩, by simp [t17], rfl, fun b hb => AH.set_getN _ _ hb, by simp⟩
    · rw [hno false (fun h => k1 h.2), hno true (fun h => k1 h.2)]
      have k1' : (op.1 == 8) = false := by simpa using k1
      exact ⟨_, h, by simp [Try.f6, t4, t16, t17, t18, g17, q1, q3, q6, c1, k1', ldVar]; rfl, ⟨by simp [t3], by simp [t4], by simp [t5], by simp [t9], by simp [t11], by simp [t12], by simp [t13], by simp [t14], by simp [t15], by simp [t16]⟩, by simp [t17], rfl, fun b hb => rfl, g14⟩
  · rw [hno false (fun h => c1 h.1), hno true (fun h => c1 h.1)]
    have c1' : (c == 0) = false := by simpa using c1
    exact ⟨_, h, by simp [Try.f6, t4, t16, t17, t18, g17, c1', ldVar]; rfl, ⟨by simp [t3], by simp [t4], by simp [t5], by simp [t9], by simp [t11], by simp [t12], by simp [t13], by simp [t14], by simp [t15], by simp [t16]⟩, by simp [t17], rfl, fun b hb => rfl, g14⟩
set_option maxRecDepth 20000 in
theorem fb5 {q : Nat} {c d n : Int} {v : AV} {a b : Bool → Int} (g17 : h.get q = some (.cells 63 false (obC c d n v))) (g13 : h.get p13 = some (.cells 3 false (row2 a))) (g14 : h.get p14 = some (.cells 3 false (row2 b)))
    (hab : ∀ w, a w ≤ b w) (hle : se + n ≤ cc) (hse : 0 ≤ se + n) (hcc : cc ≤ 4611686018427387903)
    (hτ : FbT τ p3 p13 p14 v4 v5 v9 cc se told i) (t17 : τ 17 = .ptr q 0) :
    ∃ τ', evAt Try.prog call m 6 268423807 τ h = evAt Try.prog call m 6 1073695231 τ' h ∧ FbT τ' p3 p13 p14 v4 v5 v9 cc (se + n) told i ∧ τ' 17 = .ptr q 0 := by
  obtain ⟨t3, t4, t5, t9, t11, t12, t13, t14, t15, t16⟩ := hτ
  simp only [obC] at g17
  simp only [row2] at g13 g14
  have w1 : IntKind.i64.wrap (se + n) = se + n := wrap_i64 (by omega) (by omega)
  have n1 := eq_false (show ¬ (cc < se + n) by omega)
  have n2 := eq_false (show ¬ (b false < a false) by have := hab false; omega)
  have n3 := eq_false (show ¬ (b true < a true) by have := hab true; omega)
  rw [at_M Try.func6 268423807 (by decide) 28 (by decide) (by kernel_rfl) [1073695231]]
  exact ⟨_, by simp [Try.f6, t11, t12, t13, t14, t17, g17, g13, g14, w1, n1, n2, n3, ldVar, ix0, ix1]; rfl, ⟨by simp [t3], by simp [t4], by simp [t5], by simp [t9], by simp [t11], by simp, by simp [t13], by simp [t14], by simp [t15], by simp [t16]⟩, by simp [t17]⟩
end
end Go.Ev

/- The law FnCredits: its segments. -/
namespace Go.Ev
open Go Go.Proofs
set_option linter.unusedSimpArgs false
set_option linter.unusedVariables false

theorem OAt.ld {h : AH} {s : AV} {i : Nat} {c d n : Int} {v : AV} (e : OAt h s i c d n v) : ∃ b z, idxA Try.prog 46 s (.int .i64 i) = some (.ptr b z) ∧ ldVar Try.prog 3 b z h = some (.int .i64 c) ∧ ldVar Try.prog 3 b (z + 2) h = some (.int .i64 n) ∧ ldVar Try.prog 61 b (z + 3) h = some v := by
  obtain ⟨b, z, ro, xs, q1, q2, q3, q4, q5, q6, q7, q8⟩ := e
  exact ⟨b, z, q1, by simp [ldVar, q3, q6], by simp [ldVar, q3, q7], by simp [ldVar, q3, q8]⟩
structure CdT (τ : Tm) (p5 p6 : Nat) (v11 v12 : AV) (se st cn : Int) (i : Nat) : Prop where
  t5 : τ 5 = .ptr p5 0
  t6 : τ 6 = .ptr p6 0
  t11 : τ 11 = v11
  t12 : τ 12 = v12
  t13 : τ 13 = .int .i64 se
  t14 : τ 14 = .int .i64 st
  t15 : τ 15 = .int .i64 cn
  t16 : τ 16 = .int .i64 i
section
variable {h : AH} {p5 p6 : Nat} {v11 v12 : AV} {se st cn : Int} {i : Nat} {τ : Tm} {call : CallF} {m : Nat}
set_option maxRecDepth 20000 in
theorem cdA {v' : AV} {X : AH} (ap : appA Try.prog 51 51 v11 (.slice h.next 0 1) (h.push (.cells 65 false [.int .i64 2, .int .i64 0, .int .i64 100000, .bool false])) = some (v', X)) (hτ : CdT τ p5 p6 v11 v12 se st cn i) :
    ∃ τ', evAt Try.prog call m 7 1048484 τ h = evAt Try.prog call m 7 2096969 τ' X ∧ CdT τ' p5 p6 v' v12 se st cn i := by
  obtain ⟨t5, t6, t11, t12, t13, t14, t15, t16⟩ := hτ
  rw [at_M Try.func7 1048484 (by decide) 20 (by decide) (by kernel_rfl) [2096969]]
  exact ⟨_, by simp [Try.f7, t11, fillA, zerosA, spl, ap]; rfl, ⟨by simp [t5], by simp [t6], by simp, by simp [t12], by simp [t13], by simp [t14], by simp [t15], by simp [t16]⟩⟩
set_option maxRecDepth 20000 in
theorem cdB {cs : List AV} {x w : AV} {X2 X3 : AH} (l5 : ldVar Try.prog 49 p5 0 h = some (.agg cs)) (e1 : call 29 [.agg cs, v11] h = some (.tuple [x, .int .i64 0], X2)) (l5' : ldVar Try.prog 49 p5 0 X2 = some (.agg cs)) (e2 : call 26 [.agg cs, v11] X2 = some (.tuple [w, .int .i64 0], X3))
    (hτ : CdT τ p5 p6 v11 v12 se st cn i) :
    ∃ τ', evAt Try.prog call m 7 2096969 τ h = evAt Try.prog call m 7 8387879 τ' X3 ∧ CdT τ' p5 p6 v11 v12 se st cn i ∧ τ' 17 = x ∧ τ' 18 = .int .i64 0 ∧ τ' 20 = .int .i64 0 := by
  obtain ⟨t5, t6, t11, t12, t13, t14, t15, t16⟩ := hτ
  rw [at_M Try.func7 2096969 (by decide) 21 (by decide) (by kernel_rfl) [8387879]]
  exact ⟨_, by simp [Try.f7, t5, t11, l5, l5', e1, e2]; rfl, ⟨by simp [t5], by simp [t6], by simp [t11], by simp [t12], by simp [t13], by simp [t14], by simp [t15], by simp [t16]⟩, by simp, by simp, by simp⟩
set_option maxRecDepth 20000 in
theorem cdC {x v : AV} {L n d : Int} {k : Nat} (l11 : lenA Try.prog 51 v11 h = some (.int .i64 L)) (lx : lenA Try.prog 46 x h = some (.int .i64 L)) (wk : IntKind.i64.wrap (L - 1) = (k : Int)) (ex : OAt h x k 0 d n v)
    (hn : 1 ≤ n) (h1 : se + n ≤ st) (h2 : se + n ≤ cn) (h0 : 0 ≤ se) (h3 : se + n ≤ 1000000) (hτ : CdT τ p5 p6 v11 v12 se st cn i) (t17 : τ 17 = x) (t18 : τ 18 = .int .i64 0) (t20 : τ 20 = .int .i64 0) :
    ∃ τ', evAt Try.prog call m 7 8387879 τ h = evAt Try.prog call m 7 268412159 τ' h ∧ CdT τ' p5 p6 v11 v12 (se + n) st cn i ∧ τ' 21 = .int .i64 n := by
  obtain ⟨t5, t6, t11, t12, t13, t14, t15, t16⟩ := hτ
  obtain ⟨b, z, q1, q2, q3, q4⟩ := ex.ld
  have w1 : IntKind.i64.wrap (se + n) = se + n := wrap_i64 (by omega) (by omega)
  have c1 := eq_false (show ¬ (n < 1) by omega)
  have c2 := eq_false (show ¬ (st < se + n) by omega)
  have c3 := eq_false (show ¬ (cn < se + n) by omega)
  rw [at_M Try.func7 8387879 (by decide) 23 (by decide) (by kernel_rfl) [268412159]]
  exact ⟨_, by simp [Try.f7, t11, t13, t14, t15, t17, t18, t20, l11, lx, wk, q1, q2, q3, w1, c1, c2, c3]; rfl, ⟨by simp [t5], by simp [t6], by simp [t11], by simp [t12], by simp, by simp [t14], by simp [t15], by simp [t16]⟩, by simp⟩
set_option maxRecDepth 20000 in
theorem cdE {n : Int} {v' : AV} {X : AH} (ap : appA Try.prog 51 51 v12 (.slice h.next 0 2) (h.push (.cells 65 false [.int .i64 3, .int .i64 0, .int .i64 se, .bool false, .int .i64 4, .int .i64 0, .int .i64 n, .bool false])) = some (v', X)) (hτ : CdT τ p5 p6 v11 v12 se st cn i) (t21 : τ 21 = .int .i64 n) :
    ∃ τ', evAt Try.prog call m 7 268412159 τ h = evAt Try.prog call m 7 536824319 τ' X ∧ CdT τ' p5 p6 v11 v' se st cn i := by
  obtain ⟨t5, t6, t11, t12, t13, t14, t15, t16⟩ := hτ
  rw [at_M Try.func7 268412159 (by decide) 28 (by decide) (by kernel_rfl) [536824319]]
  exact ⟨_, by simp [Try.f7, t12, t13, t21, fillA, zerosA, spl, ap]; rfl, ⟨by simp [t5], by simp [t6], by simp [t11], by simp, by simp [t13], by simp [t14], by simp [t15], by simp [t16]⟩⟩
set_option maxRecDepth 20000 in
theorem cdF {cs : List AV} {y v va : AV} {X : AH} {L d n d' n' : Int} {k k' : Nat} (l6 : ldVar Try.prog 49 p6 0 h = some (.agg cs)) (e1 : call 29 [.agg cs, v12] h = some (.tuple [y, .int .i64 0], X))
    (l12 : lenA Try.prog 51 v12 X = some (.int .i64 L)) (ly : lenA Try.prog 46 y X = some (.int .i64 L)) (wk : IntKind.i64.wrap (L - 1) = (k : Int)) (wk' : IntKind.i64.wrap (L - 2) = (k' : Int)) (ey : OAt X y k 0 d n v) (ey' : OAt X y k' 0 d' n' va) {nf : Int} (lv : lenA Try.prog 61 v X = some (.int .i64 nf))
    (hτ : CdT τ p5 p6 v11 v12 se st cn i) :
    ∃ τ', evAt Try.prog call m 7 536824319 τ h = evAt Try.prog call m 7 4294594559 τ' X ∧ CdT τ' p5 p6 v11 v12 se st cn i ∧ τ' 187 = v ∧ τ' 188 = .int .i64 nf ∧ τ' 189 = .int .i64 0 := by
  obtain ⟨t5, t6, t11, t12, t13, t14, t15, t16⟩ := hτ
  obtain ⟨b, z, q1, q2, q3, q4⟩ := ey.ld
  obtain ⟨b', z', r1, r2, r3, r4⟩ := ey'.ld
  rw [at_M Try.func7 536824319 (by decide) 29 (by decide) (by kernel_rfl) [4294594559]]
  exact ⟨_, by simp [Try.f7, t6, t12, l6, e1, l12, ly, wk, wk', q1, q2, q4, r1, r2, lv]; rfl, ⟨by simp [t5], by simp [t6], by simp [t11], by simp [t12], by simp [t13], by simp [t14], by simp [t15], by simp [t16]⟩, by simp, by simp, by simp⟩
end
end Go.Ev

/- The law FnCredits: the frames of a round. -/
namespace Go.Ev
open Go Go.Proofs
set_option linter.unusedSimpArgs false
set_option linter.unusedVariables false

theorem crFr_nil {st st' cn cn' : Int} (h : crFr st st' cn cn' = []) : st' = st ∧ cn' = cn := by
  unfold crFr at h
  by_cases h1 : st' = st <;> by_cases h2 : cn' = cn <;> simp [h1, h2] at h ⊢
theorem crFr_cons {st st' cn cn' : Int} {f : Fr} {l : List Fr} (h : crFr st st' cn cn' = f :: l) :
    (f = frm 17 0 st' ∧ st' ≠ st ∧ l = crFr st' st' cn cn') ∨ (f = frm 16 cn' 0 ∧ cn' ≠ cn ∧ l = crFr st st' cn' cn') := by
  unfold crFr at h ⊢
  by_cases h1 : st' = st
  · by_cases h2 : cn' = cn
    · simp [h1, h2] at h
    · simp [h1, h2] at h ⊢
      exact ⟨h.1.symm, h.2⟩
  · simp [h1] at h ⊢
    exact .inl ⟨h.1.symm, h.2.symm⟩
theorem odIn {k n : Int} (hk : 0 ≤ k ∧ k ≤ 100) (h : 0 ≤ n ∧ n ≤ 4611686018427387903) : OdIn (k, 0, n, false) := ⟨InK.i64 (n := k) (by omega) (by omega), InK.i64 (n := 0) (by omega) (by omega), InK.i64 (n := n) (by omega) (by omega)⟩
def CfI (A : Sup) (fr : List Fr) (st' cn' : Int) (p5 p6 : Nat) (v12 v : AV) (se : Int) (i N : Nat) (b0 : List Nat) (H0 : AH) (d : Nat) (τ : Tm) (h : AH) : Prop :=
  ∃ (k : Nat) (st cn : Int) (one : List tT65.D) (v11 : AV) (b11 : List Nat), k + d = fr.length ∧ CdT τ p5 p6 v11 v12 se st cn i ∧ τ 187 = v ∧ τ 188 = .int .i64 fr.length ∧ τ 189 = .int .i64 k ∧ fr.drop k = crFr st st' cn cn' ∧ st ≤ st' ∧ cn ≤ cn' ∧
    (Ty.sl 65 tT65).R true h [v11] one b11 ∧ b11.Nodup ∧ (∀ b ∈ b11, b ∈ b0 ∨ H0.next ≤ b) ∧ KoS b0 H0 h ∧ foldF A (Fw0 A) one = fwA st cn se ∧ one.length ≤ N + k
set_option maxRecDepth 20000 in
theorem cfLoop {C V : Int} {H0 h0 : AH} {fr : List Fr} {st' cn' : Int} {p5 p6 : Nat} {v12 v : AV} {se : Int} {i N : Nat} {b0 bf : List Nat} (Rf : (Ty.sl 72 tT72).R true H0 [v] fr bf) (hdj : ∀ b ∈ bf, b ∉ b0) (hst : inW st') (hcn : inW cn') (hfl : fr.length ≤ 2) (hN : N ≤ 1000)
    (m : Nat) (hm : 6 ≤ m) (τ : Tm) (hI : CfI (crA C V) fr st' cn' p5 p6 v12 v se i N b0 H0 fr.length τ h0) :
    ∃ e τ' H', evLoop Try.prog (ev Try.prog m) m (lp Try.prog 7 8589189118) τ h0 = some (e, τ', H') ∧ e = .exit 2 ∧ CfI (crA C V) fr st' cn' p5 p6 v12 v se i N b0 H0 0 τ' H' := by
  refine loop_rule (d := fr.length) (CfI (crA C V) fr st' cn' p5 p6 v12 v se i N b0 H0) (fun e τ h => e = .exit 2 ∧ CfI (crA C V) fr st' cn' p5 p6 v12 v se i N b0 H0 0 τ h) ?_ hI (by omega)
  rintro dd τ h ⟨k, st, cn, one, v11, b11, hk, hτ, t187, t188, t189, hdr, hs1, hc1, R11, nd, hlo, hK, hF, hol⟩
  obtain ⟨t5, t6, t11, t12, t13, t14, t15, t16⟩ := hτ
  rw [lp_M Try.func7 8589189118 (by decide) 33 (by decide) (by kernel_rfl) []]
  by_cases hd0 : dd = 0
  · subst hd0
    have hc : ¬ ((k : Int) < fr.length) := by omega
    simp [Try.f7, t188, t189, hc]
    exact ⟨k, st, cn, one, v11, b11, hk, ⟨by simp [t5], by simp [t6], by simp [t11], by simp [t12], by simp [t13], by simp [t14], by simp [t15], by simp [t16]⟩, by simp [t187], by simp [t188], by simp [t189], hdr, hs1, hc1, R11, nd, hlo, hK, hF, hol⟩
  · have hlt : k < fr.length := by omega
    have hc : (k : Int) < fr.length := by omega
    rw [List.drop_eq_getElem_cons hlt] at hdr
    obtain ⟨b, o, ro, L, c1, bv, u1, u2, u3, u4, u5, u6⟩ := frAt (Rf.koS hK hdj) hlt
    have hfn : ∃ kk a cz, fr[k] = frm kk a cz := by rcases crFr_cons hdr.symm with ⟨h, _⟩ | ⟨h, _⟩ <;> exact ⟨_, _, _, h⟩
    obtain ⟨kk, a, cz, hf⟩ := hfn
    rw [hf] at u6 hdr
    obtain ⟨x5, x6, x7, bu5, bu6, bu7, e1, e2, R5, R6, R7, ix⟩ := o72 u6
    try simp only [frm] at e1
    subst u5
    have o5 := R5.sl_one
    have o6 := R6.sl_one
    have o7 := R7.sl_one
    have hne : ¬ (b = h.next) := by omega
    have hw : IntKind.i64.wrap ((k : Int) + 1) = ((k + 1 : Nat) : Int) := by rw [wrap_i64 (n := (k : Int) + 1) (by omega) (by omega)]; omega
    have P := (Kp.refl h).push (.cells 72 false [.int .i64 kk, .int .i64 a, .int .i64 cz, .int .i64 0, .bool false, x5, x6, x7])
    rcases crFr_cons hdr.symm with ⟨hx, hy, hz⟩ | ⟨hx, hy, hz⟩
    · simp only [frm, Prod.mk.injEq] at hx
      obtain ⟨rfl, rfl, rfl, -⟩ := hx
      obtain ⟨v', X', b', q1, q2, q3, q4, q5⟩ := app_od (R11.kp P) nd (o := (7, 0, cz, false)) (odIn ⟨by omega, by omega⟩ hst) (by omega)
      have hle := eq_false (show ¬ (cz ≤ st) by omega)
      simp only [odC, opC, AH.push_next] at q1
      simp [Try.f7, t187, t188, t189, t11, t14, u1, u3, u4, e1, o5, o6, o7, hne, hc, hlt, hle, hw, q1, ldVar, stVar, spl, fillA, zerosA]
      refine ⟨dd - 1, by omega, k + 1, cz, cn, one ++ [(7, 0, cz, false)], v', b', by omega, ⟨by simp [t5], by simp [t6], by simp, by simp [t12], by simp [t13], by simp, by simp [t15], by simp [t16]⟩, by simp [t187], by simp [t188], by simp, hz, by omega, hc1, q2, q3, ?_, ?_, ?_, by simp; omega⟩
      · intro x hx
        have hKn := hK.next
        have := P.next
        rcases q4 x hx with h | h
        · exact hlo x h
        · exact .inr (by omega)
      · exact (hK.trans (P.koS []) (by simp)).trans q5 hlo
      · rw [foldF_app, hF, crTold7 _ _ _ _ _ _ hst]
        show fwA (max st cz) cn se = _
        rw [show max st cz = cz by omega]
    · simp only [frm, Prod.mk.injEq] at hx
      obtain ⟨rfl, rfl, rfl, -⟩ := hx
      obtain ⟨v', X', b', q1, q2, q3, q4, q5⟩ := app_od (R11.kp P) nd (o := (6, 0, a, false)) (odIn ⟨by omega, by omega⟩ hcn) (by omega)
      have hle := eq_false (show ¬ (a ≤ cn) by omega)
      simp only [odC, opC, AH.push_next] at q1
      simp [Try.f7, t187, t188, t189, t11, t15, u1, u3, u4, e1, o5, o6, o7, hne, hc, hlt, hle, hw, q1, ldVar, stVar, spl, fillA, zerosA]
      refine ⟨dd - 1, by omega, k + 1, st, a, one ++ [(6, 0, a, false)], v', b', by omega, ⟨by simp [t5], by simp [t6], by simp, by simp [t12], by simp [t13], by simp [t14], by simp, by simp [t16]⟩, by simp [t187], by simp [t188], by simp, hz, hs1, by omega, q2, q3, ?_, ?_, ?_, by simp; omega⟩
      · intro x hx
        have hKn := hK.next
        have := P.next
        rcases q4 x hx with h | h
        · exact hlo x h
        · exact .inr (by omega)
      · exact (hK.trans (P.koS []) (by simp)).trans q5 hlo
      · rw [foldF_app, hF, crTold6 _ _ _ _ _ _ hcn]
        show fwA st (max cn a) se = _
        rw [show max cn a = a by omega]
end Go.Ev

/- The law FnCredits by the evaluator: its loop. -/
namespace Go.Ev
open Go Go.Proofs
set_option linter.unusedSimpArgs false
set_option linter.unusedVariables false

theorem oAtM {rw : Bool} {H : AH} {s : AV} {l : List Ob} {bs : List Nat} (hr : (Ty.sl 63 tT63).R rw H [s] l bs) {k : Nat} (hk : k < l.length) :
    ∃ v bv, OAt H s k l[k].1 l[k].2.1 l[k].2.2.1 v ∧ (Ty.sl 72 tT72).R rw H [v] l[k].2.2.2 bv ∧ ∀ x ∈ bv, x ∈ bs := by
  obtain ⟨b, o, ro, x1, c, x2, bk, u1, u2, u3, u4, u5, u6, u7, u8⟩ := Ty.R.at_ hr (P := Try.prog) (T := 46) (by simp) (by simp [Ty.n]) (k := k) hk
  rcases hx : l[k] with ⟨x0, x1', x2', x3⟩
  rw [hx] at u5
  obtain ⟨v, bv, rfl, rfl, R, _⟩ := o63 u5
  subst u4
  have h5 : ((x1 ++ [.int .i64 x0, .int .i64 x1', .int .i64 x2', v] ++ x2).drop x1.length).take 4 = [.int .i64 x0, .int .i64 x1', .int .i64 x2', v] := by simp
  exact ⟨v, _, ⟨b, _, ro, _, u1, u2, u3, by simp, h5, by simp, by simp, by simp⟩, R, u6⟩
theorem oAtE {rw : Bool} {H : AH} {s : AV} {l : List Ob} {bs : List Nat} (hr : (Ty.sl 63 tT63).R rw H [s] l bs) {k : Nat} {c d n : Int} {fr : List Fr} (hk : l[k]? = some (ob c d n fr)) :
    ∃ v bv, OAt H s k c d n v ∧ (Ty.sl 72 tT72).R rw H [v] fr bv ∧ ∀ x ∈ bv, x ∈ bs := by
  obtain ⟨h1, h2⟩ := List.getElem?_eq_some_iff.1 hk
  have := oAtM hr h1
  rw [h2] at this
  exact this
theorem foldF_app2 (S : Sup) (F : Fw) (l : List tT65.D) (o p : tT65.D) : foldF S F (l ++ [o, p]) = (doF S (doF S (foldF S F l) o).1 p).1 := by
  rw [show l ++ [o, p] = (l ++ [o]) ++ [p] by simp, foldF_app, foldF_app]
theorem runF_app2 (S : Sup) (F : Fw) (l : List tT65.D) (o p : tT65.D) : runF S F (l ++ [o, p]) = runF S F l ++ [(doF S (foldF S F l) o).2, (doF S (doF S (foldF S F l) o).1 p).2] := by
  rw [show l ++ [o, p] = (l ++ [o]) ++ [p] by simp, runF_app, runF_app, foldF_app]; simp
structure CdI (C V : Int) (p5 p6 : Nat) (i : Nat) (τ : Tm) (h : AH) (one two : List tT65.D) (v11 v12 : AV) (b11 b12 : List Nat) (se st cn : Int) : Prop where
  T : CdT τ p5 p6 v11 v12 se st cn i
  R1 : (Ty.sl 65 tT65).R true h [v11] one b11
  R2 : (Ty.sl 65 tT65).R true h [v12] two b12
  d1 : b11.Nodup
  d2 : b12.Nodup
  dj : ∀ b ∈ b11, b ∉ b12
  pb : p5 ∉ b11 ∧ p6 ∉ b11 ∧ p5 ∉ b12 ∧ p6 ∉ b12
  pn : p5 < h.next ∧ p6 < h.next
  g5 : ldVar Try.prog 49 p5 0 h = some (.agg (suC (crA C V)))
  g6 : ldVar Try.prog 49 p6 0 h = some (.agg (suC (crB C V)))
  FA : foldF (crA C V) (Fw0 (crA C V)) one = fwA st cn se
  FB : (i = 0 ∧ two = [] ∧ st = V ∧ cn = C ∧ se = 0) ∨ foldF (crB C V) (Fw0 (crB C V)) two = fwB st cn se se
  l1 : one.length ≤ 1 + 3 * i
  l2 : two.length = 2 * i
  se0 : 0 ≤ se ∧ se ≤ 16384 * i
  st : se < st ∧ st ≤ se + V
  cn : se < cn ∧ cn ≤ se + C
theorem crB_step {C V : Int} {i : Nat} {two : List tT65.D} {se st cn n : Int} (h : (i = 0 ∧ two = [] ∧ st = V ∧ cn = C ∧ se = 0) ∨ foldF (crB C V) (Fw0 (crB C V)) two = fwB st cn se se) (hn : 1 ≤ n) (h0 : 0 ≤ se) (h1 : se + n ≤ st) (h2 : se + n ≤ cn) (h3 : se + n ≤ 1000000) :
    foldF (crB C V) (Fw0 (crB C V)) (two ++ [(3, 0, se + n, false), (4, 0, n, false)]) = fwB (creditP (se + n) V st) (creditP (se + n) C cn) (se + n) (se + n) ∧
    runF (crB C V) (Fw0 (crB C V)) (two ++ [(3, 0, se + n, false), (4, 0, n, false)]) = runF (crB C V) (Fw0 (crB C V)) two ++ [ob 0 0 0 [], ob 0 0 0 (crFr st (creditP (se + n) V st) cn (creditP (se + n) C cn))] := by
  rw [foldF_app2, runF_app2]
  have key : doF (crB C V) (foldF (crB C V) (Fw0 (crB C V)) two) (3, 0, se + n, false) = (fwB st cn (se + n) se, ob 0 0 0 []) := by
    rcases h with ⟨_, rfl, rfl, rfl, rfl⟩ | h
    · exact crArr0 _ _ _ (by omega) (by omega) (by omega) (by omega)
    · rw [h]; exact crArr _ _ _ _ _ _ h0 (by omega) (by omega) (by omega) (by omega)
  rw [key]
  simp only
  rw [crRead _ _ _ _ _ _ _ hn (by omega)]
  exact ⟨rfl, rfl⟩
theorem ldVar_eq {t b o : Nat} {A B : AH} (h : B.get b = A.get b) : ldVar Try.prog t b o B = ldVar Try.prog t b o A := by unfold ldVar; rw [h]
theorem crFr_len (st st' cn cn' : Int) : (crFr st st' cn cn').length ≤ 2 := by unfold crFr; split <;> split <;> simp
set_option maxRecDepth 20000 in
theorem cdRound {C V : Int} (hC : 1 ≤ C ∧ C ≤ 16384) (hV : 1 ≤ V ∧ V ≤ 16384) (okA : (crA C V).ok) (okB : (crB C V).ok) {p5 p6 i : Nat} {τ : Tm} {h : AH} {one two : List tT65.D} {v11 v12 : AV} {b11 b12 : List Nat} {se st cn : Int} (hi : i < 12) (X : CdI C V p5 p6 i τ h one two v11 v12 b11 b12 se st cn) (m : Nat) (hm : 1000100 ≤ m) :
    ∃ τ' h' one' two' v11' v12' b11' b12' se' st' cn', evAt Try.prog (ev Try.prog m) m 7 1048484 τ h = some (.normal, τ', h') ∧ τ' 16 = .int .i64 i ∧ ∀ τ'', (∀ j, j ≠ 16 → j ≤ 60 → τ'' j = τ' j) → τ'' 16 = .int .i64 ((i + 1 : Nat) : Int) → CdI C V p5 p6 (i + 1) τ'' h' one' two' v11' v12' b11' b12' se' st' cn' := by
  obtain ⟨T, R1, R2, d1, d2, dj, pb, pn, g5, g6, FA, FB, l1, l2, se0, hst, hcn⟩ := X
  have hs := crSend C V st cn se
  generalize hnn : min (min 100000 (st - se)) (cn - se) = n at hs
  have n1 : 1 ≤ n ∧ n ≤ 16384 ∧ se + n ≤ st ∧ se + n ≤ cn := by omega
  clear hnn
  -- the first end sends
  obtain ⟨v', X1, b1', a1, a2, a3, a4, a5⟩ := app_od R1 d1 (o := (2, 0, 100000, false)) (odIn ⟨by omega, by omega⟩ ⟨by omega, by omega⟩) (by omega)
  simp only [odC, opC] at a1
  obtain ⟨τ1, s1, T1⟩ := cdA (call := ev Try.prog m) (m := m) a1 T
  have lone : (one ++ [(2, 0, 100000, false)] : List tT65.D).length = one.length + 1 := by simp
  have hn5 := a5.next
  have g5a : ldVar Try.prog 49 p5 0 X1 = some (.agg (suC (crA C V))) := by rw [ldVar_eq (a5.get p5 pn.1 pb.1)]; exact g5
  obtain ⟨x, X2, bx, e1, e2, e3, e4, e5⟩ := flowI_ev (S := crA C V) a2 (Kp.refl X1) m (by omega)
  obtain ⟨w, X3, bw, f1, f2, f3, f4, f5⟩ := flowS_ev (S := crA C V) a2 e2 m (by omega)
  have hrun : FlowP (crA C V) (one ++ [(2, 0, 100000, false)]) = (runF (crA C V) (Fw0 (crA C V)) one ++ [ob 0 0 n []], 0) := by
    rw [FlowP, if_neg (by omega), if_pos okA, runF_app, FA, hs]
  rw [hrun] at e1 e3 f1 f3
  simp only at e1 e3 f1 f3
  have K13 := e2.trans f2
  have g5b : ldVar Try.prog 49 p5 0 X2 = some (.agg (suC (crA C V))) := by rw [ldVar_eq (e2.get p5 (by omega))]; exact g5a
  obtain ⟨τ2, s2, T2, t17, t18, t20⟩ := cdB (call := ev Try.prog m) (m := m) g5a e1 g5b f1 T1
  have hrl := runF_len (crA C V) (Fw0 (crA C V)) one
  have ol : (runF (crA C V) (Fw0 (crA C V)) one ++ [ob 0 0 n []]).length = one.length + 1 := by simp [hrl]
  have lx := e3.lenA (P := Try.prog) (T := 46) (by simp) X3
  rw [ol] at lx
  have l11 := a2.lenA (P := Try.prog) (T := 51) (by simp) X3
  rw [lone] at l11
  obtain ⟨vx, bvx, ox, _, _⟩ := oAtE e3 (k := one.length) (c := 0) (d := 0) (n := n) (fr := []) (by rw [List.getElem?_append_right (by omega)]; simp [hrl])
  obtain ⟨τ3, s3, T3, t21⟩ := cdC (call := ev Try.prog m) (m := m) l11 lx (k := one.length) (by rw [wrap_i64 (by omega) (by omega)]; push_cast; omega) (ox.kp f2) n1.1 n1.2.2.1 n1.2.2.2 se0.1 (by omega) T2 t17 t18 t20
  -- the second end is told and reads
  have K3n := K13.next
  have hb1 : ∀ b ∈ b1', b ∈ b11 ∨ h.next ≤ b := a4
  have R2' : (Ty.sl 65 tT65).R true X3 [v12] two b12 := (R2.koS a5 fun b hb hx => dj b hx hb).kp K13
  obtain ⟨v2', X4, b2', q1, q2, q3, q4, q5⟩ := app_od2 R2' d2 (o := (3, 0, se + n, false)) (p := (4, 0, n, false)) (odIn ⟨by omega, by omega⟩ ⟨by omega, by omega⟩) (odIn ⟨by omega, by omega⟩ ⟨by omega, by omega⟩) (by omega)
  simp only [odC, opC, List.cons_append, List.nil_append] at q1
  obtain ⟨τ4, s4, T4⟩ := cdE (call := ev Try.prog m) (m := m) q1 T3 t21
  have hm2 : ∀ b ∈ b12, b < h.next := fun b hb => R2.mem b hb
  have hm1 : ∀ b ∈ b11, b < h.next := fun b hb => R1.mem b hb
  have hq5 := q5.next
  have p6a : X4.get p6 = h.get p6 := by rw [q5.get p6 (by omega) pb.2.2.2, K13.get p6 (by omega), a5.get p6 pn.2 pb.2.1]
  have p5a : X4.get p5 = h.get p5 := by rw [q5.get p5 (by omega) pb.2.2.1, K13.get p5 (by omega), a5.get p5 pn.1 pb.1]
  have g6a : ldVar Try.prog 49 p6 0 X4 = some (.agg (suC (crB C V))) := by rw [ldVar_eq p6a]; exact g6
  obtain ⟨hF2, hR2⟩ := crB_step FB n1.1 se0.1 n1.2.2.1 n1.2.2.2 (by omega)
  obtain ⟨y, X5, by5, r1, r2, r3, r4, r5⟩ := flowI_ev (S := crB C V) q2 (Kp.refl X4) m (by omega)
  have c1 := crNext (r := se + n) (w := V) (t := st) (by omega) (by omega) (by omega) hV (by omega)
  have c2 := crNext (r := se + n) (w := C) (t := cn) (by omega) (by omega) (by omega) hC (by omega)
  generalize creditP (se + n) V st = st' at *
  generalize creditP (se + n) C cn = cn' at *
  have ltwo : (two ++ [(3, 0, se + n, false), (4, 0, n, false)] : List tT65.D).length = two.length + 2 := by simp
  have hrun2 : FlowP (crB C V) (two ++ [(3, 0, se + n, false), (4, 0, n, false)]) = (runF (crB C V) (Fw0 (crB C V)) two ++ [ob 0 0 0 [], ob 0 0 0 (crFr st st' cn cn')], 0) := by
    rw [FlowP, if_neg (by omega), if_pos okB, hR2]
  rw [hrun2] at r1 r3
  simp only at r1 r3
  have hrl2 := runF_len (crB C V) (Fw0 (crB C V)) two
  have ol2 : (runF (crB C V) (Fw0 (crB C V)) two ++ [ob 0 0 0 [], ob 0 0 0 (crFr st st' cn cn')]).length = two.length + 2 := by simp [hrl2]
  have ly := r3.lenA (P := Try.prog) (T := 46) (by simp) X5
  rw [ol2] at ly
  have l12 := q2.lenA (P := Try.prog) (T := 51) (by simp) X5
  rw [ltwo] at l12
  obtain ⟨vy, bvy, oy, Rf, hbv⟩ := oAtE r3 (k := two.length + 1) (c := 0) (d := 0) (n := 0) (fr := crFr st st' cn cn') (by rw [List.getElem?_append_right (by omega)]; simp [hrl2])
  obtain ⟨vz, bvz, oz, _, _⟩ := oAtE r3 (k := two.length) (c := 0) (d := 0) (n := 0) (fr := []) (by rw [List.getElem?_append_right (by omega)]; simp [hrl2])
  have lf := Rf.lenA (P := Try.prog) (T := 61) (by simp) X5
  obtain ⟨τ5, s5, T5, t187, t188, t189⟩ := cdF (call := ev Try.prog m) (m := m) g6a r1 l12 ly (k := two.length + 1) (k' := two.length) (by rw [wrap_i64 (by omega) (by omega)]; push_cast; omega) (by rw [wrap_i64 (by omega) (by omega)]; push_cast; omega) oy oz lf T4
  -- what this tells
  have hr5n := r2.next
  have hfl := crFr_len st st' cn cn'
  have hb2 : ∀ b ∈ b1', b < X1.next := fun b hb => a2.mem b hb
  have R1' : (Ty.sl 65 tT65).R true X5 [v'] (one ++ [(2, 0, 100000, false)]) b1' := ((a2.kp K13).koS q5 fun b hb hx => by
    rcases hb1 b hb with h | h
    · exact dj b h hx
    · have := hm2 b hx; omega).kp r2
  have hFA : foldF (crA C V) (Fw0 (crA C V)) (one ++ [(2, 0, 100000, false)]) = fwA st cn (se + n) := by rw [foldF_app, FA, hs]
  have hI : CfI (crA C V) (crFr st st' cn cn') st' cn' p5 p6 v2' vy (se + n) i (one.length + 1) b1' X5 (crFr st st' cn cn').length τ5 X5 :=
    ⟨0, st, cn, _, v', b1', by omega, T5, t187, t188, t189, by simp, c1.1, c2.1, R1', a3, fun b hb => .inl hb, KoS.refl _ _, hFA, by simp⟩
  have hdj5 : ∀ b ∈ bvy, b ∉ b1' := fun b hb hx => by have h1 := r5 b (hbv b hb); have h2 := hb2 b hx; omega
  rw [s1, s2, s3, s4, s5, at_M Try.func7 4294594559 (by decide) 32 (by decide) (by kernel_rfl) []]
  simp [Try.f7]
  generalize hLo : evLoop _ _ _ _ _ _ = R
  obtain ⟨e, τ6, X6, rfl, rfl, k, st1, cn1, one1, v1, b1, hk, T6, _, _, _, hdr, hs1, hc1, R16, nd6, hlo6, hK6, hF6, hol6⟩ := loop_at hLo (cfLoop Rf hdj5 ⟨by omega, by omega⟩ ⟨by omega, by omega⟩ hfl (by omega) m (by omega) τ5 hI)
  rw [List.drop_eq_nil_of_le (by omega)] at hdr
  obtain ⟨rfl, rfl⟩ := crFr_nil hdr.symm
  have hK6n := hK6.next
  have hb6 : ∀ b ∈ b2', b < X4.next := fun b hb => q2.mem b hb
  have dj6 : ∀ b ∈ b2', b ∉ b1' := fun b hb hx => by
    have h1 := hb2 b hx
    rcases q4 b hb with h | h
    · rcases hb1 b hx with h' | h'
      · exact dj b h' h
      · have := hm2 b h; omega
    · omega
  have pb1 : p5 ∉ b1' ∧ p6 ∉ b1' := ⟨fun hx => by rcases hb1 _ hx with h | h; exact pb.1 h; omega, fun hx => by rcases hb1 _ hx with h | h; exact pb.2.1 h; omega⟩
  have p5b : X6.get p5 = h.get p5 := by rw [hK6.get p5 (by omega) pb1.1, r2.get p5 (by omega)]; exact p5a
  have p6b : X6.get p6 = h.get p6 := by rw [hK6.get p6 (by omega) pb1.2, r2.get p6 (by omega)]; exact p6a
  refine ⟨τ6, X6, by simp, T6.t16, one1, _, v1, v2', b1, b2', se + n, _, _, fun τ'' h1 h2 => ⟨⟨by rw [h1 _ (by omega) (by omega)]; exact T6.t5, by rw [h1 _ (by omega) (by omega)]; exact T6.t6, by rw [h1 _ (by omega) (by omega)]; exact T6.t11, by rw [h1 _ (by omega) (by omega)]; exact T6.t12, by rw [h1 _ (by omega) (by omega)]; exact T6.t13, by rw [h1 _ (by omega) (by omega)]; exact T6.t14, by rw [h1 _ (by omega) (by omega)]; exact T6.t15, h2⟩, R16, (q2.kp r2).koS hK6 dj6, nd6, q3, ?_, ?_, by omega, by rw [ldVar_eq p5b]; exact g5, by rw [ldVar_eq p6b]; exact g6, hF6, .inr hF2, ?_, by omega, ⟨by omega, by omega⟩, by omega, by omega⟩⟩
  · intro b hb hx
    rcases hlo6 b hb with h | h
    · exact dj6 b hx h
    · have := hb6 b hx; omega
  · refine ⟨fun hx => ?_, fun hx => ?_, fun hx => ?_, fun hx => ?_⟩
    · rcases hlo6 _ hx with h | h; exact pb1.1 h; omega
    · rcases hlo6 _ hx with h | h; exact pb1.2 h; omega
    · rcases q4 _ hx with h | h; exact pb.2.2.1 h; omega
    · rcases q4 _ hx with h | h; exact pb.2.2.2 h; omega
  · omega
end Go.Ev

/- The law FnCredits by the evaluator, whole. -/
namespace Go.Ev
open Go Go.Proofs
set_option linter.unusedSimpArgs false
set_option linter.unusedVariables false

theorem FlowP_no' {S : Sup} {ops : List tT65.D} (h : ¬ S.ok) (hl : ops.length ≤ 400) : FlowP S ops = ([], 1) := by
  unfold FlowP; rw [if_neg (by omega), if_neg h]
theorem FlowP_ok' {S : Sup} {ops : List tT65.D} (h : S.ok) (hl : ops.length ≤ 400) : FlowP S ops = (runF S (Fw0 S) ops, 0) := by
  unfold FlowP; rw [if_neg (by omega), if_pos h]
theorem upd_ne' {τ : Tm} {d j : Nat} {v : AV} (h : j ≠ d) : upd τ d v j = τ j := by simp [upd, h]
theorem empty65 {X : AH} {b : Nat} (hb : b < X.next) (g : X.get b = some (.cells 65 false [])) : (Ty.sl 65 tT65).R true X [.slice b 0 0] [] [b] :=
  .inr ⟨b, 0, false, [], [], rfl, rfl, hb, g, fun _ => ⟨rfl, rfl, by simp⟩, by simp, rfl, rfl⟩
theorem one65 {X : AH} {b : Nat} (hb : b < X.next) (g : X.get b = some (.cells 65 false [.int .i64 1, .int .i64 0, .int .i64 0, .bool false])) : (Ty.sl 65 tT65).R true X [.slice b 0 1] [(1, 0, 0, false)] [b] :=
  .inr ⟨b, 0, false, _, [], rfl, rfl, hb, g, fun _ => ⟨rfl, rfl, by simp [Ty.n]⟩, by simp [Ty.n], Rows.one (i65 (rw := true) (H := X) (x_3 := false) (InK.i64 (n := 1) (by omega) (by omega)) (InK.i64 (n := 0) (by omega) (by omega)) (InK.i64 (n := 0) (by omega) (by omega))) (by simp [Ty.n])⟩
theorem cr_ok {C V : Int} (h : (crB C V).ok) : (crA C V).ok ∧ (1 ≤ C ∧ C ≤ 16384) ∧ (1 ≤ V ∧ V ≤ 16384) := by
  have h1 := h.cw; have h2 := h.sw
  simp only [crB] at h1 h2
  exact ⟨⟨by simp [crA], by simp [crA], by simp [crA], by simp [crA], by simp only [crA]; exact ⟨by omega, by omega⟩, by simp only [crA]; exact ⟨by omega, by omega⟩, by simp [crA], by simp [crA]⟩, h1, h2⟩
def CdL (C V : Int) (p5 p6 : Nat) (d : Nat) (τ : Tm) (h : AH) : Prop := ∃ (i : Nat) (one two : List tT65.D) (v11 v12 : AV) (b11 b12 : List Nat) (se st cn : Int), i + d = 12 ∧ CdI C V p5 p6 i τ h one two v11 v12 b11 b12 se st cn
set_option maxRecDepth 20000 in
theorem cdLoop {C V : Int} (ok : (crB C V).ok) {p5 p6 : Nat} {h0 : AH} (m : Nat) (hm : 1000100 ≤ m) (τ : Tm) (hI : CdL C V p5 p6 12 τ h0) :
    ∃ e τ' H', evLoop Try.prog (ev Try.prog m) m (lp Try.prog 7 65530) τ h0 = some (e, τ', H') ∧ e = .exit 0 ∧ True := by
  refine loop_rule (d := 12) (CdL C V p5 p6) (fun e τ h => e = .exit 0 ∧ True) ?_ hI (by omega)
  rintro d τ h ⟨i, one, two, v11, v12, b11, b12, se, st, cn, hi, X⟩
  obtain ⟨okA, hC, hV⟩ := cr_ok ok
  have t16 := X.T.t16
  rw [lp_M Try.func7 65530 (by decide) 16 (by decide) (by kernel_rfl) [1048484]]
  by_cases hd0 : d = 0
  · have hc : ¬ ((i : Int) < 12) := by omega
    simp [Try.f7, t16, hc]
  · have hc : (i : Int) < 12 := by omega
    simp [Try.f7, t16, hc]
    generalize hτ1 : upd _ 68 _ = τ1
    have X1 : CdI C V p5 p6 i τ1 h one two v11 v12 b11 b12 se st cn := by
      obtain ⟨⟨t5, t6, t11, t12, t13, t14, t15, t16⟩, r⟩ := X
      exact ⟨by rw [← hτ1]; exact ⟨by simp [t5], by simp [t6], by simp [t11], by simp [t12], by simp [t13], by simp [t14], by simp [t15], by simp [t16]⟩, by assumption, by assumption, by assumption, by assumption, by assumption, by assumption, by assumption, by assumption, by assumption, by assumption, by assumption, by assumption, by assumption, by assumption, by assumption, by assumption⟩
    clear hτ1
    obtain ⟨τ', h', one', two', v11', v12', b11', b12', se', st', cn', s1, u16, key⟩ := cdRound hC hV okA ok (by omega) X1 m hm
    rw [s1]
    have w1 : IntKind.i64.wrap ((i : Int) + 1) = ((i + 1 : Nat) : Int) := by rw [wrap_i64 (n := (i : Int) + 1) (by omega) (by omega)]; omega
    simp [u16, w1]
    exact ⟨d - 1, by omega, i + 1, one', two', v11', v12', b11', b12', se', st', cn', by omega, key _ (fun j hj hj' => by simp (disch := omega) only [upd_ne']) (by simp)⟩
set_option maxRecDepth 20000 in
theorem law7 {H : AH} {s : AV} {l : List Int} {bs : List Nat} (h : (Ty.sl 5 (.int .u8)).R false H [s] l bs) (hs : (Ty.sl 5 (.int .u8)).sm l) (m : Nat) (hm : 4000000 ≤ m) : ∃ H', ev Try.prog m 7 [s] H = some (.bool true, H') := by
  obtain ⟨m, rfl⟩ : ∃ k, m = k + 1 := ⟨m - 1, by omega⟩
  have hL := h.lenA (P := Try.prog) (T := 34) (by simp)
  by_cases c : 1048576 < l.length
  · have c' : (1048576 : Int) < l.length := by omega
    rw [ev_M Try.func7 ok7 [] m _ H (by simp [Try.f7])]
    exact ⟨_, by simp [Try.f7, hL, c']; rfl⟩
  · have c' : ¬ ((1048576 : Int) < l.length) := by omega
    obtain ⟨v4, H1, b1, a1, a2, a3, a4, a5, a6⟩ := drawFl_ev h (by omega) m (by omega)
    generalize hD : drawFlP l = D at *
    obtain ⟨S, ops⟩ := D
    simp only at *
    obtain ⟨A, hA⟩ : ∃ A : AH, A = H1.push (.cells 49 false (suC S)) := ⟨_, rfl⟩
    have gA : A.get H1.next = some (.cells 49 false (suC S)) := by rw [hA]; simp
    have nA : A.next = H1.next + 1 := by rw [hA]; simp
    obtain ⟨B, hB⟩ : ∃ B : AH, B = A.push (.cells 49 false (suC (crA S.cw S.sw))) := ⟨_, rfl⟩
    have kB : Kp A B := by rw [hB]; exact (Kp.refl _).push _
    have gB : B.get A.next = some (.cells 49 false (suC (crA S.cw S.sw))) := by rw [hB]; simp
    have nB : B.next = A.next + 1 := by rw [hB]; simp
    obtain ⟨C, hC⟩ : ∃ C : AH, C = B.push (.cells 49 false (suC (crB S.cw S.sw))) := ⟨_, rfl⟩
    have kC : Kp B C := by rw [hC]; exact (Kp.refl _).push _
    have gC : C.get B.next = some (.cells 49 false (suC (crB S.cw S.sw))) := by rw [hC]; simp
    have nC : C.next = B.next + 1 := by rw [hC]; simp
    obtain ⟨D, hD⟩ : ∃ D : AH, D = C.push (.cells 65 false []) := ⟨_, rfl⟩
    have kD : Kp C D := by rw [hD]; exact (Kp.refl _).push _
    have gD : D.get C.next = some (.cells 65 false []) := by rw [hD]; simp
    have nD : D.next = C.next + 1 := by rw [hD]; simp
    have RD := empty65 (X := D) (by omega) gD
    obtain ⟨w, E, bw, e1, e2, e3, e4, e5⟩ := flowS_ev (S := crB S.cw S.sw) RD (Kp.refl D) m (by omega)
    have nE := e2.next
    have gAB : B.get H1.next = some (.cells 49 false (suC S)) := (kB.get _ (by omega)).trans gA
    have gAC : C.get H1.next = some (.cells 49 false (suC S)) := (kC.get _ (by omega)).trans gAB
    have gAE : E.get H1.next = some (.cells 49 false (suC S)) := ((kD.trans e2).get _ (by omega)).trans gAC
    have gCE : E.get B.next = some (.cells 49 false (suC (crB S.cw S.sw))) := ((kD.trans e2).get _ (by omega)).trans gC
    have gBE : E.get A.next = some (.cells 49 false (suC (crA S.cw S.sw))) := (((kC.trans kD).trans e2).get _ (by omega)).trans gB
    have A' := hA.symm
    have B' := hB.symm
    have C' := hC.symm
    have D' := hD.symm
    have x1 := gA
    have x2 := gAB
    have x3 := gAE
    simp only [suC] at a1 A' x1 x2 x3
    simp only [suC, crA] at B'
    simp only [suC, crB] at C'
    have l6 : ldVar Try.prog 49 B.next 0 C = some (.agg (suC (crB S.cw S.sw))) := by simp only [suC] at gC ⊢; simp [ldVar, gC]
    have l6E : ldVar Try.prog 49 B.next 0 E = some (.agg (suC (crB S.cw S.sw))) := by simp only [suC] at gCE ⊢; simp [ldVar, gCE]
    have l5E : ldVar Try.prog 49 A.next 0 E = some (.agg (suC (crA S.cw S.sw))) := by simp only [suC] at gBE ⊢; simp [ldVar, gBE]
    have q1 : ldVar Try.prog 3 H1.next 1 A = some (.int .i64 S.cw) := by simp [ldVar, x1]
    have q2 : ldVar Try.prog 3 H1.next 2 A = some (.int .i64 S.sw) := by simp [ldVar, x1]
    have q3 : ldVar Try.prog 3 H1.next 1 B = some (.int .i64 S.cw) := by simp [ldVar, x2]
    have q4 : ldVar Try.prog 3 H1.next 2 B = some (.int .i64 S.sw) := by simp [ldVar, x2]
    rw [ev_M Try.func7 ok7 [15] m _ H (by simp [Try.f7])]
    simp [Try.f7, tm0, hL, c', a1, stVar, spl, A']
    generalize hτ : upd _ 4 _ = τ1
    have t3 : τ1 3 = .ptr H1.next 0 := by rw [← hτ]; simp
    clear hτ
    rw [at_M Try.func7 15 (by decide) 4 (by decide) (by kernel_rfl) [63]]
    simp [Try.f7, t3, q1, q2, q3, q4, fillA, zerosA, stVar, spl, B', C']
    generalize hτ : upd _ 6 _ = τ2
    have u3 : τ2 3 = .ptr H1.next 0 := by rw [← hτ]; simp [t3]
    have u5 : τ2 5 = .ptr A.next 0 := by rw [← hτ]; simp
    have u6 : τ2 6 = .ptr B.next 0 := by rw [← hτ]; simp
    clear hτ
    by_cases ok : (crB S.cw S.sw).ok
    · rw [FlowP_ok' ok (by simp)] at e1
      simp only at e1
      obtain ⟨okA, hCw, hVw⟩ := cr_ok ok
      obtain ⟨F1, hF1⟩ : ∃ F1 : AH, F1 = E.push (.cells 65 false [.int .i64 1, .int .i64 0, .int .i64 0, .bool false]) := ⟨_, rfl⟩
      have kF1 : Kp E F1 := by rw [hF1]; exact (Kp.refl _).push _
      have gF1 : F1.get E.next = some (.cells 65 false [.int .i64 1, .int .i64 0, .int .i64 0, .bool false]) := by rw [hF1]; simp
      have nF1 : F1.next = E.next + 1 := by rw [hF1]; simp
      obtain ⟨F2, hF2⟩ : ∃ F2 : AH, F2 = F1.push (.cells 65 false []) := ⟨_, rfl⟩
      have kF2 : Kp F1 F2 := by rw [hF2]; exact (Kp.refl _).push _
      have gF2 : F2.get F1.next = some (.cells 65 false []) := by rw [hF2]; simp
      have nF2 : F2.next = F1.next + 1 := by rw [hF2]; simp
      have F1' := hF1.symm
      have F2' := hF2.symm
      have q5 : ldVar Try.prog 3 H1.next 1 F2 = some (.int .i64 S.cw) := by rw [ldVar_eq ((kF1.trans kF2).get _ (by omega))]; simp [ldVar, x3]
      have q6 : ldVar Try.prog 3 H1.next 2 F2 = some (.int .i64 S.sw) := by rw [ldVar_eq ((kF1.trans kF2).get _ (by omega))]; simp [ldVar, x3]
      have g1F : F2.get E.next = some (.cells 65 false [.int .i64 1, .int .i64 0, .int .i64 0, .bool false]) := (kF2.get _ (by omega)).trans gF1
      rw [at_M Try.func7 63 (by decide) 6 (by decide) (by kernel_rfl) [8191]]
      simp [Try.f7, u3, u6, l6, D', e1, F1', F2', q5, q6, fillA, zerosA, spl]
      generalize hτ : upd _ 15 _ = τ3
      have y5 : τ3 5 = .ptr A.next 0 := by rw [← hτ]; simp [u5]
      have y6 : τ3 6 = .ptr B.next 0 := by rw [← hτ]; simp [u6]
      have y11 : τ3 11 = .slice E.next 0 1 := by rw [← hτ]; simp
      have y12 : τ3 12 = .slice F1.next 0 0 := by rw [← hτ]; simp
      have y13 : τ3 13 = .int .i64 0 := by rw [← hτ]; simp
      have y14 : τ3 14 = .int .i64 S.sw := by rw [← hτ]; simp
      have y15 : τ3 15 = .int .i64 S.cw := by rw [← hτ]; simp
      clear hτ
      rw [at_M Try.func7 8191 (by decide) 13 (by decide) (by kernel_rfl) []]
      simp [Try.f7]
      generalize hLo : evLoop _ _ _ _ _ _ = R
      obtain ⟨e, τ', H', rfl, rfl, _⟩ := loop_at hLo (cdLoop ok (p5 := A.next) (p6 := B.next) m (by omega) _ ⟨0, [(1, 0, 0, false)], [], .slice E.next 0 1, .slice F1.next 0 0, [E.next], [F1.next], 0, S.sw, S.cw, by omega, ⟨⟨by simp [y5], by simp [y6], by simp [y11], by simp [y12], by simp [y13], by simp [y14], by simp [y15], by simp⟩, one65 (by omega) g1F, empty65 (by omega) gF2, by simp, by simp, by simp; omega, ⟨by simp; omega, by simp; omega, by simp; omega, by simp; omega⟩, by omega, by rw [ldVar_eq ((kF1.trans kF2).get _ (by omega))]; exact l5E, by rw [ldVar_eq ((kF1.trans kF2).get _ (by omega))]; exact l6E, congrArg Prod.fst (crOpen S.cw S.sw), .inl ⟨rfl, rfl, rfl, rfl, rfl⟩, by simp, by simp, by omega, by omega, by omega⟩⟩)
      simp
    · rw [FlowP_no' ok (by simp)] at e1
      simp only at e1
      obtain ⟨F1, hF1⟩ : ∃ F1 : AH, F1 = E.push (.cells 65 false []) := ⟨_, rfl⟩
      have kF1 : Kp E F1 := by rw [hF1]; exact (Kp.refl _).push _
      have gF1 : F1.get E.next = some (.cells 65 false []) := by rw [hF1]; simp
      have nF1 : F1.next = E.next + 1 := by rw [hF1]; simp
      obtain ⟨g, G, bg, f1, f2, f3, f4, f5⟩ := flowI_ev (S := crB S.cw S.sw) (empty65 (X := F1) (by omega) gF1) (Kp.refl F1) m (by omega)
      rw [FlowP_no' ok (by simp)] at f1
      simp only at f1
      have F1' := hF1.symm
      rw [at_M Try.func7 63 (by decide) 6 (by decide) (by kernel_rfl) []]
      simp [Try.f7, u6, l6, l6E, D', e1, F1', f1, fillA, zerosA, spl]
end Go.Ev

/- From what came in to the evaluator: a call's arguments. -/
namespace Go.Ev
open Go Go.RowKit
set_option linter.unusedSimpArgs false
set_option linter.unusedVariables false

section
variable {P : Program} {w : World} {Hd : Type} {enc : TypeId × Value → Hd} {held : Bool} {r : Reach} {base : Nat}

def HE : AH := { get := fun _ => none, next := 0 }
theorem rel_empty (P : Program) (w : World) : Rel P w HE (fun _ => none) w :=
  ⟨Below.refl _ _, fun _ _ => rfl, fun b x h => by simp [HE] at h, fun b x h => by simp [HE] at h, fun b x h => by simp [HE] at h⟩

/-- an argument: its abstract value, in the memory that its rows lie in -/
def ArgRes (P : Program) (w : World) (t : Ty) (v : Value) (H : AH) (μ : Mu) : Prop :=
  ∃ H' μ' a c d bs, Ext μ μ' ∧ Rel P w H' μ' w ∧ Kp H H' ∧ VR μ' a v ∧ t.R false H' c d bs ∧ t.sm d ∧ (a = .agg c ∨ c = [a])

theorem arg1 {T : TypeId} {t : Ty} {v : Value} {d : DataW Hd} {p : List MemPlace} {H : AH} {μ : Mu} (hf : Fits P T t) (h : DataW.Trod enc P w 0 (fun _ => true) held T v d p) (hR : Rel P w H μ w) (hv : v.cells.toList = [v]) :
    ∃ H' μ' a d bs, Ext μ μ' ∧ Rel P w H' μ' w ∧ Kp H H' ∧ VR μ' a v ∧ t.R false H' [a] d bs ∧ t.sm d := by
  obtain ⟨fuel, hf'⟩ := h
  rw [hv] at hf'
  obtain ⟨H', μ', c, d, bs, e, r1, k, hV, hr, hs⟩ := in_ty fuel hf hf' hR
  match c, hV with
  | [], hV => simp [VRs] at hV
  | [a], hV =>
    simp only [VRs] at hV
    obtain ⟨u, us, hu, hV, _⟩ := hV
    simp only [List.cons.injEq] at hu
    obtain ⟨rfl, _⟩ := hu
    exact ⟨H', μ', a, d, bs, e, r1, k, hV, hr, hs⟩
  | a :: b :: c, hV =>
    simp only [VRs] at hV
    obtain ⟨u, us, hu, hV, u2, us2, hu2, _⟩ := hV
    simp only [List.cons.injEq] at hu
    rw [hu2] at hu; simp at hu
theorem argSl {T e : TypeId} {t : Ty} {v : Value} {d : DataW Hd} {p : List MemPlace} {H : AH} {μ : Mu} (hf : Fits P T t) (hT : P.underlying T = some (.slice e)) (hval : Value.okWide P w r base T v) (h : DataW.Trod enc P w 0 (fun _ => true) held T v d p) (hR : Rel P w H μ w) :
    ∃ H' μ' a d bs, Ext μ μ' ∧ Rel P w H' μ' w ∧ Kp H H' ∧ VR μ' a v ∧ t.R false H' [a] d bs ∧ t.sm d := by
  obtain ⟨a, l, c, rfl⟩ := Go.WideShapes.okWide_slice hT hval
  exact arg1 hf h hR rfl
theorem argInt {T : TypeId} {k : IntKind} {t : Ty} {v : Value} {d : DataW Hd} {p : List MemPlace} {H : AH} {μ : Mu} (hf : Fits P T t) (hT : P.underlying T = some (.int k)) (hval : Value.okWide P w r base T v) (h : DataW.Trod enc P w 0 (fun _ => true) held T v d p) (hR : Rel P w H μ w) :
    ∃ H' μ' a d bs, Ext μ μ' ∧ Rel P w H' μ' w ∧ Kp H H' ∧ VR μ' a v ∧ t.R false H' [a] d bs ∧ t.sm d := by
  obtain ⟨n, rfl⟩ := Go.WideShapes.okWide_int hT hval
  exact arg1 hf h hR rfl
theorem argBool {T : TypeId} {t : Ty} {v : Value} {d : DataW Hd} {p : List MemPlace} {H : AH} {μ : Mu} (hf : Fits P T t) (hT : P.underlying T = some .bool) (hval : Value.okWide P w r base T v) (h : DataW.Trod enc P w 0 (fun _ => true) held T v d p) (hR : Rel P w H μ w) :
    ∃ H' μ' a d bs, Ext μ μ' ∧ Rel P w H' μ' w ∧ Kp H H' ∧ VR μ' a v ∧ t.R false H' [a] d bs ∧ t.sm d := by
  obtain ⟨n, rfl⟩ := Go.WideShapes.okWide_bool hT hval
  exact arg1 hf h hR rfl
theorem argStr {T : TypeId} {t : Ty} {v : Value} {d : DataW Hd} {p : List MemPlace} {H : AH} {μ : Mu} (hf : Fits P T t) (hT : P.underlying T = some .string) (hval : Value.okWide P w r base T v) (h : DataW.Trod enc P w 0 (fun _ => true) held T v d p) (hR : Rel P w H μ w) :
    ∃ H' μ' a d bs, Ext μ μ' ∧ Rel P w H' μ' w ∧ Kp H H' ∧ VR μ' a v ∧ t.R false H' [a] d bs ∧ t.sm d := by
  obtain ⟨n, rfl⟩ := Go.WideShapes.okWide_string hT hval
  exact arg1 hf h hR rfl
/-- a struct by value -/
theorem argAgg {T : TypeId} {fs : Array Field} {t : Ty} {v : Value} {d : DataW Hd} {p : List MemPlace} {H : AH} {μ : Mu} (hf : Fits P T t) (hT : P.underlying T = some (.struct fs)) (hval : Value.okWide P w r base T v) (h : DataW.Trod enc P w 0 (fun _ => true) held T v d p) (hR : Rel P w H μ w) :
    ∃ H' μ' c d bs, Ext μ μ' ∧ Rel P w H' μ' w ∧ Kp H H' ∧ VR μ' (.agg c) v ∧ t.R false H' c d bs ∧ t.sm d := by
  obtain ⟨cs, rfl, _⟩ := Go.WideShapes.okWide_struct hT hval
  obtain ⟨fuel, hf'⟩ := h
  obtain ⟨H', μ', c, d, bs, e, r1, k, hV, hr, hs⟩ := in_ty fuel hf hf' hR
  exact ⟨H', μ', c, d, bs, e, r1, k, by simp only [VR]; exact ⟨cs, rfl, hV⟩, hr, hs⟩

theorem law_run2 (hm : P.follows .mixedOrders = true) {H : AH} {μ : Mu} {n : Nat} {f : FuncId} {args : List AV} {vs : Array Value} {H' : AH} (hR : Rel P w H μ w)
    (h : ev P n f args H = some (.bool true, H')) (hv : VRs μ args vs.toList) :
    Calls P f vs w fun e w' => e = .returned (.bool true) ∧ Below w.heap.size w w' := by
  refine (ev_sound hm n f args H (.bool true) H' μ w vs h hR hv).2.mono ?_
  rintro e w' ⟨v, μ', rfl, hx, hR, hv⟩
  simp only [VR] at hv
  subst hv
  exact ⟨rfl, hR.below⟩
end
end Go.Ev
