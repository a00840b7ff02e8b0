/- Lemmas of an evaluator of the given code and of what the functions answer; no condition of its own. -/
import Derived.Test.YtnoacfilglgbgaaEv13
import Derived.Test.YtnoacfilglgbgaaEv7
import Derived.WideShapes
/- Credit: what arrives, in the program, whole. -/
namespace Go.Ev
open Go Go.Proofs
set_option linter.unusedSimpArgs false
set_option linter.unusedVariables false

theorem getsP_st {S : Sup} {L : List Bk} {id : Int} {i : Nat} (h : getsP S L id = some i) : stIx L id = some i := by
  unfold getsP at h
  split at h
  · simp at h
  · exact h
/-- the last steps of what arrives -/
theorem arI2 {S : Sup} {F : Fw} {k : Nat} {q mp op pt tl : Nat} {bs : List Nat} {h : AH} (X : FwI S F q mp op pt tl bs h) (G : F.good S k) (id n : Int) (hn : inW n) {i : Nat} (hs : getsP S F.L id = some i) (m : Nat) (τ : Tm) (t0 : τ 0 = .ptr q 0) (t1 : τ 1 = .int .i64 id) (t2 : τ 2 = .int .i64 n) :
    ∃ c F' h', resM Try.prog [.tmp 6] (evAt Try.prog (ev Try.prog m) m 112 15 τ h) = some (.int .i64 c, h') ∧ StpI S F' q mp op pt tl bs h h' ∧
      (F', c) = (if (F.at_ i).to < max n (F.at_ i).ca ∨ F.tc - (sumI Bk.ca F.L - (F.at_ i).ca) < max n (F.at_ i).ca then (F, 8) else (F.upd i fun s => { s with ca := max n (F.at_ i).ca }, 0)) := by
  have g := X.gq
  have l9 : ldVar Try.prog 268 q 9 h = some (.map mp) := by simp only [fiC] at g; simp [ldVar, g]
  have lk := X.look id
  rw [strm_o, getsP_st hs] at lk
  simp only [ptrO] at lk
  have hi := getsP_lt hs
  have gb := X.gb i hi
  obtain ⟨u0, u1, u2, u3, u4, u5, u6⟩ := X.nds hi
  have hgs := G.at_ hi
  rw [at_L hi] at hgs
  have h1 := hgs.re; have h2 := hgs.ca; have h3 := hgs.to; have h4 := G.ca; have h5 := G.tc; have hkk := G.kk
  have hcm := sumI_mem (good_ca G) F.L[i] (List.getElem_mem hi)
  rw [at_L hi]
  unfold inW at hn
  have l2 : ldVar Try.prog 3 (bs.getD i 0) 2 h = some (.int .i64 F.L[i].to) := by simp only [Bk.c5] at gb; simp only [ldVar, gb]; simp
  have l3 : ldVar Try.prog 3 (bs.getD i 0) 3 h = some (.int .i64 F.L[i].ca) := by simp only [Bk.c5] at gb; simp only [ldVar, gb]; simp
  have l15 : ldVar Try.prog 3 q 15 h = some (.int .i64 F.tc) := by simp only [fiC] at g; simp [ldVar, g]
  have l16 : ldVar Try.prog 3 q 16 h = some (.int .i64 (sumI Bk.ca F.L)) := by simp only [fiC] at g; simp [ldVar, g]
  generalize hM : max 0 (n - F.L[i].ca) = M at *
  have hmx : (if F.L[i].ca < n then n - F.L[i].ca else 0) = M := by rw [← hM]; split <;> omega
  have hK : max n F.L[i].ca = F.L[i].ca + M := by omega
  rw [hK]
  have w1 : IntKind.i64.wrap (n - F.L[i].ca) = n - F.L[i].ca := wrap_i64 (n := n - F.L[i].ca) (by omega) (by omega)
  have w2 : IntKind.i64.wrap (sumI Bk.ca F.L + M) = sumI Bk.ca F.L + M := wrap_i64 (n := sumI Bk.ca F.L + M) (by omega) (by omega)
  by_cases c1 : F.L[i].to < n
  · rw [if_pos (.inl (by omega))]
    refine ⟨8, F, h, ?_, ⟨bs, X, KoS.refl _ _, fun b hb => .inl hb⟩, rfl⟩
    generalize bs.getD i 0 = b at *
    rw [at_M Try.func112 15 (by decide) 4 (by decide) (by kernel_rfl) []]
    simp [Try.f112, t0, t1, t2, l9, lk, l2, l3, w1, mx2, foldA, hmx, c1, evHist, ObsOk, ObOk, List.getElem?_cons_zero]
  · have c1' := eq_false c1
    by_cases c2 : F.tc < sumI Bk.ca F.L + M
    · rw [if_pos (.inr (by omega))]
      refine ⟨8, F, h, ?_, ⟨bs, X, KoS.refl _ _, fun b hb => .inl hb⟩, rfl⟩
      generalize bs.getD i 0 = b at *
      rw [at_M Try.func112 15 (by decide) 4 (by decide) (by kernel_rfl) []]
      simp [Try.f112, t0, t1, t2, l9, lk, l2, l3, l15, l16, w1, w2, mx2, foldA, hmx, c1', c2, evHist, ObsOk, ObOk, List.getElem?_cons_zero]
    · rw [if_neg (by omega)]
      have c2' := eq_false c2
      have w3 : IntKind.i64.wrap (F.L[i].ca + M) = F.L[i].ca + M := wrap_i64 (n := F.L[i].ca + M) (by omega) (by omega)
      have hsum : sumI Bk.ca (F.L.set i { F.L[i] with ca := F.L[i].ca + M }) = sumI Bk.ca F.L + M := by rw [sumI_set Bk.ca F.L i hi]; simp only; omega
      have hsum2 : sumI Bk.se (F.L.set i { F.L[i] with ca := F.L[i].ca + M }) = sumI Bk.se F.L := by rw [sumI_set Bk.se F.L i hi]; simp only; omega
      have s3 : stVar Try.prog 3 (bs.getD i 0) 3 (.int .i64 (F.L[i].ca + M)) h = some (h.set (bs.getD i 0) (.cells 277 false (Bk.c5 { F.L[i] with ca := F.L[i].ca + M }))) := by simp only [Bk.c5] at gb ⊢; simp only [stVar, gb]; simp [spl]
      have gB : (h.set (bs.getD i 0) (.cells 277 false (Bk.c5 { F.L[i] with ca := F.L[i].ca + M }))).get q = some (.cells 271 false (fiC S F mp op pt tl)) := by rw [AH.set_getN _ _ (fun e => u2 e.symm)]; exact g
      refine ⟨0, _, (h.set (bs.getD i 0) (.cells 277 false (Bk.c5 { F.L[i] with ca := F.L[i].ca + M }))).set q (.cells 271 false (fiC S (F.upd i fun s => { s with ca := F.L[i].ca + M }) mp op pt tl)), ?_, ⟨bs, ?_, ((KoS.refl _ _).set1 (mem6 u0) _).set1 (by simp) _, fun b hb => .inl hb⟩, rfl⟩
      · have l16' : ldVar Try.prog 3 q 16 (h.set (bs.getD i 0) (.cells 277 false (Bk.c5 { F.L[i] with ca := F.L[i].ca + M }))) = some (.int .i64 (sumI Bk.ca F.L)) := by simp only [fiC] at gB; simp only [ldVar, gB]; simp
        have s16 : stVar Try.prog 3 q 16 (.int .i64 (sumI Bk.ca F.L + M)) (h.set (bs.getD i 0) (.cells 277 false (Bk.c5 { F.L[i] with ca := F.L[i].ca + M }))) = some ((h.set (bs.getD i 0) (.cells 277 false (Bk.c5 { F.L[i] with ca := F.L[i].ca + M }))).set q (.cells 271 false (fiC S (F.upd i fun s => { s with ca := F.L[i].ca + M }) mp op pt tl))) := by
          simp only [fiC, Fw.upd, at_L hi, hsum, hsum2] at gB ⊢
          simp only [stVar, gB]; simp [spl]
        generalize h.set (bs.getD i 0) (.cells 277 false (Bk.c5 { F.L[i] with ca := F.L[i].ca + M })) = B at *
        generalize bs.getD i 0 = b at *
        rw [at_M Try.func112 15 (by decide) 4 (by decide) (by kernel_rfl) []]
        simp [Try.f112, t0, t1, t2, l9, lk, l2, l3, l15, l16, w1, w2, w3, mx2, foldA, hmx, c1', c2', s3, l16', s16, evHist, ObsOk, ObOk, List.getElem?_cons_zero]
      · refine X.upd hi { F.L[i] with ca := F.L[i].ca + M } rfl (by simp only [Fw.upd, at_L hi]) ⟨rfl, rfl⟩ ⟨rfl, rfl⟩ ⟨rfl, rfl⟩ (by simp) (by simp) (by rw [AH.set_getN _ _ u2]; simp) (fun x hx hxb => ?_)
        have hxq : x ≠ q := fun e => by have := X.nd; rw [List.nodup_cons] at this; exact this.1 (e ▸ hx)
        rw [AH.set_getN _ _ hxq, AH.set_getN _ _ hxb]
theorem arriveI_ev {S : Sup} {F : Fw} {k : Nat} {q mp op pt tl : Nat} {bs : List Nat} {h : AH} (X : FwI S F q mp op pt tl bs h) (G : F.good S k) (hk : k + 1 ≤ 400) (id n : Int) (m : Nat) (hm : 1030 ≤ m) :
    ∃ h', ev Try.prog m 112 [.ptr q 0, .int .i64 id, .int .i64 n] h = some (.int .i64 (arriveP S F id n).2, h') ∧ StpI S (arriveP S F id n).1 q mp op pt tl bs h h' := by
  obtain ⟨m, rfl⟩ : ∃ k, m = k + 1 := ⟨m - 1, by omega⟩
  have e1 := IdPartsI_ev id h m (by omega)
  have e2 := fun H => inVarF_ev n H m (by omega)
  have st0 : StpI S F q mp op pt tl bs h h := ⟨bs, X, KoS.refl _ _, fun b hb => .inl hb⟩
  unfold arriveP
  by_cases c1 : idOk id
  · rw [if_pos c1] at e1
    by_cases c2 : inW n
    · rw [if_neg (by simp [c1, c2])]
      obtain ⟨c, h1, e3, f1, f2⟩ := let_ev X G hk id c1 m (by omega)
      by_cases c3 : idSv id ≠ S.sv ∧ F.i (idOw id) ≤ id / 4
      · rw [if_pos c3]
        obtain ⟨rfl, rfl⟩ := f1 c3
        refine ⟨h1, ?_, st0⟩
        rw [ev_M Try.func112 ok112 [] m _ h1 (by simp [Try.f112])]
        simp [Try.f112, tm0, e1, e2, c2, e3]
      · rw [if_neg c3]
        obtain ⟨s1, hc⟩ := f2 c3
        have hG : (if idSv id ≠ S.sv then addAll S (idSv id) (idOw id) (id / 4 + 1).toNat F else F).good S (k + 1) := by
          split
          · rename_i hne
            have hI := G.i (idOw id)
            have hkk := G.kk
            have : ¬ (F.i (idOw id) ≤ id / 4) := fun h => c3 ⟨hne, h⟩
            exact addAll_good G hk hne _ (by omega)
          · exact G.mono (by omega) hk
        dsimp only
        generalize (if idSv id ≠ S.sv then addAll S (idSv id) (idOw id) (id / 4 + 1).toNat F else F) = H at *
        cases hs : getsP S H.L id with
        | none =>
          rw [hs] at hc
          simp only [if_true] at hc
          subst hc
          refine ⟨h1, ?_, s1⟩
          rw [ev_M Try.func112 ok112 [] m _ h (by simp [Try.f112])]
          simp [Try.f112, tm0, e1, e2, c2, e3]
        | some i =>
          rw [hs] at hc
          simp only [reduceCtorEq, if_false] at hc
          subst hc
          obtain ⟨bs1, x1, x2, x3⟩ := s1
          have hh : ∃ τ', ev Try.prog (m + 1) 112 [.ptr q 0, .int .i64 id, .int .i64 n] h = resM Try.prog [.tmp 6] (evAt Try.prog (ev Try.prog m) m 112 15 τ' h1) ∧ τ' 0 = .ptr q 0 ∧ τ' 1 = .int .i64 id ∧ τ' 2 = .int .i64 n := by
            rw [ev_M Try.func112 ok112 [15] m _ h (by simp [Try.f112])]
            exact ⟨_, by simp [Try.f112, tm0, e1, e2, c2, e3]; rfl, by simp [tm0], by simp [tm0], by simp [tm0]⟩
          obtain ⟨τ1, e4, t0, t1, t2⟩ := hh
          obtain ⟨c, F', h', e5, s5, g5⟩ := arI2 x1 hG id n c2 hs m τ1 t0 t1 t2
          have s6 := StpI.trans x1 x2 x3 s5
          dsimp only
          rw [← g5]
          exact ⟨h', by rw [e4, e5], s6⟩
    · rw [if_pos (.inr c2)]
      refine ⟨h, ?_, st0⟩
      rw [ev_M Try.func112 ok112 [] m _ h (by simp [Try.f112])]
      simp [Try.f112, tm0, e1, e2, c2]
  · rw [if_neg c1] at e1
    rw [if_pos (.inl c1)]
    refine ⟨h, ?_, st0⟩
    rw [ev_M Try.func112 ok112 [] m _ h (by simp [Try.f112])]
    simp [Try.f112, tm0, e1, U]
end Go.Ev

/- Credit: the program reads. -/
namespace Go.Ev
open Go Go.Proofs
set_option linter.unusedSimpArgs false
set_option linter.unusedVariables false

structure RiT (τ : Tm) (q b : Nat) (id : Int) (va : AV) : Prop where
  t0 : τ 0 = .ptr q 0
  t1 : τ 1 = .int .i64 id
  t8 : τ 8 = .ptr b 0
  t9 : τ 9 = va
structure RiF (va : AV) (l : List Fr) (bo : List Nat) (lo : Nat) (H : AH) : Prop where
  R : (Ty.sl 72 tT72).R true H [va] l bo
  nd : bo.Nodup
  lo : ∀ b ∈ bo, lo ≤ b
set_option maxRecDepth 20000 in
theorem riB {S : Sup} {F : Fw} {q mp op pt tl : Nat} {bs : List Nat} {H : AH} {i : Nat} {id : Int} {va : AV} {bo : List Nat} {lo : Nat} (X : FwI S F q mp op pt tl bs H) (hi : i < F.L.length) (hid : InK .i64 id) (h1 : -1000000000 ≤ F.L[i].re ∧ F.L[i].re ≤ 1000000000) (h2 : -1000000000 ≤ F.L[i].to ∧ F.L[i].to ≤ 1000000000) (h3 : S.ok)
    (A : RiF va [] bo lo H) (hbo : ∀ b ∈ bo, b ∉ q :: mp :: op :: pt :: tl :: bs) (hlo : lo ≤ H.next) (m : Nat) (hm : 10 ≤ m) (τ : Tm) (T : RiT τ q (bs.getD i 0) id va) :
    ∃ τ' H' va' bo', evAt Try.prog (ev Try.prog m) m 113 255 τ H = evAt Try.prog (ev Try.prog m) m 113 511 τ' H' ∧ RiT τ' q (bs.getD i 0) id va' ∧ FwI S (F.upd i fun s => { s with to := creditP F.L[i].re S.sw F.L[i].to }) q mp op pt tl bs H' ∧
      RiF va' (if creditP F.L[i].re S.sw F.L[i].to ≠ F.L[i].to then [frm 17 id (creditP F.L[i].re S.sw F.L[i].to)] else []) bo' lo H' ∧ (∀ b ∈ bo', b ∈ bo ∨ H.next ≤ b) ∧ KoS (bo ++ (q :: mp :: op :: pt :: tl :: bs)) H H' := by
  obtain ⟨t0, t1, t8, t9⟩ := T
  obtain ⟨hR, hnd, hlob⟩ := A
  have g := X.gq
  have gb := X.gb i hi
  obtain ⟨u0, u1, u2, u3, u4, u5, u6⟩ := X.nds hi
  have e2 := fun H => CreditI_ev F.L[i].re S.sw F.L[i].to H m (by omega)
  have ct : InK .i64 (creditP F.L[i].re S.sw F.L[i].to) := by
    have := h3.sw
    unfold creditP; split
    · exact InK.i64 (by omega) (by omega)
    · split <;> exact InK.i64 (by omega) (by omega)
  have ls : ldVar Try.prog 3 q 2 H = some (.int .i64 S.sw) := by simp only [fiC] at g; simp [ldVar, g]
  have l2 : ldVar Try.prog 3 (bs.getD i 0) 2 H = some (.int .i64 F.L[i].to) := by simp only [Bk.c5] at gb; simp only [ldVar, gb]; simp
  have l4 : ldVar Try.prog 3 (bs.getD i 0) 4 H = some (.int .i64 F.L[i].re) := by simp only [Bk.c5] at gb; simp only [ldVar, gb]; simp
  have hbb : bs.getD i 0 ∉ bo := fun h => hbo _ h (mem6 u0)
  by_cases hne : creditP F.L[i].re S.sw F.L[i].to = F.L[i].to
  · have hne' : (creditP F.L[i].re S.sw F.L[i].to != F.L[i].to) = false := by simpa using hne
    have hF : (F.upd i fun s => { s with to := creditP F.L[i].re S.sw F.L[i].to }) = F := by
      rw [hne]
      simp only [Fw.upd, at_L hi]
      have : F.L.set i { F.L[i] with to := F.L[i].to } = F.L := by
        have : ({ F.L[i] with to := F.L[i].to } : Bk) = F.L[i] := rfl
        rw [this]; exact List.set_getElem_self hi
      rw [this]
    rw [hF, if_neg (by simpa using hne)]
    have hex : ∃ τ', evAt Try.prog (ev Try.prog m) m 113 255 τ H = evAt Try.prog (ev Try.prog m) m 113 511 τ' H ∧ RiT τ' q (bs.getD i 0) id va := by
      generalize bs.getD i 0 = b at *
      generalize creditP F.L[i].re S.sw F.L[i].to = t at *
      rw [at_M Try.func113 255 (by decide) 8 (by decide) (by kernel_rfl) [511]]
      exact ⟨_, by simp [Try.f113, t0, t8, ls, l2, l4, e2, hne', evHist, ObsOk, ObOk, List.getElem?_cons_zero]; rfl, by simp [t0], by simp [t1], by simp [t8], by simp [t9]⟩
    obtain ⟨τ', e3, T'⟩ := hex
    exact ⟨τ', H, va, bo, e3, T', X, ⟨hR, hnd, hlob⟩, fun b hb => .inl hb, KoS.refl _ _⟩
  · have hne' : (creditP F.L[i].re S.sw F.L[i].to != F.L[i].to) = true := by simpa using hne
    rw [if_pos hne]
    have hsum : sumI Bk.se (F.L.set i { F.L[i] with to := creditP F.L[i].re S.sw F.L[i].to }) = sumI Bk.se F.L := by rw [sumI_set Bk.se F.L i hi]; simp only; omega
    have hsum2 : sumI Bk.ca (F.L.set i { F.L[i] with to := creditP F.L[i].re S.sw F.L[i].to }) = sumI Bk.ca F.L := by rw [sumI_set Bk.ca F.L i hi]; simp only; omega
    have s2 : stVar Try.prog 3 (bs.getD i 0) 2 (.int .i64 (creditP F.L[i].re S.sw F.L[i].to)) H = some (H.set (bs.getD i 0) (.cells 277 false (Bk.c5 { F.L[i] with to := creditP F.L[i].re S.sw F.L[i].to }))) := by simp only [Bk.c5] at gb ⊢; simp only [stVar, gb]; simp [spl]
    have X1 : FwI S (F.upd i fun s => { s with to := creditP F.L[i].re S.sw F.L[i].to }) q mp op pt tl bs (H.set (bs.getD i 0) (.cells 277 false (Bk.c5 { F.L[i] with to := creditP F.L[i].re S.sw F.L[i].to }))) := by
      refine X.upd hi { F.L[i] with to := creditP F.L[i].re S.sw F.L[i].to } rfl (by simp only [Fw.upd, at_L hi]) ⟨rfl, rfl⟩ ⟨rfl, rfl⟩ ⟨rfl, rfl⟩ (by simp) ?_ (by simp) (fun x hx hxb => AH.set_getN _ _ hxb)
      rw [AH.set_getN _ _ (fun e => u2 e.symm), g]
      simp only [fiC, Fw.upd, at_L hi, hsum, hsum2]
    have hR1 : (Ty.sl 72 tT72).R true (H.set (bs.getD i 0) (.cells 277 false (Bk.c5 { F.L[i] with to := creditP F.L[i].re S.sw F.L[i].to }))) [va] [] bo := hR.stay (by simp) fun x hx => AH.set_getN _ _ (fun e => hbb (e ▸ hx))
    have kB : KoS (bo ++ (q :: mp :: op :: pt :: tl :: bs)) H (H.set (bs.getD i 0) (.cells 277 false (Bk.c5 { F.L[i] with to := creditP F.L[i].re S.sw F.L[i].to }))) := (KoS.refl _ _).set1 (List.mem_append_right _ (mem6 u0)) _
    have nB : (H.set (bs.getD i 0) (.cells 277 false (Bk.c5 { F.L[i] with to := creditP F.L[i].re S.sw F.L[i].to }))).next = H.next := rfl
    generalize H.set (bs.getD i 0) (.cells 277 false (Bk.c5 { F.L[i] with to := creditP F.L[i].re S.sw F.L[i].to })) = B at *
    obtain ⟨vb, Y, bo', a1, a2, a3, a4, a5⟩ := app72 (k := 17) (a := id) (b := creditP F.L[i].re S.sw F.L[i].to) hR1 hnd (InK.i64 (by omega) (by omega)) hid ct (by simp)
    have X2 : FwI S (F.upd i fun s => { s with to := creditP F.L[i].re S.sw F.L[i].to }) q mp op pt tl bs Y := X1.stay a5.next fun x hx => a5.get x (X1.lt x hx) (fun hb => hbo x hb hx)
    have hex : ∃ τ', evAt Try.prog (ev Try.prog m) m 113 255 τ H = evAt Try.prog (ev Try.prog m) m 113 511 τ' Y ∧ RiT τ' q (bs.getD i 0) id vb := by
      simp only [frmC] at a1
      generalize bs.getD i 0 = b at *
      generalize creditP F.L[i].re S.sw F.L[i].to = t at *
      rw [at_M Try.func113 255 (by decide) 8 (by decide) (by kernel_rfl) [511]]
      exact ⟨_, by simp [Try.f113, t0, t1, t8, t9, ls, l2, l4, e2, hne', s2, fillA, zerosA, spl, a1, evHist, ObsOk, ObOk, List.getElem?_cons_zero]; rfl, by simp [t0], by simp [t1], by simp [t8], by simp⟩
    obtain ⟨τ', e3, T'⟩ := hex
    refine ⟨τ', Y, vb, bo', e3, T', X2, ⟨a2, a3, fun x hx => (a4 x hx).elim (hlob x) (fun h => by omega)⟩, fun x hx => (a4 x hx).imp (fun h => h) (fun h => by omega), kB.trans a5 (fun x hx => .inl (List.mem_append_left _ hx))⟩
set_option maxRecDepth 20000 in
theorem riC {S : Sup} {F : Fw} {q mp op pt tl b : Nat} {bs : List Nat} {H : AH} {id : Int} {va : AV} {l : List Fr} {bo : List Nat} {lo : Nat} (X : FwI S F q mp op pt tl bs H) (h1 : -1000000000 ≤ F.rc ∧ F.rc ≤ 1000000000) (h2 : -1000000000 ≤ F.tc ∧ F.tc ≤ 1000000000) (h3 : S.ok) (hl : l.length ≤ 5)
    (A : RiF va l bo lo H) (hbo : ∀ b ∈ bo, b ∉ q :: mp :: op :: pt :: tl :: bs) (hlo : lo ≤ H.next) (m : Nat) (hm : 10 ≤ m) (τ : Tm) (T : RiT τ q b id va) :
    ∃ H' va' bo', resM Try.prog [.tmp 6, .tmp 7] (evAt Try.prog (ev Try.prog m) m 113 511 τ H) = some (.tuple [va', .int .i64 0], H') ∧ FwI S { F with tc := creditP F.rc S.cw F.tc } q mp op pt tl bs H' ∧
      RiF va' (l ++ (if creditP F.rc S.cw F.tc ≠ F.tc then [frm 16 (creditP F.rc S.cw F.tc) 0] else [])) bo' lo H' ∧ (∀ b ∈ bo', b ∈ bo ∨ H.next ≤ b) ∧ KoS (bo ++ (q :: mp :: op :: pt :: tl :: bs)) H H' := by
  obtain ⟨t0, t1, t8, t9⟩ := T
  obtain ⟨hR, hnd, hlob⟩ := A
  have g := X.gq
  have e2 := fun H => CreditI_ev F.rc S.cw F.tc H m (by omega)
  have ct : InK .i64 (creditP F.rc S.cw F.tc) := by
    have := h3.cw
    unfold creditP; split
    · exact InK.i64 (by omega) (by omega)
    · split <;> exact InK.i64 (by omega) (by omega)
  have ls : ldVar Try.prog 3 q 1 H = some (.int .i64 S.cw) := by simp only [fiC] at g; simp [ldVar, g]
  have l15 : ldVar Try.prog 3 q 15 H = some (.int .i64 F.tc) := by simp only [fiC] at g; simp [ldVar, g]
  have l17 : ldVar Try.prog 3 q 17 H = some (.int .i64 F.rc) := by simp only [fiC] at g; simp [ldVar, g]
  by_cases hne : creditP F.rc S.cw F.tc = F.tc
  · have hne' : (creditP F.rc S.cw F.tc != F.tc) = false := by simpa using hne
    have hF : ({ F with tc := creditP F.rc S.cw F.tc } : Fw) = F := by rw [hne]
    rw [hF, if_neg (by simpa using hne), List.append_nil]
    refine ⟨H, va, bo, ?_, X, ⟨hR, hnd, hlob⟩, fun b hb => .inl hb, KoS.refl _ _⟩
    generalize creditP F.rc S.cw F.tc = t at *
    rw [at_M Try.func113 511 (by decide) 9 (by decide) (by kernel_rfl) []]
    simp [Try.f113, t0, t9, ls, l15, l17, e2, hne', evHist, ObsOk, ObOk, List.getElem?_cons_zero]
  · have hne' : (creditP F.rc S.cw F.tc != F.tc) = true := by simpa using hne
    rw [if_pos hne]
    have hqb : q ∉ bo := fun h => hbo q h (by simp)
    have s15 : stVar Try.prog 3 q 15 (.int .i64 (creditP F.rc S.cw F.tc)) H = some (H.set q (.cells 271 false (fiC S { F with tc := creditP F.rc S.cw F.tc } mp op pt tl))) := by simp only [fiC] at g ⊢; simp only [stVar, g]; simp [spl]
    have X1 : FwI S { F with tc := creditP F.rc S.cw F.tc } q mp op pt tl bs (H.set q (.cells 271 false (fiC S { F with tc := creditP F.rc S.cw F.tc } mp op pt tl))) := X.fld rfl ⟨rfl, rfl⟩ ⟨rfl, rfl⟩ ⟨rfl, rfl⟩ (by simp) (by simp) (fun x hx => AH.set_getN _ _ (fun e => by have := X.nd; rw [List.nodup_cons] at this; exact this.1 (e ▸ hx)))
    have hR1 : (Ty.sl 72 tT72).R true (H.set q (.cells 271 false (fiC S { F with tc := creditP F.rc S.cw F.tc } mp op pt tl))) [va] l bo := hR.stay (by simp) fun x hx => AH.set_getN _ _ (fun e => hqb (e ▸ hx))
    have kB : KoS (bo ++ (q :: mp :: op :: pt :: tl :: bs)) H (H.set q (.cells 271 false (fiC S { F with tc := creditP F.rc S.cw F.tc } mp op pt tl))) := (KoS.refl _ _).set1 (by simp) _
    have nB : (H.set q (.cells 271 false (fiC S { F with tc := creditP F.rc S.cw F.tc } mp op pt tl))).next = H.next := rfl
    generalize H.set q (.cells 271 false (fiC S { F with tc := creditP F.rc S.cw F.tc } mp op pt tl)) = B at *
    obtain ⟨vb, Y, bo', a1, a2, a3, a4, a5⟩ := app72 (k := 16) (a := creditP F.rc S.cw F.tc) (b := 0) hR1 hnd (InK.i64 (by omega) (by omega)) ct (InK.i64 (by omega) (by omega)) (by omega)
    have X2 : FwI S { F with tc := creditP F.rc S.cw F.tc } q mp op pt tl bs Y := X1.stay a5.next fun x hx => a5.get x (X1.lt x hx) (fun hb => hbo x hb hx)
    refine ⟨Y, vb, bo', ?_, X2, ⟨a2, a3, fun x hx => (a4 x hx).elim (hlob x) (fun h => by omega)⟩, fun x hx => (a4 x hx).imp (fun h => h) (fun h => by omega), kB.trans a5 (fun x hx => .inl (List.mem_append_left _ hx))⟩
    simp only [frmC] at a1
    generalize creditP F.rc S.cw F.tc = t at *
    rw [at_M Try.func113 511 (by decide) 9 (by decide) (by kernel_rfl) []]
    simp [Try.f113, t0, t9, ls, l15, l17, e2, hne', s15, fillA, zerosA, spl, a1, evHist, ObsOk, ObOk, List.getElem?_cons_zero]
end Go.Ev

/- Credit: the program reads, whole. -/
namespace Go.Ev
open Go Go.Proofs
set_option linter.unusedSimpArgs false
set_option linter.unusedVariables false

theorem empty72 {H : AH} {p : Nat} (hp : p < H.next) (hg : H.get p = some (.cells 72 false [])) : (Ty.sl 72 tT72).R true H [.slice p 0 0] [] [p] :=
  .inr ⟨p, 0, false, [], [], rfl, rfl, hp, hg, fun _ => ⟨rfl, rfl, by simp⟩, by simp, by simp [Rows]⟩
theorem readI_ev' {S : Sup} {F : Fw} {k : Nat} {q mp op pt tl : Nat} {bs : List Nat} {h : AH} (X : FwI S F q mp op pt tl bs h) (G : F.good S k) (id n : Int) (m : Nat) (hm : 20 ≤ m) :
    ∃ r c l h', ev Try.prog m 113 [.ptr q 0, .int .i64 id, .int .i64 n] h = some (.tuple [r, .int .i64 c], h') ∧ (readP S F id n).2 = ob c 0 0 l ∧ StpF S (readP S F id n).1 l q mp op pt tl bs h h' r := by
  obtain ⟨m, rfl⟩ : ∃ k, m = k + 1 := ⟨m - 1, by omega⟩
  have g := X.gq
  have e1 := getting_ev X G id m (by omega)
  have bad : ∀ c : Int, StpF S F [] q mp op pt tl bs h h .nilSlice := fun c => ⟨bs, [], X, KoS.refl _ _, fun b hb => .inl hb, nil72, by simp, by simp, by simp⟩
  unfold readP
  cases hs : getsP S F.L id with
  | none =>
    rw [hs] at e1
    simp only [ptrO] at e1
    refine ⟨.nilSlice, 7, [], h, ?_, rfl, bad 7⟩
    rw [ev_M Try.func113 ok113 [] m _ h (by simp [Try.f113])]
    simp [Try.f113, tm0, e1]
  | some i =>
    rw [hs] at e1
    simp only [ptrO] at e1
    have hi := getsP_lt hs
    have hid := getsP_ix hs
    have hidK : InK .i64 id := by unfold idOk at hid; exact InK.i64 (by omega) (by omega)
    have gb := X.gb i hi
    obtain ⟨u0, u1, u2, u3, u4, u5, u6⟩ := X.nds hi
    have hgs := G.bk F.L[i] (List.getElem_mem hi)
    have hre := sumI_mem (f := Bk.re) (fun s hs => (G.bk s hs).re.1) F.L[i] (List.getElem_mem hi)
    have hrn := sumI_nn (f := Bk.re) (fun s hs => (G.bk s hs).re.1)
    have hrc := G.rc
    have hsr : sumI Bk.re F.L ≤ sumI Bk.ca F.L := sumI_le fun s hs => (G.bk s hs).re.2
    have hca := sumI_mem (good_ca G) F.L[i] (List.getElem_mem hi)
    have hC := G.ca; have hT := G.tc; have hkk := G.kk
    have g1 := hgs.re; have g2 := hgs.ca; have g3 := hgs.to
    have l3 : ldVar Try.prog 3 (bs.getD i 0) 3 h = some (.int .i64 F.L[i].ca) := by simp only [Bk.c5] at gb; simp only [ldVar, gb]; simp
    have l4 : ldVar Try.prog 3 (bs.getD i 0) 4 h = some (.int .i64 F.L[i].re) := by simp only [Bk.c5] at gb; simp only [ldVar, gb]; simp
    have w1 : IntKind.i64.wrap (F.L[i].ca - F.L[i].re) = F.L[i].ca - F.L[i].re := wrap_i64 (n := F.L[i].ca - F.L[i].re) (by omega) (by omega)
    dsimp only
    rw [at_L hi]
    by_cases c1 : n < 1 ∨ F.L[i].ca - F.L[i].re < n
    · rw [if_pos c1]
      refine ⟨.nilSlice, 1, [], h, ?_, rfl, bad 1⟩
      generalize bs.getD i 0 = b at *
      rw [ev_M Try.func113 ok113 [] m _ h (by simp [Try.f113])]
      by_cases c2 : n < 1
      · simp [Try.f113, tm0, e1, c2, l3, l4, w1, U, evHist, ObsOk, ObOk, List.getElem?_cons_zero]
      · have c3 : F.L[i].ca - F.L[i].re < n := by omega
        simp [Try.f113, tm0, e1, c2, c3, l3, l4, w1, evHist, ObsOk, ObOk, List.getElem?_cons_zero]
    · rw [if_neg c1]
      have c2 : (n < 1) = False := eq_false (by omega)
      have c3 : (F.L[i].ca - F.L[i].re < n) = False := eq_false (by omega)
      have w2 : IntKind.i64.wrap (F.L[i].re + n) = F.L[i].re + n := wrap_i64 (n := F.L[i].re + n) (by omega) (by omega)
      have w3 : IntKind.i64.wrap (F.rc + n) = F.rc + n := wrap_i64 (n := F.rc + n) (by omega) (by omega)
      have hsum : sumI Bk.se (F.L.set i { F.L[i] with re := F.L[i].re + n }) = sumI Bk.se F.L := by rw [sumI_set Bk.se F.L i hi]; simp only; omega
      have hsum2 : sumI Bk.ca (F.L.set i { F.L[i] with re := F.L[i].re + n }) = sumI Bk.ca F.L := by rw [sumI_set Bk.ca F.L i hi]; simp only; omega
      have s4 : stVar Try.prog 3 (bs.getD i 0) 4 (.int .i64 (F.L[i].re + n)) h = some (h.set (bs.getD i 0) (.cells 277 false (Bk.c5 { F.L[i] with re := F.L[i].re + n }))) := by simp only [Bk.c5] at gb ⊢; simp only [stVar, gb]; simp [spl]
      have gB : (h.set (bs.getD i 0) (.cells 277 false (Bk.c5 { F.L[i] with re := F.L[i].re + n }))).get q = some (.cells 271 false (fiC S F mp op pt tl)) := by rw [AH.set_getN _ _ (fun e => u2 e.symm)]; exact g
      have l17' : ldVar Try.prog 3 q 17 (h.set (bs.getD i 0) (.cells 277 false (Bk.c5 { F.L[i] with re := F.L[i].re + n }))) = some (.int .i64 F.rc) := by simp only [fiC] at gB; simp only [ldVar, gB]; simp
      have s17 : stVar Try.prog 3 q 17 (.int .i64 (F.rc + n)) (h.set (bs.getD i 0) (.cells 277 false (Bk.c5 { F.L[i] with re := F.L[i].re + n }))) = some ((h.set (bs.getD i 0) (.cells 277 false (Bk.c5 { F.L[i] with re := F.L[i].re + n }))).set q (.cells 271 false (fiC S { (F.upd i fun s => { s with re := s.re + n }) with rc := F.rc + n } mp op pt tl))) := by
        simp only [fiC, Fw.upd, at_L hi, hsum, hsum2] at gB ⊢
        simp only [stVar, gB]; simp [spl]
      have X1 : FwI S { (F.upd i fun s => { s with re := s.re + n }) with rc := F.rc + n } q mp op pt tl bs ((h.set (bs.getD i 0) (.cells 277 false (Bk.c5 { F.L[i] with re := F.L[i].re + n }))).set q (.cells 271 false (fiC S { (F.upd i fun s => { s with re := s.re + n }) with rc := F.rc + n } mp op pt tl))) := by
        refine X.upd hi { F.L[i] with re := F.L[i].re + n } rfl (by simp only [Fw.upd, at_L hi]) ⟨rfl, rfl⟩ ⟨rfl, rfl⟩ ⟨rfl, rfl⟩ (by simp) (by simp) (by rw [AH.set_getN _ _ u2]; simp) (fun x hx hxb => ?_)
        have hxq : x ≠ q := fun e => by have := X.nd; rw [List.nodup_cons] at this; exact this.1 (e ▸ hx)
        rw [AH.set_getN _ _ hxq, AH.set_getN _ _ hxb]
      have kC : KoS (q :: mp :: op :: pt :: tl :: bs) h ((h.set (bs.getD i 0) (.cells 277 false (Bk.c5 { F.L[i] with re := F.L[i].re + n }))).set q (.cells 271 false (fiC S { (F.upd i fun s => { s with re := s.re + n }) with rc := F.rc + n } mp op pt tl))) := ((KoS.refl _ _).set1 (mem6 u0) _).set1 (by simp) _
      have nC : ((h.set (bs.getD i 0) (.cells 277 false (Bk.c5 { F.L[i] with re := F.L[i].re + n }))).set q (.cells 271 false (fiC S { (F.upd i fun s => { s with re := s.re + n }) with rc := F.rc + n } mp op pt tl))).next = h.next := rfl
      generalize hBB : h.set (bs.getD i 0) (.cells 277 false (Bk.c5 { F.L[i] with re := F.L[i].re + n })) = B at *
      generalize hCC : B.set q (.cells 271 false (fiC S { (F.upd i fun s => { s with re := s.re + n }) with rc := F.rc + n } mp op pt tl)) = C at *
      have kD : Kp C (C.push (.cells 72 false [])) := (Kp.refl C).push _
      have X2 := X1.kp kD
      have hhead : ∃ τ', ev Try.prog (m + 1) 113 [.ptr q 0, .int .i64 id, .int .i64 n] h = resM Try.prog [.tmp 6, .tmp 7] (evAt Try.prog (ev Try.prog m) m 113 255 τ' (C.push (.cells 72 false []))) ∧ RiT τ' q (bs.getD i 0) id (.slice h.next 0 0) := by
        generalize bs.getD i 0 = b at *
        rw [ev_M Try.func113 ok113 [255] m _ h (by simp [Try.f113])]
        exact ⟨_, by simp [Try.f113, tm0, e1, c2, c3, l3, l4, w1, w2, w3, s4, l17', s17, zerosA, evHist, ObsOk, ObOk, List.getElem?_cons_zero]; rfl, by simp [tm0], by simp [tm0], by simp, by simp [nC]⟩
      obtain ⟨τ1, e3, T1⟩ := hhead
      have hL1 : ({ (F.upd i fun s => { s with re := s.re + n }) with rc := F.rc + n } : Fw).L = F.L.set i { F.L[i] with re := F.L[i].re + n } := by simp only [Fw.upd, at_L hi]
      have hlen : i < ({ (F.upd i fun s => { s with re := s.re + n }) with rc := F.rc + n } : Fw).L.length := by rw [hL1]; simpa using hi
      have hget : ({ (F.upd i fun s => { s with re := s.re + n }) with rc := F.rc + n } : Fw).L[i] = { F.L[i] with re := F.L[i].re + n } := by simp [Fw.upd, at_L hi]
      have hlt := X.lt
      obtain ⟨τ2, H2, va, bo, e4, T2, X3, A3, f3, k3⟩ := riB (va := .slice h.next 0 0) (bo := [h.next]) (lo := h.next) X2 hlen hidK (by rw [hget]; simp only; omega) (by rw [hget]; simp only; omega) G.sup ⟨empty72 (by simp [nC]) (by simp [nC]), by simp, by simp⟩ (fun x hx hxx => by simp at hx; have := hlt x hxx; omega) (by simp [nC]) m (by omega) τ1 T1
      rw [hget] at A3 X3
      simp only at A3 X3
      have n3 := k3.next
      simp [nC] at n3
      have hlo3 := A3.lo
      obtain ⟨H3, vb, bo', e5, X4, A4, f4, k4⟩ := riC (lo := h.next) X3 (by simp only [Fw.upd]; omega) (by simp only [Fw.upd]; omega) G.sup (by split <;> simp) A3 (fun x hx hxx => by have := hlt x hxx; have := hlo3 x hx; omega) (by omega) m (by omega) τ2 T2
      have hlo4 := A4.lo
      refine ⟨vb, 0, _, H3, by rw [e3, e4, e5], rfl, bs, bo', ?_, ?_, fun b hb => .inl hb, A4.R, A4.nd, hlo4, fun b hb hx => by have := hlt b (mem6 hx); have := hlo4 b hb; omega⟩
      · have hF : ({ ({ (F.upd i fun s => { s with re := s.re + n }) with rc := F.rc + n } : Fw).upd i (fun s => { s with to := creditP (F.L[i].re + n) S.sw F.L[i].to }) with tc := creditP (F.rc + n) S.cw F.tc } : Fw) = { (F.upd i fun s => { s with re := s.re + n, to := creditP (F.L[i].re + n) S.sw F.L[i].to }) with rc := F.rc + n, tc := creditP (F.rc + n) S.cw F.tc } := by
          simp only [Fw.upd, Fw.at_, List.set_set]
          simp [hi]
        have hF2 : ({ (F.upd i fun s => { s with re := s.re + n, to := creditP (F.L[i].re + n) S.sw F.L[i].to }) with rc := F.rc + n, tc := creditP (F.rc + n) S.cw F.tc } : Fw).L = ({ ({ (F.upd i fun s => { s with re := s.re + n }) with rc := F.rc + n } : Fw).upd i (fun s => { s with to := creditP (F.L[i].re + n) S.sw F.L[i].to }) with tc := creditP (F.rc + n) S.cw F.tc } : Fw).L := by rw [hF]
        rw [← hF]; exact X4
      · refine ⟨by have := k4.next; omega, fun x hx hxx => ?_⟩
        rw [k4.get x (by omega) (fun h => by rcases List.mem_append.1 h with h | h; have := hlo3 x h; omega; exact hxx h), k3.get x (by simp [nC]; omega) (fun h => by rcases List.mem_append.1 h with h | h; simp at h; omega; exact hxx h), kD.get x (by omega)]
        exact kC.get x hx hxx
end Go.Ev

/- Credit: one operation of the program. -/
namespace Go.Ev
open Go Go.Proofs
set_option linter.unusedSimpArgs false
set_option linter.unusedVariables false

theorem newI_ev (S : Sup) (H : AH) (m : Nat) (hm : 2 ≤ m) : ∃ H', ev Try.prog m 109 [.agg (suC S)] H = some (.ptr (H.next + 5) 0, H') ∧ FwI S (Fw0 S) (H.next + 5) (H.next + 1) (H.next + 2) (H.next + 3) (H.next + 4) [] H' ∧ Kp H H' := by
  obtain ⟨m, rfl⟩ : ∃ k, m = k + 1 := ⟨m - 1, by omega⟩
  have key : ∃ H', ev Try.prog (m + 1) 109 [.agg (suC S)] H = some (.ptr (H.next + 5) 0, H') ∧ H'.next = H.next + 6 ∧ (∀ b, b < H.next → H'.get b = H.get b) ∧ H'.get (H.next + 5) = some (.cells 271 false (fiC S (Fw0 S) (H.next + 1) (H.next + 2) (H.next + 3) (H.next + 4))) ∧ H'.get (H.next + 1) = some (.map []) ∧ H'.get (H.next + 2) = some (.map []) ∧
      H'.get (H.next + 3) = some (.map [(.bool false, .int .i64 S.ptw), (.bool true, .int .i64 S.pow)]) ∧ H'.get (H.next + 4) = some (.map [(.bool false, .int .i64 S.tw), (.bool true, .int .i64 S.ow)]) := by
    obtain ⟨sv, cw, sw, tw, ow, pc, ps, ptw, pow⟩ := S
    simp only [suC, fiC, Fw0, sumI]
    have q1 : ¬ (H.next = H.next + 1) := by omega
    have q2 : ¬ (H.next = H.next + 1 + 1) := by omega
    have q3 : ¬ (H.next = H.next + 1 + 1 + 1) := by omega
    have q4 : ¬ (H.next = H.next + 1 + 1 + 1 + 1) := by omega
    rw [ev_M Try.func109 ok109 [] m _ H (by simp [Try.f109])]
    refine ⟨_, by simp [Try.f109, tm0, ldVar, updA, mapT, keyOk, mapPut, findA, sameK, fillA, spl, q1, q2, q3, q4]; rfl, ?_⟩
    refine ⟨by simp, fun b hb => ?_, ?_, ?_, ?_, ?_, ?_⟩
    · have h0 : ¬ (b = H.next) := by omega
      have h1 : ¬ (b = H.next + 1) := by omega
      have h2 : ¬ (b = H.next + 2) := by omega
      have h3 : ¬ (b = H.next + 3) := by omega
      have h4 : ¬ (b = H.next + 4) := by omega
      have h5 : ¬ (b = H.next + 5) := by omega
      simp [AH.push_get, AH.set_get, h0, h1, h2, h3, h4, h5]
    all_goals simp [AH.push_get, AH.set_get]
  obtain ⟨H', e1, n1, k1, g5, g1, g2, g3, g4⟩ := key
  refine ⟨H', e1, ⟨g5, by rw [g1]; simp [ents, Fw0], ⟨[], g2, .inl ⟨rfl, rfl, rfl⟩⟩, ⟨_, g3, .inr (.inr (.inr (.inl rfl)))⟩, ⟨_, g4, .inr (.inr (.inr (.inl rfl)))⟩, rfl, by simp [Fw0], by simp, by simp; omega⟩, ⟨by omega, k1⟩⟩
structure DiT (τ : Tm) (q p9 p10 : Nat) (k : Int) : Prop where
  t6 : τ 6 = .ptr q 0
  t9 : τ 9 = .ptr p9 0
  t10 : τ 10 = .ptr p10 0
  t28 : τ 28 = .int .i64 k
structure DiK (τ τ' : Tm) : Prop where
  k0 : τ' 7 = τ 7
  k1 : τ' 20 = τ 20
  k2 : τ' 21 = τ 21
  k3 : τ' 22 = τ 22
  k4 : τ' 6 = τ 6
  k5 : τ' 10 = τ 10
/-- an operation and its answer -/
def StpG (S : Sup) (F' : Fw) (d : Ob) (q mp op pt tl : Nat) (bs : List Nat) (h h' : AH) (p10 : Nat) : Prop :=
  ∃ bs' bo c, FwI S F' q mp op pt tl bs' h' ∧ KoS (p10 :: q :: mp :: op :: pt :: tl :: bs) h h' ∧ (∀ b ∈ bs', b ∈ bs ∨ h.next ≤ b) ∧ tT63.R true h' c d bo ∧ bo.Nodup ∧ (∀ b ∈ bo, h.next ≤ b) ∧ (∀ b ∈ bo, b ∉ bs') ∧ h'.get p10 = some (.cells 63 false c)
theorem StpI.g {S : Sup} {F' : Fw} {q mp op pt tl : Nat} {bs : List Nat} {h h' : AH} {c i n : Int} {p10 : Nat} (X : StpI S F' q mp op pt tl bs h h') (hc : InK .i64 c) (hi : InK .i64 i) (hn : InK .i64 n) (hp : p10 < h.next) (hpn : p10 ∉ q :: mp :: op :: pt :: tl :: bs) : StpG S F' (ob c i n []) q mp op pt tl bs h (h'.set p10 (.cells 63 false (obC c i n .nilSlice))) p10 := by
  obtain ⟨bs', x1, x2, x3⟩ := X
  have hpn' : p10 ∉ q :: mp :: op :: pt :: tl :: bs' := fun h => by
    simp only [List.mem_cons] at h hpn
    rcases h with h | h | h | h | h | h
    · exact hpn (.inl h)
    · exact hpn (.inr (.inl h))
    · exact hpn (.inr (.inr (.inl h)))
    · exact hpn (.inr (.inr (.inr (.inl h))))
    · exact hpn (.inr (.inr (.inr (.inr (.inl h)))))
    · rcases x3 _ h with h | h
      · exact hpn (.inr (.inr (.inr (.inr (.inr h)))))
      · omega
  refine ⟨bs', [], obC c i n .nilSlice, x1.stay (by simp) (fun x hx => AH.set_getN _ _ (fun e => hpn' (e ▸ hx))), ⟨by simpa using x2.next, fun b hb hx => ?_⟩, x3, ob_R hc hi hn, by simp, by simp, by simp, by simp⟩
  rw [AH.set_getN _ _ (fun e => hx (by simp [e]))]
  exact x2.get b hb (fun h => hx (List.mem_cons_of_mem _ h))
theorem StpF.g {S : Sup} {F' : Fw} {q mp op pt tl : Nat} {bs : List Nat} {h h' : AH} {r : AV} {l : List Fr} {c : Int} {p10 : Nat} (X : StpF S F' l q mp op pt tl bs h h' r) (hc : InK .i64 c) (hp : p10 < h.next) (hpn : p10 ∉ q :: mp :: op :: pt :: tl :: bs) : StpG S F' (ob c 0 0 l) q mp op pt tl bs h (h'.set p10 (.cells 63 false (obC c 0 0 r))) p10 := by
  obtain ⟨bs', bo, x1, x2, x3, x4, x5, x6, x7⟩ := X
  have i0 : InK .i64 0 := InK.i64 (by omega) (by omega)
  have hpn' : p10 ∉ q :: mp :: op :: pt :: tl :: bs' := fun h => by
    simp only [List.mem_cons] at h hpn
    rcases h with h | h | h | h | h | h
    · exact hpn (.inl h)
    · exact hpn (.inr (.inl h))
    · exact hpn (.inr (.inr (.inl h)))
    · exact hpn (.inr (.inr (.inr (.inl h))))
    · exact hpn (.inr (.inr (.inr (.inr (.inl h)))))
    · rcases x3 _ h with h | h
      · exact hpn (.inr (.inr (.inr (.inr (.inr h)))))
      · omega
  refine ⟨bs', bo, obC c 0 0 r, x1.stay (by simp) (fun x hx => AH.set_getN _ _ (fun e => hpn' (e ▸ hx))), ⟨by simpa using x2.next, fun b hb hx => ?_⟩, x3, ob_Rf (x4.stay (by simp) fun b hb => AH.set_getN _ _ (by have := x6 b hb; omega)) hc i0 i0, x5, x6, x7, by simp⟩
  rw [AH.set_getN _ _ (fun e => hx (by simp [e]))]
  exact x2.get b hb (fun h => hx (List.mem_cons_of_mem _ h))
set_option maxRecDepth 20000 in
theorem di_ev {S : Sup} {F : Fw} {k0 : Nat} {q mp op pt tl : Nat} {bs : List Nat} {h : AH} {p9 p10 : Nat} (X : FwI S F q mp op pt tl bs h) (G : F.good S k0) (hk0 : k0 + 1 ≤ 400) (k id n : Int) (w : Bool) (g9 : h.get p9 = some (.cells 65 false (opC k id n w))) (g10 : h.get p10 = some (.cells 63 false (obC 0 0 0 .nilSlice))) (hp : p10 < h.next) (hpn : p10 ∉ q :: mp :: op :: pt :: tl :: bs) (m : Nat) (hm : 1100 ≤ m) (τ : Tm) (T : DiT τ q p9 p10 k) :
    ∃ τ' h', evAt Try.prog (ev Try.prog m) m 29 518554 τ h = some (.normal, τ', h') ∧ DiK τ τ' ∧ StpG S (doF S F (k, id, n, w)).1 (doF S F (k, id, n, w)).2 q mp op pt tl bs h h' p10 := by
  obtain ⟨t6, t9, t10, t28⟩ := T
  have i0 : InK .i64 0 := InK.i64 (by omega) (by omega)
  have o1 : ldVar Try.prog 3 p9 1 h = some (.int .i64 id) := by simp only [opC] at g9; simp [ldVar, g9]
  have o2 : ldVar Try.prog 3 p9 2 h = some (.int .i64 n) := by simp only [opC] at g9; simp [ldVar, g9]
  have o3 : ldVar Try.prog 4 p9 3 h = some (.bool w) := by simp only [opC] at g9; simp [ldVar, g9]
  have o4 : ldVar Try.prog 65 p9 0 h = some (.agg (opC k id n w)) := by simp only [opC] at g9 ⊢; simp [ldVar, g9]
  have pI : ∀ {F' h'}, StpI S F' q mp op pt tl bs h h' → h'.get p10 = some (.cells 63 false (obC 0 0 0 .nilSlice)) := fun Y => by
    obtain ⟨bs', x1, x2, x3⟩ := Y
    exact (x2.get p10 hp hpn).trans g10
  have pF : ∀ {F' l h' r}, StpF S F' l q mp op pt tl bs h h' r → h'.get p10 = some (.cells 63 false (obC 0 0 0 .nilSlice)) ∧ r.one = true ∧ r.cells = [r] := fun Y => by
    obtain ⟨bs', bo, x1, x2, x3, x4, _⟩ := Y
    exact ⟨(x2.get p10 hp hpn).trans g10, x4.sl_one, cells_one x4.sl_one⟩
  by_cases k1 : k = 1
  · subst k1
    obtain ⟨i, c, h', e1, d1, s1⟩ := openI_ev X G w m (by omega)
    have hd : doF S F (1, id, n, w) = openP S F w := by simp [doF]
    have hK : InK .i64 c ∧ InK .i64 i := by
      have := G.o w; have := G.kk
      unfold openP ob at d1
      split at d1
      · simp at d1; obtain ⟨rfl, rfl⟩ := d1; exact ⟨InK.i64 (by omega) (by omega), i0⟩
      · simp at d1
        obtain ⟨rfl, rfl⟩ := d1
        refine ⟨i0, ?_⟩
        unfold idOf
        rw [if_neg (by omega)]
        exact InK.i64 (by split <;> split <;> omega) (by split <;> split <;> omega)
    have pp := pI s1
    rw [hd, d1]
    have hex : ∃ τ', evAt Try.prog (ev Try.prog m) m 29 518554 τ h = some (.normal, τ', h'.set p10 (.cells 63 false (obC c i 0 .nilSlice))) ∧ DiK τ τ' := by
      simp only [obC] at pp ⊢
      rw [at_M Try.func29 518554 (by decide) 19 (by decide) (by kernel_rfl) []]
      exact ⟨_, by simp [Try.f29, t6, t9, t10, t28, o3, e1, pp, stVar, spl]; rfl, by simp, by simp, by simp, by simp, by simp, by simp⟩
    obtain ⟨τ', e2, K⟩ := hex
    exact ⟨τ', _, e2, K, s1.g hK.1 hK.2 i0 hp hpn⟩
  by_cases k2 : k = 2
  · subst k2
    obtain ⟨n', c, h', e1, d1, s1⟩ := sendI_ev X G id n m (by omega)
    have hd : doF S F (2, id, n, w) = sendP S F id n := by simp [doF]
    have hK : InK .i64 c ∧ InK .i64 n' := by
      have h3 := G.se; have h4 := G.cc; have hsn := sumI_nn (good_se G)
      unfold sendP ob at d1
      split at d1
      · simp at d1; obtain ⟨rfl, rfl⟩ := d1; exact ⟨InK.i64 (by omega) (by omega), i0⟩
      · split at d1
        · simp at d1; obtain ⟨rfl, rfl⟩ := d1; exact ⟨InK.i64 (by omega) (by omega), i0⟩
        · rename_i hneg i hs
          have hg := G.at_ (sendsP_lt hs)
          have h5 := hg.se; have h6 := hg.cr
          simp at d1; obtain ⟨rfl, rfl⟩ := d1; exact ⟨i0, InK.i64 (by omega) (by omega)⟩
    have pp := pI s1
    rw [hd, d1]
    have hex : ∃ τ', evAt Try.prog (ev Try.prog m) m 29 518554 τ h = some (.normal, τ', h'.set p10 (.cells 63 false (obC c 0 n' .nilSlice))) ∧ DiK τ τ' := by
      simp only [obC] at pp ⊢
      rw [at_M Try.func29 518554 (by decide) 19 (by decide) (by kernel_rfl) []]
      exact ⟨_, by simp [Try.f29, t6, t9, t10, t28, o1, o2, e1, pp, stVar, spl]; rfl, by simp, by simp, by simp, by simp, by simp, by simp⟩
    obtain ⟨τ', e2, K⟩ := hex
    exact ⟨τ', _, e2, K, s1.g hK.1 i0 hK.2 hp hpn⟩
  by_cases k3 : k = 3
  · subst k3
    obtain ⟨h', e1, s1⟩ := arriveI_ev X G hk0 id n m (by omega)
    have hd : doF S F (3, id, n, w) = ((arriveP S F id n).1, ob (arriveP S F id n).2 0 0 []) := by simp [doF]
    have hK : InK .i64 (arriveP S F id n).2 := by
      simp only [arriveP]
      repeat' split
      all_goals (dsimp only; exact InK.i64 (by omega) (by omega))
    have pp := pI s1
    rw [hd]
    have hex : ∃ τ', evAt Try.prog (ev Try.prog m) m 29 518554 τ h = some (.normal, τ', h'.set p10 (.cells 63 false (obC (arriveP S F id n).2 0 0 .nilSlice))) ∧ DiK τ τ' := by
      generalize (arriveP S F id n).2 = c at *
      simp only [obC] at pp ⊢
      rw [at_M Try.func29 518554 (by decide) 19 (by decide) (by kernel_rfl) []]
      exact ⟨_, by simp [Try.f29, t6, t9, t10, t28, o1, o2, e1, pp, stVar, spl]; rfl, by simp, by simp, by simp, by simp, by simp, by simp⟩
    obtain ⟨τ', e2, K⟩ := hex
    exact ⟨τ', _, e2, K, s1.g hK i0 i0 hp hpn⟩
  by_cases k4 : k = 4
  · subst k4
    obtain ⟨r, c, l, h', e1, d1, s1⟩ := readI_ev' X G id n m (by omega)
    have hd : doF S F (4, id, n, w) = readP S F id n := by simp [doF]
    have hK : InK .i64 c := by
      unfold readP ob at d1
      split at d1
      · simp at d1; obtain ⟨rfl, _⟩ := d1; exact InK.i64 (by omega) (by omega)
      · dsimp only at d1
        split at d1 <;> simp at d1 <;> obtain ⟨rfl, _⟩ := d1 <;> exact InK.i64 (by omega) (by omega)
    obtain ⟨pp, ro, rc⟩ := pF s1
    rw [hd, d1]
    have hex : ∃ τ', evAt Try.prog (ev Try.prog m) m 29 518554 τ h = some (.normal, τ', h'.set p10 (.cells 63 false (obC c 0 0 r))) ∧ DiK τ τ' := by
      simp only [obC] at pp ⊢
      rw [at_M Try.func29 518554 (by decide) 19 (by decide) (by kernel_rfl) []]
      exact ⟨_, by simp [Try.f29, t6, t9, t10, t28, o1, o2, e1, pp, ro, rc, stVar, spl]; rfl, by simp, by simp, by simp, by simp, by simp, by simp⟩
    obtain ⟨τ', e2, K⟩ := hex
    exact ⟨τ', _, e2, K, s1.g hK hp hpn⟩
  by_cases k5 : k = 5
  · subst k5
    obtain ⟨r, c, l, h', e1, d1, s1⟩ := endI_ev X G id m (by omega)
    have hd : doF S F (5, id, n, w) = overP S F id := by simp [doF]
    have hK : InK .i64 c := by
      unfold overP ob at d1
      split at d1
      · simp at d1; obtain ⟨rfl, _⟩ := d1; exact InK.i64 (by omega) (by omega)
      · dsimp only at d1
        split at d1
        · simp at d1; obtain ⟨rfl, _⟩ := d1; exact InK.i64 (by omega) (by omega)
        · split at d1 <;> simp at d1 <;> obtain ⟨rfl, _⟩ := d1 <;> exact InK.i64 (by omega) (by omega)
    obtain ⟨pp, ro, rc⟩ := pF s1
    rw [hd, d1]
    have hex : ∃ τ', evAt Try.prog (ev Try.prog m) m 29 518554 τ h = some (.normal, τ', h'.set p10 (.cells 63 false (obC c 0 0 r))) ∧ DiK τ τ' := by
      simp only [obC] at pp ⊢
      rw [at_M Try.func29 518554 (by decide) 19 (by decide) (by kernel_rfl) []]
      exact ⟨_, by simp [Try.f29, t6, t9, t10, t28, o1, e1, pp, ro, rc, stVar, spl]; rfl, by simp, by simp, by simp, by simp, by simp, by simp⟩
    obtain ⟨τ', e2, K⟩ := hex
    exact ⟨τ', _, e2, K, s1.g hK hp hpn⟩
  by_cases k6 : k = 6 ∨ k = 7 ∨ k = 8
  · obtain ⟨h', e1, s1⟩ := raiseI_ev X G k id n w k6 m (by omega)
    have hd : doF S F (k, id, n, w) = ((toldP S F k id n w).1, ob (toldP S F k id n w).2 0 0 []) := by simp [doF, k1, k2, k3, k4, k5, k6]
    have hK : InK .i64 (toldP S F k id n w).2 := by
      simp only [toldP]
      repeat' split
      all_goals (dsimp only; exact InK.i64 (by omega) (by omega))
    have pp := pI s1
    rw [hd]
    have hex : ∃ τ', evAt Try.prog (ev Try.prog m) m 29 518554 τ h = some (.normal, τ', h'.set p10 (.cells 63 false (obC (toldP S F k id n w).2 0 0 .nilSlice))) ∧ DiK τ τ' := by
      generalize (toldP S F k id n w).2 = c at *
      simp only [obC, opC] at pp e1 o4 ⊢
      rw [at_M Try.func29 518554 (by decide) 19 (by decide) (by kernel_rfl) []]
      rcases k6 with rfl | rfl | rfl <;> exact ⟨_, by simp [Try.f29, t6, t9, t10, t28, o4, e1, pp, stVar, spl]; rfl, by simp, by simp, by simp, by simp, by simp, by simp⟩
    obtain ⟨τ', e2, K⟩ := hex
    exact ⟨τ', _, e2, K, s1.g hK i0 i0 hp hpn⟩
  · have hd : doF S F (k, id, n, w) = (F, ob 1 0 0 []) := by simp [doF, k1, k2, k3, k4, k5, k6]
    simp only [not_or] at k6
    obtain ⟨k6, k7, k8⟩ := k6
    have s1 : StpI S F q mp op pt tl bs h h := ⟨bs, X, KoS.refl _ _, fun b hb => .inl hb⟩
    rw [hd]
    have hex : ∃ τ', evAt Try.prog (ev Try.prog m) m 29 518554 τ h = some (.normal, τ', h.set p10 (.cells 63 false (obC 1 0 0 .nilSlice))) ∧ DiK τ τ' := by
      simp only [obC] at g10 ⊢
      rw [at_M Try.func29 518554 (by decide) 19 (by decide) (by kernel_rfl) []]
      exact ⟨_, by simp [Try.f29, t6, t9, t10, t28, beqF, k1, k2, k3, k4, k5, k6, k7, k8, g10, stVar, spl]; rfl, by simp, by simp, by simp, by simp, by simp, by simp⟩
    obtain ⟨τ', e2, K⟩ := hex
    exact ⟨τ', _, e2, K, s1.g (InK.i64 (by omega) (by omega)) i0 i0 hp hpn⟩
end Go.Ev

/- Credit: the program's run. -/
namespace Go.Ev
open Go Go.Proofs
set_option linter.unusedSimpArgs false
set_option linter.unusedVariables false

theorem st_new65 (h : AH) (k id n : Int) (w : Bool) : stVar Try.prog 65 h.next 0 (.agg [.int .i64 k, .int .i64 id, .int .i64 n, .bool w]) (h.push (.cells 65 false [.int .i64 0, .int .i64 0, .int .i64 0, .bool false])) = some (h.push (.cells 65 false [.int .i64 k, .int .i64 id, .int .i64 n, .bool w])) := by
  simp [stVar, spl]
theorem st_same63 {A : AH} {p : Nat} (g : A.get p = some (.cells 63 false [.int .i64 0, .int .i64 0, .int .i64 0, .nilSlice])) : stVar Try.prog 63 p 0 (.agg [.int .i64 0, .int .i64 0, .int .i64 0, .nilSlice]) A = some A := by
  simp only [stVar, g]
  simp [spl]
  refine AH.eq_of ?_ rfl
  funext x
  rw [AH.set_get]
  split
  · rename_i hx; rw [hx, g]
  · rfl
def RuI (S : Sup) (ops : List tT65.D) (s : AV) (H : AH) (q mp op pt tl : Nat) (d : Nat) (τ : Tm) (h : AH) : Prop :=
  ∃ (i : Nat) (F : Fw) (bs : List Nat) (outs : List Ob) (vo : AV) (bo : List Nat), i + d = ops.length ∧ τ 20 = s ∧ τ 21 = .int .i64 ops.length ∧ τ 22 = .int .i64 i ∧ τ 6 = .ptr q 0 ∧ τ 7 = vo ∧ FwI S F q mp op pt tl bs h ∧ F.good S i ∧ (Ty.sl 63 tT63).R true h [vo] outs bo ∧ bo.Nodup ∧
    (∀ b ∈ bo, b ∉ q :: mp :: op :: pt :: tl :: bs) ∧ (∀ b ∈ q :: mp :: op :: pt :: tl :: bs, H.next ≤ b) ∧ (∀ b ∈ bo, H.next ≤ b) ∧ Kp H h ∧ outs ++ runF S F (ops.drop i) = runF S (Fw0 S) ops ∧ outs.length = i
set_option maxRecDepth 20000 in
theorem ruLoopI {Hb H h0 : AH} {S : Sup} {s : AV} {q mp op pt tl : Nat} {ops : List tT65.D} {bx : List Nat} {rw : Bool} (hd : (Ty.sl 65 tT65).R rw Hb [s] ops bx) (hKb : Kp Hb H) (hlen : ops.length ≤ 400) (m : Nat) (hm : 1200 ≤ m) (τ : Tm) (hI : RuI S ops s H q mp op pt tl ops.length τ h0) :
    ∃ e τ' H', evLoop Try.prog (ev Try.prog m) m (lp Try.prog 29 506) τ h0 = some (e, τ', H') ∧ e = .exit 0 ∧ RuI S ops s H q mp op pt tl 0 τ' H' := by
  refine loop_rule (d := ops.length) (RuI S ops s H q mp op pt tl) (fun e τ h => e = .exit 0 ∧ RuI S ops s H q mp op pt tl 0 τ h) ?_ hI (by omega)
  rintro d τ h ⟨i, F, bs, outs, vo, bo, hi, t20, t21, t22, t6, t7, X, G, hR, hnd, hdj, hlo, hlo2, hK, hrun, hol⟩
  rw [lp_M Try.func29 506 (by decide) 9 (by decide) (by kernel_rfl) [518554]]
  by_cases hd0 : d = 0
  · subst hd0
    have hkn : ¬ ((i : Int) < ops.length) := by omega
    simp [Try.f29, t21, t22, hkn]
    exact ⟨i, F, bs, outs, vo, bo, hi, by simp [t20], by simp [t21], by simp [t22], by simp [t6], by simp [t7], X, G, hR, hnd, hdj, hlo, hlo2, hK, hrun, hol⟩
  · have hlt : i < ops.length := by omega
    have hlt' : (i : Int) < ops.length := by omega
    obtain ⟨b, o, ro, L, u1, u2, u3, L1, L2⟩ := opAt (hd.kp (hKb.trans hK)) hlt
    rcases hop : ops[i] with ⟨k, id, n, w⟩
    rw [hop] at L2
    simp only at L2
    have hlts := X.lt
    let A0 : AH := (h.push (.cells 65 false (opC k id n w))).push (.cells 63 false (obC 0 0 0 .nilSlice))
    have kA : Kp h A0 := ((Kp.refl h).push _).push _
    have X0 := X.kp kA
    have nA : A0.next = h.next + 2 := by simp [A0]
    have g9 : A0.get h.next = some (.cells 65 false (opC k id n w)) := by simp [A0]
    have g10 : A0.get (h.next + 1) = some (.cells 63 false (obC 0 0 0 .nilSlice)) := by simp [A0]
    have o0 : ldVar Try.prog 3 h.next 0 A0 = some (.int .i64 k) := by simp only [opC] at g9; simp [ldVar, g9]
    have l65 : ldVar Try.prog 65 b o h = some (.agg (opC k id n w)) := by simp [ldVar, u3, L1, L2]
    have hp10 : h.next + 1 ∉ q :: mp :: op :: pt :: tl :: bs := fun hx => by have := hlts _ hx; omega
    have w1 : IntKind.i64.wrap ((i : Int) + 1) = ((i + 1 : Nat) : Int) := by rw [wrap_i64 (n := (i : Int) + 1) (by omega) (by omega)]; omega
    have hdi := di_ev X0 G (by omega) k id n w g9 g10 (by omega) hp10 m (by omega)
    have G2 := doF_good G (by omega) (k, id, n, w)
    have hdrop : ops.drop i = (k, id, n, w) :: ops.drop (i + 1) := by rw [List.drop_eq_getElem_cons hlt, hop]
    rw [hdrop] at hrun
    simp only [runF] at hrun
    generalize doF S F (k, id, n, w) = D at *
    have hA0 : (h.push (.cells 65 false [.int .i64 k, .int .i64 id, .int .i64 n, .bool w])).push (.cells 63 false [.int .i64 0, .int .i64 0, .int .i64 0, .nilSlice]) = A0 := rfl
    obtain ⟨τ2, h2, e2, K, bs2, b1, c, y1, y2, y3, y4, y5, y6, y7, y8⟩ := hdi (upd (upd (upd (upd (upd (upd (upd (upd τ 23 (.bool true)) 24 (.ptr b o)) 25 (.agg (opC k id n w))) 9 (.ptr h.next 0)) 26 (.agg [.int .i64 0, .int .i64 0, .int .i64 0, .nilSlice])) 10 (.ptr (h.next + 1) 0)) 27 (.ptr h.next 0)) 28 (.int .i64 k)) ⟨by simp [t6], by simp, by simp, by simp⟩
    have hbo := hR.mem
    have hbo10 : ∀ x ∈ bo, x ∉ (h.next + 1) :: q :: mp :: op :: pt :: tl :: bs := fun x hx hxx => by
      have := hbo x hx
      rcases List.mem_cons.1 hxx with e | e
      · omega
      · exact hdj x hx e
    have hR2 : (Ty.sl 63 tT63).R true h2 [vo] outs bo := (hR.kp kA).koS y2 hbo10
    have hnd2 : (bo ++ b1).Nodup := by
      rw [List.nodup_append]
      exact ⟨hnd, y5, fun x hx y hy e => by have := hbo x hx; have := y6 y hy; omega⟩
    obtain ⟨v', X', bo', a1, a2, a3, a4, a5⟩ := app63 hR2 y4 hnd2 (by omega)
    have hc := y4.len
    have ny2 := y2.next
    have ny5 := a5.next
    have hKn := hK.next
    have X2 : FwI S D.1 q mp op pt tl bs2 X' := y1.stay a5.next fun x hx => a5.get x (y1.lt x hx) (fun hxb => by
      have hbx := hbo x hxb
      simp only [List.mem_cons] at hx
      have hmem : x ∈ q :: mp :: op :: pt :: tl :: bs ∨ A0.next ≤ x := by
        rcases hx with e | e | e | e | e | e
        · left; simp [e]
        · left; simp [e]
        · left; simp [e]
        · left; simp [e]
        · left; simp [e]
        · rcases y3 x e with h | h
          · left; simp [h]
          · right; exact h
      rcases hmem with h | h
      · exact hdj x hxb h
      · omega)
    have l63 : ldVar Try.prog 63 (h.next + 1) 0 h2 = some (.agg c) := by
      rcases hD2 : D.2 with ⟨x0, x1, x2, x3⟩
      rw [hD2] at y4
      obtain ⟨va, bx', rfl, _⟩ := o63 y4
      simp [ldVar, y8]
    have hcell : ∃ c0 c1 c2 va, c = obC c0 c1 c2 va ∧ va.one = true := by
      rcases hD2 : D.2 with ⟨x0, x1, x2, x3⟩
      rw [hD2] at y4
      obtain ⟨va, bx', rfl, _, r, _⟩ := o63 y4
      exact ⟨x0, x1, x2, va, rfl, r.sl_one⟩
    obtain ⟨c0, c1, c2, va, rfl, ova⟩ := hcell
    obtain ⟨q7, q20, q21, q22, q6, q10⟩ := K
    simp at q7 q20 q21 q22 q6 q10
    simp only [obC] at g10
    have s63 := st_same63 g10
    clear_value A0
    simp only [obC, opC] at a1 l63 l65 e2
    simp [Try.f29, t20, t21, t22, hlt', u1, l65, fillA, spl, st_new65, hA0, s63, o0, e2, q7, q10, t7, l63, zerosA, ova, a1, q22, w1]
    refine ⟨d - 1, by omega, i + 1, D.1, bs2, outs ++ [D.2], v', bo', by omega, by simp [q20, t20], by simp [q21, t21], by simp, by simp [q6, t6], by simp, X2, G2, a2, a3, ?_, ?_, ?_, ?_, by simpa using hrun, by simp [hol]⟩
    · intro x hx hxx
      have hcase : x ∈ q :: mp :: op :: pt :: tl :: bs ∨ (x ∈ bs2 ∧ A0.next ≤ x) := by
        simp only [List.mem_cons] at hxx ⊢
        rcases hxx with e | e | e | e | e | e
        · simp [e]
        · simp [e]
        · simp [e]
        · simp [e]
        · simp [e]
        · rcases y3 x e with h | h
          · simp [h]
          · exact .inr ⟨e, h⟩
      rcases a4 x hx with h1 | h1 | h1
      · rcases hcase with h3 | ⟨_, h3⟩
        · exact hdj x h1 h3
        · have := hbo x h1; omega
      · rcases hcase with h3 | ⟨h3, _⟩
        · have := hlts x h3; have := y6 x h1; omega
        · exact y7 x h1 h3
      · have := y1.lt x hxx; omega
    · intro x hx
      simp only [List.mem_cons] at hx hlo
      rcases hx with e | e | e | e | e | e
      · exact hlo x (by simp [e])
      · exact hlo x (by simp [e])
      · exact hlo x (by simp [e])
      · exact hlo x (by simp [e])
      · exact hlo x (by simp [e])
      · rcases y3 x e with h | h
        · exact hlo x (by simp [h])
        · omega
    · intro x hx
      rcases a4 x hx with h | h | h
      · exact hlo2 x h
      · have := y6 x h; omega
      · omega
    · refine ⟨by omega, fun x hx => ?_⟩
      rw [a5.get x (by omega) (fun hb => by have := hlo2 x hb; omega), y2.get x (by omega) (fun hb => by
        rcases List.mem_cons.1 hb with e | e
        · omega
        · have := hlo x e; omega), kA.get x (by omega)]
      exact hK.get x hx
theorem flowI_ev {Hb H : AH} {S : Sup} {s : AV} {ops : List tT65.D} {bx : List Nat} {rw : Bool} (hd : (Ty.sl 65 tT65).R rw Hb [s] ops bx) (hKb : Kp Hb H) (m : Nat) (hm : 1300 ≤ m) :
    ∃ r H' bo, ev Try.prog m 29 [.agg (suC S), s] H = some (.tuple [r, .int .i64 (FlowP S ops).2], H') ∧ Kp H H' ∧ (Ty.sl 63 tT63).R true H' [r] (FlowP S ops).1 bo ∧ bo.Nodup ∧ ∀ b ∈ bo, H.next ≤ b := by
  obtain ⟨m, rfl⟩ : ∃ k, m = k + 1 := ⟨m - 1, by omega⟩
  have hL := Ty.R.lenA hd (P := Try.prog) (T := 51) (by simp)
  unfold FlowP
  by_cases c1 : 400 < ops.length
  · rw [if_pos c1]
    have c1' : 400 < (ops.length : Int) := by omega
    refine ⟨.nilSlice, H.push (.cells 49 false (suC S)), [], ?_, (Kp.refl H).push _, .inl ⟨rfl, rfl, rfl⟩, by simp, by simp⟩
    simp only [suC]
    rw [ev_M Try.func29 ok29 [] m _ H (by simp [Try.f29])]
    simp [Try.f29, tm0, hL, c1']
  · rw [if_neg c1]
    have c1' : (400 < (ops.length : Int)) = False := eq_false (by omega)
    have e1 := fun H => supI_ev S H m (by omega)
    have lz : ldVar Try.prog 49 H.next 0 (H.push (.cells 49 false (suC S))) = some (.agg (suC S)) := by simp [ldVar, suC]
    by_cases c2 : S.ok
    · rw [if_pos c2]
      simp only [c2, decide_true] at e1
      let A1 : AH := (H.push (.cells 49 false (suC S))).push (.cells 49 false (suC S))
      have lz1 : ldVar Try.prog 49 H.next 0 A1 = some (.agg (suC S)) := by simp [ldVar, suC, A1]
      obtain ⟨A2, e2, X2, k2⟩ := newI_ev S A1 m (by omega)
      have kA1 : Kp H A1 := ((Kp.refl H).push _).push _
      let A3 : AH := A2.push (.cells 63 false [])
      have kA3 : Kp A2 A3 := (Kp.refl A2).push _
      have X3 := X2.kp kA3
      have hK3 : Kp H A3 := (kA1.trans k2).trans kA3
      have key : ∃ τ' H' q mp op pt tl, ev Try.prog (m + 1) 29 [.agg (suC S), s] H = resM Try.prog [.tmp 4, .tmp 5] (evAt Try.prog (ev Try.prog m) m 29 127 τ' H') ∧ RuI S ops s H q mp op pt tl 0 τ' H' := by
        have hls := ruLoopI (S := S) (q := A1.next + 5) (mp := A1.next + 1) (op := A1.next + 2) (pt := A1.next + 3) (tl := A1.next + 4) (h0 := A3) hd hKb (by omega) m (by omega)
        have hA1 : (H.push (.cells 49 false (suC S))).push (.cells 49 false (suC S)) = A1 := rfl
        have hA3 : A2.push (.cells 63 false []) = A3 := rfl
        have hn3 : A2.next < A3.next := by simp [A3]
        have hg3 : A3.get A2.next = some (.cells 63 false []) := by simp [A3]
        have hlts := X2.lt
        have hlo1 : H.next ≤ A1.next := kA1.next
        have hk2 := k2.next
        clear_value A1 A3
        simp only [suC] at e1 e2 lz lz1 hA1 ⊢
        have key2 : ∃ τ' H', ev Try.prog (m + 1) 29 [.agg [.bool S.sv, .int .i64 S.cw, .int .i64 S.sw, .int .i64 S.tw, .int .i64 S.ow, .int .i64 S.pc, .int .i64 S.ps, .int .i64 S.ptw, .int .i64 S.pow], s] H = resM Try.prog [.tmp 4, .tmp 5] (evAt Try.prog (ev Try.prog m) m 29 127 τ' H') ∧ RuI S ops s H (A1.next + 5) (A1.next + 1) (A1.next + 2) (A1.next + 3) (A1.next + 4) 0 τ' H' := by
          rw [ev_M Try.func29 ok29 [127] m _ H (by simp [Try.f29])]
          simp [Try.f29, tm0, hL, c1', lz, e1, hA1, lz1, e2, hA3, zerosA]
          generalize hLo : evLoop _ _ _ _ _ _ = R
          obtain ⟨e, τ', H', rfl, rfl, g⟩ := loop_at hLo (hls _ ⟨0, Fw0 S, [], [], .slice A2.next 0 0, [A2.next], by omega, by simp, by simp, by simp, by simp, by simp, X3, Fw0_good c2, empty63 hn3 hg3, by simp, fun x hx hxx => by simp at hx; have := hlts x hxx; omega, by simp; omega, by simp; omega, hK3, by simp, rfl⟩)
          exact ⟨τ', H', by simp, g⟩
        obtain ⟨τ', H', e, g⟩ := key2
        exact ⟨τ', H', _, _, _, _, _, e, g⟩
      obtain ⟨τ1, H1, q, mp, op, pt, tl, e3, i, F, bs, outs, vo, bo, hi, t20, t21, t22, t6, t7, X, G, hR, hnd, hdj, hlo, hlo2, hK, hrun, hol⟩ := key
      have hi' : ops.length ≤ i := by omega
      rw [List.drop_eq_nil_of_le hi'] at hrun
      simp only [runF, List.append_nil] at hrun
      rw [← hrun]
      refine ⟨vo, H1, bo, ?_, hK, hR, hnd, hlo2⟩
      rw [e3]
      rw [at_M Try.func29 127 (by decide) 7 (by decide) (by kernel_rfl) []]
      simp [Try.f29, t7]
    · rw [if_neg c2]
      simp only [c2, decide_false] at e1
      refine ⟨.nilSlice, (H.push (.cells 49 false (suC S))).push (.cells 49 false (suC S)), [], ?_, ((Kp.refl H).push _).push _, .inl ⟨rfl, rfl, rfl⟩, by simp, by simp⟩
      simp only [suC] at e1 lz ⊢
      rw [ev_M Try.func29 ok29 [] m _ H (by simp [Try.f29])]
      simp [Try.f29, tm0, hL, c1', lz, e1]
end Go.Ev

/- The law of credit's books: what lies where. -/
namespace Go.Ev
open Go Go.Proofs
set_option linter.unusedSimpArgs false
set_option linter.unusedVariables false

/-- an answer of a row -/
theorem obAt {rw : Bool} {H : AH} {s : AV} {l : List Ob} {bs : List Nat} (hr : (Ty.sl 63 tT63).R rw H [s] l bs) {k : Nat} (hk : k < l.length) :
    ∃ b o ro L v bv, idxA Try.prog 46 s (.int .i64 k) = some (.ptr b o) ∧ b < H.next ∧ H.get b = some (.cells 63 ro L) ∧ o + 4 ≤ L.length ∧ (L.drop o).take 4 = [.int .i64 l[k].1, .int .i64 l[k].2.1, .int .i64 l[k].2.2.1, v] ∧ (Ty.sl 72 tT72).R rw H [v] l[k].2.2.2 bv := by
  obtain ⟨b, o, ro, x1, c, x2, bk, u1, u2, u3, u4, u5, u6, u7, u8⟩ := Ty.R.at_ hr (P := Try.prog) (T := 46) (by simp) (by simp [Ty.n]) (k := k) hk
  rcases hx : l[k] with ⟨x0, x1', x2', x3⟩
  rw [hx] at u5
  obtain ⟨v, bv, rfl, _, R, _⟩ := o63 u5
  subst u4
  exact ⟨b, _, ro, _, v, _, u1, u2, u3, by simp, by simp, R⟩
/-- a frame of a row -/
theorem frAt {rw : Bool} {H : AH} {s : AV} {l : List Fr} {bs : List Nat} (hr : (Ty.sl 72 tT72).R rw H [s] l bs) {k : Nat} (hk : k < l.length) :
    ∃ b o ro L c bv, idxA Try.prog 61 s (.int .i64 k) = some (.ptr b o) ∧ b < H.next ∧ H.get b = some (.cells 72 ro L) ∧ o + 8 ≤ L.length ∧ (L.drop o).take 8 = c ∧ tT72.R rw H c l[k] bv := by
  obtain ⟨b, o, ro, x1, c, x2, bk, u1, u2, u3, u4, u5, u6, u7, u8⟩ := Ty.R.at_ hr (P := Try.prog) (T := 61) (by simp) (by simp [Ty.n]) (k := k) hk
  have hc := u5.len
  simp only [Ty.n] at hc
  subst u4
  exact ⟨b, _, ro, _, c, _, u1, u2, u3, by simp; omega, by rw [List.append_assoc, List.drop_left, List.take_left' (by omega)], u5⟩
end Go.Ev

/- The law of credit's books: its segments. -/
namespace Go.Ev
open Go Go.Proofs
set_option linter.unusedSimpArgs false
set_option linter.unusedVariables false

theorem at_take {L l : List AV} {o n j : Nat} (h : (L.drop o).take n = l) (hj : j < n) : L[o + j]? = l[j]? := by
  rw [← h, List.getElem?_take, if_pos hj, List.getElem?_drop]
/-- an answer lies at i of the row -/
def OAt (h : AH) (s : AV) (i : Nat) (c d n : Int) (v : AV) : Prop := ∃ b z ro xs, idxA Try.prog 46 s (.int .i64 i) = some (.ptr b z) ∧ b < h.next ∧ h.get b = some (.cells 63 ro xs) ∧ z + 4 ≤ xs.length ∧ (xs.drop z).take 4 = [.int .i64 c, .int .i64 d, .int .i64 n, v] ∧
  xs[z]? = some (.int .i64 c) ∧ xs[z + 2]? = some (.int .i64 n) ∧ xs[z + 3]? = some v
def PAt (h : AH) (s : AV) (i : Nat) (op : tT65.D) : Prop := ∃ b z ro xs, idxA Try.prog 51 s (.int .i64 i) = some (.ptr b z) ∧ b < h.next ∧ h.get b = some (.cells 65 ro xs) ∧
  xs[z]? = some (.int .i64 op.1) ∧ xs[z + 2]? = some (.int .i64 op.2.2.1) ∧ xs[z + 3]? = some (.bool op.2.2.2)
theorem OAt.kp {h h' : AH} {s : AV} {i : Nat} {c d n : Int} {v : AV} (e : OAt h s i c d n v) (hK : Kp h h') : OAt h' s i c d n v := by
  obtain ⟨b, z, ro, xs, h1, h2, h3, h4⟩ := e
  exact ⟨b, z, ro, xs, h1, by have := hK.next; omega, by rw [hK.get b h2]; exact h3, h4⟩
theorem PAt.kp {h h' : AH} {s : AV} {i : Nat} {op : tT65.D} (e : PAt h s i op) (hK : Kp h h') : PAt h' s i op := by
  obtain ⟨b, z, ro, xs, h1, h2, h3, h4⟩ := e
  exact ⟨b, z, ro, xs, h1, by have := hK.next; omega, by rw [hK.get b h2]; exact h3, h4⟩
theorem oAt {rw : Bool} {H : AH} {s : AV} {l : List Ob} {bs : List Nat} (hr : (Ty.sl 63 tT63).R rw H [s] l bs) {k : Nat} (hk : k < l.length) :
    ∃ v bv, OAt H s k l[k].1 l[k].2.1 l[k].2.2.1 v ∧ (Ty.sl 72 tT72).R rw H [v] l[k].2.2.2 bv := by
  obtain ⟨b, o, ro, L, v, bv, h1, h2, h3, h4, h5, h6⟩ := obAt hr hk
  exact ⟨v, bv, ⟨b, o, ro, L, h1, h2, h3, h4, h5, by simpa using at_take (j := 0) h5 (by omega), by simpa using at_take (j := 2) h5 (by omega), by simpa using at_take (j := 3) h5 (by omega)⟩, h6⟩
theorem pAt {rw : Bool} {H : AH} {s : AV} {l : List tT65.D} {bs : List Nat} (hr : (Ty.sl 65 tT65).R rw H [s] l bs) {k : Nat} (hk : k < l.length) : PAt H s k l[k] := by
  obtain ⟨b, o, ro, L, h1, h2, h3, h4, h5⟩ := opAt hr hk
  exact ⟨b, o, ro, L, h1, h2, h3, by simpa [opC] using at_take (j := 0) h5 (by omega), by simpa [opC] using at_take (j := 2) h5 (by omega), by simpa [opC] using at_take (j := 3) h5 (by omega)⟩
structure FbT (τ : Tm) (p3 p13 p14 : Nat) (v4 v5 v9 : AV) (cc se told : Int) (i : Nat) : Prop where
  t3 : τ 3 = .ptr p3 0
  t4 : τ 4 = v4
  t5 : τ 5 = v5
  t9 : τ 9 = v9
  t11 : τ 11 = .int .i64 cc
  t12 : τ 12 = .int .i64 se
  t13 : τ 13 = .slice p13 0 2
  t14 : τ 14 = .slice p14 0 2
  t15 : τ 15 = .int .i64 told
  t16 : τ 16 = .int .i64 i
section
variable {h : AH} {p3 p13 p14 : Nat} {v4 v5 v9 : AV} {cc se told : Int} {i : Nat} {τ : Tm} {call : CallF} {m : Nat}
set_option maxRecDepth 20000 in
theorem fb0 {c d n : Int} {v5' v9' : AV} {nf : Int} (e9 : OAt h v9 i c d n v9') (e5 : OAt h v5 i c d n v5') (l9 : ∀ H, lenA Try.prog 61 v9' H = some (.int .i64 nf)) (l5 : ∀ H, lenA Try.prog 61 v5' H = some (.int .i64 nf)) (o9 : v9'.one = true) (hτ : FbT τ p3 p13 p14 v4 v5 v9 cc se told i) :
    ∃ τ', evAt Try.prog call m 6 2097060 τ h = evAt Try.prog call m 6 8388243 τ' (h.push (.cells 63 false (obC c d n v9'))) ∧ FbT τ' p3 p13 p14 v4 v5 v9 cc se told i ∧ τ' 17 = .ptr h.next 0 := by
  obtain ⟨t3, t4, t5, t9, t11, t12, t13, t14, t15, t16⟩ := hτ
  obtain ⟨b, z, ro, xs, q1, q2, q3, q4, q5, q6, q7, q8⟩ := e9
  obtain ⟨b', z', ro', xs', r1, r2, r3, r4, r5, r6, r7, r8⟩ := e5
  have hbn : ¬ (b = h.next) := by omega
  have hbn' : ¬ (b' = h.next) := by omega
  simp only [obC]
  have oc := cells_one o9
  rw [at_M Try.func6 2097060 (by decide) 21 (by decide) (by kernel_rfl) [8388243]]
  exact ⟨_, by simp [Try.f6, t4, t5, t9, t16, q1, q3, q4, q5, r1, r3, r6, r7, r8, hbn, hbn', ldVar, stVar, spl, l5, l9, o9, oc]; rfl, ⟨by simp [t3], by simp [t4], by simp [t5], by simp [t9], by simp [t11], by simp [t12], by simp [t13], by simp [t14], by simp [t15], by simp [t16]⟩, by simp⟩
set_option maxRecDepth 20000 in
theorem fb1 {op : tT65.D} {q : AV} (e4 : PAt h v4 i op) (hτ : FbT τ p3 p13 p14 v4 v5 v9 cc se told i) (t17 : τ 17 = q) :
    ∃ τ', evAt Try.prog call m 6 8388243 τ h = evAt Try.prog call m 6 33552975 τ' h ∧ FbT τ' p3 p13 p14 v4 v5 v9 cc se told i ∧ τ' 17 = q ∧ τ' 18 = .int .i64 (if op.2.2.2 then 1 else 0) := by
  obtain ⟨t3, t4, t5, t9, t11, t12, t13, t14, t15, t16⟩ := hτ
  obtain ⟨b, z, ro, xs, q1, q2, q3, q6, q7, q8⟩ := e4
  rw [at_M Try.func6 8388243 (by decide) 23 (by decide) (by kernel_rfl) [33552975]]
  cases hw : op.2.2.2
  · rw [hw] at q8
    exact ⟨_, by simp [Try.f6, t4, t16, q1, q3, q8, ldVar]; rfl, ⟨by simp [t3], by simp [t4], by simp [t5], by simp [t9], by simp [t11], by simp [t12], by simp [t13], by simp [t14], by simp [t15], by simp [t16]⟩, by simp [t17], by simp⟩
  · rw [hw] at q8
    exact ⟨_, by simp [Try.f6, t4, t16, q1, q3, q8, ldVar]; rfl, ⟨by simp [t3], by simp [t4], by simp [t5], by simp [t9], by simp [t11], by simp [t12], by simp [t13], by simp [t14], by simp [t15], by simp [t16]⟩, by simp [t17], by simp⟩
theorem ix0 (p : Nat) : idxA Try.prog 60 (.slice p 0 2) (.int .i64 0) = some (.ptr p 0) := by simp [idxA]
theorem ix1 (p : Nat) : idxA Try.prog 60 (.slice p 0 2) (.int .i64 1) = some (.ptr p 1) := by simp [idxA]
def row2 (a : Bool → Int) : List AV := [.int .i64 (a false), .int .i64 (a true)]
set_option maxRecDepth 20000 in
theorem fb2 {S : Sup} {op : tT65.D} {q : Nat} {c d n : Int} {v : AV} {a a' : Bool → Int} (e4 : PAt h v4 i op) (g17 : h.get q = some (.cells 63 false (obC c d n v))) (g3 : h.get p3 = some (.cells 49 false (suC S))) (g13 : h.get p13 = some (.cells 3 false (row2 a)))
    (hx : c = 0 → op.1 = 1 → idOk d ∧ idSv d = S.sv ∧ idOw d = op.2.2.2 ∧ d / 4 = a op.2.2.2 ∧ idOf S.sv op.2.2.2 (a op.2.2.2) = d)
    (ha : ∀ w, a' w = if c = 0 ∧ op.1 = 1 ∧ w = op.2.2.2 then a w + 1 else a w) (hb : ∀ w, 0 ≤ a w ∧ a w ≤ 1000000)
    (m : Nat) (hm : 5 ≤ m) (hτ : FbT τ p3 p13 p14 v4 v5 v9 cc se told i) (t17 : τ 17 = .ptr q 0) (t18 : τ 18 = .int .i64 (if op.2.2.2 then 1 else 0)) :
    ∃ τ' h', evAt Try.prog (ev Try.prog m) m 6 33552975 τ h = evAt Try.prog (ev Try.prog m) m 6 67105951 τ' h' ∧ FbT τ' p3 p13 p14 v4 v5 v9 cc se told i ∧ τ' 17 = .ptr q 0 ∧ τ' 18 = .int .i64 (if op.2.2.2 then 1 else 0) ∧
      h'.next = h.next ∧ (∀ b, b ≠ p13 → h'.get b = h.get b) ∧ h'.get p13 = some (.cells 3 false (row2 a')) := by
  obtain ⟨t3, t4, t5, t9, t11, t12, t13, t14, t15, t16⟩ := hτ
  obtain ⟨b, z, ro, xs, q1, q2, q3, q6, q7, q8⟩ := e4
  simp only [obC] at g17
  simp only [row2] at g13 ⊢
  simp only [suC] at g3
  have hno : ∀ w, ¬ (c = 0 ∧ op.1 = 1) → a' w = a w := fun w h => by rw [ha, if_neg]; rintro ⟨h1, h2, -⟩; exact h ⟨h1, h2⟩
  rw [at_M Try.func6 33552975 (by decide) 25 (by decide) (by kernel_rfl) [67105951]]
  by_cases c1 : c = 0
  · by_cases k1 : op.1 = 1
    · obtain ⟨x1, x2, x3, x4, x5⟩ := hx c1 k1
      have hid := IdPartsI_ev d h m (by omega)
      rw [if_pos x1] at hid
      have hof := IdOfI_ev S.sv op.2.2.2 (a op.2.2.2) h m (by omega)
      rw [x2, x3, x4] at hid
      rw [x5] at hof
      have hw1 := hb op.2.2.2
      have w1 : IntKind.i64.wrap (a op.2.2.2 + 1) = a op.2.2.2 + 1 := wrap_i64 (by omega) (by omega)
      rw [k1] at q6
      subst c1
      cases hw : op.2.2.2
      · rw [hw] at q8 t18 hid hof w1
        have e0 : a' false = a false + 1 := by rw [ha, if_pos ⟨rfl, k1, hw.symm⟩]
        have e1 : a' true = a true := by rw [ha, if_neg (by rw [hw]; simp)]
        rw [e0, e1]
        refine ⟨_, h.set p13 (.cells 3 false [.int .i64 (a false + 1), .int .i64 (a true)]), by simp [Try.f6, t3, t4, t13, t16, t17, t18, g17, g3, g13, q1, q3, q6, q8, hid, hof, w1, ldVar, stVar, spl, ix0, ix1]; rfl, ⟨by simp [t3], by simp [t4], by simp [t5], by simp [t9], by simp [t11], by simp [t12], by simp [t13], by simp [t14], by simp [t15], by simp [t16]⟩, by simp [t17], by simp [t18], rfl, fun b hb => AH.set_getN _ _ hb, by simp⟩
      · rw [hw] at q8 t18 hid hof w1
        have e0 : a' false = a false := by rw [ha, if_neg (by rw [hw]; simp)]
        have e1 : a' true = a true + 1 := by rw [ha, if_pos ⟨rfl, k1, hw.symm⟩]
        rw [e0, e1]
        refine ⟨_, h.set p13 (.cells 3 false [.int .i64 (a false), .int .i64 (a true + 1)]), by simp [Try.f6, t3, t4, t13, t16, t17, t18, g17, g3, g13, q1, q3, q6, q8, hid, hof, w1, ldVar, stVar, spl, ix0, ix1]; rfl, ⟨by simp [t3], by simp [t4], by simp [t5], by simp [t9], by simp [t11], by simp [t12], by simp [t13], by simp [t14], by simp [t15], by simp [t16]⟩, by simp [t17], by simp [t18], rfl, fun b hb => AH.set_getN _ _ hb, by simp⟩
    · rw [hno false (fun h => k1 h.2), hno true (fun h => k1 h.2)]
      have k1' : (op.1 == 1) = false := by simpa using k1
      exact ⟨_, h, by simp [Try.f6, t4, t16, t17, t18, g17, q1, q3, q6, c1, k1', ldVar]; rfl, ⟨by simp [t3], by simp [t4], by simp [t5], by simp [t9], by simp [t11], by simp [t12], by simp [t13], by simp [t14], by simp [t15], by simp [t16]⟩, by simp [t17], by simp [t18], rfl, fun b hb => rfl, g13⟩
  · rw [hno false (fun h => c1 h.1), hno true (fun h => c1 h.1)]
    have c1' : (c == 0) = false := by simpa using c1
    exact ⟨_, h, by simp [Try.f6, t4, t16, t17, t18, g17, c1', ldVar]; rfl, ⟨by simp [t3], by simp [t4], by simp [t5], by simp [t9], by simp [t11], by simp [t12], by simp [t13], by simp [t14], by simp [t15], by simp [t16]⟩, by simp [t17], by simp [t18], rfl, fun b hb => rfl, g13⟩
set_option maxRecDepth 20000 in
theorem fb3 {op : tT65.D} {q : Nat} {c d n cc' w : Int} {v : AV} (e4 : PAt h v4 i op) (g17 : h.get q = some (.cells 63 false (obC c d n v))) (hc : cc' = if c = 0 ∧ op.1 = 6 then max cc op.2.2.1 else cc)
    (hτ : FbT τ p3 p13 p14 v4 v5 v9 cc se told i) (t17 : τ 17 = .ptr q 0) (t18 : τ 18 = .int .i64 w) :
    ∃ τ', evAt Try.prog call m 6 67105951 τ h = evAt Try.prog call m 6 134211903 τ' h ∧ FbT τ' p3 p13 p14 v4 v5 v9 cc' se told i ∧ τ' 17 = .ptr q 0 ∧ τ' 18 = .int .i64 w := by
  obtain ⟨t3, t4, t5, t9, t11, t12, t13, t14, t15, t16⟩ := hτ
  obtain ⟨b, z, ro, xs, q1, q2, q3, q6, q7, q8⟩ := e4
  simp only [obC] at g17
  rw [at_M Try.func6 67105951 (by decide) 26 (by decide) (by kernel_rfl) [134211903]]
  by_cases c1 : c = 0
  · by_cases k1 : op.1 = 6
    · rw [if_pos ⟨c1, k1⟩] at hc
      rw [k1] at q6
      by_cases hn : cc < op.2.2.1
      · have : cc' = op.2.2.1 := by omega
        subst this
        exact ⟨_, by simp [Try.f6, t4, t11, t16, t17, t18, g17, q1, q3, q6, q7, c1, hn, ldVar]; rfl, ⟨by simp [t3], by simp [t4], by simp [t5], by simp [t9], by simp, by simp [t12], by simp [t13], by simp [t14], by simp [t15], by simp [t16]⟩, by simp [t17], by simp [t18]⟩
      · have : cc' = cc := by omega
        subst this
        have hn' := eq_false hn
        exact ⟨_, by simp [Try.f6, t4, t11, t16, t17, t18, g17, q1, q3, q6, q7, c1, hn', ldVar]; rfl, ⟨by simp [t3], by simp [t4], by simp [t5], by simp [t9], by simp, by simp [t12], by simp [t13], by simp [t14], by simp [t15], by simp [t16]⟩, by simp [t17], by simp [t18]⟩
    · have k1' : (op.1 == 6) = false := by simpa using k1
      rw [if_neg (fun h => k1 h.2)] at hc
      subst hc
      exact ⟨_, by simp [Try.f6, t4, t16, t17, t18, g17, q1, q3, q6, c1, k1', ldVar]; rfl, ⟨by simp [t3], by simp [t4], by simp [t5], by simp [t9], by simp [t11], by simp [t12], by simp [t13], by simp [t14], by simp [t15], by simp [t16]⟩, by simp [t17], by simp [t18]⟩
  · have c1' : (c == 0) = false := by simpa using c1
    rw [if_neg (fun h => c1 h.1)] at hc
    subst hc
    exact ⟨_, by simp [Try.f6, t4, t16, t17, t18, g17, c1', ldVar]; rfl, ⟨by simp [t3], by simp [t4], by simp [t5], by simp [t9], by simp [t11], by simp [t12], by simp [t13], by simp [t14], by simp [t15], by simp [t16]⟩, by simp [t17], by simp [t18]⟩
set_option maxRecDepth 20000 in
theorem fb4 {op : tT65.D} {q : Nat} {c d n : Int} {v : AV} {a a' : Bool → Int} (e4 : PAt h v4 i op) (g17 : h.get q = some (.cells 63 false (obC c d n v))) (g14 : h.get p14 = some (.cells 3 false (row2 a)))
    (ha : ∀ w, a' w = if c = 0 ∧ op.1 = 8 ∧ w = op.2.2.2 then max (a w) op.2.2.1 else a w)
    (hτ : FbT τ p3 p13 p14 v4 v5 v9 cc se told i) (t17 : τ 17 = .ptr q 0) (t18 : τ 18 = .int .i64 (if op.2.2.2 then 1 else 0)) :
    ∃ τ' h', evAt Try.prog call m 6 134211903 τ h = evAt Try.prog call m 6 268423807 τ' h' ∧ FbT τ' p3 p13 p14 v4 v5 v9 cc se told i ∧ τ' 17 = .ptr q 0 ∧
      h'.next = h.next ∧ (∀ b, b ≠ p14 → h'.get b = h.get b) ∧ h'.get p14 = some (.cells 3 false (row2 a')) := by
  obtain ⟨t3, t4, t5, t9, t11, t12, t13, t14, t15, t16⟩ := hτ
  obtain ⟨b, z, ro, xs, q1, q2, q3, q6, q7, q8⟩ := e4
  simp only [obC] at g17
  simp only [row2] at g14 ⊢
  have hno : ∀ w, ¬ (c = 0 ∧ op.1 = 8) → a' w = a w := fun w h => by rw [ha, if_neg]; rintro ⟨h1, h2, -⟩; exact h ⟨h1, h2⟩
  rw [at_M Try.func6 134211903 (by decide) 27 (by decide) (by kernel_rfl) [268423807]]
  by_cases c1 : c = 0
  · by_cases k1 : op.1 = 8
    · rw [k1] at q6
      subst c1
      cases hw : op.2.2.2
      · rw [hw] at q8 t18
        have e1 : a' true = a true := by rw [ha, if_neg (by rw [hw]; simp)]
        have e0 : a' false = max (a false) op.2.2.1 := by rw [ha, if_pos ⟨rfl, k1, hw.symm⟩]
        rw [e1]
        by_cases hn : a false < op.2.2.1
        · have : a' false = op.2.2.1 := by omega
          rw [this]
          refine ⟨_, h.set p14 (.cells 3 false [.int .i64 op.2.2.1, .int .i64 (a true)]), by simp [Try.f6, t4, t14, t16, t17, t18, g17, g14, q1, q3, q6, q7, hn, ldVar, stVar, spl, ix0, ix1, evHist, ObsOk, ObOk, List.getElem?_cons_zero]; rfl, ⟨by simp [t3], by simp [t4], by simp [t5], by simp [t9], by simp [t11], by simp [t12], by simp [t13], by simp [t14], by simp [t15], by simp [t16]⟩, by simp [t17], rfl, fun b hb => AH.set_getN _ _ hb, by simp⟩
        · have : a' false = a false := by omega
          rw [this]
          have hn' := eq_false hn
          refine ⟨_, h.set p14 (.cells 3 false [.int .i64 (a false), .int .i64 (a true)]), by simp [Try.f6, t4, t14, t16, t17, t18, g17, g14, q1, q3, q6, q7, hn', ldVar, stVar, spl, ix0, ix1, evHist, ObsOk, ObOk, List.getElem?_cons_zero]; rfl, ⟨by simp [t3], by simp [t4], by simp [t5], by simp [t9], by simp [t11], by simp [t12], by simp [t13], by simp [t14], by simp [t15], by simp [t16]⟩, by simp [t17], rfl, fun b hb => AH.set_getN _ _ hb, by simp⟩
      · rw [hw] at q8 t18
        have e1 : a' false = a false := by rw [ha, if_neg (by rw [hw]; simp)]
        have e0 : a' true = max (a true) op.2.2.1 := by rw [ha, if_pos ⟨rfl, k1, hw.symm⟩]
        rw [e1]
        by_cases hn : a true < op.2.2.1
        · have : a' true = op.2.2.1 := by omega
          rw [this]
          refine ⟨_, h.set p14 (.cells 3 false [.int .i64 (a false), .int .i64 op.2.2.1]), by simp [Try.f6, t4, t14, t16, t17, t18, g17, g14, q1, q3, q6, q7, hn, ldVar, stVar, spl, ix0, ix1, evHist, ObsOk, ObOk, List.getElem?_cons_zero]; rfl, ⟨by simp [t3], by simp [t4], by simp [t5], by simp [t9], by simp [t11], by simp [t12], by simp [t13], by simp [t14], by simp [t15], by simp [t16]⟩, by simp [t17], rfl, fun b hb => AH.set_getN _ _ hb, by simp⟩
        · have : a' true = a true := by omega
          rw [this]
          have hn' := eq_false hn
          refine ⟨_, h.set p14 (.cells 3 false [.int .i64 (a false), .int .i64 (a true)]), by simp [Try.f6, t4, t14, t16, t17, t18, g17, g14, q1, q3, q6, q7, hn', ldVar, stVar, spl, ix0, ix1, evHist, ObsOk, ObOk, List.getElem?_cons_zero]; rfl, ⟨by simp [t3], by simp [t4], by simp [t5], by simp [t9], by simp [t11], by simp [t12], by simp [t13], by simp [t14], by simp [t15], by simp [t16]⟩, by simp [t17], rfl, fun b hb => AH.set_getN _ _ hb, by simp⟩
    · rw [hno false (fun h => k1 h.2), hno true (fun h => k1 h.2)]
      have k1' : (op.1 == 8) = false := by simpa using k1
      exact ⟨_, h, by simp [Try.f6, t4, t16, t17, t18, g17, q1, q3, q6, c1, k1', ldVar]; rfl, ⟨by simp [t3], by simp [t4], by simp [t5], by simp [t9], by simp [t11], by simp [t12], by simp [t13], by simp [t14], by simp [t15], by simp [t16]⟩, by simp [t17], rfl, fun b hb => rfl, g14⟩
  · rw [hno false (fun h => c1 h.1), hno true (fun h => c1 h.1)]
    have c1' : (c == 0) = false := by simpa using c1
    exact ⟨_, h, by simp [Try.f6, t4, t16, t17, t18, g17, c1', ldVar]; rfl, ⟨by simp [t3], by simp [t4], by simp [t5], by simp [t9], by simp [t11], by simp [t12], by simp [t13], by simp [t14], by simp [t15], by simp [t16]⟩, by simp [t17], rfl, fun b hb => rfl, g14⟩
set_option maxRecDepth 20000 in
theorem fb5 {q : Nat} {c d n : Int} {v : AV} {a b : Bool → Int} (g17 : h.get q = some (.cells 63 false (obC c d n v))) (g13 : h.get p13 = some (.cells 3 false (row2 a))) (g14 : h.get p14 = some (.cells 3 false (row2 b)))
    (hab : ∀ w, a w ≤ b w) (hle : se + n ≤ cc) (hse : 0 ≤ se + n) (hcc : cc ≤ 4611686018427387903)
    (hτ : FbT τ p3 p13 p14 v4 v5 v9 cc se told i) (t17 : τ 17 = .ptr q 0) :
    ∃ τ', evAt Try.prog call m 6 268423807 τ h = evAt Try.prog call m 6 1073695231 τ' h ∧ FbT τ' p3 p13 p14 v4 v5 v9 cc (se + n) told i ∧ τ' 17 = .ptr q 0 := by
  obtain ⟨t3, t4, t5, t9, t11, t12, t13, t14, t15, t16⟩ := hτ
  simp only [obC] at g17
  simp only [row2] at g13 g14
  have w1 : IntKind.i64.wrap (se + n) = se + n := wrap_i64 (by omega) (by omega)
  have n1 := eq_false (show ¬ (cc < se + n) by omega)
  have n2 := eq_false (show ¬ (b false < a false) by have := hab false; omega)
  have n3 := eq_false (show ¬ (b true < a true) by have := hab true; omega)
  rw [at_M Try.func6 268423807 (by decide) 28 (by decide) (by kernel_rfl) [1073695231]]
  exact ⟨_, by simp [Try.f6, t11, t12, t13, t14, t17, g17, g13, g14, w1, n1, n2, n3, ldVar, ix0, ix1]; rfl, ⟨by simp [t3], by simp [t4], by simp [t5], by simp [t9], by simp [t11], by simp, by simp [t13], by simp [t14], by simp [t15], by simp [t16]⟩, by simp [t17]⟩
end
end Go.Ev

/- The law of credit's books: a round's frames. -/
namespace Go.Ev
open Go Go.Proofs
set_option linter.unusedSimpArgs false
set_option linter.unusedVariables false

theorem doF_frs (S : Sup) (F : Fw) (op : tT65.D) : (doF S F op).2.2.2.2.length ≤ 2 := by
  unfold doF
  split
  · unfold openP; split <;> simp [ob]
  · split
    · unfold sendP
      split
      · simp [ob]
      · split <;> simp [ob]
    · split
      · simp [ob]
      · split
        · unfold readP
          split
          · simp [ob]
          · dsimp only
            split
            · simp [ob]
            · simp only [ob]
              split <;> split <;> simp
        · split
          · unfold overP
            split
            · simp [ob]
            · dsimp only
              split
              · simp [ob]
              · split <;> simp [ob]
          · split <;> simp [ob]
def FrI (p3 p13 p14 : Nat) (v4 v5 v9 : AV) (cc se : Int) (i q nf : Nat) (tc tc' : Int) (H : AH) (d : Nat) (τ : Tm) (h : AH) : Prop :=
  ∃ (k : Nat) (told : Int), k + d = nf ∧ FbT τ p3 p13 p14 v4 v5 v9 cc se told i ∧ τ 17 = .ptr q 0 ∧ τ 23 = .int .i64 k ∧ Kp H h ∧ (told ≤ tc ∨ (k = nf ∧ told ≤ tc'))
set_option maxRecDepth 20000 in
theorem frLoop {Hb h0 : AH} {r9 r5 : Bool} {p3 p13 p14 q : Nat} {v4 v5 v9 v9' v5' : AV} {cc se tc tc' : Int} {i : Nat} {c d n : Int} {fr : List Fr} {b9 b5 : List Nat} (R9 : (Ty.sl 72 tT72).R r9 Hb [v9'] fr b9) (R5 : (Ty.sl 72 tT72).R r5 Hb [v5'] fr b5) (hKb : Kp Hb h0)
    (e5 : OAt h0 v5 i c d n v5') (g17 : h0.get q = some (.cells 63 false (obC c d n v9'))) (hq : q < h0.next)
    (hfr : ∀ (j : Nat) (hj : j < fr.length), ∃ k a c, fr[j] = frm k a c ∧ (k = 16 → j + 1 = fr.length ∧ tc < a ∧ a = tc')) (hlen : fr.length ≤ 2)
    (m : Nat) (hm : 6 ≤ m) (τ : Tm) (hI : FrI p3 p13 p14 v4 v5 v9 cc se i q fr.length tc tc' h0 fr.length τ h0) :
    ∃ e τ' H', evLoop Try.prog (ev Try.prog m) m (lp Try.prog 6 4294780926) τ h0 = some (e, τ', H') ∧ e = .exit 2 ∧ FrI p3 p13 p14 v4 v5 v9 cc se i q fr.length tc tc' h0 0 τ' H' := by
  refine loop_rule (d := fr.length) (FrI p3 p13 p14 v4 v5 v9 cc se i q fr.length tc tc' h0) (fun e τ h => e = .exit 2 ∧ FrI p3 p13 p14 v4 v5 v9 cc se i q fr.length tc tc' h0 0 τ h) ?_ hI (by omega)
  rintro dd τ h ⟨k, told, hk, hτ, t17, t23, hK, ht⟩
  have hτ' := hτ
  obtain ⟨t3, t4, t5, t9, t11, t12, t13, t14, t15, t16⟩ := hτ
  have l9 := R9.lenA (P := Try.prog) (T := 61) (by simp)
  have gq := (hK.get q hq).trans g17
  simp only [obC] at gq
  rw [lp_M Try.func6 4294780926 (by decide) 32 (by decide) (by kernel_rfl) []]
  by_cases hd0 : dd = 0
  · subst hd0
    have hc : ¬ ((k : Int) < fr.length) := by omega
    simp [Try.f6, t17, t23, gq, l9, hc, ldVar]
    exact ⟨k, told, hk, ⟨by simp [t3], by simp [t4], by simp [t5], by simp [t9], by simp [t11], by simp [t12], by simp [t13], by simp [t14], by simp [t15], by simp [t16]⟩, by simp [t17], by simp [t23], hK, ht⟩
  · have hlt : k < fr.length := by omega
    have hc : (k : Int) < fr.length := by omega
    have hx : k < fr.length ∧ (k : Int) < fr.length := ⟨hlt, hc⟩
    obtain ⟨b, o, ro, L, c1, bv, u1, u2, u3, u4, u5, u6⟩ := frAt R9 hlt
    obtain ⟨b', o', ro', L', c2, bv', w1, w2, w3, w4, w5, w6⟩ := frAt R5 hlt
    obtain ⟨kk, a, cz, hf, hkk⟩ := hfr k hlt
    rw [hf] at u6 w6
    have KB := hKb.trans hK
    obtain ⟨H', s1, s2⟩ := sameFrame_ev (u6.kp KB) (w6.kp KB) m (by omega)
    obtain ⟨z, zo, zr, zx, y1, y2, y3, y4, y5, y6, y7, y8⟩ := e5.kp hK
    have gb := (KB.get b u2).trans u3
    have gb' := (KB.get b' w2).trans w3
    have hqn := hK.next
    have gq' := (s2.get q (by omega)).trans gq
    have gb2 := (s2.get b (by have := KB.next; omega)).trans gb
    obtain ⟨x5, x6, x7, bu5, bu6, bu7, e1, _⟩ := o72 u6
    try simp only [frm] at e1
    subst u5
    subst w5
    have f0 : L[o]? = some (.int .i64 kk) := by
      have := at_take (j := 0) e1 (by omega); simpa using this
    have f1 : L[o + 1]? = some (.int .i64 a) := by
      have := at_take (j := 1) e1 (by omega); simpa using this
    have hw : IntKind.i64.wrap ((k : Int) + 1) = ((k + 1 : Nat) : Int) := by rw [wrap_i64 (n := (k : Int) + 1) (by omega) (by omega)]; omega
    clear e1
    by_cases h16 : kk = 16
    · obtain ⟨q1, q2, q3⟩ := hkk h16
      have ht' : told ≤ tc := by rcases ht with h | h; exact h; omega
      have hnl := eq_false (show ¬ (a ≤ told) by omega)
      simp [Try.f6, t17, t23, t5, t15, t16, gq, gq', gb, gb', gb2, l9, hlt, hc, u1, u4, w1, w4, y1, y3, y8, s1, f0, f1, h16, hnl, hw, ldVar]
      refine ⟨dd - 1, by omega, k + 1, a, by omega, ⟨by simp [t3], by simp [t4], by simp [t5], by simp [t9], by simp [t11], by simp [t12], by simp [t13], by simp [t14], by simp, by simp [t16]⟩, by simp [t17], by simp, hK.trans s2, .inr ⟨by omega, by omega⟩⟩
    · have h16' : (kk == 16) = false := by simpa using h16
      have ht' : told ≤ tc := by rcases ht with h | h; exact h; omega
      simp [Try.f6, t17, t23, t5, t15, t16, gq, gq', gb, gb', gb2, l9, hlt, hc, u1, u4, w1, w4, y1, y3, y8, s1, f0, f1, h16', hw, ldVar]
      refine ⟨dd - 1, by omega, k + 1, told, by omega, ⟨by simp [t3], by simp [t4], by simp [t5], by simp [t9], by simp [t11], by simp [t12], by simp [t13], by simp [t14], by simp [t15], by simp [t16]⟩, by simp [t17], by simp, hK.trans s2, .inl ht'⟩
set_option maxRecDepth 20000 in
theorem fb6 {Hb h0 : AH} {r9 r5 : Bool} {p3 p13 p14 q : Nat} {v4 v5 v9 v9' v5' : AV} {cc se tc tc' told : Int} {i : Nat} {c d n : Int} {fr : List Fr} {b9 b5 : List Nat} (R9 : (Ty.sl 72 tT72).R r9 Hb [v9'] fr b9) (R5 : (Ty.sl 72 tT72).R r5 Hb [v5'] fr b5) (hKb : Kp Hb h0)
    (e5 : OAt h0 v5 i c d n v5') (g17 : h0.get q = some (.cells 63 false (obC c d n v9'))) (hq : q < h0.next)
    (hfr : ∀ (j : Nat) (hj : j < fr.length), ∃ k a c, fr[j] = frm k a c ∧ (k = 16 → j + 1 = fr.length ∧ tc < a ∧ a = tc')) (hlen : fr.length ≤ 2) (htc : tc ≤ tc') (ht : told ≤ tc)
    (m : Nat) (hm : 6 ≤ m) (τ : Tm) (hτ : FbT τ p3 p13 p14 v4 v5 v9 cc se told i) (t17 : τ 17 = .ptr q 0) :
    ∃ τ' h' told', evAt Try.prog (ev Try.prog m) m 6 1073695231 τ h0 = some (.normal, τ', h') ∧ FbT τ' p3 p13 p14 v4 v5 v9 cc se told' i ∧ told' ≤ tc' ∧ Kp h0 h' := by
  obtain ⟨t3, t4, t5, t9, t11, t12, t13, t14, t15, t16⟩ := hτ
  rw [at_M Try.func6 1073695231 (by decide) 30 (by decide) (by kernel_rfl) []]
  simp [Try.f6]
  generalize hLo : evLoop _ _ _ _ _ _ = R
  obtain ⟨e, τ', H', rfl, rfl, k, told', hk, hτ', _, _, hK, h1⟩ := loop_at hLo (frLoop (p3 := p3) (p13 := p13) (p14 := p14) (v4 := v4) (v9 := v9) (cc := cc) (se := se) R9 R5 hKb e5 g17 hq hfr hlen m hm _ ⟨0, told, by omega, ⟨by simp [t3], by simp [t4], by simp [t5], by simp [t9], by simp [t11], by simp [t12], by simp [t13], by simp [t14], by simp [t15], by simp [t16]⟩, by simp [t17], by simp, Kp.refl _, .inl ht⟩)
  exact ⟨τ', H', by simp, told', hτ', by rcases h1 with h | h <;> omega, hK⟩
end Go.Ev

/- The law FnFlowBooks by the evaluator. -/
namespace Go.Ev
open Go Go.Proofs
set_option linter.unusedSimpArgs false
set_option linter.unusedVariables false

structure FbI (S : Sup) (ops : List tT65.D) (p3 p13 p14 : Nat) (v4 v5 v9 : AV) (H : AH) (i : Nat) (F : Fw) (told : Int) (τ : Tm) (h : AH) : Prop where
  T : FbT τ p3 p13 p14 v4 v5 v9 F.cc (sumI Bk.se F.L) told i
  le : told ≤ F.tc
  G : F.good S i
  om : ∀ w, F.o w ≤ F.m w
  K : Kp H h
  g13 : h.get p13 = some (.cells 3 false (row2 F.o))
  g14 : h.get p14 = some (.cells 3 false (row2 F.m))
  n13 : H.next ≤ p13 ∧ p13 < h.next
  n14 : H.next ≤ p14 ∧ p14 < h.next
  run : (runF S (Fw0 S) ops).drop i = runF S F (ops.drop i)
def FbL (S : Sup) (ops : List tT65.D) (p3 p13 p14 : Nat) (v4 v5 v9 : AV) (H : AH) (d : Nat) (τ : Tm) (h : AH) : Prop :=
  ∃ (i : Nat) (F : Fw) (told : Int), i + d = ops.length ∧ FbI S ops p3 p13 p14 v4 v5 v9 H i F told τ h
set_option maxRecDepth 20000 in
theorem fbLoop {H h0 : AH} {S : Sup} {ops : List tT65.D} {p3 p13 p14 : Nat} {v4 v5 v9 : AV} {r4 r5 r9 : Bool} {b4 b5 b9 : List Nat} (h4 : (Ty.sl 65 tT65).R r4 H [v4] ops b4) (h5 : (Ty.sl 63 tT63).R r5 H [v5] (runF S (Fw0 S) ops) b5) (h9 : (Ty.sl 63 tT63).R r9 H [v9] (runF S (Fw0 S) ops) b9)
    (g3 : H.get p3 = some (.cells 49 false (suC S))) (n3 : p3 < H.next) (hpp : p13 ≠ p14) (hlen : ops.length ≤ 100) (m : Nat) (hm : 200 ≤ m) (τ : Tm) (hI : FbL S ops p3 p13 p14 v4 v5 v9 H ops.length τ h0) :
    ∃ e τ' H', evLoop Try.prog (ev Try.prog m) m (lp Try.prog 6 131066) τ h0 = some (e, τ', H') ∧ e = .exit 0 ∧ True := by
  refine loop_rule (d := ops.length) (FbL S ops p3 p13 p14 v4 v5 v9 H) (fun e τ h => e = .exit 0 ∧ True) ?_ hI (by omega)
  rintro d τ h ⟨i, F, told, hi, X⟩
  have hτ := X.T
  obtain ⟨t3, t4, t5, t9, t11, t12, t13, t14, t15, t16⟩ := X.T
  have hrl := runF_len S (Fw0 S) ops
  have hL := h9.lenA (P := Try.prog) (T := 46) (by simp)
  rw [hrl] at hL
  rw [lp_M Try.func6 131066 (by decide) 17 (by decide) (by kernel_rfl) [2097060]]
  by_cases hd0 : d = 0
  · have hc : ¬ ((i : Int) < ops.length) := by omega
    simp [Try.f6, t9, t16, hL, hc]
  · have hlt : i < ops.length := by omega
    have hc : (i : Int) < ops.length := by omega
    simp [Try.f6, t9, t16, hL, hlt, hc]
    generalize hτ1 : upd _ 75 _ = τ1
    have T1 : FbT τ1 p3 p13 p14 v4 v5 v9 F.cc (sumI Bk.se F.L) told i := by
      rw [← hτ1]; exact ⟨by simp [t3], by simp [t4], by simp [t5], by simp [t9], by simp [t11], by simp [t12], by simp [t13], by simp [t14], by simp [t15], by simp [t16]⟩
    clear hτ1
    have hdrop : ops.drop i = ops[i] :: ops.drop (i + 1) := List.drop_eq_getElem_cons hlt
    have hdrop2 : (runF S (Fw0 S) ops).drop i = (runF S (Fw0 S) ops)[i]'(by omega) :: (runF S (Fw0 S) ops).drop (i + 1) := List.drop_eq_getElem_cons (by omega)
    have hrun := X.run
    rw [hdrop2, hdrop] at hrun
    simp only [runF, List.cons.injEq] at hrun
    obtain ⟨hel, hrun⟩ := hrun
    have L := doF_law X.G (by omega) X.om ops[i]
    have G' := doF_good X.G (by omega) ops[i]
    have hf2 := doF_frs S F ops[i]
    obtain ⟨v9', b9', e9, R9⟩ := oAt h9 (k := i) (by omega)
    obtain ⟨v5', b5', e5, R5⟩ := oAt h5 (k := i) (by omega)
    have e4 := pAt h4 hlt
    rw [hel] at e9 e5 R9 R5
    generalize doF S F ops[i] = R at *
    generalize ops[i] = op at *
    obtain ⟨G, c, dd, n, fr⟩ := R
    simp only at *
    have l9 := R9.lenA (P := Try.prog) (T := 61) (by simp)
    have l5 := R5.lenA (P := Try.prog) (T := 61) (by simp)
    obtain ⟨τ2, a0, T2, p2⟩ := fb0 (call := ev Try.prog m) (m := m) (e9.kp X.K) (e5.kp X.K) l9 l5 R9.sl_one T1
    let A : AH := h.push (.cells 63 false (obC c dd n v9'))
    have KA : Kp h A := (Kp.refl h).push _
    have gA : A.get h.next = some (.cells 63 false (obC c dd n v9')) := by simp [A]
    have nA : A.next = h.next + 1 := by simp [A]
    have KHA := X.K.trans KA
    have hn13 := X.n13
    have hn14 := X.n14
    have KHn := X.K.next
    have gA13 := (KA.get p13 hn13.2).trans X.g13
    have gA14 := (KA.get p14 hn14.2).trans X.g14
    have gA3 := (KHA.get p3 n3).trans g3
    change evAt Try.prog (ev Try.prog m) m 6 2097060 τ1 h = evAt Try.prog (ev Try.prog m) m 6 8388243 τ2 A at a0
    clear_value A
    obtain ⟨τ3, a1, T3, p3', w3⟩ := fb1 (call := ev Try.prog m) (m := m) (e4.kp KHA) T2 p2
    have hGo := X.G.o
    have hGi := X.G.kk
    obtain ⟨τ4, h2, a2, T4, p4, w4, m2, q2, g2⟩ := fb2 (e4.kp KHA) gA gA3 gA13 (a' := G.o) (fun h0 h1 => L.opn h0 h1) L.o (fun w => ⟨(hGo w).1, by have := (hGo w).2; omega⟩) m (by omega) T3 p3' w3
    have K2 : Kp H h2 := ⟨by omega, fun b hb => by rw [q2 b (by omega)]; exact KHA.get b hb⟩
    have g2q := (q2 h.next (by omega)).trans gA
    have g214 := (q2 p14 (Ne.symm hpp)).trans gA14
    obtain ⟨τ5, a3, T5, p5, w5⟩ := fb3 (call := ev Try.prog m) (m := m) (e4.kp K2) g2q L.cc T4 p4 w4
    obtain ⟨τ6, h3, a4, T6, p6, m3, q3, g3'⟩ := fb4 (call := ev Try.prog m) (m := m) (e4.kp K2) g2q g214 (a' := G.m) L.m T5 p5 w5
    have K3 : Kp H h3 := ⟨by omega, fun b hb => by rw [q3 b (by omega)]; exact K2.get b hb⟩
    have g3q := (q3 h.next (by omega)).trans g2q
    have g313 := (q3 p13 hpp).trans g2
    have hse : sumI Bk.se G.L = sumI Bk.se F.L + n := L.se
    have hcc := G'.se
    have hcm := G'.cc
    have hnn : 0 ≤ sumI Bk.se G.L := sumI_nn fun s hs => (G'.bk s hs).se.1
    obtain ⟨τ7, a5, T7, p7⟩ := fb5 (call := ev Try.prog m) (m := m) g3q g313 g3' L.le (by omega) (by omega) hcm T6 p6
    obtain ⟨τ8, h4', told', a6, T8, ht8, K8⟩ := fb6 R9 R5 K3 (e5.kp K3) g3q (by omega) L.fr hf2 L.tc X.le m (by omega) τ7 T7 p7
    rw [a0, a1, a2, a3, a4, a5, a6]
    have w1 : IntKind.i64.wrap ((i : Int) + 1) = ((i + 1 : Nat) : Int) := by rw [wrap_i64 (n := (i : Int) + 1) (by omega) (by omega)]; omega
    have u16 := T8.t16
    simp [u16, w1]
    have K8n := K8.next
    refine ⟨d - 1, by omega, i + 1, G, told', by omega, ⟨⟨by simp [T8.t3], by simp [T8.t4], by simp [T8.t5], by simp [T8.t9], by simp [T8.t11], by simp [T8.t12, hse], by simp [T8.t13], by simp [T8.t14], by simp [T8.t15], by simp⟩, ht8, G', L.le, K3.trans K8, (K8.get p13 (by omega)).trans g313, (K8.get p14 (by omega)).trans g3', by omega, by omega, hrun⟩⟩
end Go.Ev

/- The law FnFlowBooks by the evaluator, whole. -/
namespace Go.Ev
open Go Go.Proofs
set_option linter.unusedSimpArgs false
set_option linter.unusedVariables false

theorem FlowP_no {S : Sup} {ops : List tT65.D} (h : ¬ S.ok) (hl : ops.length ≤ 400) : FlowP S ops = ([], 1) := by
  unfold FlowP; rw [if_neg (by omega), if_neg h]
theorem FlowP_ok {S : Sup} {ops : List tT65.D} (h : S.ok) (hl : ops.length ≤ 400) : FlowP S ops = (runF S (Fw0 S) ops, 0) := by
  unfold FlowP; rw [if_neg (by omega), if_pos h]
set_option maxRecDepth 20000 in
theorem law6 {H : AH} {s : AV} {l : List Int} {bs : List Nat} (h : (Ty.sl 5 (.int .u8)).R false H [s] l bs) (hs : (Ty.sl 5 (.int .u8)).sm l) (m : Nat) (hm : 4000000 ≤ m) : ∃ H', ev Try.prog m 6 [s] H = some (.bool true, H') := by
  obtain ⟨m, rfl⟩ : ∃ k, m = k + 1 := ⟨m - 1, by omega⟩
  have hL := h.lenA (P := Try.prog) (T := 34) (by simp)
  by_cases c : 1048576 < l.length
  · have c' : (1048576 : Int) < l.length := by omega
    rw [ev_M Try.func6 ok6 [] m _ H (by simp [Try.f6])]
    exact ⟨_, by simp [Try.f6, hL, c']; rfl⟩
  · have c' : ¬ ((1048576 : Int) < l.length) := by omega
    obtain ⟨v4, H1, b1, a1, a2, a3, a4, a5, a6⟩ := drawFl_ev h (by omega) m (by omega)
    obtain ⟨A, hA⟩ : ∃ A : AH, A = H1.push (.cells 49 false (suC (drawFlP l).1)) := ⟨_, rfl⟩
    have kA : Kp H1 A := by rw [hA]; exact (Kp.refl _).push _
    have gA : A.get H1.next = some (.cells 49 false (suC (drawFlP l).1)) := by rw [hA]; simp
    have nA : A.next = H1.next + 1 := by rw [hA]; simp
    obtain ⟨w, H2, bw, c1, c2, c3, c4, c5⟩ := flowS_ev (S := (drawFlP l).1) a2 kA m (by omega)
    obtain ⟨v8, H3, b3, d1, d2, d3, d4, d5, d6⟩ := drawFl_ev (h.kp ((a5.trans kA).trans c2)) (by omega) m (by omega)
    obtain ⟨B, hB⟩ : ∃ B : AH, B = H3.push (.cells 49 false (suC (drawFlP l).1)) := ⟨_, rfl⟩
    have kB : Kp H3 B := by rw [hB]; exact (Kp.refl _).push _
    have gB : B.get H3.next = some (.cells 49 false (suC (drawFlP l).1)) := by rw [hB]; simp
    obtain ⟨g, H4, bg, e1, e2, e3, e4, e5⟩ := flowI_ev (S := (drawFlP l).1) d2 kB m (by omega)
    have K4 : Kp A H4 := ((c2.trans d5).trans kB).trans e2
    obtain ⟨v4', H5, b5, f1, f2, f3, f4, f5, f6⟩ := drawFl_ev (h.kp ((a5.trans kA).trans K4)) (by omega) m (by omega)
    have w5 := c3.kp (((d5.trans kB).trans e2).trans f5)
    have g5 := e3.kp f5
    have L1 := g5.lenA (P := Try.prog) (T := 46) (by simp)
    have L2 := w5.lenA (P := Try.prog) (T := 46) (by simp)
    have K5 := K4.trans f5
    have g3 : H5.get H1.next = some (.cells 49 false (suC (drawFlP l).1)) := (K5.get _ (by omega)).trans gA
    have hn5 := K5.next
    generalize hD : drawFlP l = D at *
    obtain ⟨S, ops⟩ := D
    simp only at *
    have A' := hA.symm
    have B' := hB.symm
    generalize hR : FlowP S ops = R at *
    obtain ⟨outs, rc⟩ := R
    simp only at *
    have gA' := gA
    have gB' := gB
    simp only [suC] at a1 A' gA' c1 d1 B' gB' e1
    rw [ev_M Try.func6 ok6 [15] m _ H (by simp [Try.f6])]
    simp [Try.f6, tm0, hL, c', a1, stVar, spl, A']
    generalize hτ : upd _ 4 _ = τ1
    have t0 : τ1 0 = s := by rw [← hτ]; simp
    have t3 : τ1 3 = .ptr H1.next 0 := by rw [← hτ]; simp
    have t4 : τ1 4 = v4 := by rw [← hτ]; simp
    clear hτ
    rw [at_M Try.func6 15 (by decide) 4 (by decide) (by kernel_rfl) [63]]
    simp [Try.f6, t0, t3, t4, gA', c1, d1, ldVar, stVar, spl, B']
    generalize hτ : upd _ 8 _ = τ2
    have u0 : τ2 0 = s := by rw [← hτ]; simp [t0]
    have u3 : τ2 3 = .ptr H1.next 0 := by rw [← hτ]; simp [t3]
    have u5 : τ2 5 = w := by rw [← hτ]; simp
    have u6 : τ2 6 = .int .i64 rc := by rw [← hτ]; simp
    have u7 : τ2 7 = .ptr H3.next 0 := by rw [← hτ]; simp
    have u8 : τ2 8 = v8 := by rw [← hτ]; simp
    clear hτ
    rw [at_M Try.func6 63 (by decide) 6 (by decide) (by kernel_rfl) [511]]
    simp [Try.f6, u0, u3, u5, u6, u7, u8, gB', e1, f1, L1, L2, ldVar]
    generalize hτ : upd _ 4 _ = τ3
    have x3 : τ3 3 = .ptr H1.next 0 := by rw [← hτ]; simp [u3]
    have x4 : τ3 4 = v4' := by rw [← hτ]; simp
    have x5 : τ3 5 = w := by rw [← hτ]; simp [u5]
    have x9 : τ3 9 = g := by rw [← hτ]; simp
    clear hτ
    obtain ⟨C, hC⟩ : ∃ C : AH, C = (H5.push (.cells 3 false [.int .i64 0, .int .i64 0])).push (.cells 3 false [.int .i64 S.ptw, .int .i64 S.pow]) := ⟨_, rfl⟩
    have kC : Kp H5 C := by rw [hC]; exact ((Kp.refl _).push _).push _
    have nC : C.next = H5.next + 2 := by rw [hC]; simp
    have g13 : C.get H5.next = some (.cells 3 false [.int .i64 0, .int .i64 0]) := by rw [hC]; simp
    have g14 : C.get (H5.next + 1) = some (.cells 3 false [.int .i64 S.ptw, .int .i64 S.pow]) := by rw [hC]; simp
    have C' := hC.symm
    have g3' := g3
    simp only [suC] at g3'
    have hne : ¬ (H1.next = H5.next) := by omega
    rw [at_M Try.func6 511 (by decide) 9 (by decide) (by kernel_rfl) []]
    simp [Try.f6, x3, x4, x5, x9, g3', hne, ldVar, fillA, zerosA, spl, C']
    generalize hLo : evLoop _ _ _ _ _ _ = R
    by_cases ok : S.ok
    · rw [FlowP_ok ok (by omega)] at hR
      simp only [Prod.mk.injEq] at hR
      obtain ⟨rfl, rfl⟩ := hR
      have G0 := Fw0_good ok
      obtain ⟨e, τ', H', rfl, rfl, _⟩ := loop_at hLo (fbLoop (S := S) (p3 := H1.next) (p13 := H5.next) (p14 := H5.next + 1) f2 w5 g5 g3 (by omega) (by omega) (by omega) m (by omega) _ ⟨0, Fw0 S, 0, by omega, ⟨⟨by simp [x3], by simp [x4], by simp [x5], by simp [x9], by simp [Fw0], by simp [Fw0, sumI], by simp, by simp, by simp, by simp⟩, by have := ok.cw; simp only [Fw0]; omega, G0, fun w => by have := G0.m w; cases w <;> simp [Fw0, Fw.o, Fw.m] at this ⊢ <;> omega, kC, by rw [g13]; rfl, by rw [g14]; rfl, by omega, by omega, by simp⟩⟩)
      simp
    · rw [FlowP_no ok (by omega)] at hR
      simp only [Prod.mk.injEq] at hR
      obtain ⟨rfl, rfl⟩ := hR
      have hl : ∀ (τ : Tm) (h : AH), τ 9 = g → τ 16 = .int .i64 0 → ∃ e τ' H', evLoop Try.prog (ev Try.prog m) m (lp Try.prog 6 131066) τ h = some (e, τ', H') ∧ e = .exit 0 ∧ True := fun τ h t9 t16 =>
        loop_rule (d := 0) (fun d τ h => τ 9 = g ∧ τ 16 = .int .i64 0) (fun e τ h => e = .exit 0 ∧ True) (fun d τ h hI => by
          obtain ⟨t9, t16⟩ := hI
          rw [lp_M Try.func6 131066 (by decide) 17 (by decide) (by kernel_rfl) [2097060]]
          simp [Try.f6, t9, t16, L1]) ⟨t9, t16⟩ (by omega)
      obtain ⟨e, τ', H', rfl, rfl, _⟩ := loop_at hLo (hl _ _ (by simp [x9]) (by simp))
      simp
end Go.Ev

/- From what came in to the evaluator: a call's arguments. -/
namespace Go.Ev
open Go Go.RowKit
set_option linter.unusedSimpArgs false
set_option linter.unusedVariables false

section
variable {P : Program} {w : World} {Hd : Type} {enc : TypeId × Value → Hd} {held : Bool} {r : Reach} {base : Nat}

def HE : AH := { get := fun _ => none, next := 0 }
theorem rel_empty (P : Program) (w : World) : Rel P w HE (fun _ => none) w :=
  ⟨Below.refl _ _, fun _ _ => rfl, fun b x h => by simp [HE] at h, fun b x h => by simp [HE] at h, fun b x h => by simp [HE] at h⟩

/-- an argument: its abstract value, in the memory that its rows lie in -/
def ArgRes (P : Program) (w : World) (t : Ty) (v : Value) (H : AH) (μ : Mu) : Prop :=
  ∃ H' μ' a c d bs, Ext μ μ' ∧ Rel P w H' μ' w ∧ Kp H H' ∧ VR μ' a v ∧ t.R false H' c d bs ∧ t.sm d ∧ (a = .agg c ∨ c = [a])

theorem arg1 {T : TypeId} {t : Ty} {v : Value} {d : DataW Hd} {p : List MemPlace} {H : AH} {μ : Mu} (hf : Fits P T t) (h : DataW.Trod enc P w 0 (fun _ => true) held T v d p) (hR : Rel P w H μ w) (hv : v.cells.toList = [v]) :
    ∃ H' μ' a d bs, Ext μ μ' ∧ Rel P w H' μ' w ∧ Kp H H' ∧ VR μ' a v ∧ t.R false H' [a] d bs ∧ t.sm d := by
  obtain ⟨fuel, hf'⟩ := h
  rw [hv] at hf'
  obtain ⟨H', μ', c, d, bs, e, r1, k, hV, hr, hs⟩ := in_ty fuel hf hf' hR
  match c, hV with
  | [], hV => simp [VRs] at hV
  | [a], hV =>
    simp only [VRs] at hV
    obtain ⟨u, us, hu, hV, _⟩ := hV
    simp only [List.cons.injEq] at hu
    obtain ⟨rfl, _⟩ := hu
    exact ⟨H', μ', a, d, bs, e, r1, k, hV, hr, hs⟩
  | a :: b :: c, hV =>
    simp only [VRs] at hV
    obtain ⟨u, us, hu, hV, u2, us2, hu2, _⟩ := hV
    simp only [List.cons.injEq] at hu
    rw [hu2] at hu; simp at hu
theorem argSl {T e : TypeId} {t : Ty} {v : Value} {d : DataW Hd} {p : List MemPlace} {H : AH} {μ : Mu} (hf : Fits P T t) (hT : P.underlying T = some (.slice e)) (hval : Value.okWide P w r base T v) (h : DataW.Trod enc P w 0 (fun _ => true) held T v d p) (hR : Rel P w H μ w) :
    ∃ H' μ' a d bs, Ext μ μ' ∧ Rel P w H' μ' w ∧ Kp H H' ∧ VR μ' a v ∧ t.R false H' [a] d bs ∧ t.sm d := by
  obtain ⟨a, l, c, rfl⟩ := Go.WideShapes.okWide_slice hT hval
  exact arg1 hf h hR rfl
theorem argInt {T : TypeId} {k : IntKind} {t : Ty} {v : Value} {d : DataW Hd} {p : List MemPlace} {H : AH} {μ : Mu} (hf : Fits P T t) (hT : P.underlying T = some (.int k)) (hval : Value.okWide P w r base T v) (h : DataW.Trod enc P w 0 (fun _ => true) held T v d p) (hR : Rel P w H μ w) :
    ∃ H' μ' a d bs, Ext μ μ' ∧ Rel P w H' μ' w ∧ Kp H H' ∧ VR μ' a v ∧ t.R false H' [a] d bs ∧ t.sm d := by
  obtain ⟨n, rfl⟩ := Go.WideShapes.okWide_int hT hval
  exact arg1 hf h hR rfl
theorem argBool {T : TypeId} {t : Ty} {v : Value} {d : DataW Hd} {p : List MemPlace} {H : AH} {μ : Mu} (hf : Fits P T t) (hT : P.underlying T = some .bool) (hval : Value.okWide P w r base T v) (h : DataW.Trod enc P w 0 (fun _ => true) held T v d p) (hR : Rel P w H μ w) :
    ∃ H' μ' a d bs, Ext μ μ' ∧ Rel P w H' μ' w ∧ Kp H H' ∧ VR μ' a v ∧ t.R false H' [a] d bs ∧ t.sm d := by
  obtain ⟨n, rfl⟩ := Go.WideShapes.okWide_bool hT hval
  exact arg1 hf h hR rfl
theorem argStr {T : TypeId} {t : Ty} {v : Value} {d : DataW Hd} {p : List MemPlace} {H : AH} {μ : Mu} (hf : Fits P T t) (hT : P.underlying T = some .string) (hval : Value.okWide P w r base T v) (h : DataW.Trod enc P w 0 (fun _ => true) held T v d p) (hR : Rel P w H μ w) :
    ∃ H' μ' a d bs, Ext μ μ' ∧ Rel P w H' μ' w ∧ Kp H H' ∧ VR μ' a v ∧ t.R false H' [a] d bs ∧ t.sm d := by
  obtain ⟨n, rfl⟩ := Go.WideShapes.okWide_string hT hval
  exact arg1 hf h hR rfl
/-- a struct by value -/
theorem argAgg {T : TypeId} {fs : Array Field} {t : Ty} {v : Value} {d : DataW Hd} {p : List MemPlace} {H : AH} {μ : Mu} (hf : Fits P T t) (hT : P.underlying T = some (.struct fs)) (hval : Value.okWide P w r base T v) (h : DataW.Trod enc P w 0 (fun _ => true) held T v d p) (hR : Rel P w H μ w) :
    ∃ H' μ' c d bs, Ext μ μ' ∧ Rel P w H' μ' w ∧ Kp H H' ∧ VR μ' (.agg c) v ∧ t.R false H' c d bs ∧ t.sm d := by
  obtain ⟨cs, rfl, _⟩ := Go.WideShapes.okWide_struct hT hval
  obtain ⟨fuel, hf'⟩ := h
  obtain ⟨H', μ', c, d, bs, e, r1, k, hV, hr, hs⟩ := in_ty fuel hf hf' hR
  exact ⟨H', μ', c, d, bs, e, r1, k, by simp only [VR]; exact ⟨cs, rfl, hV⟩, hr, hs⟩

theorem law_run2 (hm : P.follows .mixedOrders = true) {H : AH} {μ : Mu} {n : Nat} {f : FuncId} {args : List AV} {vs : Array Value} {H' : AH} (hR : Rel P w H μ w)
    (h : ev P n f args H = some (.bool true, H')) (hv : VRs μ args vs.toList) :
    Calls P f vs w fun e w' => e = .returned (.bool true) ∧ Below w.heap.size w w' := by
  refine (ev_sound hm n f args H (.bool true) H' μ w vs h hR hv).2.mono ?_
  rintro e w' ⟨v, μ', rfl, hx, hR, hv⟩
  simp only [VR] at hv
  subst hv
  exact ⟨rfl, hR.below⟩
end
end Go.Ev
