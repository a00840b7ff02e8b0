/- Lemmas of an evaluator of the given code and of what the functions answer; no condition of its own. -/
import Derived.Test.YtnoacfilglgbgaaEv12
import Derived.Test.YtnoacfilglgbgaaEv7
import Derived.WideShapes
/- Credit: the program reads, whole. -/
namespace Go.Ev
open Go Go.Proofs
set_option linter.unusedSimpArgs false
set_option linter.unusedVariables false

theorem empty72 {H : AH} {p : Nat} (hp : p < H.next) (hg : H.get p = some (.cells 72 false [])) : (Ty.sl 72 tT72).R true H [.slice p 0 0] [] [p] :=
  .inr ⟨p, 0, false, [], [], rfl, rfl, hp, hg, fun _ => ⟨rfl, rfl, by simp⟩, by simp, by simp [Rows]⟩
theorem readI_ev' {S : Sup} {F : Fw} {k : Nat} {q mp op pt tl : Nat} {bs : List Nat} {h : AH} (X : FwI S F q mp op pt tl bs h) (G : F.good S k) (id n : Int) (m : Nat) (hm : 20 ≤ m) :
    ∃ r c l h', ev Try.prog m 113 [.ptr q 0, .int .i64 id, .int .i64 n] h = some (.tuple [r, .int .i64 c], h') ∧ (readP S F id n).2 = ob c 0 0 l ∧ StpF S (readP S F id n).1 l q mp op pt tl bs h h' r := by
  obtain ⟨m, rfl⟩ : ∃ k, m = k + 1 := ⟨m - 1, by omega⟩
  have g := X.gq
  have e1 := getting_ev X G id m (by omega)
  have bad : ∀ c : Int, StpF S F [] q mp op pt tl bs h h .nilSlice := fun c => ⟨bs, [], X, KoS.refl _ _, fun b hb => .inl hb, nil72, by simp, by simp, by simp⟩
  unfold readP
  cases hs : getsP S F.L id with
  | none =>
    rw [hs] at e1
    simp only [ptrO] at e1
    refine ⟨.nilSlice, 7, [], h, ?_, rfl, bad 7⟩
    rw [ev_M Try.func113 ok113 [] m _ h (by simp [Try.f113])]
    simp [Try.f113, tm0, e1]
  | some i =>
    rw [hs] at e1
    simp only [ptrO] at e1
    have hi := getsP_lt hs
    have hid := getsP_ix hs
    have hidK : InK .i64 id := by unfold idOk at hid; exact InK.i64 (by omega) (by omega)
    have gb := X.gb i hi
    obtain ⟨u0, u1, u2, u3, u4, u5, u6⟩ := X.nds hi
    have hgs := G.bk F.L[i] (List.getElem_mem hi)
    have hre := sumI_mem (f := Bk.re) (fun s hs => (G.bk s hs).re.1) F.L[i] (List.getElem_mem hi)
    have hrn := sumI_nn (f := Bk.re) (fun s hs => (G.bk s hs).re.1)
    have hrc := G.rc
    have hsr : sumI Bk.re F.L ≤ sumI Bk.ca F.L := sumI_le fun s hs => (G.bk s hs).re.2
    have hca := sumI_mem (good_ca G) F.L[i] (List.getElem_mem hi)
    have hC := G.ca; have hT := G.tc; have hkk := G.kk
    have g1 := hgs.re; have g2 := hgs.ca; have g3 := hgs.to
    have l3 : ldVar Try.prog 3 (bs.getD i 0) 3 h = some (.int .i64 F.L[i].ca) := by simp only [Bk.c5] at gb; simp only [ldVar, gb]; simp
    have l4 : ldVar Try.prog 3 (bs.getD i 0) 4 h = some (.int .i64 F.L[i].re) := by simp only [Bk.c5] at gb; simp only [ldVar, gb]; simp
    have w1 : IntKind.i64.wrap (F.L[i].ca - F.L[i].re) = F.L[i].ca - F.L[i].re := wrap_i64 (n := F.L[i].ca - F.L[i].re) (by omega) (by omega)
    dsimp only
    rw [at_L hi]
    by_cases c1 : n < 1 ∨ F.L[i].ca - F.L[i].re < n
    · rw [if_pos c1]
      refine ⟨.nilSlice, 1, [], h, ?_, rfl, bad 1⟩
      generalize bs.getD i 0 = b at *
      rw [ev_M Try.func113 ok113 [] m _ h (by simp [Try.f113])]
      by_cases c2 : n < 1
      · simp [Try.f113, tm0, e1, c2, l3, l4, w1, U, evHist, ObsOk, ObOk, List.getElem?_cons_zero]
      · have c3 : F.L[i].ca - F.L[i].re < n := by omega
        simp [Try.f113, tm0, e1, c2, c3, l3, l4, w1, evHist, ObsOk, ObOk, List.getElem?_cons_zero]
    · rw [if_neg c1]
      have c2 : (n < 1) = False := eq_false (by omega)
      have c3 : (F.L[i].ca - F.L[i].re < n) = False := eq_false (by omega)
      have w2 : IntKind.i64.wrap (F.L[i].re + n) = F.L[i].re + n := wrap_i64 (n := F.L[i].re + n) (by omega) (by omega)
      have w3 : IntKind.i64.wrap (F.rc + n) = F.rc + n := wrap_i64 (n := F.rc + n) (by omega) (by omega)
      have hsum : sumI Bk.se (F.L.set i { F.L[i] with re := F.L[i].re + n }) = sumI Bk.se F.L := by rw [sumI_set Bk.se F.L i hi]; simp only; omega
      have hsum2 : sumI Bk.ca (F.L.set i { F.L[i] with re := F.L[i].re + n }) = sumI Bk.ca F.L := by rw [sumI_set Bk.ca F.L i hi]; simp only; omega
      have s4 : stVar Try.prog 3 (bs.getD i 0) 4 (.int .i64 (F.L[i].re + n)) h = some (h.set (bs.getD i 0) (.cells 277 false (Bk.c5 { F.L[i] with re := F.L[i].re + n }))) := by simp only [Bk.c5] at gb ⊢; simp only [stVar, gb]; simp [spl]
      have gB : (h.set (bs.getD i 0) (.cells 277 false (Bk.c5 { F.L[i] with re := F.L[i].re + n }))).get q = some (.cells 271 false (fiC S F mp op pt tl)) := by rw [AH.set_getN _ _ (fun e => u2 e.symm)]; exact g
      have l17' : ldVar Try.prog 3 q 17 (h.set (bs.getD i 0) (.cells 277 false (Bk.c5 { F.L[i] with re := F.L[i].re + n }))) = some (.int .i64 F.rc) := by simp only [fiC] at gB; simp only [ldVar, gB]; simp
      have s17 : stVar Try.prog 3 q 17 (.int .i64 (F.rc + n)) (h.set (bs.getD i 0) (.cells 277 false (Bk.c5 { F.L[i] with re := F.L[i].re + n }))) = some ((h.set (bs.getD i 0) (.cells 277 false (Bk.c5 { F.L[i] with re := F.L[i].re + n }))).set q (.cells 271 false (fiC S { (F.upd i fun s => { s with re := s.re + n }) with rc := F.rc + n } mp op pt tl))) := by
        simp only [fiC, Fw.upd, at_L hi, hsum, hsum2] at gB ⊢
        simp only [stVar, gB]; simp [spl]
      have X1 : FwI S { (F.upd i fun s => { s with re := s.re + n }) with rc := F.rc + n } q mp op pt tl bs ((h.set (bs.getD i 0) (.cells 277 false (Bk.c5 { F.L[i] with re := F.L[i].re + n }))).set q (.cells 271 false (fiC S { (F.upd i fun s => { s with re := s.re + n }) with rc := F.rc + n } mp op pt tl))) := by
        refine X.upd hi { F.L[i] with re := F.L[i].re + n } rfl (by simp only [Fw.upd, at_L hi]) ⟨rfl, rfl⟩ ⟨rfl, rfl⟩ ⟨rfl, rfl⟩ (by simp) (by simp) (by rw [AH.set_getN _ _ u2]; simp) (fun x hx hxb => ?_)
        have hxq : x ≠ q := fun e => by have := X.nd; rw [List.nodup_cons] at this; exact this.1 (e ▸ hx)
        rw [AH.set_getN _ _ hxq, AH.set_getN _ _ hxb]
      have kC : KoS (q :: mp :: op :: pt :: tl :: bs) h ((h.set (bs.getD i 0) (.cells 277 false (Bk.c5 { F.L[i] with re := F.L[i].re + n }))).set q (.cells 271 false (fiC S { (F.upd i fun s => { s with re := s.re + n }) with rc := F.rc + n } mp op pt tl))) := ((KoS.refl _ _).set1 (mem6 u0) _).set1 (by simp) _
      have nC : ((h.set (bs.getD i 0) (.cells 277 false (Bk.c5 { F.L[i] with re := F.L[i].re + n }))).set q (.cells 271 false (fiC S { (F.upd i fun s => { s with re := s.re + n }) with rc := F.rc + n } mp op pt tl))).next = h.next := rfl
      generalize hBB : h.set (bs.getD i 0) (.cells 277 false (Bk.c5 { F.L[i] with re := F.L[i].re + n })) = B at *
      generalize hCC : B.set q (.cells 271 false (fiC S { (F.upd i fun s => { s with re := s.re + n }) with rc := F.rc + n } mp op pt tl)) = C at *
      have kD : Kp C (C.push (.cells 72 false [])) := (Kp.refl C).push _
      have X2 := X1.kp kD
      have hhead : ∃ τ', ev Try.prog (m + 1) 113 [.ptr q 0, .int .i64 id, .int .i64 n] h = resM Try.prog [.tmp 6, .tmp 7] (evAt Try.prog (ev Try.prog m) m 113 255 τ' (C.push (.cells 72 false []))) ∧ RiT τ' q (bs.getD i 0) id (.slice h.next 0 0) := by
        generalize bs.getD i 0 = b at *
        rw [ev_M Try.func113 ok113 [255] m _ h (by simp [Try.f113])]
        exact ⟨_, by simp [Try.f113, tm0, e1, c2, c3, l3, l4, w1, w2, w3, s4, l17', s17, zerosA, evHist, ObsOk, ObOk, List.getElem?_cons_zero]; rfl, by simp [tm0], by simp [tm0], by simp, by simp [nC]⟩
      obtain ⟨τ1, e3, T1⟩ := hhead
      have hL1 : ({ (F.upd i fun s => { s with re := s.re + n }) with rc := F.rc + n } : Fw).L = F.L.set i { F.L[i] with re := F.L[i].re + n } := by simp only [Fw.upd, at_L hi]
      have hlen : i < ({ (F.upd i fun s => { s with re := s.re + n }) with rc := F.rc + n } : Fw).L.length := by rw [hL1]; simpa using hi
      have hget : ({ (F.upd i fun s => { s with re := s.re + n }) with rc := F.rc + n } : Fw).L[i] = { F.L[i] with re := F.L[i].re + n } := by simp [Fw.upd, at_L hi]
      have hlt := X.lt
      obtain ⟨τ2, H2, va, bo, e4, T2, X3, A3, f3, k3⟩ := riB (va := .slice h.next 0 0) (bo := [h.next]) (lo := h.next) X2 hlen hidK (by rw [hget]; simp only; omega) (by rw [hget]; simp only; omega) G.sup ⟨empty72 (by simp [nC]) (by simp [nC]), by simp, by simp⟩ (fun x hx hxx => by simp at hx; have := hlt x hxx; omega) (by simp [nC]) m (by omega) τ1 T1
      rw [hget] at A3 X3
      simp only at A3 X3
      have n3 := k3.next
      simp [nC] at n3
      have hlo3 := A3.lo
      obtain ⟨H3, vb, bo', e5, X4, A4, f4, k4⟩ := riC (lo := h.next) X3 (by simp only [Fw.upd]; omega) (by simp only [Fw.upd]; omega) G.sup (by split <;> simp) A3 (fun x hx hxx => by have := hlt x hxx; have := hlo3 x hx; omega) (by omega) m (by omega) τ2 T2
      have hlo4 := A4.lo
      refine ⟨vb, 0, _, H3, by rw [e3, e4, e5], rfl, bs, bo', ?_, ?_, fun b hb => .inl hb, A4.R, A4.nd, hlo4, fun b hb hx => by have := hlt b (mem6 hx); have := hlo4 b hb; omega⟩
      · have hF : ({ ({ (F.upd i fun s => { s with re := s.re + n }) with rc := F.rc + n } : Fw).upd i (fun s => { s with to := creditP (F.L[i].re + n) S.sw F.L[i].to }) with tc := creditP (F.rc + n) S.cw F.tc } : Fw) = { (F.upd i fun s => { s with re := s.re + n, to := creditP (F.L[i].re + n) S.sw F.L[i].to }) with rc := F.rc + n, tc := creditP (F.rc + n) S.cw F.tc } := by
          simp only [Fw.upd, Fw.at_, List.set_set]
          simp [hi]
        have hF2 : ({ (F.upd i fun s => { s with re := s.re + n, to := creditP (F.L[i].re + n) S.sw F.L[i].to }) with rc := F.rc + n, tc := creditP (F.rc + n) S.cw F.tc } : Fw).L = ({ ({ (F.upd i fun s => { s with re := s.re + n }) with rc := F.rc + n } : Fw).upd i (fun s => { s with to := creditP (F.L[i].re + n) S.sw F.L[i].to }) with tc := creditP (F.rc + n) S.cw F.tc } : Fw).L := by rw [hF]
        rw [← hF]; exact X4
      · refine ⟨by have := k4.next; omega, fun x hx hxx => ?_⟩
        rw [k4.get x (by omega) (fun h => by rcases List.mem_append.1 h with h | h; have := hlo3 x h; omega; exact hxx h), k3.get x (by simp [nC]; omega) (fun h => by rcases List.mem_append.1 h with h | h; simp at h; omega; exact hxx h), kD.get x (by omega)]
        exact kC.get x hx hxx
end Go.Ev

/- Credit: one operation of the program. -/
namespace Go.Ev
open Go Go.Proofs
set_option linter.unusedSimpArgs false
set_option linter.unusedVariables false

theorem newI_ev (S : Sup) (H : AH) (m : Nat) (hm : 2 ≤ m) : ∃ H', ev Try.prog m 109 [.agg (suC S)] H = some (.ptr (H.next + 5) 0, H') ∧ FwI S (Fw0 S) (H.next + 5) (H.next + 1) (H.next + 2) (H.next + 3) (H.next + 4) [] H' ∧ Kp H H' := by
  obtain ⟨m, rfl⟩ : ∃ k, m = k + 1 := ⟨m - 1, by omega⟩
  have key : ∃ H', ev Try.prog (m + 1) 109 [.agg (suC S)] H = some (.ptr (H.next + 5) 0, H') ∧ H'.next = H.next + 6 ∧ (∀ b, b < H.next → H'.get b = H.get b) ∧ H'.get (H.next + 5) = some (.cells 271 false (fiC S (Fw0 S) (H.next + 1) (H.next + 2) (H.next + 3) (H.next + 4))) ∧ H'.get (H.next + 1) = some (.map []) ∧ H'.get (H.next + 2) = some (.map []) ∧
      H'.get (H.next + 3) = some (.map [(.bool false, .int .i64 S.ptw), (.bool true, .int .i64 S.pow)]) ∧ H'.get (H.next + 4) = some (.map [(.bool false, .int .i64 S.tw), (.bool true, .int .i64 S.ow)]) := by
    obtain ⟨sv, cw, sw, tw, ow, pc, ps, ptw, pow⟩ := S
    simp only [suC, fiC, Fw0, sumI]
    have q1 : ¬ (H.next = H.next + 1) := by omega
    have q2 : ¬ (H.next = H.next + 1 + 1) := by omega
    have q3 : ¬ (H.next = H.next + 1 + 1 + 1) := by omega
    have q4 : ¬ (H.next = H.next + 1 + 1 + 1 + 1) := by omega
    rw [ev_M Try.func109 ok109 [] m _ H (by simp [Try.f109])]
    refine ⟨_, by simp [Try.f109, tm0, ldVar, updA, mapT, keyOk, mapPut, findA, sameK, fillA, spl, q1, q2, q3, q4]; rfl, ?_⟩
    refine ⟨by simp, fun b hb => ?_, ?_, ?_, ?_, ?_, ?_⟩
    · have h0 : ¬ (b = H.next) := by omega
      have h1 : ¬ (b = H.next + 1) := by omega
      have h2 : ¬ (b = H.next + 2) := by omega
      have h3 : ¬ (b = H.next + 3) := by omega
      have h4 : ¬ (b = H.next + 4) := by omega
      have h5 : ¬ (b = H.next + 5) := by omega
      simp [AH.push_get, AH.set_get, h0, h1, h2, h3, h4, h5]
    all_goals simp [AH.push_get, AH.set_get]
  obtain ⟨H', e1, n1, k1, g5, g1, g2, g3, g4⟩ := key
  refine ⟨H', e1, ⟨g5, by rw [g1]; simp [ents, Fw0], ⟨[], g2, .inl ⟨rfl, rfl, rfl⟩⟩, ⟨_, g3, .inr (.inr (.inr (.inl rfl)))⟩, ⟨_, g4, .inr (.inr (.inr (.inl rfl)))⟩, rfl, by simp [Fw0], by simp, by simp; omega⟩, ⟨by omega, k1⟩⟩
structure DiT (τ : Tm) (q p9 p10 : Nat) (k : Int) : Prop where
  t6 : τ 6 = .ptr q 0
  t9 : τ 9 = .ptr p9 0
  t10 : τ 10 = .ptr p10 0
  t28 : τ 28 = .int .i64 k
structure DiK (τ τ' : Tm) : Prop where
  k0 : τ' 7 = τ 7
  k1 : τ' 20 = τ 20
  k2 : τ' 21 = τ 21
  k3 : τ' 22 = τ 22
  k4 : τ' 6 = τ 6
  k5 : τ' 10 = τ 10
/-- an operation and its answer -/
def StpG (S : Sup) (F' : Fw) (d : Ob) (q mp op pt tl : Nat) (bs : List Nat) (h h' : AH) (p10 : Nat) : Prop :=
  ∃ bs' bo c, FwI S F' q mp op pt tl bs' h' ∧ KoS (p10 :: q :: mp :: op :: pt :: tl :: bs) h h' ∧ (∀ b ∈ bs', b ∈ bs ∨ h.next ≤ b) ∧ tT63.R true h' c d bo ∧ bo.Nodup ∧ (∀ b ∈ bo, h.next ≤ b) ∧ (∀ b ∈ bo, b ∉ bs') ∧ h'.get p10 = some (.cells 63 false c)
theorem StpI.g {S : Sup} {F' : Fw} {q mp op pt tl : Nat} {bs : List Nat} {h h' : AH} {c i n : Int} {p10 : Nat} (X : StpI S F' q mp op pt tl bs h h') (hc : InK .i64 c) (hi : InK .i64 i) (hn : InK .i64 n) (hp : p10 < h.next) (hpn : p10 ∉ q :: mp :: op :: pt :: tl :: bs) : StpG S F' (ob c i n []) q mp op pt tl bs h (h'.set p10 (.cells 63 false (obC c i n .nilSlice))) p10 := by
  obtain ⟨bs', x1, x2, x3⟩ := X
  have hpn' : p10 ∉ q :: mp :: op :: pt :: tl :: bs' := fun h => by
    simp only [List.mem_cons] at h hpn
    rcases h with h | h | h | h | h | h
    · exact hpn (.inl h)
    · exact hpn (.inr (.inl h))
    · exact hpn (.inr (.inr (.inl h)))
    · exact hpn (.inr (.inr (.inr (.inl h))))
    · exact hpn (.inr (.inr (.inr (.inr (.inl h)))))
    · rcases x3 _ h with h | h
      · exact hpn (.inr (.inr (.inr (.inr (.inr h)))))
      · omega
  refine ⟨bs', [], obC c i n .nilSlice, x1.stay (by simp) (fun x hx => AH.set_getN _ _ (fun e => hpn' (e ▸ hx))), ⟨by simpa using x2.next, fun b hb hx => ?_⟩, x3, ob_R hc hi hn, by simp, by simp, by simp, by simp⟩
  rw [AH.set_getN _ _ (fun e => hx (by simp [e]))]
  exact x2.get b hb (fun h => hx (List.mem_cons_of_mem _ h))
theorem StpF.g {S : Sup} {F' : Fw} {q mp op pt tl : Nat} {bs : List Nat} {h h' : AH} {r : AV} {l : List Fr} {c : Int} {p10 : Nat} (X : StpF S F' l q mp op pt tl bs h h' r) (hc : InK .i64 c) (hp : p10 < h.next) (hpn : p10 ∉ q :: mp :: op :: pt :: tl :: bs) : StpG S F' (ob c 0 0 l) q mp op pt tl bs h (h'.set p10 (.cells 63 false (obC c 0 0 r))) p10 := by
  obtain ⟨bs', bo, x1, x2, x3, x4, x5, x6, x7⟩ := X
  have i0 : InK .i64 0 := InK.i64 (by omega) (by omega)
  have hpn' : p10 ∉ q :: mp :: op :: pt :: tl :: bs' := fun h => by
    simp only [List.mem_cons] at h hpn
    rcases h with h | h | h | h | h | h
    · exact hpn (.inl h)
    · exact hpn (.inr (.inl h))
    · exact hpn (.inr (.inr (.inl h)))
    · exact hpn (.inr (.inr (.inr (.inl h))))
    · exact hpn (.inr (.inr (.inr (.inr (.inl h)))))
    · rcases x3 _ h with h | h
      · exact hpn (.inr (.inr (.inr (.inr (.inr h)))))
      · omega
  refine ⟨bs', bo, obC c 0 0 r, x1.stay (by simp) (fun x hx => AH.set_getN _ _ (fun e => hpn' (e ▸ hx))), ⟨by simpa using x2.next, fun b hb hx => ?_⟩, x3, ob_Rf (x4.stay (by simp) fun b hb => AH.set_getN _ _ (by have := x6 b hb; omega)) hc i0 i0, x5, x6, x7, by simp⟩
  rw [AH.set_getN _ _ (fun e => hx (by simp [e]))]
  exact x2.get b hb (fun h => hx (List.mem_cons_of_mem _ h))
set_option maxRecDepth 20000 in
theorem di_ev {S : Sup} {F : Fw} {k0 : Nat} {q mp op pt tl : Nat} {bs : List Nat} {h : AH} {p9 p10 : Nat} (X : FwI S F q mp op pt tl bs h) (G : F.good S k0) (hk0 : k0 + 1 ≤ 400) (k id n : Int) (w : Bool) (g9 : h.get p9 = some (.cells 65 false (opC k id n w))) (g10 : h.get p10 = some (.cells 63 false (obC 0 0 0 .nilSlice))) (hp : p10 < h.next) (hpn : p10 ∉ q :: mp :: op :: pt :: tl :: bs) (m : Nat) (hm : 1100 ≤ m) (τ : Tm) (T : DiT τ q p9 p10 k) :
    ∃ τ' h', evAt Try.prog (ev Try.prog m) m 29 518554 τ h = some (.normal, τ', h') ∧ DiK τ τ' ∧ StpG S (doF S F (k, id, n, w)).1 (doF S F (k, id, n, w)).2 q mp op pt tl bs h h' p10 := by
  obtain ⟨t6, t9, t10, t28⟩ := T
  have i0 : InK .i64 0 := InK.i64 (by omega) (by omega)
  have o1 : ldVar Try.prog 3 p9 1 h = some (.int .i64 id) := by simp only [opC] at g9; simp [ldVar, g9]
  have o2 : ldVar Try.prog 3 p9 2 h = some (.int .i64 n) := by simp only [opC] at g9; simp [ldVar, g9]
  have o3 : ldVar Try.prog 4 p9 3 h = some (.bool w) := by simp only [opC] at g9; simp [ldVar, g9]
  have o4 : ldVar Try.prog 65 p9 0 h = some (.agg (opC k id n w)) := by simp only [opC] at g9 ⊢; simp [ldVar, g9]
  have pI : ∀ {F' h'}, StpI S F' q mp op pt tl bs h h' → h'.get p10 = some (.cells 63 false (obC 0 0 0 .nilSlice)) := fun Y => by
    obtain ⟨bs', x1, x2, x3⟩ := Y
    exact (x2.get p10 hp hpn).trans g10
  have pF : ∀ {F' l h' r}, StpF S F' l q mp op pt tl bs h h' r → h'.get p10 = some (.cells 63 false (obC 0 0 0 .nilSlice)) ∧ r.one = true ∧ r.cells = [r] := fun Y => by
    obtain ⟨bs', bo, x1, x2, x3, x4, _⟩ := Y
    exact ⟨(x2.get p10 hp hpn).trans g10, x4.sl_one, cells_one x4.sl_one⟩
  by_cases k1 : k = 1
  · subst k1
    obtain ⟨i, c, h', e1, d1, s1⟩ := openI_ev X G w m (by omega)
    have hd : doF S F (1, id, n, w) = openP S F w := by simp [doF]
    have hK : InK .i64 c ∧ InK .i64 i := by
      have := G.o w; have := G.kk
      unfold openP ob at d1
      split at d1
      · simp at d1; obtain ⟨rfl, rfl⟩ := d1; exact ⟨InK.i64 (by omega) (by omega), i0⟩
      · simp at d1
        obtain ⟨rfl, rfl⟩ := d1
        refine ⟨i0, ?_⟩
        unfold idOf
        rw [if_neg (by omega)]
        exact InK.i64 (by split <;> split <;> omega) (by split <;> split <;> omega)
    have pp := pI s1
    rw [hd, d1]
    have hex : ∃ τ', evAt Try.prog (ev Try.prog m) m 29 518554 τ h = some (.normal, τ', h'.set p10 (.cells 63 false (obC c i 0 .nilSlice))) ∧ DiK τ τ' := by
      simp only [obC] at pp ⊢
      rw [at_M Try.func29 518554 (by decide) 19 (by decide) (by kernel_rfl) []]
      exact ⟨_, by simp [Try.f29, t6, t9, t10, t28, o3, e1, pp, stVar, spl]; rfl, by simp, by simp, by simp, by simp, by simp, by simp⟩
    obtain ⟨τ', e2, K⟩ := hex
    exact ⟨τ', _, e2, K, s1.g hK.1 hK.2 i0 hp hpn⟩
  by_cases k2 : k = 2
  · subst k2
    obtain ⟨n', c, h', e1, d1, s1⟩ := sendI_ev X G id n m (by omega)
    have hd : doF S F (2, id, n, w) = sendP S F id n := by simp [doF]
    have hK : InK .i64 c ∧ InK .i64 n' := by
      have h3 := G.se; have h4 := G.cc; have hsn := sumI_nn (good_se G)
      unfold sendP ob at d1
      split at d1
      · simp at d1; obtain ⟨rfl, rfl⟩ := d1; exact ⟨InK.i64 (by omega) (by omega), i0⟩
      · split at d1
        · simp at d1; obtain ⟨rfl, rfl⟩ := d1; exact ⟨InK.i64 (by omega) (by omega), i0⟩
        · rename_i hneg i hs
          have hg := G.at_ (sendsP_lt hs)
          have h5 := hg.se; have h6 := hg.cr
          simp at d1; obtain ⟨rfl, rfl⟩ := d1; exact ⟨i0, InK.i64 (by omega) (by omega)⟩
    have pp := pI s1
    rw [hd, d1]
    have hex : ∃ τ', evAt Try.prog (ev Try.prog m) m 29 518554 τ h = some (.normal, τ', h'.set p10 (.cells 63 false (obC c 0 n' .nilSlice))) ∧ DiK τ τ' := by
      simp only [obC] at pp ⊢
      rw [at_M Try.func29 518554 (by decide) 19 (by decide) (by kernel_rfl) []]
      exact ⟨_, by simp [Try.f29, t6, t9, t10, t28, o1, o2, e1, pp, stVar, spl]; rfl, by simp, by simp, by simp, by simp, by simp, by simp⟩
    obtain ⟨τ', e2, K⟩ := hex
    exact ⟨τ', _, e2, K, s1.g hK.1 i0 hK.2 hp hpn⟩
  by_cases k3 : k = 3
  · subst k3
    obtain ⟨h', e1, s1⟩ := arriveI_ev X G hk0 id n m (by omega)
    have hd : doF S F (3, id, n, w) = ((arriveP S F id n).1, ob (arriveP S F id n).2 0 0 []) := by simp [doF]
    have hK : InK .i64 (arriveP S F id n).2 := by
      simp only [arriveP]
      repeat' split
      all_goals (dsimp only; exact InK.i64 (by omega) (by omega))
    have pp := pI s1
    rw [hd]
    have hex : ∃ τ', evAt Try.prog (ev Try.prog m) m 29 518554 τ h = some (.normal, τ', h'.set p10 (.cells 63 false (obC (arriveP S F id n).2 0 0 .nilSlice))) ∧ DiK τ τ' := by
      generalize (arriveP S F id n).2 = c at *
      simp only [obC] at pp ⊢
      rw [at_M Try.func29 518554 (by decide) 19 (by decide) (by kernel_rfl) []]
      exact ⟨_, by simp [Try.f29, t6, t9, t10, t28, o1, o2, e1, pp, stVar, spl]; rfl, by simp, by simp, by simp, by simp, by simp, by simp⟩
    obtain ⟨τ', e2, K⟩ := hex
    exact ⟨τ', _, e2, K, s1.g hK i0 i0 hp hpn⟩
  by_cases k4 : k = 4
  · subst k4
    obtain ⟨r, c, l, h', e1, d1, s1⟩ := readI_ev' X G id n m (by omega)
    have hd : doF S F (4, id, n, w) = readP S F id n := by simp [doF]
    have hK : InK .i64 c := by
      unfold readP ob at d1
      split at d1
      · simp at d1; obtain ⟨rfl, _⟩ := d1; exact InK.i64 (by omega) (by omega)
      · dsimp only at d1
        split at d1 <;> simp at d1 <;> obtain ⟨rfl, _⟩ := d1 <;> exact InK.i64 (by omega) (by omega)
    obtain ⟨pp, ro, rc⟩ := pF s1
    rw [hd, d1]
    have hex : ∃ τ', evAt Try.prog (ev Try.prog m) m 29 518554 τ h = some (.normal, τ', h'.set p10 (.cells 63 false (obC c 0 0 r))) ∧ DiK τ τ' := by
      simp only [obC] at pp ⊢
      rw [at_M Try.func29 518554 (by decide) 19 (by decide) (by kernel_rfl) []]
      exact ⟨_, by simp [Try.f29, t6, t9, t10, t28, o1, o2, e1, pp, ro, rc, stVar, spl]; rfl, by simp, by simp, by simp, by simp, by simp, by simp⟩
    obtain ⟨τ', e2, K⟩ := hex
    exact ⟨τ', _, e2, K, s1.g hK hp hpn⟩
  by_cases k5 : k = 5
  · subst k5
    obtain ⟨r, c, l, h', e1, d1, s1⟩ := endI_ev X G id m (by omega)
    have hd : doF S F (5, id, n, w) = overP S F id := by simp [doF]
    have hK : InK .i64 c := by
      unfold overP ob at d1
      split at d1
      · simp at d1; obtain ⟨rfl, _⟩ := d1; exact InK.i64 (by omega) (by omega)
      · dsimp only at d1
        split at d1
        · simp at d1; obtain ⟨rfl, _⟩ := d1; exact InK.i64 (by omega) (by omega)
        · split at d1 <;> simp at d1 <;> obtain ⟨rfl, _⟩ := d1 <;> exact InK.i64 (by omega) (by omega)
    obtain ⟨pp, ro, rc⟩ := pF s1
    rw [hd, d1]
    have hex : ∃ τ', evAt Try.prog (ev Try.prog m) m 29 518554 τ h = some (.normal, τ', h'.set p10 (.cells 63 false (obC c 0 0 r))) ∧ DiK τ τ' := by
      simp only [obC] at pp ⊢
      rw [at_M Try.func29 518554 (by decide) 19 (by decide) (by kernel_rfl) []]
      exact ⟨_, by simp [Try.f29, t6, t9, t10, t28, o1, e1, pp, ro, rc, stVar, spl]; rfl, by simp, by simp, by simp, by simp, by simp, by simp⟩
    obtain ⟨τ', e2, K⟩ := hex
    exact ⟨τ', _, e2, K, s1.g hK hp hpn⟩
  by_cases k6 : k = 6 ∨ k = 7 ∨ k = 8
  · obtain ⟨h', e1, s1⟩ := raiseI_ev X G k id n w k6 m (by omega)
    have hd : doF S F (k, id, n, w) = ((toldP S F k id n w).1, ob (toldP S F k id n w).2 0 0 []) := by simp [doF, k1, k2, k3, k4, k5, k6]
    have hK : InK .i64 (toldP S F k id n w).2 := by
      simp only [toldP]
      repeat' split
      all_goals (dsimp only; exact InK.i64 (by omega) (by omega))
    have pp := pI s1
    rw [hd]
    have hex : ∃ τ', evAt Try.prog (ev Try.prog m) m 29 518554 τ h = some (.normal, τ', h'.set p10 (.cells 63 false (obC (toldP S F k id n w).2 0 0 .nilSlice))) ∧ DiK τ τ' := by
      generalize (toldP S F k id n w).2 = c at *
      simp only [obC, opC] at pp e1 o4 ⊢
      rw [at_M Try.func29 518554 (by decide) 19 (by decide) (by kernel_rfl) []]
      rcases k6 with rfl | rfl | rfl <;> exact ⟨_, by simp [Try.f29, t6, t9, t10, t28, o4, e1, pp, stVar, spl]; rfl, by simp, by simp, by simp, by simp, by simp, by simp⟩
    obtain ⟨τ', e2, K⟩ := hex
    exact ⟨τ', _, e2, K, s1.g hK i0 i0 hp hpn⟩
  · have hd : doF S F (k, id, n, w) = (F, ob 1 0 0 []) := by simp [doF, k1, k2, k3, k4, k5, k6]
    simp only [not_or] at k6
    obtain ⟨k6, k7, k8⟩ := k6
    have s1 : StpI S F q mp op pt tl bs h h := ⟨bs, X, KoS.refl _ _, fun b hb => .inl hb⟩
    rw [hd]
    have hex : ∃ τ', evAt Try.prog (ev Try.prog m) m 29 518554 τ h = some (.normal, τ', h.set p10 (.cells 63 false (obC 1 0 0 .nilSlice))) ∧ DiK τ τ' := by
      simp only [obC] at g10 ⊢
      rw [at_M Try.func29 518554 (by decide) 19 (by decide) (by kernel_rfl) []]
      exact ⟨_, by simp [Try.f29, t6, t9, t10, t28, beqF, k1, k2, k3, k4, k5, k6, k7, k8, g10, stVar, spl]; rfl, by simp, by simp, by simp, by simp, by simp, by simp⟩
    obtain ⟨τ', e2, K⟩ := hex
    exact ⟨τ', _, e2, K, s1.g (InK.i64 (by omega) (by omega)) i0 i0 hp hpn⟩
end Go.Ev

/- Credit: the program's run. -/
namespace Go.Ev
open Go Go.Proofs
set_option linter.unusedSimpArgs false
set_option linter.unusedVariables false

theorem st_new65 (h : AH) (k id n : Int) (w : Bool) : stVar Try.prog 65 h.next 0 (.agg [.int .i64 k, .int .i64 id, .int .i64 n, .bool w]) (h.push (.cells 65 false [.int .i64 0, .int .i64 0, .int .i64 0, .bool false])) = some (h.push (.cells 65 false [.int .i64 k, .int .i64 id, .int .i64 n, .bool w])) := by
  simp [stVar, spl]
theorem st_same63 {A : AH} {p : Nat} (g : A.get p = some (.cells 63 false [.int .i64 0, .int .i64 0, .int .i64 0, .nilSlice])) : stVar Try.prog 63 p 0 (.agg [.int .i64 0, .int .i64 0, .int .i64 0, .nilSlice]) A = some A := by
  simp only [stVar, g]
  simp [spl]
  refine AH.eq_of ?_ rfl
  funext x
  rw [AH.set_get]
  split
  · rename_i hx; rw [hx, g]
  · rfl
def RuI (S : Sup) (ops : List tT65.D) (s : AV) (H : AH) (q mp op pt tl : Nat) (d : Nat) (τ : Tm) (h : AH) : Prop :=
  ∃ (i : Nat) (F : Fw) (bs : List Nat) (outs : List Ob) (vo : AV) (bo : List Nat), i + d = ops.length ∧ τ 20 = s ∧ τ 21 = .int .i64 ops.length ∧ τ 22 = .int .i64 i ∧ τ 6 = .ptr q 0 ∧ τ 7 = vo ∧ FwI S F q mp op pt tl bs h ∧ F.good S i ∧ (Ty.sl 63 tT63).R true h [vo] outs bo ∧ bo.Nodup ∧
    (∀ b ∈ bo, b ∉ q :: mp :: op :: pt :: tl :: bs) ∧ (∀ b ∈ q :: mp :: op :: pt :: tl :: bs, H.next ≤ b) ∧ (∀ b ∈ bo, H.next ≤ b) ∧ Kp H h ∧ outs ++ runF S F (ops.drop i) = runF S (Fw0 S) ops ∧ outs.length = i
set_option maxRecDepth 20000 in
theorem ruLoopI {Hb H h0 : AH} {S : Sup} {s : AV} {q mp op pt tl : Nat} {ops : List tT65.D} {bx : List Nat} {rw : Bool} (hd : (Ty.sl 65 tT65).R rw Hb [s] ops bx) (hKb : Kp Hb H) (hlen : ops.length ≤ 400) (m : Nat) (hm : 1200 ≤ m) (τ : Tm) (hI : RuI S ops s H q mp op pt tl ops.length τ h0) :
    ∃ e τ' H', evLoop Try.prog (ev Try.prog m) m (lp Try.prog 29 506) τ h0 = some (e, τ', H') ∧ e = .exit 0 ∧ RuI S ops s H q mp op pt tl 0 τ' H' := by
  refine loop_rule (d := ops.length) (RuI S ops s H q mp op pt tl) (fun e τ h => e = .exit 0 ∧ RuI S ops s H q mp op pt tl 0 τ h) ?_ hI (by omega)
  rintro d τ h ⟨i, F, bs, outs, vo, bo, hi, t20, t21, t22, t6, t7, X, G, hR, hnd, hdj, hlo, hlo2, hK, hrun, hol⟩
  rw [lp_M Try.func29 506 (by decide) 9 (by decide) (by kernel_rfl) [518554]]
  by_cases hd0 : d = 0
  · subst hd0
    have hkn : ¬ ((i : Int) < ops.length) := by omega
    simp [Try.f29, t21, t22, hkn]
    exact ⟨i, F, bs, outs, vo, bo, hi, by simp [t20], by simp [t21], by simp [t22], by simp [t6], by simp [t7], X, G, hR, hnd, hdj, hlo, hlo2, hK, hrun, hol⟩
  · have hlt : i < ops.length := by omega
    have hlt' : (i : Int) < ops.length := by omega
    obtain ⟨b, o, ro, L, u1, u2, u3, L1, L2⟩ := opAt (hd.kp (hKb.trans hK)) hlt
    rcases hop : ops[i] with ⟨k, id, n, w⟩
    rw [hop] at L2
    simp only at L2
    have hlts := X.lt
    let A0 : AH := (h.push (.cells 65 false (opC k id n w))).push (.cells 63 false (obC 0 0 0 .nilSlice))
    have kA : Kp h A0 := ((Kp.refl h).push _).push _
    have X0 := X.kp kA
    have nA : A0.next = h.next + 2 := by simp [A0]
    have g9 : A0.get h.next = some (.cells 65 false (opC k id n w)) := by simp [A0]
    have g10 : A0.get (h.next + 1) = some (.cells 63 false (obC 0 0 0 .nilSlice)) := by simp [A0]
    have o0 : ldVar Try.prog 3 h.next 0 A0 = some (.int .i64 k) := by simp only [opC] at g9; simp [ldVar, g9]
    have l65 : ldVar Try.prog 65 b o h = some (.agg (opC k id n w)) := by simp [ldVar, u3, L1, L2]
    have hp10 : h.next + 1 ∉ q :: mp :: op :: pt :: tl :: bs := fun hx => by have := hlts _ hx; omega
    have w1 : IntKind.i64.wrap ((i : Int) + 1) = ((i + 1 : Nat) : Int) := by rw [wrap_i64 (n := (i : Int) + 1) (by omega) (by omega)]; omega
    have hdi := di_ev X0 G (by omega) k id n w g9 g10 (by omega) hp10 m (by omega)
    have G2 := doF_good G (by omega) (k, id, n, w)
    have hdrop : ops.drop i = (k, id, n, w) :: ops.drop (i + 1) := by rw [List.drop_eq_getElem_cons hlt, hop]
    rw [hdrop] at hrun
    simp only [runF] at hrun
    generalize doF S F (k, id, n, w) = D at *
    have hA0 : (h.push (.cells 65 false [.int .i64 k, .int .i64 id, .int .i64 n, .bool w])).push (.cells 63 false [.int .i64 0, .int .i64 0, .int .i64 0, .nilSlice]) = A0 := rfl
    obtain ⟨τ2, h2, e2, K, bs2, b1, c, y1, y2, y3, y4, y5, y6, y7, y8⟩ := hdi (upd (upd (upd (upd (upd (upd (upd (upd τ 23 (.bool true)) 24 (.ptr b o)) 25 (.agg (opC k id n w))) 9 (.ptr h.next 0)) 26 (.agg [.int .i64 0, .int .i64 0, .int .i64 0, .nilSlice])) 10 (.ptr (h.next + 1) 0)) 27 (.ptr h.next 0)) 28 (.int .i64 k)) ⟨by simp [t6], by simp, by simp, by simp⟩
    have hbo := hR.mem
    have hbo10 : ∀ x ∈ bo, x ∉ (h.next + 1) :: q :: mp :: op :: pt :: tl :: bs := fun x hx hxx => by
      have := hbo x hx
      rcases List.mem_cons.1 hxx with e | e
      · omega
      · exact hdj x hx e
    have hR2 : (Ty.sl 63 tT63).R true h2 [vo] outs bo := (hR.kp kA).koS y2 hbo10
    have hnd2 : (bo ++ b1).Nodup := by
      rw [List.nodup_append]
      exact ⟨hnd, y5, fun x hx y hy e => by have := hbo x hx; have := y6 y hy; omega⟩
    obtain ⟨v', X', bo', a1, a2, a3, a4, a5⟩ := app63 hR2 y4 hnd2 (by omega)
    have hc := y4.len
    have ny2 := y2.next
    have ny5 := a5.next
    have hKn := hK.next
    have X2 : FwI S D.1 q mp op pt tl bs2 X' := y1.stay a5.next fun x hx => a5.get x (y1.lt x hx) (fun hxb => by
      have hbx := hbo x hxb
      simp only [List.mem_cons] at hx
      have hmem : x ∈ q :: mp :: op :: pt :: tl :: bs ∨ A0.next ≤ x := by
        rcases hx with e | e | e | e | e | e
        · left; simp [e]
        · left; simp [e]
        · left; simp [e]
        · left; simp [e]
        · left; simp [e]
        · rcases y3 x e with h | h
          · left; simp [h]
          · right; exact h
      rcases hmem with h | h
      · exact hdj x hxb h
      · omega)
    have l63 : ldVar Try.prog 63 (h.next + 1) 0 h2 = some (.agg c) := by
      rcases hD2 : D.2 with ⟨x0, x1, x2, x3⟩
      rw [hD2] at y4
      obtain ⟨va, bx', rfl, _⟩ := o63 y4
      simp [ldVar, y8]
    have hcell : ∃ c0 c1 c2 va, c = obC c0 c1 c2 va ∧ va.one = true := by
      rcases hD2 : D.2 with ⟨x0, x1, x2, x3⟩
      rw [hD2] at y4
      obtain ⟨va, bx', rfl, _, r, _⟩ := o63 y4
      exact ⟨x0, x1, x2, va, rfl, r.sl_one⟩
    obtain ⟨c0, c1, c2, va, rfl, ova⟩ := hcell
    obtain ⟨q7, q20, q21, q22, q6, q10⟩ := K
    simp at q7 q20 q21 q22 q6 q10
    simp only [obC] at g10
    have s63 := st_same63 g10
    clear_value A0
    simp only [obC, opC] at a1 l63 l65 e2
    simp [Try.f29, t20, t21, t22, hlt', u1, l65, fillA, spl, st_new65, hA0, s63, o0, e2, q7, q10, t7, l63, zerosA, ova, a1, q22, w1]
    refine ⟨d - 1, by omega, i + 1, D.1, bs2, outs ++ [D.2], v', bo', by omega, by simp [q20, t20], by simp [q21, t21], by simp, by simp [q6, t6], by simp, X2, G2, a2, a3, ?_, ?_, ?_, ?_, by simpa using hrun, by simp [hol]⟩
    · intro x hx hxx
      have hcase : x ∈ q :: mp :: op :: pt :: tl :: bs ∨ (x ∈ bs2 ∧ A0.next ≤ x) := by
        simp only [List.mem_cons] at hxx ⊢
        rcases hxx with e | e | e | e | e | e
        · simp [e]
        · simp [e]
        · simp [e]
        · simp [e]
        · simp [e]
        · rcases y3 x e with h | h
          · simp [h]
          · exact .inr ⟨e, h⟩
      rcases a4 x hx with h1 | h1 | h1
      · rcases hcase with h3 | ⟨_, h3⟩
        · exact hdj x h1 h3
        · have := hbo x h1; omega
      · rcases hcase with h3 | ⟨h3, _⟩
        · have := hlts x h3; have := y6 x h1; omega
        · exact y7 x h1 h3
      · have := y1.lt x hxx; omega
    · intro x hx
      simp only [List.mem_cons] at hx hlo
      rcases hx with e | e | e | e | e | e
      · exact hlo x (by simp [e])
      · exact hlo x (by simp [e])
      · exact hlo x (by simp [e])
      · exact hlo x (by simp [e])
      · exact hlo x (by simp [e])
      · rcases y3 x e with h | h
        · exact hlo x (by simp [h])
        · omega
    · intro x hx
      rcases a4 x hx with h | h | h
      · exact hlo2 x h
      · have := y6 x h; omega
      · omega
    · refine ⟨by omega, fun x hx => ?_⟩
      rw [a5.get x (by omega) (fun hb => by have := hlo2 x hb; omega), y2.get x (by omega) (fun hb => by
        rcases List.mem_cons.1 hb with e | e
        · omega
        · have := hlo x e; omega), kA.get x (by omega)]
      exact hK.get x hx
theorem flowI_ev {Hb H : AH} {S : Sup} {s : AV} {ops : List tT65.D} {bx : List Nat} {rw : Bool} (hd : (Ty.sl 65 tT65).R rw Hb [s] ops bx) (hKb : Kp Hb H) (m : Nat) (hm : 1300 ≤ m) :
    ∃ r H' bo, ev Try.prog m 29 [.agg (suC S), s] H = some (.tuple [r, .int .i64 (FlowP S ops).2], H') ∧ Kp H H' ∧ (Ty.sl 63 tT63).R true H' [r] (FlowP S ops).1 bo ∧ bo.Nodup ∧ ∀ b ∈ bo, H.next ≤ b := by
  obtain ⟨m, rfl⟩ : ∃ k, m = k + 1 := ⟨m - 1, by omega⟩
  have hL := Ty.R.lenA hd (P := Try.prog) (T := 51) (by simp)
  unfold FlowP
  by_cases c1 : 400 < ops.length
  · rw [if_pos c1]
    have c1' : 400 < (ops.length : Int) := by omega
    refine ⟨.nilSlice, H.push (.cells 49 false (suC S)), [], ?_, (Kp.refl H).push _, .inl ⟨rfl, rfl, rfl⟩, by simp, by simp⟩
    simp only [suC]
    rw [ev_M Try.func29 ok29 [] m _ H (by simp [Try.f29])]
    simp [Try.f29, tm0, hL, c1']
  · rw [if_neg c1]
    have c1' : (400 < (ops.length : Int)) = False := eq_false (by omega)
    have e1 := fun H => supI_ev S H m (by omega)
    have lz : ldVar Try.prog 49 H.next 0 (H.push (.cells 49 false (suC S))) = some (.agg (suC S)) := by simp [ldVar, suC]
    by_cases c2 : S.ok
    · rw [if_pos c2]
      simp only [c2, decide_true] at e1
      let A1 : AH := (H.push (.cells 49 false (suC S))).push (.cells 49 false (suC S))
      have lz1 : ldVar Try.prog 49 H.next 0 A1 = some (.agg (suC S)) := by simp [ldVar, suC, A1]
      obtain ⟨A2, e2, X2, k2⟩ := newI_ev S A1 m (by omega)
      have kA1 : Kp H A1 := ((Kp.refl H).push _).push _
      let A3 : AH := A2.push (.cells 63 false [])
      have kA3 : Kp A2 A3 := (Kp.refl A2).push _
      have X3 := X2.kp kA3
      have hK3 : Kp H A3 := (kA1.trans k2).trans kA3
      have key : ∃ τ' H' q mp op pt tl, ev Try.prog (m + 1) 29 [.agg (suC S), s] H = resM Try.prog [.tmp 4, .tmp 5] (evAt Try.prog (ev Try.prog m) m 29 127 τ' H') ∧ RuI S ops s H q mp op pt tl 0 τ' H' := by
        have hls := ruLoopI (S := S) (q := A1.next + 5) (mp := A1.next + 1) (op := A1.next + 2) (pt := A1.next + 3) (tl := A1.next + 4) (h0 := A3) hd hKb (by omega) m (by omega)
        have hA1 : (H.push (.cells 49 false (suC S))).push (.cells 49 false (suC S)) = A1 := rfl
        have hA3 : A2.push (.cells 63 false []) = A3 := rfl
        have hn3 : A2.next < A3.next := by simp [A3]
        have hg3 : A3.get A2.next = some (.cells 63 false []) := by simp [A3]
        have hlts := X2.lt
        have hlo1 : H.next ≤ A1.next := kA1.next
        have hk2 := k2.next
        clear_value A1 A3
        simp only [suC] at e1 e2 lz lz1 hA1 ⊢
        have key2 : ∃ τ' H', ev Try.prog (m + 1) 29 [.agg [.bool S.sv, .int .i64 S.cw, .int .i64 S.sw, .int .i64 S.tw, .int .i64 S.ow, .int .i64 S.pc, .int .i64 S.ps, .int .i64 S.ptw, .int .i64 S.pow], s] H = resM Try.prog [.tmp 4, .tmp 5] (evAt Try.prog (ev Try.prog m) m 29 127 τ' H') ∧ RuI S ops s H (A1.next + 5) (A1.next + 1) (A1.next + 2) (A1.next + 3) (A1.next + 4) 0 τ' H' := by
          rw [ev_M Try.func29 ok29 [127] m _ H (by simp [Try.f29])]
          simp [Try.f29, tm0, hL, c1', lz, e1, hA1, lz1, e2, hA3, zerosA]
          generalize hLo : evLoop _ _ _ _ _ _ = R
          obtain ⟨e, τ', H', rfl, rfl, g⟩ := loop_at hLo (hls _ ⟨0, Fw0 S, [], [], .slice A2.next 0 0, [A2.next], by omega, by simp, by simp, by simp, by simp, by simp, X3, Fw0_good c2, empty63 hn3 hg3, by simp, fun x hx hxx => by simp at hx; have := hlts x hxx; omega, by simp; omega, by simp; omega, hK3, by simp, rfl⟩)
          exact ⟨τ', H', by simp, g⟩
        obtain ⟨τ', H', e, g⟩ := key2
        exact ⟨τ', H', _, _, _, _, _, e, g⟩
      obtain ⟨τ1, H1, q, mp, op, pt, tl, e3, i, F, bs, outs, vo, bo, hi, t20, t21, t22, t6, t7, X, G, hR, hnd, hdj, hlo, hlo2, hK, hrun, hol⟩ := key
      have hi' : ops.length ≤ i := by omega
      rw [List.drop_eq_nil_of_le hi'] at hrun
      simp only [runF, List.append_nil] at hrun
      rw [← hrun]
      refine ⟨vo, H1, bo, ?_, hK, hR, hnd, hlo2⟩
      rw [e3]
      rw [at_M Try.func29 127 (by decide) 7 (by decide) (by kernel_rfl) []]
      simp [Try.f29, t7]
    · rw [if_neg c2]
      simp only [c2, decide_false] at e1
      refine ⟨.nilSlice, (H.push (.cells 49 false (suC S))).push (.cells 49 false (suC S)), [], ?_, ((Kp.refl H).push _).push _, .inl ⟨rfl, rfl, rfl⟩, by simp, by simp⟩
      simp only [suC] at e1 lz ⊢
      rw [ev_M Try.func29 ok29 [] m _ H (by simp [Try.f29])]
      simp [Try.f29, tm0, hL, c1', lz, e1]
end Go.Ev

/- From what came in to the evaluator: a call's arguments. -/
namespace Go.Ev
open Go Go.RowKit
set_option linter.unusedSimpArgs false
set_option linter.unusedVariables false

section
variable {P : Program} {w : World} {Hd : Type} {enc : TypeId × Value → Hd} {held : Bool} {r : Reach} {base : Nat}

def HE : AH := { get := fun _ => none, next := 0 }
theorem rel_empty (P : Program) (w : World) : Rel P w HE (fun _ => none) w :=
  ⟨Below.refl _ _, fun _ _ => rfl, fun b x h => by simp [HE] at h, fun b x h => by simp [HE] at h, fun b x h => by simp [HE] at h⟩

/-- an argument: its abstract value, in the memory that its rows lie in -/
def ArgRes (P : Program) (w : World) (t : Ty) (v : Value) (H : AH) (μ : Mu) : Prop :=
  ∃ H' μ' a c d bs, Ext μ μ' ∧ Rel P w H' μ' w ∧ Kp H H' ∧ VR μ' a v ∧ t.R false H' c d bs ∧ t.sm d ∧ (a = .agg c ∨ c = [a])

theorem arg1 {T : TypeId} {t : Ty} {v : Value} {d : DataW Hd} {p : List MemPlace} {H : AH} {μ : Mu} (hf : Fits P T t) (h : DataW.Trod enc P w 0 (fun _ => true) held T v d p) (hR : Rel P w H μ w) (hv : v.cells.toList = [v]) :
    ∃ H' μ' a d bs, Ext μ μ' ∧ Rel P w H' μ' w ∧ Kp H H' ∧ VR μ' a v ∧ t.R false H' [a] d bs ∧ t.sm d := by
  obtain ⟨fuel, hf'⟩ := h
  rw [hv] at hf'
  obtain ⟨H', μ', c, d, bs, e, r1, k, hV, hr, hs⟩ := in_ty fuel hf hf' hR
  match c, hV with
  | [], hV => simp [VRs] at hV
  | [a], hV =>
    simp only [VRs] at hV
    obtain ⟨u, us, hu, hV, _⟩ := hV
    simp only [List.cons.injEq] at hu
    obtain ⟨rfl, _⟩ := hu
    exact ⟨H', μ', a, d, bs, e, r1, k, hV, hr, hs⟩
  | a :: b :: c, hV =>
    simp only [VRs] at hV
    obtain ⟨u, us, hu, hV, u2, us2, hu2, _⟩ := hV
    simp only [List.cons.injEq] at hu
    rw [hu2] at hu; simp at hu
theorem argSl {T e : TypeId} {t : Ty} {v : Value} {d : DataW Hd} {p : List MemPlace} {H : AH} {μ : Mu} (hf : Fits P T t) (hT : P.underlying T = some (.slice e)) (hval : Value.okWide P w r base T v) (h : DataW.Trod enc P w 0 (fun _ => true) held T v d p) (hR : Rel P w H μ w) :
    ∃ H' μ' a d bs, Ext μ μ' ∧ Rel P w H' μ' w ∧ Kp H H' ∧ VR μ' a v ∧ t.R false H' [a] d bs ∧ t.sm d := by
  obtain ⟨a, l, c, rfl⟩ := Go.WideShapes.okWide_slice hT hval
  exact arg1 hf h hR rfl
theorem argInt {T : TypeId} {k : IntKind} {t : Ty} {v : Value} {d : DataW Hd} {p : List MemPlace} {H : AH} {μ : Mu} (hf : Fits P T t) (hT : P.underlying T = some (.int k)) (hval : Value.okWide P w r base T v) (h : DataW.Trod enc P w 0 (fun _ => true) held T v d p) (hR : Rel P w H μ w) :
    ∃ H' μ' a d bs, Ext μ μ' ∧ Rel P w H' μ' w ∧ Kp H H' ∧ VR μ' a v ∧ t.R false H' [a] d bs ∧ t.sm d := by
  obtain ⟨n, rfl⟩ := Go.WideShapes.okWide_int hT hval
  exact arg1 hf h hR rfl
theorem argBool {T : TypeId} {t : Ty} {v : Value} {d : DataW Hd} {p : List MemPlace} {H : AH} {μ : Mu} (hf : Fits P T t) (hT : P.underlying T = some .bool) (hval : Value.okWide P w r base T v) (h : DataW.Trod enc P w 0 (fun _ => true) held T v d p) (hR : Rel P w H μ w) :
    ∃ H' μ' a d bs, Ext μ μ' ∧ Rel P w H' μ' w ∧ Kp H H' ∧ VR μ' a v ∧ t.R false H' [a] d bs ∧ t.sm d := by
  obtain ⟨n, rfl⟩ := Go.WideShapes.okWide_bool hT hval
  exact arg1 hf h hR rfl
theorem argStr {T : TypeId} {t : Ty} {v : Value} {d : DataW Hd} {p : List MemPlace} {H : AH} {μ : Mu} (hf : Fits P T t) (hT : P.underlying T = some .string) (hval : Value.okWide P w r base T v) (h : DataW.Trod enc P w 0 (fun _ => true) held T v d p) (hR : Rel P w H μ w) :
    ∃ H' μ' a d bs, Ext μ μ' ∧ Rel P w H' μ' w ∧ Kp H H' ∧ VR μ' a v ∧ t.R false H' [a] d bs ∧ t.sm d := by
  obtain ⟨n, rfl⟩ := Go.WideShapes.okWide_string hT hval
  exact arg1 hf h hR rfl
/-- a struct by value -/
theorem argAgg {T : TypeId} {fs : Array Field} {t : Ty} {v : Value} {d : DataW Hd} {p : List MemPlace} {H : AH} {μ : Mu} (hf : Fits P T t) (hT : P.underlying T = some (.struct fs)) (hval : Value.okWide P w r base T v) (h : DataW.Trod enc P w 0 (fun _ => true) held T v d p) (hR : Rel P w H μ w) :
    ∃ H' μ' c d bs, Ext μ μ' ∧ Rel P w H' μ' w ∧ Kp H H' ∧ VR μ' (.agg c) v ∧ t.R false H' c d bs ∧ t.sm d := by
  obtain ⟨cs, rfl, _⟩ := Go.WideShapes.okWide_struct hT hval
  obtain ⟨fuel, hf'⟩ := h
  obtain ⟨H', μ', c, d, bs, e, r1, k, hV, hr, hs⟩ := in_ty fuel hf hf' hR
  exact ⟨H', μ', c, d, bs, e, r1, k, by simp only [VR]; exact ⟨cs, rfl, hV⟩, hr, hs⟩

theorem law_run2 (hm : P.follows .mixedOrders = true) {H : AH} {μ : Mu} {n : Nat} {f : FuncId} {args : List AV} {vs : Array Value} {H' : AH} (hR : Rel P w H μ w)
    (h : ev P n f args H = some (.bool true, H')) (hv : VRs μ args vs.toList) :
    Calls P f vs w fun e w' => e = .returned (.bool true) ∧ Below w.heap.size w w' := by
  refine (ev_sound hm n f args H (.bool true) H' μ w vs h hR hv).2.mono ?_
  rintro e w' ⟨v, μ', rfl, hx, hR, hv⟩
  simp only [VR] at hv
  subst hv
  exact ⟨rfl, hR.below⟩
end
end Go.Ev

/- The law FnExactFlowRun by the evaluator. -/
namespace Go.Ev
open Go Go.Proofs
set_option linter.unusedSimpArgs false
set_option linter.unusedVariables false

def obSz (d : Ob) : Prop := tT63.sz d ≤ 2
theorem szFrm (k a b : Int) : tT72.sz (frm k a b) = 0 := by simp [frm, Ty.sz, cntL]
theorem szOb (c i n : Int) (l : List Fr) : tT63.sz (ob c i n l) = l.length + cntL tT72.sz l := by simp [ob, Ty.sz]
theorem doF_sz (S : Sup) (F : Fw) (op : tT65.D) : obSz (doF S F op).2 := by
  have h0 : ∀ c i n, obSz (ob c i n []) := fun c i n => by unfold obSz; rw [szOb]; simp [cntL]
  have h1 : ∀ c i n k a b, obSz (ob c i n [frm k a b]) := fun c i n k a b => by unfold obSz; rw [szOb]; simp [cntL, szFrm]
  unfold doF
  split
  · unfold openP; split <;> exact h0 _ _ _
  · split
    · unfold sendP
      split
      · exact h0 _ _ _
      · split <;> exact h0 _ _ _
    · split
      · exact h0 _ _ _
      · split
        · unfold readP
          split
          · exact h0 _ _ _
          · dsimp only
            split
            · exact h0 _ _ _
            · unfold obSz
              rw [szOb]
              split <;> split <;> simp [cntL, szFrm]
        · split
          · unfold overP
            split
            · exact h0 _ _ _
            · dsimp only
              split
              · exact h0 _ _ _
              · split
                · exact h0 _ _ _
                · exact h1 _ _ _ _ _ _
          · split <;> exact h0 _ _ _
theorem runF_sz (S : Sup) : ∀ (F : Fw) (ops : List tT65.D), cntL tT63.sz (runF S F ops) ≤ 2 * ops.length
  | _, [] => by simp [runF, cntL]
  | F, op :: l => by
    have h1 := doF_sz S F op
    have h2 := runF_sz S (doF S F op).1 l
    unfold obSz at h1
    simp only [runF, cntL, List.length_cons]; omega
theorem FlowP_sz (S : Sup) (ops : List tT65.D) : (Ty.sl 63 tT63).sz (FlowP S ops).1 ≤ 1200 := by
  unfold FlowP
  split
  · simp [Ty.sz, cntL]
  · split
    · have h1 := runF_sz S (Fw0 S) ops
      have h2 := runF_len S (Fw0 S) ops
      show (runF S (Fw0 S) ops).length + cntL tT63.sz (runF S (Fw0 S) ops) ≤ 1200
      omega
    · simp [Ty.sz, cntL]
theorem lawFlow {H : AH} {c0 : List AV} {s : AV} {d : tT43.D} {ds : List tT165.D} {b0 bs : List Nat} (h0 : tT43.R false H c0 d b0) (hd : (Ty.sl 165 tT165).R false H [s] ds bs) (_ : tT43.sm d) (hs : (Ty.sl 165 tT165).sm ds) (m : Nat) (hm : 4000000 ≤ m) :
    ∃ H', ev Try.prog m 5 [.agg c0, s] H = some (.bool true, H') := by
  obtain ⟨m, rfl⟩ : ∃ k, m = k + 1 := ⟨m - 1, by omega⟩
  obtain ⟨x0, x1, x2, x3, x4, x5, x6, x7, x8⟩ := d
  obtain ⟨hc0, hb0, _⟩ := o43 h0
  let S : Sup := ⟨x0, x1, x2, x3, x4, x5, x6, x7, x8⟩
  have hbd : tT43.bd 1048576 (x0, x1, x2, x3, x4, x5, x6, x7, x8) := ⟨trivial, trivial, trivial, trivial, trivial, trivial, trivial, trivial, trivial⟩
  obtain ⟨A0, hA0⟩ : ∃ A : AH, A = H.push (.cells 43 false c0) := ⟨_, rfl⟩
  have kA : Kp H A0 := by rw [hA0]; exact (Kp.refl H).push _
  have gA : A0.get H.next = some (.cells 43 false c0) := by rw [hA0]; simp
  have nA : A0.next = H.next + 1 := by rw [hA0]; simp
  have lA : ∀ X, Kp A0 X → ldVar Try.prog 43 H.next 0 X = some (.agg c0) := fun X k => by
    have := (k.get H.next (by omega)).trans gA
    rw [hc0] at this ⊢
    simp [ldVar, this]
  have tS : ∀ X, Kp A0 X → ∃ X', ev Try.prog m 27 [.agg c0] X = some (.agg (suC S), X') ∧ Kp X X' := fun X k => by
    obtain ⟨c', X', bs', e, kk, R, _⟩ := toFlowSetup_h h0 (kA.trans k) hbd m (by omega)
    obtain ⟨rfl, _⟩ := o49 R
    exact ⟨X', e, kk⟩
  obtain ⟨H1, a1, a2⟩ := szFlowOpS_h hd kA (left := 1048576) (by omega) (by omega) (Ty.sm_bd hs) m (by omega)
  by_cases h1 : szR 1048576 ((Ty.sl 165 tT165).sz ds) < 0
  · refine ⟨H1, ?_⟩
    rw [hc0] at hA0 ⊢
    subst hA0
    rw [ev_M Try.func5 ok5 [] m _ H (by simp [Try.f5])]
    simp [Try.f5, tm0, a1, h1]
  · have hz : (Ty.sl 165 tT165).sz ds ≤ 1048576 := by unfold szR at h1; split at h1 <;> omega
    have hb : (Ty.sl 165 tT165).bd 1048576 ds := Ty.sz_bd hz
    have hb65 : (Ty.sl 65 tT65).bd 1048576 ds := hb
    have hz65 : (Ty.sl 65 tT65).sz ds ≤ 1048576 := hz
    have hcX : (Ty.sl 65 tT65).cnt true ds ≤ 1073741824 := Ty.cnt_bound hz65 (by simp [Ty.w])
    have K1 : Kp A0 H1 := a2
    obtain ⟨H1', s1, k1'⟩ := tS H1 K1
    have K1' := K1.trans k1'
    obtain ⟨x, H2, bx, b1, b2, b3, b4, b5⟩ := toFlowOpS_h hd (kA.trans K1') hb m (by omega)
    obtain ⟨w, H3, bw, c1, c2, c3, c4, c5⟩ := flowS_ev (S := S) b3 (Kp.refl H2) m (by omega)
    have K3 := (K1'.trans b2).trans c2
    obtain ⟨xx, H4, b0', d1, d2, d3, d4, d5⟩ := toFlowOpS_h hd (kA.trans K3) hb m (by omega)
    have K4 := K3.trans d2
    obtain ⟨H4', s2, k4'⟩ := tS H4 K4
    obtain ⟨g, H5, bg, e1, e2, e3, e4, e5⟩ := flowI_ev (S := S) d3 k4' m (by omega)
    have hol := FlowP_sz S ds
    generalize hRR : FlowP S ds = R at *
    obtain ⟨outs, rc⟩ := R
    simp only at c1 c3 e1 e3 hol
    have hbO : (Ty.sl 63 tT63).bd 1048576 outs := Ty.sz_bd (by omega)
    have hcO : (Ty.sl 63 tT63).cnt true outs ≤ 1073741824 := Ty.cnt_bound hol (by simp [Ty.w])
    obtain ⟨H6, f1, f2⟩ := eqFlowObsS_h e3 (c3.kp ((d2.trans k4').trans e2)) (Kp.refl H5) hbO m (by omega)
    have K6 := ((K4.trans k4').trans e2).trans f2
    obtain ⟨y1, H7, b7, g1, g2, g3, g4, g5⟩ := toFlowOpS_h hd (kA.trans K6) hb m (by omega)
    obtain ⟨H8, i1, i2⟩ := eqFlowOpS_h (d3.kp (((k4'.trans e2).trans f2).trans g2)) g3 (Kp.refl H7) hb65 m (by omega)
    have KX : Kp H4 H8 := (((k4'.trans e2).trans f2).trans g2).trans i2
    obtain ⟨H9, j1, j2, j3⟩ := markFlowOpS_h (d3.kp KX) d4 hb65 (k0 := 1) (by omega) (by omega) m (by omega)
    have n1' := k1'.next
    have n0 := b2.next
    have n1 := c2.next
    have n2 := d2.next
    have n4' := k4'.next
    have n3 := e2.next
    have n4 := f2.next
    have n5 := g2.next
    have n6 := i2.next
    have n7 := a2.next
    have w9 := (c3.kp (d2.trans KX)).koL j2 fun b hb hx => by have := c3.mem b hb; have := d5 b hx; omega
    have r9 := (e3.kp ((f2.trans g2).trans i2)).koL j2 fun b hb hx => by have := d3.mem b hx; have := e5 b hb; omega
    obtain ⟨H10, k1, k2⟩ := eqFlowObsS_h r9 w9 (Kp.refl H9) hbO m (by omega)
    have K9 : Kp A0 H9 := j2.kp ((K6.trans g2).trans i2) fun b hb => by have := d5 b hb; have := K3.next; omega
    obtain ⟨H11, l1, l2, l3⟩ := markFlowObsS_h (r9.kp k2) e4 hbO (k0 := 1) (by omega) (by omega) m (by omega)
    have o1 := heldFlowObsS_h l3 hbO (by omega) (by omega) m (by omega)
    have K11 : Kp A0 H11 := l2.kp (K9.trans k2) fun b hb => by have := e5 b hb; have := K3.next; omega
    have w11 := (w9.kp k2).koL l2 fun b hb hx => by have := c3.mem b hb; have := e5 b hx; omega
    obtain ⟨H11', s3, k11'⟩ := tS H11 K11
    obtain ⟨z2, H12, b12, p1, p2, p3, p4, p5⟩ := toFlowOpS_h hd (kA.trans (K11.trans k11')) hb m (by omega)
    obtain ⟨hh, H13, b13, q1, q2, q3, q4, q5⟩ := flowI_ev (S := S) p3 (Kp.refl H12) m (by omega)
    rw [hRR] at q1 q3
    simp only at q1 q3
    obtain ⟨H14, r1, r2⟩ := eqFlowObsS_h q3 (w11.kp ((k11'.trans p2).trans q2)) (Kp.refl H13) hbO m (by omega)
    have o2 := heldFlowObsS_h (l3.kp (((k11'.trans p2).trans q2).trans r2)) hbO (by omega) (by omega) m (by omega)
    have lA1 := lA H1 K1
    have lA4 := lA H4 K4
    have lA11 := lA H11 K11
    generalize hN1 : (Ty.sl 65 tT65).cnt true ds = N1 at *
    generalize hN2 : (Ty.sl 63 tT63).cnt true outs = N2 at *
    have t1 : ¬ (1 + (N1 : Int) < (0 : Int)) := by omega
    have t2 : ¬ (1 + (N2 : Int) < (0 : Int)) := by omega
    refine ⟨H14, ?_⟩
    generalize suC S = c9 at *
    have hc1 : c0.all AV.one = true := by rw [hc0]; rfl
    rw [hc0] at hA0 lA1 lA4 lA11 s1 s2 s3 ⊢
    clear lA tS
    subst hA0
    rw [ev_M Try.func5 ok5 [] m _ H (by simp [Try.f5])]
    simp [Try.f5, tm0, a1, h1, lA1, lA4, lA11, s1, s2, s3, b1, c1, d1, e1, f1, g1, i1, j1, k1, l1, o1, p1, q1, r1, o2, t1, t2, evHist, ObsOk, ObOk]
end Go.Ev
