/- Lemmas of an evaluator of the given code and of what the functions answer; no condition of its own. -/
import Derived.Test.YtnoacfilglgbgaaEv12
import Derived.Test.YtnoacfilglgbgaaEv9
import Derived.Test.YtnoacfilglgbgaaEv11
/- An acknowledgement of ranges, and what it acknowledges. -/
namespace Go.Ev
open Go Go.Proofs
set_option linter.unusedSimpArgs false
set_option linter.unusedVariables false

set_option maxRecDepth 20000 in
theorem AckFrame_ev {rw : Bool} {Hb H : AH} {r : AV} {L : List Rg} {N : Int} {bs : List Nat} (hr : (Ty.sl 94 tT94).R rw Hb [r] L bs) (hK : Kp Hb H) (hL : rgOK L) (h0 : L ≠ []) (hN : inV N) (m : Nat) (hm : 80 ≤ m) :
    ∃ v' H' b', ev Try.prog m 61 [r, .int .i64 N] H = some (.tuple [.agg (frC 2 N 0 0 false .nilSlice .nilSlice v'), .int .i64 0], H') ∧ (Ty.sl 94 tT94).R true H' [v'] L b' ∧ Kp H H' := by
  obtain ⟨m, rfl⟩ : ∃ k, m = k + 1 := ⟨m - 1, by omega⟩
  have hl := hL.1
  let Z : AH := H.push (.cells 72 false [.int .i64 0, .int .i64 0, .int .i64 0, .int .i64 0, .bool false, .nilSlice, .nilSlice, .nilSlice])
  have hZ : H.push (.cells 72 false [.int .i64 0, .int .i64 0, .int .i64 0, .int .i64 0, .bool false, .nilSlice, .nilSlice, .nilSlice]) = Z := rfl
  have KZ : Kp H Z := (Kp.refl H).push _
  have nZ : Z.next = H.next + 1 := by simp [Z]
  have gZ : Z.get H.next = some (.cells 72 false [.int .i64 0, .int .i64 0, .int .i64 0, .int .i64 0, .bool false, .nilSlice, .nilSlice, .nilSlice]) := by simp [Z]
  clear_value Z
  obtain ⟨H1, a1, a2⟩ := rangesOK_ev hr (hK.trans KZ) (by omega) m (by omega)
  have a3 := inVar_ev N H1 m (by omega)
  have L1 := Ty.R.lenA hr (P := Try.prog) (T := 70) (by simp)
  have hne : ((L.length : Int) == 0) = false := by cases L with
    | nil => exact absurd rfl h0
    | cons x l => simp; omega
  let A : AH := H1.push (.cells 94 false [])
  have hA : H1.push (.cells 94 false []) = A := rfl
  have KA : Kp H1 A := (Kp.refl H1).push _
  have nA : A.next = H1.next + 1 := by simp [A]
  have eA : (Ty.sl 94 tT94).R true A [.slice H1.next 0 0] [] [H1.next] := empty94 (by omega) (by simp [A])
  clear_value A
  obtain ⟨v', X', b', q1, q2, q3, q4, q5⟩ := app94s eA (by simp) (hr.kp (((hK.trans KZ).trans a2).trans KA)) (by simp) (by omega)
  simp only [List.nil_append] at q2
  have n1 := a2.next
  have gX : X'.get H.next = some (.cells 72 false [.int .i64 0, .int .i64 0, .int .i64 0, .int .i64 0, .bool false, .nilSlice, .nilSlice, .nilSlice]) := by
    rw [q5.get _ (by omega) (by simp; omega), KA.get _ (by omega), a2.get _ (by omega)]; exact gZ
  have ov := q2.sl_one
  have ovc := cells_one ov
  have bx : ∀ b ∈ b', H.next < b := fun b hb => by
    rcases q4 b hb with h | h
    · simp at h; omega
    · omega
  refine ⟨v', X'.set H.next (.cells 72 false (frC 2 N 0 0 false .nilSlice .nilSlice v')), b', ?_, q2.stay (by simp) fun b hb => AH.set_getN _ _ (by have := bx b hb; omega), ?_⟩
  · simp only [frC]
    rw [ev_M Try.func61 ok61 [] m _ H (by simp [Try.f61])]
    simp [Try.f61, tm0, a1, a3, L1, hL, hN, hne, hZ, hA, q1, zerosA, fillA, spl, stVar, ldVar, gX, ov, ovc]
  · have K := ((KZ.trans a2).trans KA)
    have K2 : Kp H X' := KoS.kp K q5 (by simp; omega)
    exact ⟨by simpa using K2.next, fun b hb => by rw [AH.set_getN _ _ (by omega)]; exact K2.get b hb⟩
theorem app3 {X : AH} {v : AV} {l : List Int} {bs : List Nat} {a : Int} (h : (Ty.sl 3 (.int .i64)).R true X [v] l bs) (hnd : bs.Nodup) (ia : InK .i64 a) (hl : l.length ≤ 1000000) :
    ∃ v' X' bs', appA Try.prog 60 60 v (.slice X.next 0 1) (X.push (.cells 3 false [.int .i64 a])) = some (v', X') ∧ (Ty.sl 3 (.int .i64)).R true X' [v'] (l ++ [a]) bs' ∧ bs'.Nodup ∧ (∀ b ∈ bs', b ∈ bs ∨ X.next ≤ b) ∧ KoS bs X X' := by
  obtain ⟨v', X', bs', h1, h2, h3, h4, h5⟩ := Ty.R.app1 (P := Try.prog) (T := 60) h (Ty.R.int (rw := true) (H := X) ia) (by simpa using hnd) (by simp) (by simp) (by simp [Ty.n]) (by_ := 8) (by simp) (z := [.int .i64 0]) (by simp) (by simp [Ty.n]) (by omega) (by omega)
  exact ⟨v', X', bs', h1, h2, h3, fun b hb => by rcases h4 b hb with h | h | h <;> simp_all, h5⟩
theorem empty3 {X : AH} {b : Nat} (hb : b < X.next) (g : X.get b = some (.cells 3 false [])) : (Ty.sl 3 (.int .i64)).R true X [.slice b 0 0] [] [b] :=
  .inr ⟨b, 0, false, [], [], rfl, rfl, hb, g, fun _ => ⟨rfl, rfl, by simp⟩, by simp, rfl, rfl⟩
noncomputable def ackd (L : List Rg) (l : List Int) : List Int := l.filter (fun x => decide (inR L x))
structure AbI (l : List Int) (L : List Rg) (s f7 : AV) (p2 : Nat) (H1 : AH) (k : Nat) (τ : Tm) (h : AH) (v6 : AV) (b6 : List Nat) : Prop where
  t1 : τ 1 = s
  t2 : τ 2 = .ptr p2 0
  t6 : τ 6 = v6
  t21 : τ 21 = s
  t22 : τ 22 = .int .i64 l.length
  t23 : τ 23 = .int .i64 k
  R : (Ty.sl 3 (.int .i64)).R true h [v6] (ackd L (l.take k)) b6
  nd : b6.Nodup
  lo : ∀ b ∈ b6, H1.next ≤ b
  K : Kp H1 h
def AbL (l : List Int) (L : List Rg) (s f7 : AV) (p2 : Nat) (H1 : AH) (d : Nat) (τ : Tm) (h : AH) : Prop := ∃ (k : Nat) (v6 : AV) (b6 : List Nat), k + d = l.length ∧ AbI l L s f7 p2 H1 k τ h v6 b6
set_option maxRecDepth 20000 in
theorem AckedBy_ev {r1 r2 : Bool} {Hb H : AH} {f7 d5 d6 s : AV} {L : List Rg} {l : List Int} {N : Int} {b1 b2 : List Nat} (hr : (Ty.sl 94 tT94).R r1 Hb [f7] L b1) (hs : (Ty.sl 3 (.int .i64)).R r2 Hb [s] l b2) (hK : Kp Hb H)
    (hd : ∀ h, lenA Try.prog 34 d5 h = some (.int .i64 0)) (ht : ∀ h, lenA Try.prog 34 d6 h = some (.int .i64 0)) (od : d5.one = true) (ot : d6.one = true) (hL : rgOK L) (h0 : L ≠ []) (hN : inV N) (hl : l.length ≤ 4096) (hin : ∀ x ∈ l, inV x) (hso : ∀ i (h : i + 1 < l.length), l[i] < l[i + 1]) (m : Nat) (hm : 5000 ≤ m) :
    ∃ v' H' b', ev Try.prog m 62 [.agg (frC 2 N 0 0 false d5 d6 f7), s] H = some (.tuple [v', .int .i64 0], H') ∧ (Ty.sl 3 (.int .i64)).R true H' [v'] (ackd L l) b' ∧ Kp H H' := by
  obtain ⟨m, rfl⟩ : ∃ k, m = k + 1 := ⟨m - 1, by omega⟩
  have hll := hL.1
  have of7 := hr.sl_one
  have hfr : frOK 2 N 0 0 false 0 0 L := by
    have z0 : inV 0 := ⟨by omega, by omega⟩
    have hlp : 0 < L.length := List.length_pos_iff.2 h0
    exact ⟨⟨by decide, hN, z0, z0, by simp [usesL, fldOK], by simp [usesL, fldOK], by simp [usesL, fldOK], by simp [usesL, fldOK]⟩, ⟨by simp [usesL], by simp [usesL], by simp [usesL], by simp [usesL, hlp], hL⟩, by simp [frX]⟩
  let Z : AH := H.push (.cells 72 false (frC 2 N 0 0 false d5 d6 f7))
  have hZ : H.push (.cells 72 false (frC 2 N 0 0 false d5 d6 f7)) = Z := rfl
  have KZ : Kp H Z := (Kp.refl H).push _
  have nZ : Z.next = H.next + 1 := by simp [Z]
  have gZ : Z.get H.next = some (.cells 72 false (frC 2 N 0 0 false d5 d6 f7)) := by simp [Z]
  clear_value Z
  obtain ⟨H1, a1, a2⟩ := FrameOKI_ev (k := 2) (a := N) (b := 0) (c := 0) (fin := false) (dl := 0) (tl := 0) hr (hK.trans KZ) hd ht od ot (by omega) (by omega) m (by omega)
  have n1 := a2.next
  let A : AH := H1.push (.cells 3 false [])
  have hA : H1.push (.cells 3 false []) = A := rfl
  have KA : Kp H1 A := (Kp.refl H1).push _
  have nA : A.next = H1.next + 1 := by simp [A]
  have eA : (Ty.sl 3 (.int .i64)).R true A [.slice H1.next 0 0] [] [H1.next] := empty3 (by omega) (by simp [A])
  clear_value A
  have L1 := Ty.R.lenA hs (P := Try.prog) (T := 60) (by simp)
  have hl4 := eq_false (show ¬ ((4096 : Int) < l.length) by omega)
  have g1 : H1.get H.next = some (.cells 72 false (frC 2 N 0 0 false d5 d6 f7)) := (a2.get _ (by omega)).trans gZ
  simp only [frC] at hZ gZ a1 g1 ⊢
  rw [ev_M Try.func62 ok62 [] _ _ H (by simp [Try.f62])]
  simp [Try.f62, tm0, L1, hl4, hZ, gZ, a1, hfr, hA, fillA, zerosA, ldVar, od, ot, of7]
  generalize hLo : evLoop _ _ _ _ _ _ = R
  obtain ⟨e, τ', H', rfl, rfl, k, v6, b6, hk, X⟩ := loop_at hLo (loop_rule (d := l.length) (AbL l L s f7 H.next H1) (fun e τ h => e = .exit 0 ∧ AbL l L s f7 H.next H1 0 τ h) (by
    rintro d τ h ⟨k, v6, b6, hk, t1, t2, t6, t21, t22, t23, R, nd, hlo, K⟩
    rw [lp_M Try.func62 250 (by decide) 8 (by decide) (by kernel_rfl) []]
    by_cases hd0 : d = 0
    · subst hd0
      have hkl : ¬ ((k : Int) < l.length) := by omega
      simp [Try.f62, t22, t23, hkl]
      exact ⟨k, v6, b6, hk, by simp [t1], by simp [t2], by simp [t6], by simp [t21], by simp [t22], by simp [t23], R, nd, hlo, K⟩
    · have hlt : k < l.length := by omega
      have hlt' : (k : Int) < l.length := by omega
      have KB := (hK.trans KZ).trans a2
      obtain ⟨b, o, ro, xs, u1, u2, u3, u4⟩ := intAt (hs.kp (KB.trans K)) hlt
      have hx := hin l[k] (List.getElem_mem hlt)
      have htk : ackd L (l.take (k + 1)) = ackd L (l.take k) ++ (if inR L l[k] then [l[k]] else []) := by
        rw [List.take_succ_eq_append_getElem hlt]; simp only [ackd, List.filter_append]
        congr 1
        by_cases c : inR L l[k] <;> simp [c]
      have hol : (ackd L (l.take k)).length ≤ 4096 := by
        have := List.length_filter_le (fun x => decide (inR L x)) (l.take k)
        have h2 : (l.take k).length ≤ l.length := by simp; omega
        unfold ackd; omega
      have goal : ∀ (τ' : Tm) (h' : AH) (v5' : AV) (b5' : List Nat), AbI l L s f7 H.next H1 (k + 1) τ' h' v5' b5' → ∃ d', d' < d ∧ AbL l L s f7 H.next H1 d' τ' h' :=
        fun τ' h' v5' b5' a2 => ⟨d - 1, by omega, k + 1, v5', b5', by omega, a2⟩
      have a3 := inVar_ev l[k] h m (by omega)
      obtain ⟨h2, c1, c2⟩ := rangesHas_ev (N := l[k]) hr (KB.trans K) (by omega) m (by omega)
      have gh := (K.get _ (by omega)).trans g1
      have hprev : 0 < k → ∃ b o ro xs, idxA Try.prog 60 s (.int .i64 ((k - 1 : Nat) : Int)) = some (.ptr b o) ∧ h.get b = some (.cells 3 ro xs) ∧ ∃ y, xs[o]? = some (.int .i64 y) ∧ ¬ (l[k] ≤ y) := by
        intro h0
        obtain ⟨b, o, ro, xs, y1, y2, y3, y4⟩ := intAt (hs.kp (KB.trans K)) (k := k - 1) (by omega)
        refine ⟨b, o, ro, xs, y1, y3, _, y4, ?_⟩
        have := hso (k - 1) (by omega)
        simp only [show k - 1 + 1 = k by omega] at this
        omega
      generalize l[k] = x at *
      generalize ackd L (l.take k) = out at *
      have w1 : IntKind.i64.wrap ((k : Int) + 1) = ((k + 1 : Nat) : Int) := by rw [wrap_i64 (n := (k : Int) + 1) (by omega) (by omega)]; omega
      have fin : ∀ (τ' : Tm), τ' 1 = s → τ' 2 = .ptr H.next 0 → τ' 21 = s → τ' 22 = .int .i64 l.length → τ' 23 = .int .i64 ((k + 1 : Nat) : Int) → ∀ (v' : AV) (X' : AH) (b' : List Nat), τ' 6 = v' → (Ty.sl 3 (.int .i64)).R true X' [v'] (out ++ (if inR L x then [x] else [])) b' → b'.Nodup → (∀ b ∈ b', b ∈ b6 ∨ h2.next ≤ b) → KoS b6 h2 X' → ∃ d', d' < d ∧ AbL l L s f7 H.next H1 d' τ' X' := by
        intro τ' s1 s2 s21 s22 s23 v' X' b' s6 q2 q3 q4 q5
        refine goal _ _ v' b' ⟨s1, s2, s6, s21, s22, s23, by rw [htk]; exact q2, q3, fun z hz => ?_, KoS.kp (K.trans c2) q5 hlo⟩
        have := K.next; have := c2.next
        rcases q4 z hz with h' | h'; exact hlo z h'; omega
      have R' := R.kp c2
      by_cases hk0 : k = 0
      · have k0' := eq_false (show ¬ ((0 : Int) < k) by omega)
        have k0'' := eq_false (show ¬ (0 < k) by omega)
        by_cases c : inR L x
        · obtain ⟨v', X', b', q1, q2, q3, q4, q5⟩ := app3 R' nd (i64V hx) (by omega)
          simp [Try.f62, t1, t2, t6, t21, t22, t23, hlt, hlt', u1, u3, u4, a3, hx, k0', k0'', gh, c1, c, q1, w1, ldVar, fillA, zerosA, spl]
          exact fin _ (by simp [t1]) (by simp [t2]) (by simp [t21]) (by simp [t22]) (by simp) v' X' b' (by simp) (by rw [if_pos c]; exact q2) q3 q4 q5
        · simp [Try.f62, t1, t2, t6, t21, t22, t23, hlt, hlt', u1, u3, u4, a3, hx, k0', k0'', gh, c1, c, w1, ldVar]
          exact fin _ (by simp [t1]) (by simp [t2]) (by simp [t21]) (by simp [t22]) (by simp) v6 h2 b6 (by simp [t6]) (by rw [if_neg c, List.append_nil]; exact R') nd (fun z hz => .inl hz) (KoS.refl _ _)
      · have k0' := eq_true (show (0 : Int) < k by omega)
        have w0 : IntKind.i64.wrap ((k : Int) - 1) = ((k - 1 : Nat) : Int) := by rw [wrap_i64 (n := (k : Int) - 1) (by omega) (by omega)]; omega
        obtain ⟨bp, op, rp, xp, y1, y2, y, y3, y4⟩ := hprev (by omega)
        have y4' := eq_false y4
        have k0'' := eq_true (show 0 < k by omega)
        by_cases c : inR L x
        · obtain ⟨v', X', b', q1, q2, q3, q4, q5⟩ := app3 R' nd (i64V hx) (by omega)
          simp [Try.f62, t1, t2, t6, t21, t22, t23, hlt, hlt', u1, u3, u4, a3, hx, k0', k0'', w0, y1, y2, y3, y4', gh, c1, c, q1, w1, ldVar, fillA, zerosA, spl]
          exact fin _ (by simp [t1]) (by simp [t2]) (by simp [t21]) (by simp [t22]) (by simp) v' X' b' (by simp) (by rw [if_pos c]; exact q2) q3 q4 q5
        · simp [Try.f62, t1, t2, t6, t21, t22, t23, hlt, hlt', u1, u3, u4, a3, hx, k0', k0'', w0, y1, y2, y3, y4', gh, c1, c, w1, ldVar]
          exact fin _ (by simp [t1]) (by simp [t2]) (by simp [t21]) (by simp [t22]) (by simp) v6 h2 b6 (by simp [t6]) (by rw [if_neg c, List.append_nil]; exact R') nd (fun z hz => .inl hz) (KoS.refl _ _)) ⟨0, .slice H1.next 0 0, [H1.next], by simp, by simp, by simp, by simp, by simp, by simp, by simp, by simpa [ackd] using eA, by simp, by simp, KA⟩ (by omega))
  have R3 := X.R
  rw [List.take_of_length_le (by omega)] at R3
  have t6 := X.t6
  exact ⟨v6, H', by simp [Try.f62, t6], ⟨b6, R3⟩, (KZ.trans a2).trans X.K⟩
end Go.Ev

/- The law FnRanges: plain facts. -/
namespace Go.Ev
open Go Go.Proofs
set_option linter.unusedSimpArgs false
set_option linter.unusedVariables false

def sentL (k : Nat) : List Int := (List.range k).map Int.ofNat
theorem sentL_succ (k : Nat) : sentL (k + 1) = sentL k ++ [(k : Int)] := by simp [sentL, List.range_succ]
theorem sentL_len (k : Nat) : (sentL k).length = k := by simp [sentL]
theorem sentL_get (k i : Nat) (h : i < (sentL k).length) : (sentL k)[i] = i := by simp [sentL]
theorem ackd_succ (L : List Rg) (k : Nat) : ackd L (sentL (k + 1)) = ackd L (sentL k) ++ (if inR L k then [(k : Int)] else []) := by
  rw [sentL_succ]; simp only [ackd, List.filter_append]
  congr 1
  by_cases c : inR L k <;> simp [c]
/-- of a range's numbers those below k -/
def crR (r : Rg) (k : Int) : Int := if k ≤ r.1 then 0 else if k ≤ r.2 + 1 then k - r.1 else r.2 + 1 - r.1
def crL (L : List Rg) (k : Int) : Int := match L with
  | [] => 0
  | r :: l => crR r k + crL l k
theorem crL_zero : ∀ (L : List Rg), (∀ r ∈ L, 0 ≤ r.1) → crL L 0 = 0
  | [], _ => rfl
  | r :: l, h => by
    have := h r (by simp)
    simp only [crL, crR, if_pos this, crL_zero l fun x hx => h x (by simp [hx])]; rfl
theorem crL_top : ∀ (L : List Rg), (∀ r ∈ L, r.1 ≤ r.2 ∧ r.2 ≤ 399) → crL L 400 = cntR L
  | [], _ => rfl
  | r :: l, h => by
    have := h r (by simp)
    simp only [crL, cntR, crL_top l fun x hx => h x (by simp [hx])]
    unfold crR
    rw [if_neg (by omega)]
    split <;> omega
theorem crL_none : ∀ (L : List Rg) (q : Rg) (k : Int), rgL (some q) L → q.1 ≤ q.2 → k ≤ q.2 + 1 → crL L (k + 1) = crL L k ∧ ¬ inR L k
  | [], q, k, _, _, _ => ⟨rfl, inR_nil k⟩
  | r :: l, q, k, h, hq, hk => by
    have h1 := h.1.1
    have h2 := h.1.2.2.2 q rfl
    have ih := crL_none l r k h.2 h1 (by omega)
    refine ⟨?_, ?_⟩
    · simp only [crL, ih.1]
      unfold crR
      rw [if_pos (by omega), if_pos (by omega)]
    · rw [inR_cons]; rintro (⟨a, b⟩ | a)
      · omega
      · exact ih.2 a
theorem crL_step : ∀ (L : List Rg) (q : Option Rg) (k : Int), rgL q L → crL L (k + 1) = crL L k + (if inR L k then 1 else 0)
  | [], q, k, _ => by rw [if_neg (inR_nil k)]; rfl
  | r :: l, q, k, h => by
    have h1 := h.1.1
    by_cases c : k ≤ r.2
    · obtain ⟨e1, e2⟩ := crL_none l r k h.2 h1 (by omega)
      simp only [crL, e1]
      by_cases c2 : r.1 ≤ k
      · rw [if_pos ((inR_cons r l k).2 (.inl ⟨c2, c⟩))]
        unfold crR
        rw [if_neg (by omega), if_pos (by omega)]
        split <;> (try split) <;> omega
      · rw [if_neg (fun hh => by rcases (inR_cons r l k).1 hh with ⟨a, b⟩ | a; exact c2 a; exact e2 a)]
        unfold crR
        rw [if_pos (by omega), if_pos (by omega)]; omega
    · have ih := crL_step l _ k h.2
      have e : inR (r :: l) k ↔ inR l k := by rw [inR_cons]; constructor
                                              · rintro (⟨a, b⟩ | a); omega; exact a
                                              · exact fun a => .inr a
      simp only [crL, ih]
      have e2 : (if inR (r :: l) k then (1 : Int) else 0) = if inR l k then 1 else 0 := by by_cases z : inR l k <;> simp [z, e]
      rw [e2]
      have : crR r (k + 1) = crR r k := by unfold crR; rw [if_neg (by omega), if_neg (by omega), if_neg (by omega)]; split <;> omega
      omega
theorem ackd_cr {L : List Rg} (h : rgL none L) (h0 : ∀ r ∈ L, 0 ≤ r.1) : ∀ k : Nat, ((ackd L (sentL k)).length : Int) = crL L k
  | 0 => by have := crL_zero L h0; simpa [sentL, ackd] using this.symm
  | k + 1 => by
    rw [ackd_succ, List.length_append]
    have ih := ackd_cr h h0 k
    have st := crL_step L none k h
    push_cast
    rw [st, ih]
    by_cases c : inR L k <;> simp [c]
theorem ackd_cnt {L : List Rg} (h : rgL none L) (hb : ∀ r ∈ L, 0 ≤ r.1 ∧ r.1 ≤ r.2 ∧ r.2 ≤ 399) : ((ackd L (sentL 400)).length : Int) = cntR L := by
  rw [ackd_cr h (fun r hr => (hb r hr).1), ← crL_top L fun r hr => (hb r hr).2]; rfl
/-- from a number on -/
theorem frR_in (N : Int) : ∀ (L : List Rg) (m : Int), inR (frR N L) m ↔ inR L m ∧ N ≤ m
  | [], m => by simp [frR, inR]
  | r :: l, m => by
    have ih := frR_in N l m
    unfold frR
    by_cases c : N ≤ r.2
    · rw [if_pos c, List.singleton_append, inR_cons, inR_cons, ih]
      simp only
      constructor
      · rintro (⟨a, b⟩ | ⟨a, b⟩)
        · exact ⟨.inl ⟨by omega, b⟩, by omega⟩
        · exact ⟨.inr a, b⟩
      · rintro ⟨⟨a, b⟩ | a, b'⟩
        · exact .inl ⟨by omega, b⟩
        · exact .inr ⟨a, b'⟩
    · rw [if_neg c, List.nil_append, ih, inR_cons]
      constructor
      · rintro ⟨a, b⟩; exact ⟨.inr a, b⟩
      · rintro ⟨⟨a, b⟩ | a, b'⟩
        · omega
        · exact ⟨a, b'⟩
theorem frR_ok (N : Int) (hN : inV N) : ∀ (L : List Rg) (q : Option Rg), rgL q L → rgL q (frR N L)
  | [], q, _ => trivial
  | r :: l, q, h => by
    have h1 := h.1
    have ha := rgL_all h.2 h1.1
    unfold frR
    by_cases c : N ≤ r.2
    · rw [if_pos c, List.singleton_append]
      have a1 := h1.2.1; have a2 := h1.2.2.1
      unfold inV at a1 a2 hN
      exact ⟨⟨by simp only; have := h1.1; omega, by simp only; exact ⟨by omega, by omega⟩, a2, fun y hy => by have := h1.2.2.2 y hy; simp only; omega⟩, by
        have := frR_ok N hN l (some (max r.1 N, r.2)) (rgL_weak h.2 fun x hx y hy => by cases hy; have := ha x hx; exact this.1)
        exact this⟩
    · rw [if_neg c, List.nil_append]
      exact frR_ok N hN l q (rgL_weak h.2 fun x hx y hy => by have := h1.2.2.2 y hy; have := h1.1; have := ha x hx; omega)
theorem frR_rg {N : Int} (hN : inV N) {L : List Rg} (h : rgOK L) : rgOK (frR N L) := ⟨by have := frR_len N L; have := h.1; omega, frR_ok N hN L none h.2⟩
end Go.Ev

/- The law FnRanges: its first loop. -/
namespace Go.Ev
open Go Go.Proofs
set_option linter.unusedSimpArgs false
set_option linter.unusedVariables false

def hasC (f : Nat → Bool) : List AV := (List.range 400).map fun j => .bool (f j)
theorem hasC_len (f : Nat → Bool) : (hasC f).length = 400 := by simp [hasC]
theorem hasC_get (f : Nat → Bool) (n : Nat) (h : n < 400) : (hasC f)[n]? = some (.bool (f n)) := by simp [hasC, h]
theorem hasC_set (f : Nat → Bool) (n : Nat) (b : Bool) (h : n < 400) : (hasC f).set n (.bool b) = hasC fun j => if j = n then b else f j := by
  refine List.ext_getElem (by simp [hasC]) fun i h1 h2 => ?_
  simp only [hasC, List.length_map, List.length_range] at h2
  rw [List.getElem_set]
  simp only [hasC, List.getElem_map, List.getElem_range]
  split
  · rename_i e; simp [e]
  · rename_i e; rw [if_neg (fun x => e x.symm)]
theorem hasC_congr {f g : Nat → Bool} (h : ∀ j, j < 400 → f j = g j) : hasC f = hasC g := by
  refine List.ext_getElem (by simp [hasC]) fun i h1 h2 => ?_
  simp only [hasC, List.length_map, List.length_range] at h2
  simp only [hasC, List.getElem_map, List.getElem_range, h i h2]
theorem ix88 (p n : Nat) (h : n < 400) : idxA Try.prog 88 (.slice p 0 400) (.int .i64 n) = some (.ptr p n) := by
  simp [idxA]; omega
theorem stHas {X : AH} {p : Nat} {f : Nat → Bool} (g : X.get p = some (.cells 4 false (hasC f))) (n : Nat) (b : Bool) (h : n < 400) : stVar Try.prog 4 p n (.bool b) X = some (X.set p (.cells 4 false (hasC fun j => if j = n then b else f j))) := by
  have hl : n + 1 ≤ (hasC f).length := by rw [hasC_len]; omega
  simp [stVar, g, spl, hl, hasC_set f n b h]
theorem ldHas {X : AH} {p : Nat} {f : Nat → Bool} (g : X.get p = some (.cells 4 false (hasC f))) (n : Nat) (h : n < 400) : ldVar Try.prog 4 p n X = some (.bool (f n)) := by
  simp [ldVar, g, hasC_get f n h]
def numN (l : List Int) (i : Nat) : Int := if i % 2 = 1 then 399 - (3 * l.getD i 0 + i) % 400 else l.getD i 0
theorem numN_in {l : List Int} (hb : By l) {i : Nat} (hi : i < l.length) : 0 ≤ numN l i ∧ numN l i ≤ 399 := by
  have := hb (l.getD i 0) (by simp [hi])
  unfold numN; split <;> omega
structure L1T (τ : Tm) (s v3 : AV) (p4 i : Nat) : Prop where
  t0 : τ 0 = s
  t3 : τ 3 = v3
  t4 : τ 4 = .slice p4 0 400
  t5 : τ 5 = .int .i64 i
section
variable {s v3 : AV} {p4 i : Nat} {τ : Tm} {h : AH} {call : CallF} {m : Nat}
set_option maxRecDepth 20000 in
theorem rgA1 {Hb : AH} {l : List Int} (hs : Bs Hb s l) (hb : By l) (K : Kp Hb h) (hi : i < l.length) (h120 : i < 120) (T : L1T τ s v3 p4 i) :
    ∃ τ', evAt Try.prog call m 10 4004 τ h = evAt Try.prog call m 10 16019 τ' h ∧ L1T τ' s v3 p4 i ∧ τ' 6 = .int .i64 (numN l i) := by
  obtain ⟨t0, t3, t4, t5⟩ := T
  obtain ⟨b, o, a1, a2, a3⟩ := hs.at_
  have bn := a1 (by omega)
  have l1 := a3 h (K.get b bn) i hi
  have x1 := a2 i hi
  have hx := hb l[i] (List.getElem_mem hi)
  have hg : l.getD i 0 = l[i] := by simp [hi]
  have hc : ∀ Y : AH, convA Try.prog 5 3 (.int .u8 l[i]) Y = some (.int .i64 l[i], Y) := fun Y => by
    rw [conv_int (P := Try.prog) (k := .i64) (by simp; rfl) (by simp)]; rw [wrap_i64 (by omega) (by omega)]
  unfold numN
  rw [hg]
  generalize l[i] = x at *
  rw [at_M Try.func10 4004 (by decide) 12 (by decide) (by kernel_rfl) [16019]]
  by_cases c : i % 2 = 1
  · have e1 : (i : Int) % 2 = 1 := by omega
    have w1 : IntKind.i64.wrap (3 * x) = 3 * x := wrap_i64 (by omega) (by omega)
    have w2 : IntKind.i64.wrap (3 * x + i) = 3 * x + i := wrap_i64 (by omega) (by omega)
    have e2 : (3 * x + (i : Int)).tmod 400 = (3 * x + i) % 400 := Int.tmod_eq_emod_of_nonneg (by omega)
    have w3 : IntKind.i64.wrap (399 - (3 * x + (i : Int)) % 400) = 399 - (3 * x + i) % 400 := wrap_i64 (by omega) (by omega)
    rw [if_pos c]
    exact ⟨_, by simp [Try.f10, t0, t5, x1, l1, hc, tmodI, e1, w1, w2, e2, w3]; rfl, ⟨by simp [t0], by simp [t3], by simp [t4], by simp [t5]⟩, by simp⟩
  · have e1 : (i : Int) % 2 = 0 := by omega
    rw [if_neg c]
    exact ⟨_, by simp [Try.f10, t0, t5, x1, l1, hc, tmodI, e1]; rfl, ⟨by simp [t0], by simp [t3], by simp [t4], by simp [t5]⟩, by simp⟩
set_option maxRecDepth 20000 in
theorem rgA2 {L : List Rg} {b3 : List Nat} {f : Nat → Bool} {n : Nat} (hR : (Ty.sl 94 tT94).R true h [v3] L b3) (ok : rgOK L) (g4 : h.get p4 = some (.cells 4 false (hasC f))) (n4 : p4 < h.next) (hn : n < 400) (m : Nat) (hm : 100 ≤ m) (T : L1T τ s v3 p4 i) (t6 : τ 6 = .int .i64 n) :
    ∃ τ' h' v' b', evAt Try.prog (ev Try.prog m) m 10 16019 τ h = evAt Try.prog (ev Try.prog m) m 10 1025279 τ' h' ∧ L1T τ' s v' p4 i ∧ τ' 11 = .int .i64 0 ∧ (Ty.sl 94 tT94).R true h' [v'] (adP L n) b' ∧ h'.get p4 = some (.cells 4 false (hasC fun j => if j = n then true else f j)) ∧ (∀ b ∈ b', h.next ≤ b) ∧
      h.next ≤ h'.next ∧ ∀ b, b < h.next → b ≠ p4 → h'.get b = h.get b := by
  obtain ⟨t0, t3, t4, t5⟩ := T
  have hN : inV (n : Int) := ⟨by omega, by omega⟩
  obtain ⟨v7, H1, b7, a1, a2, a3, a4⟩ := RangesAddI_ev hR (Kp.refl h) ok hN m (by omega)
  obtain ⟨v9, H2, b9, c1, c2, c3⟩ := RangesAddS_ev hR a3 ok hN m (by omega)
  have law := adP_law ok hN
  have hl := law.1.1
  have d1 := sameRanges_ev (a2.kp c3) c2 (by omega) m (by omega)
  obtain ⟨H3, e1, e2⟩ := RangesOKS_ev (a2.kp c3) (Kp.refl H2) (by omega) m (by omega)
  have K3 := (a3.trans c3).trans e2
  have g3 := (K3.get p4 n4).trans g4
  have ix := ix88 p4 n hn
  have st := stHas g3 n true hn
  have n3 := K3.next
  have b7n : ∀ b ∈ b7, b < H1.next := fun b hb => a2.mem b hb
  rw [at_M Try.func10 16019 (by decide) 14 (by decide) (by kernel_rfl) [1025279]]
  refine ⟨_, H3.set p4 (.cells 4 false (hasC fun j => if j = n then true else f j)), v7, b7, by simp [Try.f10, t3, t4, t6, a1, c1, d1, e1, law.1, ix, st]; rfl, ⟨by simp [t0], by simp, by simp [t4], by simp [t5]⟩, by simp, ?_, by simp, a4, by simpa using n3, fun b hb hne => by rw [AH.set_getN _ _ hne]; exact K3.get b hb⟩
  exact (a2.kp (c3.trans e2)).stay (by simp) fun b hb => AH.set_getN _ _ (by have := a4 b hb; omega)
end
end Go.Ev

/- The law FnRanges: its first loop, whole. -/
namespace Go.Ev
open Go Go.Proofs
set_option linter.unusedSimpArgs false
set_option linter.unusedVariables false

def ClI (s v3 : AV) (p4 i lo : Nat) (g : Nat → Bool) (H : AH) (d : Nat) (τ : Tm) (h : AH) : Prop :=
  ∃ k : Nat, k + d = lo ∧ L1T τ s v3 p4 i ∧ τ 11 = .int .i64 k ∧ h.get p4 = some (.cells 4 false (hasC fun j => if j < k then false else g j)) ∧ h.next = H.next ∧ ∀ b, b ≠ p4 → h.get b = H.get b
set_option maxRecDepth 20000 in
theorem clLoop {s v3 : AV} {p4 i lo : Nat} {g : Nat → Bool} {H : AH} {L : List Rg} {b3 : List Nat} {x : Rg} {l : List Rg} (hR : (Ty.sl 94 tT94).R true H [v3] (x :: l) b3) (hx : x.1 = lo) (hlo : lo ≤ 399) (pb : p4 ∉ b3) (call : CallF) (m : Nat) (hm : 401 ≤ m) (τ : Tm) (h0 : AH) (hI : ClI s v3 p4 i lo g H lo τ h0) :
    ∃ e τ' H', evLoop Try.prog call m (lp Try.prog 10 2050558) τ h0 = some (e, τ', H') ∧ e = .exit 2 ∧ ClI s v3 p4 i lo g H 0 τ' H' := by
  refine loop_rule (d := lo) (ClI s v3 p4 i lo g H) (fun e τ h => e = .exit 2 ∧ ClI s v3 p4 i lo g H 0 τ h) ?_ hI (by omega)
  rintro d τ h ⟨k, hk, ⟨t0, t3, t4, t5⟩, t11, g4, hn, hb⟩
  have hR' : (Ty.sl 94 tT94).R true h [v3] (x :: l) b3 := hR.stay (by omega) fun b hb' => hb b (fun e => pb (by rw [← e]; exact hb'))
  obtain ⟨b, o, ro, xs, u1, u2, u3, u4, u5, u6, u7, i1, i2⟩ := rgAt hR' (k := 0) (by simp)
  simp only [List.getElem_cons_zero] at u6
  have u1' : idxA Try.prog 70 v3 (.int .i64 0) = some (.ptr b o) := u1
  rw [hx] at u6
  rw [lp_M Try.func10 2050558 (by decide) 21 (by decide) (by kernel_rfl) []]
  by_cases hd0 : d = 0
  · subst hd0
    have hkl := eq_false (show ¬ ((k : Int) < lo) by omega)
    have hkl' := eq_false (show ¬ (k < lo) by omega)
    simp [Try.f10, t3, t11, u1', u3, u6, hkl, hkl', ldVar]
    exact ⟨k, hk, ⟨by simp [t0], by simp [t3], by simp [t4], by simp [t5]⟩, by simp [t11], g4, hn, hb⟩
  · have hkl := eq_true (show ((k : Int) < lo) by omega)
    have hkl' := eq_true (show (k < lo) by omega)
    have hk4 := eq_true (show ((k : Int) < 400) by omega)
    have hk4' := eq_true (show (k < 400) by omega)
    have ix := ix88 p4 k (by omega)
    have st := stHas g4 k false (by omega)
    have l1 : ldVar Try.prog 3 b o h = some (.int .i64 lo) := by simp [ldVar, u3, u6]
    have w1 : IntKind.i64.wrap ((k : Int) + 1) = (k : Int) + 1 := wrap_i64 (n := (k : Int) + 1) (by omega) (by omega)
    have hc : (hasC fun j => if j = k then false else if j < k then false else g j) = hasC fun j => if j < k + 1 then false else g j := hasC_congr fun j _ => by
      by_cases c : j = k
      · subst c; simp
      · by_cases c2 : j < k
        · rw [if_neg c, if_pos c2, if_pos (by omega)]
        · rw [if_neg c, if_neg c2, if_neg (by omega)]
    rw [hc] at st
    simp [Try.f10, t3, t4, t11, u1', l1, hkl, hkl', hk4, hk4', ix, st, w1]
    exact ⟨d - 1, by omega, k + 1, by omega, ⟨by simp [t0], by simp [t3], by simp [t4], by simp [t5]⟩, by simp, by simp, by simpa using hn, fun z hz => by rw [AH.set_getN _ _ hz]; exact hb z hz⟩
structure L1H (H h : AH) (L : List Rg) (v3 : AV) (b3 : List Nat) (p4 : Nat) : Prop where
  R : (Ty.sl 94 tT94).R true h [v3] L b3
  ok : rgOK L
  bd : ∀ m, inR L m → 0 ≤ m ∧ m < 400
  g4 : h.get p4 = some (.cells 4 false (hasC fun j => decide (inR L j)))
  n4 : H.next ≤ p4 ∧ p4 < h.next
  pb : p4 ∉ b3
  lo : ∀ b ∈ b3, H.next ≤ b
  K : Kp H h
def L1L (l : List Int) (s : AV) (p4 N : Nat) (H : AH) (d : Nat) (τ : Tm) (h : AH) : Prop :=
  ∃ (i : Nat) (v3 : AV) (b3 : List Nat) (L : List Rg), i + d = N ∧ L1T τ s v3 p4 i ∧ L1H H h L v3 b3 p4
set_option maxRecDepth 20000 in
theorem l1Loop {Hb H h0 : AH} {s : AV} {l : List Int} {p4 : Nat} (hs : Bs Hb s l) (hb : By l) (hK : Kp Hb H) (m : Nat) (hm : 500 ≤ m) (τ : Tm) (hI : L1L l s p4 (min l.length 120) H (min l.length 120) τ h0) :
    ∃ e τ' H', evLoop Try.prog (ev Try.prog m) m (lp Try.prog 10 250) τ h0 = some (e, τ', H') ∧ e = .exit 0 ∧ L1L l s p4 (min l.length 120) H 0 τ' H' := by
  refine loop_rule (d := min l.length 120) (L1L l s p4 (min l.length 120) H) (fun e τ h => e = .exit 0 ∧ L1L l s p4 (min l.length 120) H 0 τ h) ?_ hI (by omega)
  rintro d τ h ⟨i, v3, b3, L, hi, T, X⟩
  have T0 := T
  obtain ⟨t0, t3, t4, t5⟩ := T
  have hL := hs.len
  rw [lp_M Try.func10 250 (by decide) 8 (by decide) (by kernel_rfl) [4004]]
  by_cases hd0 : d = 0
  · subst hd0
    by_cases c : i < l.length
    · have c1 := eq_true (show (i : Int) < l.length by omega)
      have c2 := eq_true c
      have c3 := eq_false (show ¬ ((i : Int) < 120) by omega)
      have c4 := eq_false (show ¬ (i < 120) by omega)
      simp [Try.f10, t0, t5, hL, c1, c2, c3, c4]
      exact ⟨i, v3, b3, L, hi, ⟨by simp [t0], by simp [t3], by simp [t4], by simp [t5]⟩, X⟩
    · have c1 := eq_false (show ¬ ((i : Int) < l.length) by omega)
      have c2 := eq_false c
      simp [Try.f10, t0, t5, hL, c1, c2]
      exact ⟨i, v3, b3, L, hi, ⟨by simp [t0], by simp [t3], by simp [t4], by simp [t5]⟩, X⟩
  · have hlt : i < l.length := by omega
    have h120 : i < 120 := by omega
    have c1 := eq_true (show (i : Int) < l.length by omega)
    have c2 := eq_true hlt
    have c3 := eq_true (show ((i : Int) < 120) by omega)
    have c4 := eq_true h120
    simp [Try.f10, t0, t5, hL, c1, c2, c3, c4]
    generalize hτ1 : upd _ 39 _ = τ1
    have T1 : L1T τ1 s v3 p4 i := by rw [← hτ1]; exact ⟨by simp [t0], by simp [t3], by simp [t4], by simp [t5]⟩
    clear hτ1
    obtain ⟨R, ok, bd, g4, n4, pb, lo3, K⟩ := X
    obtain ⟨τ2, e1, T2, s6⟩ := rgA1 (call := ev Try.prog m) (m := m) hs hb (hK.trans K) hlt h120 T1
    have hnn := numN_in hb hlt
    obtain ⟨n, hn⟩ : ∃ n : Nat, numN l i = n := ⟨(numN l i).toNat, by omega⟩
    rw [hn] at hnn s6
    obtain ⟨τ3, h3, v', b', e2, T3, s11, R3, g3, lo', n3, r3⟩ := rgA2 R ok g4 n4.2 (by omega) m (by omega) T2 s6
    have law := adP_law ok (n := (n : Int)) ⟨by omega, by omega⟩
    generalize adP L n = L' at *
    obtain ⟨ok', x, l', hx, hin⟩ := law
    subst hx
    have hxx : inR (x :: l') x.1 := (inR_cons x l' x.1).2 (.inl ⟨Int.le_refl _, ok'.2.1.1⟩)
    have hb0 := (hin x.1).1 hxx
    have hx0 : 0 ≤ x.1 ∧ x.1 ≤ 399 := by
      rcases hb0.1 with h | h
      · have := bd _ h; omega
      · omega
    obtain ⟨lo, hlo⟩ : ∃ lo : Nat, x.1 = lo := ⟨x.1.toNat, by omega⟩
    have hKn := K.next
    rw [e1, e2, at_M Try.func10 1025279 (by decide) 20 (by decide) (by kernel_rfl) []]
    simp [Try.f10]
    generalize hLo : evLoop _ _ _ _ _ _ = Z
    obtain ⟨e, τ4, H4, rfl, rfl, k, hk, T4, s4, g4', n4', r4⟩ := loop_at hLo (clLoop (L := L) (g := fun j => if j = n then true else decide (inR L j)) R3 hlo (by omega) (fun hh => by have := lo' _ hh; omega) (ev Try.prog m) m (by omega) _ _ ⟨0, by omega, T3, s11, by simpa using g3, rfl, fun b _ => rfl⟩)
    have w1 : IntKind.i64.wrap ((i : Int) + 1) = ((i + 1 : Nat) : Int) := by rw [wrap_i64 (n := (i : Int) + 1) (by omega) (by omega)]; omega
    have s5 := T4.t5
    simp [s5, w1]
    refine ⟨d - 1, by omega, i + 1, v', b', x :: l', by omega, ⟨by simp [T4.t0], by simp [T4.t3], by simp [T4.t4], by simp⟩, ?_, ok', ?_, ?_, ?_, ?_, ?_, ?_⟩
    · exact R3.stay (by omega) fun b hb => r4 b (by have := lo' b hb; omega)
    · intro m hm
      rcases ((hin m).1 hm).1 with h | h
      · exact bd m h
      · omega
    · rw [g4']
      congr 2
      refine hasC_congr fun j hj => ?_
      have hk' : k = lo := by omega
      rw [hk']
      have := hin j
      rw [hlo] at this
      by_cases c : j < lo
      · rw [if_pos c]
        symm
        simp only [decide_eq_false_iff_not]
        intro hh; have := (this.1 hh).2; omega
      · rw [if_neg c]
        show (if j = n then true else decide (inR L (j : Int))) = _
        by_cases c2 : j = n
        · rw [if_pos c2]
          symm
          simp only [decide_eq_true_eq]
          exact this.2 ⟨.inr (by omega), by omega⟩
        · rw [if_neg c2]
          simp only [decide_eq_decide]
          constructor
          · intro hh; exact this.2 ⟨.inl hh, by omega⟩
          · intro hh
            rcases (this.1 hh).1 with h | h
            · exact h
            · omega
    · omega
    · intro hh; have := lo' _ hh; omega
    · intro z hz; have := lo' z hz; omega
    · refine ⟨by omega, fun z hz => ?_⟩
      rw [r4 z (by omega), r3 z (by omega) (by omega)]; exact K.get z hz
end Go.Ev

/- The law FnRanges: its second loop. -/
namespace Go.Ev
open Go Go.Proofs
set_option linter.unusedSimpArgs false
set_option linter.unusedVariables false

structure L2T (τ : Tm) (v3 v13 v14 : AV) (p4 cnt k : Nat) : Prop where
  t3 : τ 3 = v3
  t4 : τ 4 = .slice p4 0 400
  t12 : τ 12 = .int .i64 cnt
  t13 : τ 13 = v13
  t14 : τ 14 = v14
  t15 : τ 15 = .int .i64 k
structure L2H (H h : AH) (L : List Rg) (v13 v14 : AV) (b13 b14 : List Nat) (k : Nat) : Prop where
  R13 : (Ty.sl 3 (.int .i64)).R true h [v13] (sentL k) b13
  R14 : (Ty.sl 3 (.int .i64)).R true h [v14] (ackd L (sentL k)) b14
  n13 : b13.Nodup
  n14 : b14.Nodup
  dj : ∀ b ∈ b13, b ∉ b14
  lo : ∀ b, b ∈ b13 ∨ b ∈ b14 → H.next ≤ b
  K : Kp H h
def L2L (L : List Rg) (v3 : AV) (p4 : Nat) (H : AH) (d : Nat) (τ : Tm) (h : AH) : Prop :=
  ∃ (k : Nat) (v13 v14 : AV) (b13 b14 : List Nat), k + d = 400 ∧ L2T τ v3 v13 v14 p4 (ackd L (sentL k)).length k ∧ L2H H h L v13 v14 b13 b14 k
theorem ackd_le (L : List Rg) (k : Nat) : (ackd L (sentL k)).length ≤ k := by
  have := List.length_filter_le (fun x => decide (inR L x)) (sentL k)
  rw [sentL_len] at this; exact this
set_option maxRecDepth 20000 in
theorem l2Loop {H h0 : AH} {L : List Rg} {v3 : AV} {p4 : Nat} {b3 : List Nat} (R3 : (Ty.sl 94 tT94).R true H [v3] L b3) (ok : rgOK L) (g4 : H.get p4 = some (.cells 4 false (hasC fun j => decide (inR L j)))) (n4 : p4 < H.next) (m : Nat) (hm : 500 ≤ m) (τ : Tm) (hI : L2L L v3 p4 H 400 τ h0) :
    ∃ e τ' H', evLoop Try.prog (ev Try.prog m) m (lp Try.prog 10 4090) τ h0 = some (e, τ', H') ∧ e = .exit 4 ∧ L2L L v3 p4 H 0 τ' H' := by
  refine loop_rule (d := 400) (L2L L v3 p4 H) (fun e τ h => e = .exit 4 ∧ L2L L v3 p4 H 0 τ h) ?_ hI (by omega)
  rintro d τ h ⟨k, v13, v14, b13, b14, hk, ⟨t3, t4, t12, t13, t14, t15⟩, X⟩
  rw [lp_M Try.func10 4090 (by decide) 12 (by decide) (by kernel_rfl) []]
  by_cases hd0 : d = 0
  · subst hd0
    have hkl := eq_false (show ¬ ((k : Int) < 400) by omega)
    have hkl' := eq_false (show ¬ (k < 400) by omega)
    simp [Try.f10, t15, hkl, hkl']
    exact ⟨k, v13, v14, b13, b14, hk, ⟨by simp [t3], by simp [t4], by simp [t12], by simp [t13], by simp [t14], by simp [t15]⟩, X⟩
  · have hk4 : k < 400 := by omega
    have hkl := eq_true (show ((k : Int) < 400) by omega)
    have hkl' := eq_true hk4
    obtain ⟨R13, R14, n13, n14, dj, lo, K⟩ := X
    have ik : InK .i64 (k : Int) := InK.i64 (by omega) (by omega)
    have hKn := K.next
    obtain ⟨v', X1, b', q1, q2, q3, q4, q5⟩ := app3 R13 n13 ik (by rw [sentL_len]; omega)
    have K1 : Kp H X1 := KoS.kp K q5 fun z hz => lo z (.inl hz)
    obtain ⟨X2, c1, c2⟩ := RangesHas_ev (N := (k : Int)) R3 K1 ok m (by omega)
    have K2 := K1.trans c2
    have g2 := (K2.get p4 n4).trans g4
    have ix := ix88 p4 k hk4
    have ld := ldHas g2 k hk4
    have ld1 := ldHas ((K1.get p4 n4).trans g4) k hk4
    have w1 : IntKind.i64.wrap ((k : Int) + 1) = (k : Int) + 1 := wrap_i64 (n := (k : Int) + 1) (by omega) (by omega)
    have hcl := ackd_le L k
    have w2 : IntKind.i64.wrap (((ackd L (sentL k)).length : Int) + 1) = ((ackd L (sentL k)).length : Int) + 1 := wrap_i64 (by omega) (by omega)
    have R14' : (Ty.sl 3 (.int .i64)).R true X2 [v14] (ackd L (sentL k)) b14 := (R14.koS q5 fun b hb hx => dj b hx hb).kp c2
    have m14 : ∀ b ∈ b14, b < h.next := fun b hb => R14.mem b hb
    have hlo' : ∀ b ∈ b', H.next ≤ b := fun b hb => by rcases q4 b hb with hh | hh; exact lo b (.inl hh); omega
    have q5n := q5.next
    have c2n := c2.next
    have b'n : ∀ b ∈ b', b < X1.next := fun b hb => q2.mem b hb
    have hs := sentL_succ k
    have ha := ackd_succ L k
    by_cases c : inR L k
    · rw [if_pos c] at ha
      obtain ⟨v2, X3, b2, r1, r2, r3, r4, r5⟩ := app3 R14' n14 ik (by omega)
      have hal : (ackd L (sentL (k + 1))).length = (ackd L (sentL k)).length + 1 := by rw [ha]; simp
      simp [Try.f10, t3, t4, t12, t13, t14, t15, hkl, hkl', q1, c1, ix, ld, ld1, c, r1, w1, w2, fillA, zerosA, spl, evHist, ObsOk, ObOk, List.getElem?_cons_zero]
      refine ⟨d - 1, by omega, k + 1, v', v2, b', b2, by omega, ⟨by simp [t3], by simp [t4], by simp [hal], by simp, by simp, by simp⟩, ⟨?_, by rw [ha]; exact r2, q3, r3, ?_, ?_, ?_⟩⟩
      · rw [hs]
        exact (q2.kp c2).koS r5 fun b hb hx => by rcases q4 b hb with hh | hh; exact dj b hh hx; have := m14 b hx; omega
      · intro b hb hx
        rcases r4 b hx with hh | hh
        · rcases q4 b hb with h1 | h1
          · exact dj b h1 hh
          · have := m14 b hh; omega
        · have := b'n b hb; omega
      · intro b hb
        rcases hb with hb | hb
        · exact hlo' b hb
        · rcases r4 b hb with hh | hh
          · exact lo b (.inr hh)
          · omega
      · exact KoS.kp K2 r5 fun z hz => lo z (.inr hz)
    · rw [if_neg c, List.append_nil] at ha
      simp [Try.f10, t3, t4, t12, t13, t14, t15, hkl, hkl', q1, c1, ix, ld, ld1, c, w1, w2, fillA, zerosA, spl, evHist, ObsOk, ObOk, List.getElem?_cons_zero]
      refine ⟨d - 1, by omega, k + 1, v', v14, b', b14, by omega, ⟨by simp [t3], by simp [t4], by simp [t12, ha], by simp, by simp [t14], by simp⟩, ⟨by rw [hs]; exact q2.kp c2, by rw [ha]; exact R14', q3, n14, ?_, ?_, K2⟩⟩
      · intro b hb hx
        rcases q4 b hb with hh | hh
        · exact dj b hh hx
        · have := m14 b hx; omega
      · intro b hb
        rcases hb with hb | hb
        · exact hlo' b hb
        · exact lo b (.inr hb)
end Go.Ev

/- Numbers of changing length: their bytes, and these read again. -/
namespace Go.Ev
open Go Go.Proofs
set_option linter.unusedSimpArgs false
set_option linter.unusedVariables false

def digB : Nat → Int → List Int
  | 0, _ => []
  | n + 1, x => (x / 256 ^ n % 256) :: digB n x
def vL (v : Int) : Nat := if v < 64 then 1 else if v < 16384 then 2 else if v < 1073741824 then 4 else 8
def vM (n : Nat) : Int := if n = 1 then 0 else if n = 2 then 64 else if n = 4 then 128 else 192
def encV (v : Int) : List Int := (v / 256 ^ (vL v - 1) % 256 + vM (vL v)) :: digB (vL v - 1) v
theorem digB_len : ∀ n x, (digB n x).length = n
  | 0, x => rfl
  | n + 1, x => by simp [digB, digB_len n x]
theorem vL_cases (v : Int) : vL v = 1 ∨ vL v = 2 ∨ vL v = 4 ∨ vL v = 8 := by unfold vL; split; exact .inl rfl; split; exact .inr (.inl rfl); split; exact .inr (.inr (.inl rfl)); exact .inr (.inr (.inr rfl))
theorem encV_len (v : Int) : (encV v).length = vL v := by
  rcases vL_cases v with h | h | h | h <;> simp [encV, digB_len, h]
theorem digB_by : ∀ n x, By (digB n x)
  | 0, x => by simp [digB, By]
  | n + 1, x => by
    intro y hy
    simp only [digB, List.mem_cons] at hy
    rcases hy with rfl | hy
    · constructor <;> omega
    · exact digB_by n x y hy
theorem encV_by {v : Int} (h0 : 0 ≤ v) (h1 : v ≤ 4611686018427387903) : By (encV v) := by
  intro y hy
  simp only [encV, List.mem_cons] at hy
  rcases hy with rfl | hy
  · unfold vL vM
    split
    · simp; omega
    · split
      · simp; omega
      · split
        · simp; omega
        · simp; omega
  · exact digB_by _ _ y hy
/-- read at its place -/
theorem getVar_enc {pre post : List Int} {v : Int} (h0 : 0 ≤ v) (h1 : v ≤ 4611686018427387903) : getVarP (pre ++ (encV v ++ post)) pre.length = (v, ((pre.length + vL v : Nat) : Int), 0) := by
  have hl := encV_len v
  have hd : (pre ++ (encV v ++ post)).getD pre.length 0 = v / 256 ^ (vL v - 1) % 256 + vM (vL v) := by
    simp [encV]
  have gv : ∀ (t k : Int), t / 64 = k → gvN t = 2 ^ k.toNat := fun t k h => by unfold gvN; rw [h]
  have hg : gvN (v / 256 ^ (vL v - 1) % 256 + vM (vL v)) = vL v := by
    unfold vL
    by_cases c1 : v < 64
    · simp only [if_pos c1]; exact gv _ 0 (by simp [vM]; omega)
    · simp only [if_neg c1]
      by_cases c2 : v < 16384
      · simp only [if_pos c2]; exact gv _ 1 (by simp [vM]; omega)
      · simp only [if_neg c2]
        by_cases c3 : v < 1073741824
        · simp only [if_pos c3]; exact gv _ 2 (by simp [vM]; omega)
        · simp only [if_neg c3]; exact gv _ 3 (by simp [vM]; omega)
  have hdt : ((pre ++ (encV v ++ post)).drop pre.length).take (vL v) = encV v := by
    rw [List.drop_left, ← hl, List.take_left]
  have hv : valP (encV v) % 2 ^ (8 * vL v - 2) = v := by
    unfold encV vL vM
    split
    · simp [digB, valP]; omega
    · split
      · simp [digB, valP]; omega
      · split
        · simp [digB, valP]; omega
        · simp [digB, valP]; omega
  unfold getVarP
  rw [hd, hg, if_neg (by simp [encV]), if_neg (by simp [hl]; omega), hdt, hv]
  simp
end Go.Ev

/- Numbers of changing length put behind bytes. -/
namespace Go.Ev
open Go Go.Proofs
set_option linter.unusedSimpArgs false
set_option linter.unusedVariables false

/-- bytes of one's own -/
def BO (H : AH) (v : AV) (l : List Int) (b : Nat) : Prop := v = .slice b 0 l.length ∧ b < H.next ∧ H.get b = some (.cells 5 false (u8L l))
theorem BO.kp {H H' : AH} {v : AV} {l : List Int} {b : Nat} (h : BO H v l b) (hK : Kp H H') : BO H' v l b := ⟨h.1, by have := hK.next; have := h.2.1; omega, by rw [hK.get b h.2.1]; exact h.2.2⟩
theorem BO.bs {H : AH} {v : AV} {l : List Int} {b : Nat} (h : BO H v l b) : Bs H v l := by rw [h.1]; exact Bs.mk' h.2.2 h.2.1
theorem BO.R {H : AH} {v : AV} {l : List Int} {b : Nat} (h : BO H v l b) (hb : By l) : (Ty.sl 5 (.int .u8)).R true H [v] l [b] := by
  rw [h.1]; exact ints_one h.2.1 h.2.2 fun d hd => by have := hb d hd; exact ⟨this.1, by have := this.2; simp [IntKind.max, IntKind.signed, IntKind.bits]; omega⟩
theorem u8L_app (l m : List Int) : u8L (l ++ m) = u8L l ++ u8L m := by simp [u8L]
theorem BO.app1 {H : AH} {v : AV} {l : List Int} {b : Nat} {x : Int} (h : BO H v l b) (hl : l.length ≤ 1000000) :
    ∃ v' X' b', appA Try.prog 34 34 v (.slice H.next 0 1) (H.push (.cells 5 false [.int .u8 x])) = some (v', X') ∧ BO X' v' (l ++ [x]) b' ∧ KoS [b] H X' ∧ H.next ≤ b' := by
  obtain ⟨rfl, h2, h3⟩ := h
  have hne : ¬ (b = H.next) := by omega
  have hw : (u8L l).length = l.length := u8L_len l
  have ht : (u8L l).take l.length = u8L l := by rw [← hw, List.take_length]
  refine ⟨.slice (H.next + 1) 0 (l.length + 1), ((H.push (.cells 5 false [.int .u8 x])).kill b).push (.cells 5 false (u8L l ++ [.int .u8 x])), H.next + 1, ?_, ⟨by simp, by simp, by rw [u8L_app]; simp [u8L]⟩, ⟨by simp; omega, fun z hz hzb => ?_⟩, by omega⟩
  · simp [appA, newsA, rowOf, hne, h3, hw, ht]
    omega
  · have : z ≠ b := fun e => hzb (by simp [e])
    rw [AH.push_get, if_neg (by simp; omega), AH.kill_get, if_neg this, AH.push_get, if_neg (by omega)]
theorem VarLen_ev (v : Int) (h0 : 0 ≤ v) (h1 : v ≤ 4611686018427387903) (H : AH) (m : Nat) (hm : 2 ≤ m) : ev Try.prog m 256 [.int .i64 v] H = some (.int .i64 (vL v), H) := by
  obtain ⟨m, rfl⟩ : ∃ k, m = k + 1 := ⟨m - 1, by omega⟩
  have a := inVar_ev v H m (by omega)
  have hv : inV v := ⟨h0, h1⟩
  rw [ev_M Try.func256 ok256 [] m _ H (by simp [Try.f256])]
  unfold vL
  by_cases c1 : v < 64
  · simp [Try.f256, tm0, a, hv, c1]
  · by_cases c2 : v < 16384
    · simp [Try.f256, tm0, a, hv, c1, c2]
    · by_cases c3 : v < 1073741824
      · simp [Try.f256, tm0, a, hv, c1, c2, c3]
      · simp [Try.f256, tm0, a, hv, c1, c2, c3]
theorem byte_at {x : Int} {j : Nat} (h0 : 0 ≤ x) : IntKind.u8.wrap (x.fdiv (2 ^ (8 * j))) = x / 256 ^ j % 256 := by
  have e : (2 : Int) ^ (8 * j) = 256 ^ j := by rw [Int.pow_mul]; rfl
  rw [e, Int.fdiv_eq_ediv_of_nonneg _ (Int.pow_nonneg (by decide))]
  rw [IntKind.wrap_u8]
def FxI (x : Int) (n : Nat) (l : List Int) (b0 : Nat) (H : AH) (d : Nat) (τ : Tm) (h : AH) : Prop :=
  ∃ (v : AV) (pre : List Int) (b : Nat), τ 0 = v ∧ τ 1 = .int .i64 x ∧ τ 7 = .int .i64 ((d : Int) - 1) ∧ pre ++ digB d x = digB n x ∧ d ≤ n ∧ BO h v (l ++ pre) b ∧ KoS [b0] H h ∧ (b = b0 ∨ H.next ≤ b)
set_option maxRecDepth 20000 in
theorem fixedN_ev {H : AH} {v : AV} {l : List Int} {b : Nat} {x : Int} {n : Nat} (h : BO H v l b) (hl : l.length ≤ 100000) (hn : n ≤ 8) (h0 : 0 ≤ x) (h1 : x ≤ 4611686018427387903) (m : Nat) (hm : 12 ≤ m) :
    ∃ v' H' b', ev Try.prog m 190 [v, .int .i64 x, .int .i64 n] H = some (v', H') ∧ BO H' v' (l ++ digB n x) b' ∧ KoS [b] H H' ∧ (b' = b ∨ H.next ≤ b') := by
  obtain ⟨m, rfl⟩ : ∃ k, m = k + 1 := ⟨m - 1, by omega⟩
  have w0 : IntKind.i64.wrap ((n : Int) - 1) = (n : Int) - 1 := wrap_i64 (by omega) (by omega)
  have wx : IntKind.u64.wrap x = x := by rw [IntKind.wrap_u64]; omega
  rw [ev_M Try.func190 ok190 [] _ _ H (by simp [Try.f190])]
  simp [Try.f190, tm0, w0]
  generalize hLo : evLoop _ _ _ _ _ _ = R
  obtain ⟨e, τ', H', rfl, rfl, g⟩ := loop_at hLo (loop_rule (d := n) (FxI x n l b H) (fun e τ h => e = .exit 0 ∧ FxI x n l b H 0 τ h) (by
    rintro d τ hh ⟨v, pre, b1, t0, t1, t7, hp, hd, B, K, hb⟩
    rw [lp_M Try.func190 26 (by decide) 5 (by decide) (by kernel_rfl) []]
    by_cases hd0 : d = 0
    · subst hd0
      have hkl : ¬ (0 ≤ (((0 : Nat) : Int) - 1)) := by omega
      simp [Try.f190, t7, hkl]
      exact ⟨v, pre, b1, by simp [t0], by simp [t1], by simp [t7], hp, hd, B, K, hb⟩
    · obtain ⟨j, rfl⟩ : ∃ j, d = j + 1 := ⟨d - 1, by omega⟩
      have e1 : (((j + 1 : Nat) : Int) - 1) = j := by omega
      rw [e1] at t7
      have hj : (0 : Int) ≤ j := by omega
      have hpl : pre.length + (j + 1) = n := by have := congrArg List.length hp; simpa [digB_len] using this
      obtain ⟨v', X', b', q1, q2, q3, q4⟩ := B.app1 (x := x / 256 ^ j % 256) (by simp; omega)
      have w1 : IntKind.i64.wrap (8 * (j : Int)) = 8 * j := wrap_i64 (by omega) (by omega)
      have w2 : IntKind.i64.wrap ((j : Int) - 1) = (j : Int) - 1 := wrap_i64 (by omega) (by omega)
      have hmin : min (8 * (j : Int)).toNat 64 = 8 * j := by omega
      have hby := byte_at (x := x) (j := j) h0
      have hn8 := eq_false (show ¬ (8 * (j : Int) < 0) by omega)
      simp [Try.f190, t0, t1, t7, hj, w1, w2, wx, hmin, hby, hn8, q1, convA, shiftA, IntKind.bits, fillA, zerosA, spl]
      refine ⟨j, by omega, v', pre ++ [x / 256 ^ j % 256], b', by simp, by simp [t1], by simp, by rw [← hp]; simp [digB], by omega, by rw [← List.append_assoc]; exact q2, ?_, ?_⟩
      · refine K.trans q3 fun z hz => ?_
        simp at hz; subst hz
        rcases hb with h | h; simp [h]; exact .inr h
      · have := K.next; exact .inr (by omega)) ⟨v, [], b, by simp, by simp, by simp, by simp, by omega, by simpa using h, KoS.refl _ _, .inl rfl⟩ (by omega))
  obtain ⟨v', pre, b', t0, t1, t7, hp, hd, B, K, hb⟩ := g
  simp only [digB, List.append_nil] at hp
  subst hp
  exact ⟨v', H', by simp [t0], b', B, K, hb⟩
end Go.Ev

/- Numbers of changing length put behind bytes, whole. -/
namespace Go.Ev
open Go Go.Proofs
set_option linter.unusedSimpArgs false
set_option linter.unusedVariables false

theorem or_fin : ∀ a : Fin 64, bits .or .u8 (a.val : Int) 0 = a.val ∧ bits .or .u8 (a.val : Int) 64 = a.val + 64 ∧ bits .or .u8 (a.val : Int) 128 = a.val + 128 ∧ bits .or .u8 (a.val : Int) 192 = a.val + 192 := by decide
theorem or_mark {a : Int} (h0 : 0 ≤ a) (h1 : a < 64) : bits .or .u8 a 0 = a ∧ bits .or .u8 a 64 = a + 64 ∧ bits .or .u8 a 128 = a + 128 ∧ bits .or .u8 a 192 = a + 192 := by
  obtain ⟨n, rfl⟩ := Int.eq_ofNat_of_zero_le h0
  exact or_fin ⟨n, by omega⟩
theorem enc_or {v : Int} (h0 : 0 ≤ v) (h1 : v ≤ 4611686018427387903) : bits .or .u8 (v / 256 ^ (vL v - 1) % 256) (vM (vL v)) = v / 256 ^ (vL v - 1) % 256 + vM (vL v) := by
  unfold vL
  by_cases c1 : v < 64
  · simp only [if_pos c1]
    have := (or_mark (a := v / 256 ^ (1 - 1) % 256) (by simp; omega) (by simp; omega)).1
    simpa [vM] using this
  · simp only [if_neg c1]
    by_cases c2 : v < 16384
    · simp only [if_pos c2]
      have := (or_mark (a := v / 256 ^ (2 - 1) % 256) (by simp; omega) (by simp; omega)).2.1
      simpa [vM] using this
    · simp only [if_neg c2]
      by_cases c3 : v < 1073741824
      · simp only [if_pos c3]
        have := (or_mark (a := v / 256 ^ (4 - 1) % 256) (by simp; omega) (by simp; omega)).2.2.1
        simpa [vM] using this
      · simp only [if_neg c3]
        have := (or_mark (a := v / 256 ^ (8 - 1) % 256) (by simp; omega) (by simp; omega)).2.2.2
        simpa [vM] using this
def marksC : List AV := [.int .u8 0, .int .u8 0, .int .u8 64, .int .u8 0, .int .u8 128, .int .u8 0, .int .u8 0, .int .u8 0, .int .u8 192]
theorem marks_at (n : Nat) (h : n = 1 ∨ n = 2 ∨ n = 4 ∨ n = 8) : marksC[n]? = some (.int .u8 (vM n)) := by rcases h with rfl | rfl | rfl | rfl <;> rfl
theorem ixM (p n : Nat) (h : n < 9) : idxA Try.prog 310 (.ptr p 0) (.int .i64 n) = some (.ptr p n) := by
  simp [idxA]; omega
theorem digB_first {v : Int} : digB (vL v) v = (v / 256 ^ (vL v - 1) % 256) :: digB (vL v - 1) v := by
  have : vL v = (vL v - 1) + 1 := by rcases vL_cases v with h | h | h | h <;> omega
  rw [this]; simp [digB]
set_option maxRecDepth 20000 in
theorem addVar_ev {H : AH} {v : AV} {l : List Int} {b : Nat} {x : Int} (h : BO H v l b) (hl : l.length ≤ 100000) (h0 : 0 ≤ x) (h1 : x ≤ 4611686018427387903) (m : Nat) (hm : 14 ≤ m) :
    ∃ v' H' b', ev Try.prog m 180 [v, .int .i64 x] H = some (v', H') ∧ BO H' v' (l ++ encV x) b' ∧ KoS [b] H H' ∧ (b' = b ∨ H.next ≤ b') := by
  obtain ⟨m, rfl⟩ : ∃ k, m = k + 1 := ⟨m - 1, by omega⟩
  have hc := vL_cases x
  have hn : vL x ≤ 8 := by omega
  have a1 := VarLen_ev x h0 h1 H m (by omega)
  obtain ⟨v1, H1, b1, c1, c2, c3, c4⟩ := fixedN_ev (n := vL x) h hl hn h0 h1 m (by omega)
  have hL := h.bs.len
  let A : AH := H1.push (.cells 310 false marksC)
  have hA : H1.push (.cells 310 false marksC) = A := rfl
  have KA : Kp H1 A := (Kp.refl H1).push _
  have gA : A.get H1.next = some (.cells 310 false marksC) := by simp [A]
  have nA : A.next = H1.next + 1 := by simp [A]
  clear_value A
  obtain ⟨r1, r2, r3⟩ := c2.kp KA
  have r2' := c2.2.1
  rw [digB_first] at r1 r3
  have hor := enc_or h0 h1
  have hmk := marks_at (vL x) hc
  have hix := ixM H1.next (vL x) (by omega)
  have hll : (u8L l).length = l.length := u8L_len l
  have e1 : (u8L (l ++ (x / 256 ^ (vL x - 1) % 256) :: digB (vL x - 1) x))[l.length]? = some (.int .u8 (x / 256 ^ (vL x - 1) % 256)) := by
    rw [u8L_app, List.getElem?_append_right (by omega), hll]; simp [u8L]
  have ei : idxA Try.prog 34 v1 (.int .i64 l.length) = some (.ptr b1 l.length) := by rw [r1]; simp [idxA]; omega
  have est : spl (u8L (l ++ (x / 256 ^ (vL x - 1) % 256) :: digB (vL x - 1) x)) l.length [.int .u8 (x / 256 ^ (vL x - 1) % 256 + vM (vL x))] = u8L (l ++ encV x) := by
    rw [u8L_app, u8L_app]; simp only [spl]
    rw [List.set_append_right _ _ (by omega)]; simp [hll, u8L, encV]
  have hlen : l.length + 1 ≤ (u8L (l ++ (x / 256 ^ (vL x - 1) % 256) :: digB (vL x - 1) x)).length := by rw [u8L_len]; simp
  refine ⟨v1, A.set b1 (.cells 5 false (u8L (l ++ encV x))), b1, ?_, ⟨?_, by simpa using r2, by simp⟩, ⟨by simp; have := c3.next; omega, fun z hz hzb => ?_⟩, c4⟩
  · rw [ev_M Try.func180 ok180 [31] m _ H (by simp [Try.f180])]
    simp [Try.f180, tm0, a1, hL, c1]
    generalize hτ : upd _ 0 _ = τ1
    have t0 : τ1 0 = v1 := by rw [← hτ]; simp
    have t5 : τ1 5 = .int .i64 (vL x) := by rw [← hτ]; simp
    have t6 : τ1 6 = .int .i64 l.length := by rw [← hτ]; simp
    clear hτ
    generalize hd : x / 256 ^ (vL x - 1) % 256 = d0 at *
    generalize vL x = N at *
    generalize u8L (l ++ d0 :: digB (N - 1) x) = xs at *
    simp only [marksC] at hA gA hmk
    rw [at_M Try.func180 31 (by decide) 5 (by decide) (by kernel_rfl) []]
    simp [Try.f180, t0, t5, t6, hA, gA, ei, hix, hmk, r3, e1, hor, hlen, est, ldVar, stVar, fillA, evHist, ObsOk, ObOk, List.getElem?_cons_zero]
  · rw [r1]; simp [encV_len, digB_len]; omega
  · have hz : z ≠ b1 := by
      rcases c4 with rfl | h'
      · intro e; exact hzb (by simp [e])
      · omega
    have := c3.next
    rw [AH.set_getN _ _ hz, KA.get z (by omega)]; exact c3.get z (by omega) hzb
end Go.Ev

/- The bytes of an acknowledgement. -/
namespace Go.Ev
open Go Go.Proofs
set_option linter.unusedSimpArgs false
set_option linter.unusedVariables false

def inN (x : Int) : Prop := 0 ≤ x ∧ x ≤ 4611686018427387903
def encs (xs : List Int) : List Int := xs.flatMap encV
theorem vL_le (x : Int) : vL x ≤ 8 := by rcases vL_cases x with h | h | h | h <;> omega
theorem encs_len (xs : List Int) : (encs xs).length ≤ 8 * xs.length := by
  induction xs with
  | nil => simp [encs]
  | cons x l ih => simp only [encs, List.flatMap_cons, List.length_append, encV_len, List.length_cons] at ih ⊢; have := vL_le x; omega
def AvI (xs : List Int) (s : AV) (l : List Int) (b0 : Nat) (H : AH) (d : Nat) (τ : Tm) (h : AH) : Prop :=
  ∃ (k : Nat) (v : AV) (b : Nat), k + d = xs.length ∧ τ 0 = v ∧ τ 7 = s ∧ τ 8 = .int .i64 xs.length ∧ τ 9 = .int .i64 k ∧ BO h v (l ++ encs (xs.take k)) b ∧ KoS [b0] H h ∧ (b = b0 ∨ H.next ≤ b)
set_option maxRecDepth 20000 in
theorem addVars_ev {rw : Bool} {H : AH} {v s : AV} {l xs : List Int} {b : Nat} {bs : List Nat} (h : BO H v l b) (hs : (Ty.sl 3 (.int .i64)).R rw H [s] xs bs) (hd : b ∉ bs) (hx : ∀ x ∈ xs, inN x) (hl : l.length ≤ 50000) (hxl : xs.length ≤ 100) (m : Nat) (hm : 120 ≤ m) :
    ∃ v' H' b', ev Try.prog m 224 [v, s] H = some (v', H') ∧ BO H' v' (l ++ encs xs) b' ∧ KoS [b] H H' ∧ (b' = b ∨ H.next ≤ b') := by
  obtain ⟨m, rfl⟩ : ∃ k, m = k + 1 := ⟨m - 1, by omega⟩
  have L1 := Ty.R.lenA hs (P := Try.prog) (T := 60) (by simp)
  rw [ev_M Try.func224 ok224 [] _ _ H (by simp [Try.f224])]
  simp [Try.f224, tm0, L1]
  generalize hLo : evLoop _ _ _ _ _ _ = R
  obtain ⟨e, τ', H', rfl, rfl, g⟩ := loop_at hLo (loop_rule (d := xs.length) (AvI xs s l b H) (fun e τ h => e = .exit 0 ∧ AvI xs s l b H 0 τ h) (by
    rintro d τ hh ⟨k, v, b1, hk, t0, t7, t8, t9, B, K, hb⟩
    rw [lp_M Try.func224 26 (by decide) 5 (by decide) (by kernel_rfl) []]
    by_cases hd0 : d = 0
    · subst hd0
      have hkl : ¬ ((k : Int) < xs.length) := by omega
      simp [Try.f224, t8, t9, hkl]
      exact ⟨k, v, b1, hk, by simp [t0], by simp [t7], by simp [t8], by simp [t9], B, K, hb⟩
    · have hlt : k < xs.length := by omega
      have hlt' : (k : Int) < xs.length := by omega
      have hsK := hs.koS K (fun z hz hz' => hd (by simp at hz'; rw [← hz']; exact hz))
      obtain ⟨bb, o, ro, ys, u1, u2, u3, u4⟩ := intAt hsK hlt
      have htk : encs (xs.take (k + 1)) = encs (xs.take k) ++ encV xs[k] := by rw [List.take_succ_eq_append_getElem hlt]; unfold encs; rw [List.flatMap_append]; simp only [List.flatMap_cons, List.flatMap_nil, List.append_nil]
      have hxx := hx xs[k] (List.getElem_mem hlt)
      have hel := encs_len (xs.take k)
      have htl : (xs.take k).length = k := by simp; omega
      obtain ⟨v', X', b', q1, q2, q3, q4⟩ := addVar_ev B (x := xs[k]) (by simp; omega) hxx.1 hxx.2 m (by omega)
      have w1 : IntKind.i64.wrap ((k : Int) + 1) = (k : Int) + 1 := wrap_i64 (n := (k : Int) + 1) (by omega) (by omega)
      generalize xs[k] = x at *
      simp [Try.f224, t0, t7, t8, t9, hlt, hlt', u1, u3, u4, q1, w1, ldVar]
      refine ⟨d - 1, by omega, k + 1, v', b', by omega, by simp, by simp [t7], by simp [t8], by simp, by rw [htk, ← List.append_assoc]; exact q2, ?_, ?_⟩
      · refine K.trans q3 fun z hz => ?_
        simp at hz; subst hz
        rcases hb with h | h; simp [h]; exact .inr h
      · have := K.next
        rcases q4 with h | h
        · rw [h]; exact hb
        · exact .inr (by omega)) ⟨0, v, b, by simp, by simp, by simp, by simp, by simp, by simpa [encs] using h, KoS.refl _ _, .inl rfl⟩ (by omega))
  obtain ⟨k, v', b', hk, t0, t7, t8, t9, B, K, hb⟩ := g
  rw [List.take_of_length_le (by omega)] at B
  exact ⟨v', H', by simp [Try.f224, t0], b', B, K, hb⟩
/-! an acknowledgement's ranges, falling -/
def tailB (p : Rg) : List Rg → List Int
  | [] => []
  | r :: l => encs [p.1 - r.2 - 2, r.2 - r.1] ++ tailB r l
def ackB (top : Rg) (N : Int) (rest : List Rg) : List Int := [2] ++ encs [top.2, N, rest.length, top.2 - top.1] ++ tailB top rest
theorem rgL_get : ∀ {L : List Rg} {q : Option Rg}, rgL q L → ∀ i (h : i + 1 < L.length), L[i].2 + 1 < L[i + 1].1
  | [x], q, h, i, hi => by simp at hi
  | x :: y :: l, q, h, 0, hi => h.2.1.2.2.2 x rfl
  | x :: y :: l, q, h, i + 1, hi => rgL_get h.2 i (by simpa using hi)
theorem rgL_le {L : List Rg} {q : Option Rg} (h : rgL q L) : ∀ x ∈ L, x.1 ≤ x.2 := by
  induction L generalizing q with
  | nil => simp
  | cons y l ih => intro x hx; rcases List.mem_cons.1 hx with rfl | hx; exact h.1.1; exact ih h.2 x hx
structure AkB (L : List Rg) (p1 : Nat) (v : AV) (H0 h : AH) (τ : Tm) (out : List Int) (b : Nat) : Prop where
  t1 : τ 1 = .ptr p1 0
  t3 : τ 3 = v
  B : BO h v out b
  bp : H0.next ≤ b
  K : Kp H0 h
def AkBL (L : List Rg) (all : List Int) (p1 : Nat) (H0 : AH) (d : Nat) (τ : Tm) (h : AH) : Prop :=
  ∃ (v : AV) (out : List Int) (b : Nat) (hd : d < L.length), τ 6 = .int .i64 ((d : Int) - 1) ∧ AkB L p1 v H0 h τ out b ∧ out ++ tailB L[d] (L.take d).reverse = all ∧ out.length + 16 * d ≤ 1100
set_option maxRecDepth 20000 in
theorem akLoopB {rw : Bool} {Hb H0 h0 : AH} {r : AV} {L : List Rg} {bs : List Nat} {N : Int} {d5 d6 : AV} {p1 : Nat} {all : List Int} (hr : (Ty.sl 94 tT94).R rw Hb [r] L bs) (hKb : Kp Hb H0) (hL : rgOK L) (h0' : L ≠ []) (g1 : H0.get p1 = some (.cells 72 false (frC 2 N 0 0 false d5 d6 r))) (n1 : p1 < H0.next)
    (m : Nat) (hm : 200 ≤ m) (τ : Tm) (hI : AkBL L all p1 H0 (L.length - 1) τ h0) :
    ∃ e τ' H', evLoop Try.prog (ev Try.prog m) m (lp Try.prog 133 30174) τ h0 = some (e, τ', H') ∧ e = .exit 1 ∧ AkBL L all p1 H0 0 τ' H' := by
  have hl := hL.1
  refine loop_rule (d := L.length - 1) (AkBL L all p1 H0) (fun e τ h => e = .exit 1 ∧ AkBL L all p1 H0 0 τ h) ?_ hI (by omega)
  rintro d τ h ⟨v, out, b, hd, t6, ⟨t1, t3, B, bp, K⟩, hall, hol⟩
  rw [lp_M Try.func133 30174 (by decide) 15 (by decide) (by kernel_rfl) []]
  by_cases hd0 : d = 0
  · subst hd0
    have hkl : ¬ (0 ≤ (((0 : Nat) : Int) - 1)) := by omega
    simp [Try.f133, t6, hkl]
    exact ⟨v, out, b, hd, by simp [t6], ⟨by simp [t1], by simp [t3], B, bp, K⟩, hall, hol⟩
  · obtain ⟨j, rfl⟩ : ∃ j, d = j + 1 := ⟨d - 1, by omega⟩
    have e1 : (((j + 1 : Nat) : Int) - 1) = j := by omega
    rw [e1] at t6
    have hj : (0 : Int) ≤ j := by omega
    have KK := hKb.trans K
    obtain ⟨b1, o1, r1, x1, u1, u2, u3, u4, u5, u6, u7, _, _⟩ := rgAt (hr.kp KK) (k := j) (by omega)
    obtain ⟨b2, o2, r2, x2, v1, v2, v3, v4, v5, v6, v7, _, _⟩ := rgAt (hr.kp KK) (k := j + 1) hd
    have hgap := rgL_get hL.2 j hd
    rw [show ((j + 1 : Nat) : Int) = (j : Int) + 1 by omega] at v1
    have i1 := rgL_in hL.2 L[j] (List.getElem_mem (by omega))
    have i2 := rgL_in hL.2 L[j + 1] (List.getElem_mem hd)
    have hle := rgL_le hL.2 L[j] (List.getElem_mem (by omega))
    have hrev : (L.take (j + 1)).reverse = L[j] :: (L.take j).reverse := by rw [List.take_succ_eq_append_getElem (by omega), List.reverse_append]; rfl
    rw [hrev] at hall
    simp only [tailB] at hall
    have goal : ∀ (τ' : Tm) (h' : AH) (v' : AV) (b' : Nat), τ' 6 = .int .i64 ((j : Int) - 1) → AkB L p1 v' H0 h' τ' (out ++ encs [L[j + 1].1 - L[j].2 - 2, L[j].2 - L[j].1]) b' → ∃ d', d' < j + 1 ∧ AkBL L all p1 H0 d' τ' h' := by
      intro τ' h' v' b' s6 X
      refine ⟨j, by omega, v', _, b', by omega, s6, X, by rw [← hall, List.append_assoc], ?_⟩
      have := encs_len [L[j + 1].1 - L[j].2 - 2, L[j].2 - L[j].1]
      simp at this ⊢; omega
    generalize L[j] = x at *
    generalize L[j + 1] = y at *
    obtain ⟨xa, xb⟩ := x
    obtain ⟨ya, yb⟩ := y
    simp only at *
    have gp := (K.get p1 n1).trans g1
    simp only [frC] at gp
    have hp : ¬ (p1 = h.next) := by have := K.next; omega
    have hb1 : ¬ (b1 = h.next) := by omega
    have hb2 : ¬ (b2 = h.next) := by omega
    have w0 : IntKind.i64.wrap ((j : Int) + 1) = ((j + 1 : Nat) : Int) := by rw [wrap_i64 (by omega) (by omega)]; omega
    have w1 : IntKind.i64.wrap ((j : Int) - 1) = (j : Int) - 1 := wrap_i64 (by omega) (by omega)
    simp only [inV] at i1 i2
    have w2 : IntKind.i64.wrap (ya - xb) = ya - xb := wrap_i64 (by omega) (by omega)
    have w3 : IntKind.i64.wrap (ya - xb - 2) = ya - xb - 2 := wrap_i64 (by omega) (by omega)
    have w4 : IntKind.i64.wrap (xb - xa) = xb - xa := wrap_i64 (by omega) (by omega)
    let A : AH := (h.push (.cells 94 false [.int .i64 xa, .int .i64 xb])).push (.cells 3 false [.int .i64 (ya - xb - 2), .int .i64 (xb - xa)])
    have hA : (h.push (.cells 94 false [.int .i64 xa, .int .i64 xb])).push (.cells 3 false [.int .i64 (ya - xb - 2), .int .i64 (xb - xa)]) = A := rfl
    have KA : Kp h A := ((Kp.refl h).push _).push _
    have nA : A.next = h.next + 2 := by simp [A]
    have gA : A.get (h.next + 1) = some (.cells 3 false ([ya - xb - 2, xb - xa].map (.int .i64))) := by simp [A]
    clear_value A
    have RA : (Ty.sl 3 (.int .i64)).R true A [.slice (h.next + 1) 0 2] [ya - xb - 2, xb - xa] [h.next + 1] := ints_one (l := [ya - xb - 2, xb - xa]) (by omega) gA (fun z hz => by simp at hz; rcases hz with rfl | rfl <;> exact ⟨by simp [IntKind.min, IntKind.signed, IntKind.bits]; omega, by simp [IntKind.max, IntKind.signed, IntKind.bits]; omega⟩)
    have hbn := B.2.1
    obtain ⟨v', X', b', q1, q2, q3, q4⟩ := addVars_ev (B.kp KA) RA (by simp; omega) (fun z hz => by simp at hz; rcases hz with rfl | rfl <;> exact ⟨by omega, by omega⟩) (by omega) (by simp) m (by omega)
    simp [Try.f133, t1, t3, t6, hj, gp, hp, hb1, hb2, u1, u3, u4, u5, u6, u7, v1, v3, v6, w0, w1, w2, w3, w4, hA, q1, ldVar, stVar, spl, fillA, zerosA, evHist, ObsOk, ObOk, List.getElem?_cons_zero]
    have hKn := K.next
    refine goal _ _ v' b' (by simp) ⟨by simp [t1], by simp, q2, ?_, ?_⟩
    · rcases q4 with h | h <;> omega
    · exact KoS.kp (K.trans KA) q3 (by simp; exact bp)
end Go.Ev

/- The bytes of an acknowledgement, whole. -/
namespace Go.Ev
open Go Go.Proofs
set_option linter.unusedSimpArgs false
set_option linter.unusedVariables false

theorem ints4 {A : AH} {p : Nat} {a b c d : Int} (hn : p < A.next) (g : A.get p = some (.cells 3 false [.int .i64 a, .int .i64 b, .int .i64 c, .int .i64 d])) (ha : inN a) (hb : inN b) (hc : inN c) (hd : inN d) : (Ty.sl 3 (.int .i64)).R true A [.slice p 0 4] [a, b, c, d] [p] :=
  ints_one (l := [a, b, c, d]) hn g (fun z hz => by
    simp only [inN] at ha hb hc hd
    simp at hz; rcases hz with rfl | rfl | rfl | rfl <;> exact ⟨by simp [IntKind.min, IntKind.signed, IntKind.bits]; omega, by simp [IntKind.max, IntKind.signed, IntKind.bits]; omega⟩)
set_option maxRecDepth 20000 in
theorem ack942 {rw : Bool} {Hb H0 h : AH} {r : AV} {L : List Rg} {bs : List Nat} {N : Int} {d5 d6 : AV} {p1 b : Nat} {v : AV} (hr : (Ty.sl 94 tT94).R rw Hb [r] L bs) (hKb : Kp Hb H0) (hL : rgOK L) (j : Nat) (hj : L.length = j + 1) (g1 : H0.get p1 = some (.cells 72 false (frC 2 N 0 0 false d5 d6 r))) (n1 : p1 < H0.next) (hN : inV N)
    (K : Kp H0 h) (B : BO h v [2] b) (bp : H0.next ≤ b) (m : Nat) (hm : 200 ≤ m) (τ : Tm) (t1 : τ 1 = .ptr p1 0) (t3 : τ 3 = v) :
    ∃ τ' H' v' b', evAt Try.prog (ev Try.prog m) m 133 942 τ h = some (.normal, τ', H') ∧ τ' 3 = v' ∧ BO H' v' (ackB (L[j]'(by omega)) N (L.take j).reverse) b' ∧ H0.next ≤ b' ∧ Kp H0 H' := by
  have KK := hKb.trans K
  have hl := hL.1
  have L1 := Ty.R.lenA hr (P := Try.prog) (T := 70) (by simp)
  rw [hj] at L1
  obtain ⟨b2, o2, r2, x2, v1, v2, v3, v4, v5, v6, v7, _, _⟩ := rgAt (hr.kp KK) (k := j) (by omega)
  have i2 := rgL_in hL.2 (L[j]'(by omega)) (List.getElem_mem (by omega))
  have hle := rgL_le hL.2 (L[j]'(by omega)) (List.getElem_mem (by omega))
  have gp := (K.get p1 n1).trans g1
  simp only [frC] at gp
  have hKn := K.next
  have hp : ¬ (p1 = h.next) := by omega
  have hb2 : ¬ (b2 = h.next) := by omega
  simp only [inV] at i2 hN
  have hbn := B.2.1
  have core : ∃ τ' H' v' b', evAt Try.prog (ev Try.prog m) m 133 942 τ h = evAt Try.prog (ev Try.prog m) m 133 15087 τ' H' ∧ τ' 1 = .ptr p1 0 ∧ τ' 3 = v' ∧ τ' 6 = .int .i64 ((j : Int) - 1) ∧ BO H' v' ([2] ++ encs [(L[j]'(by omega)).2, N, j, (L[j]'(by omega)).2 - (L[j]'(by omega)).1]) b' ∧ H0.next ≤ b' ∧ Kp H0 H' := by
    generalize (L[j]'(by omega)) = y at *
    obtain ⟨ya, yb⟩ := y
    simp only at *
    have w1 : IntKind.i64.wrap ((j : Int)) = j := wrap_i64 (by omega) (by omega)
    have w2 : IntKind.i64.wrap (yb - ya) = yb - ya := wrap_i64 (by omega) (by omega)
    have w3 : IntKind.i64.wrap ((j : Int) + 1 - 2) = (j : Int) - 1 := by rw [wrap_i64 (by omega) (by omega)]; omega
    let A : AH := (h.push (.cells 94 false [.int .i64 ya, .int .i64 yb])).push (.cells 3 false [.int .i64 yb, .int .i64 N, .int .i64 j, .int .i64 (yb - ya)])
    have hA : (h.push (.cells 94 false [.int .i64 ya, .int .i64 yb])).push (.cells 3 false [.int .i64 yb, .int .i64 N, .int .i64 j, .int .i64 (yb - ya)]) = A := rfl
    have KA : Kp h A := ((Kp.refl h).push _).push _
    have nA : A.next = h.next + 2 := by simp [A]
    have gA : A.get (h.next + 1) = some (.cells 3 false [.int .i64 yb, .int .i64 N, .int .i64 j, .int .i64 (yb - ya)]) := by simp [A]
    clear_value A
    have z1 : inN yb := ⟨by omega, by omega⟩
    have z2 : inN N := ⟨by omega, by omega⟩
    have z3 : inN (j : Int) := ⟨by omega, by omega⟩
    have z4 : inN (yb - ya) := ⟨by omega, by omega⟩
    have RA := ints4 (by omega) gA z1 z2 z3 z4
    obtain ⟨v', X', b', q1, q2, q3, q4⟩ := addVars_ev (B.kp KA) RA (by simp; omega) (fun z hz => by simp at hz; rcases hz with rfl | rfl | rfl | rfl <;> assumption) (by simp) (by simp) m (by omega)
    rw [at_M Try.func133 942 (by decide) 10 (by decide) (by kernel_rfl) [15087]]
    refine ⟨_, X', v', b', by simp [Try.f133, t1, t3, gp, hp, hb2, L1, v1, v3, v4, v5, v6, v7, w1, w2, w3, hA, q1, ldVar, stVar, spl, fillA, zerosA]; rfl, by simp [t1], by simp, by simp, q2, ?_, ?_⟩
    · rcases q4 with h | h <;> omega
    · exact KoS.kp (K.trans KA) q3 (by simp; exact bp)
  obtain ⟨τ1, H1, v1', b1, e1, s1, s3, s6, B1, bp1, K1⟩ := core
  have hrl : ((L.take j).reverse.length : Int) = j := by simp; omega
  rw [e1, at_M Try.func133 15087 (by decide) 14 (by decide) (by kernel_rfl) []]
  simp [Try.f133]
  generalize hLo : evLoop _ _ _ _ _ _ = R
  have hel := encs_len [(L[j]'(by omega)).2, N, j, (L[j]'(by omega)).2 - (L[j]'(by omega)).1]
  obtain ⟨e, τ', H', rfl, rfl, v', out, b', hd, t6, X, hall, hol⟩ := loop_at hLo (akLoopB (all := ackB (L[j]'(by omega)) N (L.take j).reverse) hr hKb hL (fun e => by rw [e] at hj; simp at hj) g1 n1 m hm _ (by
    have hj1 : L.length - 1 = j := by omega
    rw [hj1]
    exact ⟨v1', _, b1, by omega, s6, ⟨s1, s3, B1, bp1, K1⟩, by unfold ackB; rw [hrl], by simp at hel ⊢; omega⟩))
  simp [tailB] at hall
  subst hall
  exact ⟨τ', H', by simp, b', by rw [X.t3]; exact X.B, X.bp, X.K⟩
set_option maxRecDepth 20000 in
theorem FrameBytesAck_ev {rw : Bool} {Hb H : AH} {r : AV} {L : List Rg} {bs : List Nat} {N : Int} {d5 d6 : AV} (hr : (Ty.sl 94 tT94).R rw Hb [r] L bs) (hK : Kp Hb H) (hd : ∀ h, lenA Try.prog 34 d5 h = some (.int .i64 0)) (ht : ∀ h, lenA Try.prog 34 d6 h = some (.int .i64 0)) (od : d5.one = true) (ot : d6.one = true) (hL : rgOK L) (j : Nat) (hj : L.length = j + 1) (hN : inV N) (m : Nat) (hm : 300 ≤ m) :
    ∃ v' H' b', ev Try.prog m 48 [.agg (frC 2 N 0 0 false d5 d6 r)] H = some (.tuple [v', .int .i64 0], H') ∧ BO H' v' (ackB (L[j]'(by omega)) N (L.take j).reverse) b' ∧ H.next ≤ b' ∧ Kp H H' := by
  obtain ⟨m, rfl⟩ : ∃ k, m = k + 1 := ⟨m - 1, by omega⟩
  obtain ⟨m, rfl⟩ : ∃ k, m = k + 1 := ⟨m - 1, by omega⟩
  have hl := hL.1
  have h0 : L ≠ [] := fun e => by rw [e] at hj; simp at hj
  have or_ := hr.sl_one
  have hfr : frOK 2 N 0 0 false 0 0 L := by
    have z0 : inV 0 := ⟨by omega, by omega⟩
    have hlp : 0 < L.length := List.length_pos_iff.2 h0
    exact ⟨⟨by decide, hN, z0, z0, by simp [usesL, fldOK], by simp [usesL, fldOK], by simp [usesL, fldOK], by simp [usesL, fldOK]⟩, ⟨by simp [usesL], by simp [usesL], by simp [usesL], by simp [usesL, hlp], hL⟩, by simp [frX]⟩
  let Z : AH := H.push (.cells 72 false (frC 2 N 0 0 false d5 d6 r))
  have hZ : H.push (.cells 72 false (frC 2 N 0 0 false d5 d6 r)) = Z := rfl
  have KZ : Kp H Z := (Kp.refl H).push _
  have nZ : Z.next = H.next + 1 := by simp [Z]
  have gZ : Z.get H.next = some (.cells 72 false (frC 2 N 0 0 false d5 d6 r)) := by simp [Z]
  clear_value Z
  obtain ⟨H1, a1, a2⟩ := FrameOKI_ev (k := 2) (a := N) (b := 0) (c := 0) (fin := false) (dl := 0) (tl := 0) hr (hK.trans KZ) hd ht od ot (by omega) (by omega) (m + 1) (by omega)
  have n1 := a2.next
  have g1 : H1.get H.next = some (.cells 72 false (frC 2 N 0 0 false d5 d6 r)) := (a2.get _ (by omega)).trans gZ
  let A : AH := H1.push (.cells 72 false (frC 2 N 0 0 false d5 d6 r))
  have hA : H1.push (.cells 72 false (frC 2 N 0 0 false d5 d6 r)) = A := rfl
  have KA : Kp H1 A := (Kp.refl H1).push _
  have nA : A.next = H1.next + 1 := by simp [A]
  have gA : A.get H1.next = some (.cells 72 false (frC 2 N 0 0 false d5 d6 r)) := by simp [A]
  clear_value A
  let C : AH := A.push (.cells 5 false [.int .u8 2])
  have hC : A.push (.cells 5 false [.int .u8 2]) = C := rfl
  have KC : Kp A C := (Kp.refl A).push _
  have nC : C.next = A.next + 1 := by simp [C]
  have BC : BO C (.slice A.next 0 1) [2] A.next := ⟨rfl, by omega, by simp [C, u8L]⟩
  clear_value C
  have wk : IntKind.u8.wrap 2 = 2 := by decide
  have inner : ∃ v' H' b', ev Try.prog (m + 1) 133 [.agg (frC 2 N 0 0 false d5 d6 r)] H1 = some (v', H') ∧ BO H' v' (ackB (L[j]'(by omega)) N (L.take j).reverse) b' ∧ A.next ≤ b' ∧ Kp A H' := by
    have key : ∀ τ : Tm, τ 1 = .ptr H1.next 0 → τ 3 = .slice A.next 0 1 → ∃ τ' H' v' b', evAt Try.prog (ev Try.prog m) m 133 942 τ C = some (.normal, τ', H') ∧ τ' 3 = v' ∧ BO H' v' (ackB (L[j]'(by omega)) N (L.take j).reverse) b' ∧ A.next ≤ b' ∧ Kp A H' :=
      fun τ t1 t3 => ack942 hr ((((hK.trans KZ).trans a2).trans KA)) hL j hj gA (by omega) hN KC BC (by omega) m (by omega) τ t1 t3
    have gC := (KC.get H1.next (by omega)).trans gA
    simp only [frC] at hA gA gC ⊢
    rw [ev_M Try.func133 ok133 [942] _ _ H1 (by simp [Try.f133])]
    simp [Try.f133, tm0, hA, gA, gC, hC, wk, od, ot, or_, convA, ldVar, fillA, zerosA, spl]
    generalize hτ : upd _ 19 _ = τ1
    obtain ⟨τ', H', v', b', f1, f2, f3, f4, f5⟩ := key τ1 (by rw [← hτ]; simp) (by rw [← hτ]; simp)
    rw [f1]
    exact ⟨v', H', by simp [Try.f133, f2], b', f3, f4, f5⟩
  obtain ⟨v', H', b', f1, f2, f3, f4⟩ := inner
  refine ⟨v', H', b', ?_, f2, by omega, ((KZ.trans a2).trans KA).trans f4⟩
  simp only [frC] at hZ gZ a1 g1 f1 ⊢
  rw [ev_M Try.func48 ok48 [] _ _ H (by simp [Try.f48])]
  simp [Try.f48, tm0, hZ, gZ, a1, hfr, g1, f1, od, ot, or_, ldVar]
end Go.Ev

/- The readers of counted bytes and of the rest, both sides. -/
namespace Go.Ev
open Go Go.Proofs
set_option linter.unusedSimpArgs false
set_option linter.unusedVariables false

theorem numberI_nn (l : List Int) (a : Nat) (c : Int) : 0 ≤ (numberI l a c).1 := by
  unfold numberI
  split
  · simp
  · split
    · simp
    · exact getVarP_nn a
def countedI (l : List Int) (a : Nat) (c : Int) : List Int × Nat × Int := takeI l (numberI l a c).2.1 (numberI l a c).2.2 (numberI l a c).1
def restI (l : List Int) (a : Nat) (c : Int) : List Int × Nat × Int := takeI l a c ((l.length : Int) - a)
theorem counted_ev {Hb H : AH} {q a : Nat} {s : AV} {l : List Int} {c : Int} (hs : Bs Hb s l) (hb : By l) (hK : Kp Hb H) (hqb : Hb.next ≤ q) (hq : H.get q = some (scB s a c)) (ha : a ≤ l.length) (hl : l.length ≤ 65536) (m : Nat) (hm : 22 ≤ m) :
    ∃ r H', ev Try.prog m 166 [.ptr q 0] H = some (r, H') ∧ Kx q H H' ∧ H'.next = H.next ∧ Bs Hb r (countedI l a c).1 ∧ H'.get q = some (scB s (countedI l a c).2.1 (countedI l a c).2.2) ∧ (countedI l a c).2.1 ≤ l.length := by
  obtain ⟨m, rfl⟩ : ∃ k, m = k + 1 := ⟨m - 1, by omega⟩
  obtain ⟨H1, e1, k1, n1, g1, l1⟩ := number_ev hs hb hK hqb hq ha hl m (by omega)
  obtain ⟨r, H2, e2, k2, n2, b2, g2, l2⟩ := take_ev hs (k1.kp hK hqb) hqb g1 l1 hl (numberI l a c).1 (by have := numberI_nn l a c; omega) m (by omega)
  refine ⟨r, H2, ?_, k1.trans k2, by rw [n2, n1], b2, g2, l2⟩
  rw [ev_M Try.func166 ok166 [] m _ H (by simp [Try.f166])]
  simp [Try.f166, tm0, e1, e2]
theorem rest_ev {Hb H : AH} {q a : Nat} {s : AV} {l : List Int} {c : Int} (hs : Bs Hb s l) (hK : Kp Hb H) (hqb : Hb.next ≤ q) (hq : H.get q = some (scB s a c)) (ha : a ≤ l.length) (hl : l.length ≤ 65536) (m : Nat) (hm : 3 ≤ m) :
    ∃ r H', ev Try.prog m 167 [.ptr q 0] H = some (r, H') ∧ Kx q H H' ∧ H'.next = H.next ∧ Bs Hb r (restI l a c).1 ∧ H'.get q = some (scB s (restI l a c).2.1 (restI l a c).2.2) ∧ (restI l a c).2.1 ≤ l.length := by
  obtain ⟨m, rfl⟩ : ∃ k, m = k + 1 := ⟨m - 1, by omega⟩
  obtain ⟨r, H2, e2, k2, n2, b2, g2, l2⟩ := take_ev hs hK hqb hq ha hl ((l.length : Int) - a) (by omega) m (by omega)
  refine ⟨r, H2, ?_, k2, n2, b2, g2, l2⟩
  unfold scB at hq
  have w0 : IntKind.i64.wrap ((l.length : Int) - a) = l.length - a := wrap_i64 (n := (l.length : Int) - a) (by omega) (by omega)
  have hL := (hs.kp hK).len
  rw [ev_M Try.func167 ok167 [] m _ H (by simp [Try.f167])]
  simp [Try.f167, tm0, hq, ldVar, hL, w0, e2]
def countedS (l : List Int) (a : Nat) (sh : Bool) : List Int × Nat × Bool := takeS l (varS l a sh).2.1 (varS l a sh).2.2 (varS l a sh).1
def restS (l : List Int) (a : Nat) (sh : Bool) : List Int × Nat × Bool := takeS l a sh ((l.length : Int) - a)
theorem countedS_ev {Hb H : AH} {q a : Nat} {s : AV} {l : List Int} {sh : Bool} (hs : Bs Hb s l) (hb : By l) (hK : Kp Hb H) (hqb : Hb.next ≤ q) (hqn : q < H.next) (hq : H.get q = some (rdB s a sh)) (ha : a ≤ l.length) (hl : l.length ≤ 65536) (m : Nat) (hm : 22 ≤ m) :
    ∃ r H', ev Try.prog m 158 [.ptr q 0] H = some (r, H') ∧ Kx q H H' ∧ Ow H.next H'.next H' r (countedS l a sh).1 ∧ H'.get q = some (rdB s (countedS l a sh).2.1 (countedS l a sh).2.2) ∧ (countedS l a sh).2.1 ≤ l.length := by
  obtain ⟨m, rfl⟩ : ∃ k, m = k + 1 := ⟨m - 1, by omega⟩
  obtain ⟨H1, e1, k1, n1, g1, l1⟩ := var_ev hs hb hK hqb hqn hq ha hl m (by omega)
  have hv := varS_rng hb a sh
  obtain ⟨r, H2, e2, k2, b2, g2, l2⟩ := takeR_ev hs (k1.kp hK hqb) hqb (by omega) g1 l1 hl (varS l a sh).1 hv.1 hv.2 m (by omega)
  refine ⟨r, H2, ?_, k1.trans k2, by rw [← n1]; exact b2, g2, l2⟩
  rw [ev_M Try.func158 ok158 [] m _ H (by simp [Try.f158])]
  simp [Try.f158, tm0, e1, e2]
theorem restS_ev {Hb H : AH} {q a : Nat} {s : AV} {l : List Int} {sh : Bool} (hs : Bs Hb s l) (hK : Kp Hb H) (hqb : Hb.next ≤ q) (hqn : q < H.next) (hq : H.get q = some (rdB s a sh)) (ha : a ≤ l.length) (hl : l.length ≤ 65536) (m : Nat) (hm : 3 ≤ m) :
    ∃ r H', ev Try.prog m 159 [.ptr q 0] H = some (r, H') ∧ Kx q H H' ∧ Ow H.next H'.next H' r (restS l a sh).1 ∧ H'.get q = some (rdB s (restS l a sh).2.1 (restS l a sh).2.2) ∧ (restS l a sh).2.1 ≤ l.length := by
  obtain ⟨m, rfl⟩ : ∃ k, m = k + 1 := ⟨m - 1, by omega⟩
  obtain ⟨r, H2, e2, k2, b2, g2, l2⟩ := takeR_ev hs hK hqb hqn hq ha hl ((l.length : Int) - a) (by omega) (by omega) m (by omega)
  refine ⟨r, H2, ?_, k2, b2, g2, l2⟩
  unfold rdB at hq
  have w0 : IntKind.i64.wrap ((l.length : Int) - a) = l.length - a := wrap_i64 (n := (l.length : Int) - a) (by omega) (by omega)
  have hL := (hs.kp hK).len
  rw [ev_M Try.func159 ok159 [] m _ H (by simp [Try.f159])]
  simp [Try.f159, tm0, hq, ldVar, hL, w0, e2]
theorem counted49_ev {Hb H : AH} {q a : Nat} {s : AV} {l : List Int} {sh : Bool} (hs : Bs Hb s l) (hb : By l) (hK : Kp Hb H) (hqb : Hb.next ≤ q) (hqn : q < H.next) (hq : H.get q = some (rdB s a sh)) (ha : a ≤ l.length) (hl : l.length ≤ 65536) (x : Int) (m : Nat) (hm : 23 ≤ m) :
    ∃ r H', ev Try.prog m 218 [.ptr q 0, .int .i64 x] H = some (r, H') ∧ Kx q H H' ∧ Ow H.next H'.next H' r (if x = 49 then countedS l a sh else restS l a sh).1 ∧
      H'.get q = some (rdB s (if x = 49 then countedS l a sh else restS l a sh).2.1 (if x = 49 then countedS l a sh else restS l a sh).2.2) ∧ (if x = 49 then countedS l a sh else restS l a sh).2.1 ≤ l.length := by
  obtain ⟨m, rfl⟩ : ∃ k, m = k + 1 := ⟨m - 1, by omega⟩
  by_cases h : x = 49
  · subst h
    obtain ⟨r, H2, e2, k2, b2, g2, l2⟩ := countedS_ev hs hb hK hqb hqn hq ha hl m (by omega)
    refine ⟨r, H2, ?_, k2, by simpa using b2, by simpa using g2, by simpa using l2⟩
    rw [ev_M Try.func218 ok218 [] m _ H (by simp [Try.f218])]
    simp [Try.f218, tm0, e2]
  · obtain ⟨r, H2, e2, k2, b2, g2, l2⟩ := restS_ev hs hK hqb hqn hq ha hl m (by omega)
    have hx : (x == 49) = false := by simpa using h
    refine ⟨r, H2, ?_, k2, by simpa [h] using b2, by simpa [h] using g2, by simpa [h] using l2⟩
    rw [ev_M Try.func218 ok218 [] m _ H (by simp [Try.f218])]
    simp [Try.f218, tm0, hx, e2]
end Go.Ev

/- The kind that a first byte tells, in the reference. -/
namespace Go.Ev
open Go Go.Proofs
set_option linter.unusedSimpArgs false
set_option linter.unusedVariables false

def markK (k : Int) : Int := if 8 ≤ k ∧ k ≤ 15 then 8 else if k = 19 ∨ k = 23 then k - 1 else if k = 49 then 48 else if (usesL.lookup k).isSome = true then k else -1
theorem l05Mark_ev (k : Int) (h0 : 0 ≤ k) (h1 : k < 256) (H : AH) (m : Nat) (hm : 2 ≤ m) : ∃ H', ev Try.prog m 123 [.int .i64 k] H = some (.int .i64 (markK k), H') ∧ Kp H H' := by
  obtain ⟨m, rfl⟩ : ∃ k, m = k + 1 := ⟨m - 1, by omega⟩
  obtain ⟨H1, e1, k1⟩ := l05Kind_ev k H m (by omega)
  simp only [usC] at e1
  have w1 : IntKind.i64.wrap (k - 1) = k - 1 := wrap_i64 (n := k - 1) (by omega) (by omega)
  rw [ev_M Try.func123 ok123 [] m _ H (by simp [Try.f123])]
  by_cases a0 : 8 ≤ k ∧ k ≤ 15
  · obtain ⟨a1, a2⟩ := a0
    exact ⟨H, by simp [Try.f123, tm0, markK, a1, a2], Kp.refl H⟩
  · by_cases b0 : k = 19
    · subst b0; exact ⟨H, by simp [Try.f123, tm0, markK]; decide, Kp.refl H⟩
    · by_cases b1 : k = 23
      · subst b1; exact ⟨H, by simp [Try.f123, tm0, markK]; decide, Kp.refl H⟩
      · by_cases b2 : k = 49
        · subst b2; exact ⟨H, by simp [Try.f123, tm0, markK], Kp.refl H⟩
        · have c0 : (k == 19) = false := by simpa using b0
          have c1 : (k == 23) = false := by simpa using b1
          have c2 : (k == 49) = false := by simpa using b2
          refine ⟨H1, ?_, k1⟩
          by_cases a1 : 8 ≤ k
          · have a2 : (k ≤ 15) = False := eq_false (by omega)
            cases hi : (usesL.lookup k).isSome <;> rw [hi] at e1 <;> simp [Try.f123, tm0, markK, a1, a2, b0, b1, b2, c0, c1, c2, e1, hi]
          · have a1' : (8 ≤ k) = False := eq_false a1
            cases hi : (usesL.lookup k).isSome <;> rw [hi] at e1 <;> simp [Try.f123, tm0, markK, a1', b0, b1, b2, c0, c1, c2, e1, hi]
end Go.Ev

/- A stream frame read by the reference. -/
namespace Go.Ev
open Go Go.Proofs
set_option linter.unusedSimpArgs false
set_option linter.unusedVariables false

theorem Kx.push {q : Nat} {A B : AH} (h : Kx q A B) (x : Blk) : Kx q A (B.push x) := h.trans (Kx.of ((Kp.refl B).push x))
theorem Kx.set2 {A B : AH} {q p : Nat} (h : Kx q A B) (x : Blk) (hp : A.next ≤ p) : Kx q A (B.set p x) := ⟨h.next, fun c hc hq => by
  rw [AH.set_getN _ _ (by omega)]; exact h.get c hc hq⟩
/-- the first number and the head of a stream frame -/
theorem rs0 {Hb H : AH} {q a : Nat} {s : AV} {l : List Int} {sh : Bool} (hs : Bs Hb s l) (hb : By l) (hK : Kp Hb H) (hqb : Hb.next ≤ q) (hqn : q < H.next) (hq : H.get q = some (rdB s a sh)) (ha : a ≤ l.length) (hl : l.length ≤ 65536) (x : Int) (hx : 0 ≤ x ∧ x ≤ 7) (m : Nat) (hm : 21 ≤ m) :
    ∃ τ' H', ev Try.prog (m + 1) 217 [.ptr q 0, .int .i64 x] H = resM Try.prog [.cell 4 72] (evAt Try.prog (ev Try.prog m) m 217 7 τ' H') ∧ τ' 0 = .ptr q 0 ∧ τ' 1 = .int .i64 x ∧ τ' 4 = .ptr H.next 0 ∧ τ' 5 = .ptr (H.next + 1) 0 ∧
      H'.get H.next = some (.cells 72 false (frC 0 0 0 0 false .nilSlice .nilSlice .nilSlice)) ∧ H'.get (H.next + 1) = some (.cells 72 false (frC 8 (varS l a sh).1 0 0 (x.tmod 2 == 1) .nilSlice .nilSlice .nilSlice)) ∧
      H'.get q = some (rdB s (varS l a sh).2.1 (varS l a sh).2.2) ∧ Kx q H H' ∧ H'.next = H.next + 2 := by
  let A0 : AH := H.push (.cells 72 false (frC 0 0 0 0 false .nilSlice .nilSlice .nilSlice))
  have nq : ¬ (q = H.next) := by omega
  have kA : Kp H A0 := (Kp.refl H).push _
  obtain ⟨H1, e1, k1, n1, g1, l1⟩ := var_ev (H := A0) (sh := sh) (a := a) hs hb (hK.trans kA) hqb (by simp [A0]; omega) (by simp [A0, nq, hq]) ha hl m (by omega)
  have b1 := k1.get H.next (by simp [A0]) (by omega)
  simp [A0] at b1 n1
  simp only [A0, frC] at e1
  have nq1 : ¬ (q = H1.next) := by omega
  have nb1 : ¬ (H.next = H1.next) := by omega
  have w1 : IntKind.i64.wrap (x.tmod 2) = x.tmod 2 := by
    have : x = 0 ∨ x = 1 ∨ x = 2 ∨ x = 3 ∨ x = 4 ∨ x = 5 ∨ x = 6 ∨ x = 7 := by omega
    rcases this with rfl | rfl | rfl | rfl | rfl | rfl | rfl | rfl <;> decide
  rw [ev_M Try.func217 ok217 [7] m _ H (by simp [Try.f217])]
  refine ⟨_, _, by simp [Try.f217, tm0, fillA, stVar, spl, e1, tmodI, w1]; rfl, ?_⟩
  simp [n1, nq, nq1, nb1, b1, g1, frC, tm0]
  exact ⟨fun e => absurd e (by omega), ((Kx.of kA).trans k1).push _⟩
structure RsT (τ : Tm) (q p4 p5 : Nat) (x : Int) : Prop where
  t0 : τ 0 = .ptr q 0
  t1 : τ 1 = .int .i64 x
  t4 : τ 4 = .ptr p4 0
  t5 : τ 5 = .ptr p5 0
theorem x8 {x : Int} (hx : 0 ≤ x ∧ x ≤ 7) : x = 0 ∨ x = 1 ∨ x = 2 ∨ x = 3 ∨ x = 4 ∨ x = 5 ∨ x = 6 ∨ x = 7 := by omega
theorem rs1 {Hb h : AH} {q a p4 p5 : Nat} {s : AV} {l : List Int} {sh : Bool} {A : Int} {f : Bool} (hs : Bs Hb s l) (hb : By l) (hK : Kp Hb h) (hqb : Hb.next ≤ q) (hqn : q < h.next) (hq : h.get q = some (rdB s a sh)) (ha : a ≤ l.length) (hl : l.length ≤ 65536)
    (x : Int) (hx : 0 ≤ x ∧ x ≤ 7) (n5 : p5 ≠ q) (l5 : p5 < h.next) (g5 : h.get p5 = some (.cells 72 false (frC 8 A 0 0 f .nilSlice .nilSlice .nilSlice))) (m : Nat) (hm : 21 ≤ m) (τ : Tm) (T : RsT τ q p4 p5 x) :
    ∃ τ' H', evAt Try.prog (ev Try.prog m) m 217 7 τ h = evAt Try.prog (ev Try.prog m) m 217 15 τ' H' ∧ RsT τ' q p4 p5 x ∧
      H'.get p5 = some (.cells 72 false (frC 8 A (if (x.tdiv 4).tmod 2 = 1 then (varS l a sh).1 else 0) 0 f .nilSlice .nilSlice .nilSlice)) ∧
      H'.get q = some (if (x.tdiv 4).tmod 2 = 1 then rdB s (varS l a sh).2.1 (varS l a sh).2.2 else rdB s a sh) ∧ H'.next = h.next ∧ ∀ b, b < h.next → b ≠ q → b ≠ p5 → H'.get b = h.get b := by
  obtain ⟨t0, t1, t4, t5⟩ := T
  obtain ⟨H1, e1, k1, n1, g1, l1⟩ := var_ev (sh := sh) (a := a) hs hb hK hqb hqn hq ha hl m (by omega)
  have c5 := (k1.get p5 l5 n5).trans g5
  simp only [frC] at c5 g5
  have w1 : IntKind.i64.wrap (x.tdiv 4) = x.tdiv 4 := by rcases x8 hx with rfl | rfl | rfl | rfl | rfl | rfl | rfl | rfl <;> decide
  have w2 : IntKind.i64.wrap ((x.tdiv 4).tmod 2) = (x.tdiv 4).tmod 2 := by rcases x8 hx with rfl | rfl | rfl | rfl | rfl | rfl | rfl | rfl <;> decide
  rw [at_M Try.func217 7 (by decide) 3 (by decide) (by kernel_rfl) [15]]
  by_cases b4 : (x.tdiv 4).tmod 2 = 1
  · have n5' : ¬ (q = p5) := fun e => n5 e.symm
    refine ⟨_, _, by simp [Try.f217, t0, t1, t5, e1, tmodI, tdivI, w1, w2, b4, c5, stVar, spl]; rfl, ⟨by simp [t0], by simp [t1], by simp [t4], by simp [t5]⟩, by simp [b4, frC], by simp [b4, n5', g1], by simp [n1], fun b hb h1 h2 => ?_⟩
    simp [h2]; exact k1.get b hb h1
  · have b4' : ((x.tdiv 4).tmod 2 == 1) = false := by simpa using b4
    exact ⟨_, h, by simp [Try.f217, t0, t1, t5, tmodI, tdivI, w1, w2, b4']; rfl, ⟨by simp [t0], by simp [t1], by simp [t4], by simp [t5]⟩, by simp [b4, frC, g5], by simp [b4, hq], rfl, fun b hb _ _ => rfl⟩
def dataS (l : List Int) (a : Nat) (sh : Bool) (x : Int) : List Int × Nat × Bool := if (x.tdiv 2).tmod 2 = 1 then countedS l a sh else restS l a sh
theorem rs2 {Hb h : AH} {q a p4 p5 : Nat} {s : AV} {l : List Int} {sh : Bool} {A B : Int} {f : Bool} (hs : Bs Hb s l) (hb : By l) (hK : Kp Hb h) (hqb : Hb.next ≤ q) (hqn : q < h.next) (hq : h.get q = some (rdB s a sh)) (ha : a ≤ l.length) (hl : l.length ≤ 65536)
    (x : Int) (hx : 0 ≤ x ∧ x ≤ 7) (n5 : p5 ≠ q) (l5 : p5 < h.next) (g5 : h.get p5 = some (.cells 72 false (frC 8 A B 0 f .nilSlice .nilSlice .nilSlice))) (m : Nat) (hm : 22 ≤ m) (τ : Tm) (T : RsT τ q p4 p5 x) :
    ∃ τ' H' r, evAt Try.prog (ev Try.prog m) m 217 15 τ h = evAt Try.prog (ev Try.prog m) m 217 31 τ' H' ∧ RsT τ' q p4 p5 x ∧
      H'.get p5 = some (.cells 72 false (frC 8 A B 0 f r .nilSlice .nilSlice)) ∧ Ow h.next H'.next H' r (dataS l a sh x).1 ∧
      H'.get q = some (rdB s (dataS l a sh x).2.1 (dataS l a sh x).2.2) ∧ (dataS l a sh x).2.1 ≤ l.length ∧ h.next ≤ H'.next ∧ ∀ b, b < h.next → b ≠ q → b ≠ p5 → H'.get b = h.get b := by
  obtain ⟨t0, t1, t4, t5⟩ := T
  have w1 : IntKind.i64.wrap (x.tdiv 2) = x.tdiv 2 := by rcases x8 hx with rfl | rfl | rfl | rfl | rfl | rfl | rfl | rfl <;> decide
  have w2 : IntKind.i64.wrap ((x.tdiv 2).tmod 2) = (x.tdiv 2).tmod 2 := by rcases x8 hx with rfl | rfl | rfl | rfl | rfl | rfl | rfl | rfl <;> decide
  have n5' : ¬ (q = p5) := fun e => n5 e.symm
  rw [at_M Try.func217 15 (by decide) 4 (by decide) (by kernel_rfl) [31]]
  unfold dataS
  by_cases b2 : (x.tdiv 2).tmod 2 = 1
  · obtain ⟨r, H1, e1, k1, o1, g1, l1⟩ := countedS_ev (sh := sh) (a := a) hs hb hK hqb hqn hq ha hl m (by omega)
    have c5 := (k1.get p5 l5 n5).trans g5
    simp only [frC] at c5
    have or_ := o1.bs.one
    have orc := cells_one or_
    have o2 := o1.kx ((Kx.refl p5 H1).set (.cells 72 false (frC 8 A B 0 f r .nilSlice .nilSlice))) (.inl l5)
    simp only [frC] at o2
    rw [if_pos b2]
    refine ⟨_, _, r, by simp [Try.f217, t0, t1, t5, e1, tmodI, tdivI, w1, w2, b2, c5, stVar, spl, or_, orc]; rfl, ⟨by simp [t0], by simp [t1], by simp [t4], by simp [t5]⟩, by simp [frC], by simpa using o2, by simp [n5', g1], l1, by simpa using k1.next, fun b hb h1 h2 => ?_⟩
    simp [h2]; exact k1.get b hb h1
  · have b2' : ((x.tdiv 2).tmod 2 == 1) = false := by simpa using b2
    obtain ⟨r, H1, e1, k1, o1, g1, l1⟩ := restS_ev (sh := sh) (a := a) hs hK hqb hqn hq ha hl m (by omega)
    have c5 := (k1.get p5 l5 n5).trans g5
    simp only [frC] at c5
    have or_ := o1.bs.one
    have orc := cells_one or_
    have o2 := o1.kx ((Kx.refl p5 H1).set (.cells 72 false (frC 8 A B 0 f r .nilSlice .nilSlice))) (.inl l5)
    simp only [frC] at o2
    rw [if_neg b2]
    refine ⟨_, _, r, by simp [Try.f217, t0, t1, t5, e1, tmodI, tdivI, w1, w2, b2', c5, stVar, spl, or_, orc]; rfl, ⟨by simp [t0], by simp [t1], by simp [t4], by simp [t5]⟩, by simp [frC], by simpa using o2, by simp [n5', g1], l1, by simpa using k1.next, fun b hb h1 h2 => ?_⟩
    simp [h2]; exact k1.get b hb h1
theorem rs3 {h : AH} {q p4 p5 : Nat} {x : Int} {A B : Int} {f : Bool} {r : AV} (or_ : r.one = true) (n4 : p4 ≠ p5) (g4 : h.get p4 = some (.cells 72 false (frC 0 0 0 0 false .nilSlice .nilSlice .nilSlice))) (g5 : h.get p5 = some (.cells 72 false (frC 8 A B 0 f r .nilSlice .nilSlice)))
    (m : Nat) (τ : Tm) (T : RsT τ q p4 p5 x) : resM Try.prog [.cell 4 72] (evAt Try.prog (ev Try.prog m) m 217 31 τ h) = some (.agg (frC 8 A B 0 f r .nilSlice .nilSlice), h.set p4 (.cells 72 false (frC 8 A B 0 f r .nilSlice .nilSlice))) := by
  obtain ⟨t0, t1, t4, t5⟩ := T
  simp only [frC] at g4 g5 ⊢
  rw [at_M Try.func217 31 (by decide) 5 (by decide) (by kernel_rfl) []]
  simp [Try.f217, t4, t5, g4, g5, ldVar, stVar, spl, or_]
theorem varS_le {l : List Int} {a : Nat} (h : a ≤ l.length) (sh : Bool) : (varS l a sh).2.1 ≤ l.length := by
  unfold varS
  split
  · exact h
  · split
    · exact h
    · rename_i h2
      obtain ⟨e, h3, h4, h5⟩ := getVarP_end (l := l) (a := a) (by simpa using h2)
      simp [h3, h5]
def offS (l : List Int) (a : Nat) (sh : Bool) (x : Int) : Int × Nat × Bool := if (x.tdiv 4).tmod 2 = 1 then varS l a sh else (0, a, sh)
/-- a stream frame: the stream, the offset, the data -/
def streamS (l : List Int) (a : Nat) (sh : Bool) (x : Int) : Int × Int × (List Int × Nat × Bool) :=
  ((varS l a sh).1, (offS l (varS l a sh).2.1 (varS l a sh).2.2 x).1, dataS l (offS l (varS l a sh).2.1 (varS l a sh).2.2 x).2.1 (offS l (varS l a sh).2.1 (varS l a sh).2.2 x).2.2 x)
theorem readStreamS_ev {Hb H : AH} {q a : Nat} {s : AV} {l : List Int} {sh : Bool} (hs : Bs Hb s l) (hb : By l) (hK : Kp Hb H) (hqb : Hb.next ≤ q) (hqn : q < H.next) (hq : H.get q = some (rdB s a sh)) (ha : a ≤ l.length) (hl : l.length ≤ 65536) (x : Int) (hx : 0 ≤ x ∧ x ≤ 7) (m : Nat) (hm : 23 ≤ m) :
    ∃ r H', ev Try.prog m 217 [.ptr q 0, .int .i64 x] H = some (.agg (frC 8 (streamS l a sh x).1 (streamS l a sh x).2.1 0 (x.tmod 2 == 1) r .nilSlice .nilSlice), H') ∧ Kx q H H' ∧ Ow H.next H'.next H' r (streamS l a sh x).2.2.1 ∧
      H'.get q = some (rdB s (streamS l a sh x).2.2.2.1 (streamS l a sh x).2.2.2.2) ∧ (streamS l a sh x).2.2.2.1 ≤ l.length := by
  obtain ⟨m, rfl⟩ : ∃ k, m = k + 1 := ⟨m - 1, by omega⟩
  obtain ⟨τ0, H0, e0, t0, t1, t4, t5, g4, g5, gq, k0, n0⟩ := rs0 hs hb hK hqb hqn hq ha hl x hx m (by omega)
  have l0 := varS_le ha sh
  have K0 := k0.kp hK hqb
  obtain ⟨τ1, H1, e1, T1, c5, cq, n1, r1⟩ := rs1 hs hb K0 hqb (by omega) gq l0 hl x hx (p4 := H.next) (p5 := H.next + 1) (by omega) (by omega) g5 m (by omega) τ0 ⟨t0, t1, t4, t5⟩
  have hoff : (if (x.tdiv 4).tmod 2 = 1 then rdB s (varS l (varS l a sh).2.1 (varS l a sh).2.2).2.1 (varS l (varS l a sh).2.1 (varS l a sh).2.2).2.2 else rdB s (varS l a sh).2.1 (varS l a sh).2.2) = rdB s (offS l (varS l a sh).2.1 (varS l a sh).2.2 x).2.1 (offS l (varS l a sh).2.1 (varS l a sh).2.2 x).2.2 := by
    unfold offS; split <;> rfl
  have hoff1 : (if (x.tdiv 4).tmod 2 = 1 then (varS l (varS l a sh).2.1 (varS l a sh).2.2).1 else 0) = (offS l (varS l a sh).2.1 (varS l a sh).2.2 x).1 := by
    unfold offS; split <;> rfl
  have l1 : (offS l (varS l a sh).2.1 (varS l a sh).2.2 x).2.1 ≤ l.length := by
    unfold offS; split
    · exact varS_le l0 _
    · exact l0
  rw [hoff] at cq
  rw [hoff1] at c5
  have k1 : Kx q H H1 := ⟨by omega, fun b hb h => by rw [r1 b (by omega) h (by omega)]; exact k0.get b hb h⟩
  have K1 := k1.kp hK hqb
  obtain ⟨τ2, H2, r, e2, T2, d5, o2, dq, l2, n2, r2⟩ := rs2 hs hb K1 hqb (by omega) cq l1 hl x hx (p4 := H.next) (p5 := H.next + 1) (by omega) (by omega) c5 m (by omega) τ1 T1
  have d4 : H2.get H.next = some (.cells 72 false (frC 0 0 0 0 false .nilSlice .nilSlice .nilSlice)) := by rw [r2 _ (by omega) (by omega) (by omega), r1 _ (by omega) (by omega) (by omega), g4]
  have e3 := rs3 o2.bs.one (by omega) d4 d5 m τ2 T2
  have o3 := o2.kx ((Kx.refl H.next H2).set (.cells 72 false (frC 8 (varS l a sh).1 (offS l (varS l a sh).2.1 (varS l a sh).2.2 x).1 0 (x.tmod 2 == 1) r .nilSlice .nilSlice))) (.inl (by omega))
  refine ⟨r, _, by rw [e0, e1, e2, e3]; rfl, ?_, Ow.wide o3 (by omega) (by simp) (by simp), ?_, l2⟩
  · refine ⟨by simp; omega, fun b hb h => ?_⟩
    rw [AH.set_getN _ _ (by omega), r2 b (by omega) h (by omega)]
    exact k1.get b hb h
  · rw [AH.set_getN _ _ (by omega)]; exact dq
end Go.Ev

/- A frame read by the program: the head, the end. -/
namespace Go.Ev
open Go Go.Proofs
set_option linter.unusedSimpArgs false
set_option linter.unusedVariables false

structure FrT (τ : Tm) (q p2 p4 : Nat) (k : Int) : Prop where
  t0 : τ 0 = .ptr q 0
  t2 : τ 2 = .ptr p2 0
  t3 : τ 3 = .int .i64 k
  t4 : τ 4 = .ptr p4 0
theorem fr0 {Hb H : AH} {q a : Nat} {s : AV} {l : List Int} {c : Int} (hs : Bs Hb s l) (hb : By l) (hK : Kp Hb H) (hqb : Hb.next ≤ q) (hqn : q < H.next) (hq : H.get q = some (scB s a c)) (ha : a ≤ l.length) (hl : l.length ≤ 65536) (m : Nat) (hm : 4 ≤ m) :
    ∃ τ' H', ev Try.prog (m + 1) 126 [.ptr q 0] H = resM Try.prog [.cell 2 72] (evAt Try.prog (ev Try.prog m) m 126 15 τ' H') ∧ FrT τ' q H.next (H.next + 1) (octetI l a c).1 ∧
      H'.get H.next = some (.cells 72 false (frC 0 0 0 0 false .nilSlice .nilSlice .nilSlice)) ∧ H'.get (H.next + 1) = some (.cells 72 false (frC (octetI l a c).1 0 0 0 false .nilSlice .nilSlice .nilSlice)) ∧
      H'.get q = some (scB s (octetI l a c).2.1 (octetI l a c).2.2) ∧ Kx q H H' ∧ H'.next = H.next + 2 ∧ (octetI l a c).2.1 ≤ l.length := by
  let A0 : AH := H.push (.cells 72 false (frC 0 0 0 0 false .nilSlice .nilSlice .nilSlice))
  have nq : ¬ (q = H.next) := by omega
  have kA : Kp H A0 := (Kp.refl H).push _
  obtain ⟨H1, e1, k1, n1, g1, l1⟩ := octet_ev (H := A0) (c := c) (a := a) hs hb (hK.trans kA) hqb (by simp [A0, nq, hq]) ha hl m (by omega)
  have b1 := k1.get H.next (by simp [A0]) (by omega)
  simp [A0] at b1 n1
  simp only [A0, frC] at e1
  have nq1 : ¬ (q = H1.next) := by omega
  have nb1 : ¬ (H.next = H1.next) := by omega
  rw [ev_M Try.func126 ok126 [15] m _ H (by simp [Try.f126])]
  refine ⟨_, _, by simp [Try.f126, tm0, fillA, stVar, spl, e1]; rfl, ⟨by simp [tm0], by simp, by simp, by simp [n1]⟩, ?_⟩
  simp [n1, nq, nq1, nb1, b1, g1, frC, tm0, l1]
  exact ⟨fun e => absurd e (by omega), ((Kx.of kA).trans k1).push _⟩
/-- the head: the code stops it -/
theorem fr1 {h : AH} {q p2 p4 a : Nat} {s : AV} {k c : Int} (hq : h.get q = some (scB s a c)) (n42 : p2 ≠ p4) (g2 : h.get p2 = some (.cells 72 false (frC 0 0 0 0 false .nilSlice .nilSlice .nilSlice))) (g4 : h.get p4 = some (.cells 72 false (frC k 0 0 0 false .nilSlice .nilSlice .nilSlice)))
    (m : Nat) (τ : Tm) (T : FrT τ q p2 p4 k) : (c ≠ 0 → resM Try.prog [.cell 2 72] (evAt Try.prog (ev Try.prog m) m 126 15 τ h) = some (.agg (frC k 0 0 0 false .nilSlice .nilSlice .nilSlice), h.set p2 (.cells 72 false (frC k 0 0 0 false .nilSlice .nilSlice .nilSlice)))) ∧
      (c = 0 → ∃ τ', evAt Try.prog (ev Try.prog m) m 126 15 τ h = evAt Try.prog (ev Try.prog m) m 126 31 τ' h ∧ FrT τ' q p2 p4 k) := by
  obtain ⟨t0, t2, t3, t4⟩ := T
  unfold scB at hq
  simp only [frC] at g2 g4 ⊢
  rw [at_M Try.func126 15 (by decide) 4 (by decide) (by kernel_rfl) [31]]
  refine ⟨fun hc => ?_, fun hc => ?_⟩
  · have hc' : (c != 0) = true := by simpa using hc
    simp [Try.f126, t0, t2, t4, hq, g2, g4, ldVar, stVar, spl, hc']
  · subst hc
    exact ⟨_, by simp [Try.f126, t0, t2, t4, hq, g2, g4, ldVar]; rfl, by simp [t0], by simp [t2], by simp [t3], by simp [t4]⟩
/-- the end: whether the frame is right -/
theorem fr8 {rw : Bool} {Hb h : AH} {q p2 p4 a : Nat} {s : AV} {c k k' A B C : Int} {f : Bool} {d t r : AV} {dl tl : Nat} {rs : List (Int × Int)} {bs : List Nat} (hr : (Ty.sl 94 tT94).R rw Hb [r] rs bs) (hK : Kp Hb h)
    (hd : ∀ h, lenA Try.prog 34 d h = some (.int .i64 dl)) (ht : ∀ h, lenA Try.prog 34 t h = some (.int .i64 tl)) (od : d.one = true) (ot : t.one = true) (hdl : dl ≤ 1048576) (hrl : rs.length ≤ 1048576)
    (hq : h.get q = some (scB s a c)) (hqn : q < h.next) (n4 : p4 ≠ q) (l4 : p4 < h.next) (g4 : h.get p4 = some (.cells 72 false (frC k A B C f d t r))) (m : Nat) (hm : 75 ≤ m) (τ : Tm) (T : FrT τ q p2 p4 k') :
    ∃ τ' H', evAt Try.prog (ev Try.prog m) m 126 63 τ h = evAt Try.prog (ev Try.prog m) m 126 127 τ' H' ∧ FrT τ' q p2 p4 k' ∧ H'.get q = some (scB s a (if c = 0 ∧ ¬ frOK k A B C f dl tl rs then 3 else c)) ∧ Kx q h H' := by
  obtain ⟨t0, t2, t3, t4⟩ := T
  have or_ : r.one = true := hr.sl_one
  have hq0 := hq
  unfold scB at hq
  obtain ⟨H1, e1, k1⟩ := FrameOKI_ev (k := k) (a := A) (b := B) (c := C) (fin := f) hr hK hd ht od ot hdl hrl m hm
  have hq1 := (k1.get q hqn).trans hq0
  have ef := fail_ev (e := 3) hq1 m (by omega)
  simp only [frC] at e1 g4
  rw [at_M Try.func126 63 (by decide) 6 (by decide) (by kernel_rfl) [127]]
  by_cases c0 : c = 0
  · subst c0
    by_cases ok : frOK k A B C f dl tl rs
    · simp only [ok, decide_true] at e1
      exact ⟨_, H1, by simp [Try.f126, t0, t4, hq, g4, ldVar, e1]; rfl, ⟨by simp [t0], by simp [t2], by simp [t3], by simp [t4]⟩, by simpa [ok] using hq1, Kx.of k1⟩
    · simp only [ok, decide_false] at e1
      rw [if_pos rfl] at ef
      exact ⟨_, _, by simp [Try.f126, t0, t4, hq, g4, ldVar, e1, ef]; rfl, ⟨by simp [t0], by simp [t2], by simp [t3], by simp [t4]⟩, by simp [ok], (Kx.of k1).set _⟩
  · have c0' : (c == 0) = false := by simpa using c0
    exact ⟨_, h, by simp [Try.f126, t0, t4, hq, g4, ldVar, c0']; rfl, ⟨by simp [t0], by simp [t2], by simp [t3], by simp [t4]⟩, by simpa [c0] using hq0, Kx.refl q h⟩
theorem fr9 {h : AH} {q p2 p4 : Nat} {k k' A B C : Int} {f : Bool} {d t r : AV} (od : d.one = true) (ot : t.one = true) (or_ : r.one = true) (g2 : h.get p2 = some (.cells 72 false (frC 0 0 0 0 false .nilSlice .nilSlice .nilSlice))) (g4 : h.get p4 = some (.cells 72 false (frC k A B C f d t r)))
    (m : Nat) (τ : Tm) (T : FrT τ q p2 p4 k') : resM Try.prog [.cell 2 72] (evAt Try.prog (ev Try.prog m) m 126 127 τ h) = some (.agg (frC k A B C f d t r), h.set p2 (.cells 72 false (frC k A B C f d t r))) := by
  obtain ⟨t0, t2, t3, t4⟩ := T
  simp only [frC] at g2 g4 ⊢
  rw [at_M Try.func126 127 (by decide) 7 (by decide) (by kernel_rfl) []]
  simp [Try.f126, t2, t4, g2, g4, ldVar, stVar, spl, od, ot, or_]
end Go.Ev

/- A frame read by the program: the way to a kind's place. -/
namespace Go.Ev
open Go Go.Proofs
set_option linter.unusedSimpArgs false
set_option linter.unusedVariables false

structure FrU (τ : Tm) (q p2 p4 : Nat) (k : Int) : Prop where
  T : FrT τ q p2 p4 k
  t15 : τ 15 = .int .i64 k
set_option maxRecDepth 20000 in
theorem frS_250 {q p2 p4 : Nat} (k : Int) (h0 : ¬ (k = 0)) (m : Nat) (τ : Tm) (H : AH) (S : FrU τ q p2 p4 k) :
    ∃ τ', evAt Try.prog (ev Try.prog m) m 126 250 τ H = evAt Try.prog (ev Try.prog m) m 126 1003 τ' H ∧ FrU τ' q p2 p4 k := by
  obtain ⟨⟨t0, t2, t3, t4⟩, tk⟩ := S
  rw [at_M Try.func126 250 (by decide) 8 (by decide) (by kernel_rfl) [1003]]
  exact ⟨_, by simp [Try.f126, tk, beqF, h0]; rfl, ⟨by simp [t0], by simp [t2], by simp [t3], by simp [t4]⟩, by simp [tk]⟩
set_option maxRecDepth 20000 in
theorem frS_1003 {q p2 p4 : Nat} (k : Int) (h1 : ¬ (k = 1)) (h30 : ¬ (k = 30)) (m : Nat) (τ : Tm) (H : AH) (S : FrU τ q p2 p4 k) :
    ∃ τ', evAt Try.prog (ev Try.prog m) m 126 1003 τ H = evAt Try.prog (ev Try.prog m) m 126 4015 τ' H ∧ FrU τ' q p2 p4 k := by
  obtain ⟨⟨t0, t2, t3, t4⟩, tk⟩ := S
  rw [at_M Try.func126 1003 (by decide) 10 (by decide) (by kernel_rfl) [4015]]
  exact ⟨_, by simp [Try.f126, tk, beqF, h1, h30]; rfl, ⟨by simp [t0], by simp [t2], by simp [t3], by simp [t4]⟩, by simp [tk]⟩
set_option maxRecDepth 20000 in
theorem frS_4015 {q p2 p4 : Nat} (k : Int) (h2 : ¬ (k = 2)) (m : Nat) (τ : Tm) (H : AH) (S : FrU τ q p2 p4 k) :
    ∃ τ', evAt Try.prog (ev Try.prog m) m 126 4015 τ H = evAt Try.prog (ev Try.prog m) m 126 16063 τ' H ∧ FrU τ' q p2 p4 k := by
  obtain ⟨⟨t0, t2, t3, t4⟩, tk⟩ := S
  rw [at_M Try.func126 4015 (by decide) 12 (by decide) (by kernel_rfl) [16063]]
  exact ⟨_, by simp [Try.f126, tk, beqF, h2]; rfl, ⟨by simp [t0], by simp [t2], by simp [t3], by simp [t4]⟩, by simp [tk]⟩
set_option maxRecDepth 20000 in
theorem frS_16063 {q p2 p4 : Nat} (k : Int) (h4 : ¬ (k = 4)) (m : Nat) (τ : Tm) (H : AH) (S : FrU τ q p2 p4 k) :
    ∃ τ', evAt Try.prog (ev Try.prog m) m 126 16063 τ H = evAt Try.prog (ev Try.prog m) m 126 64255 τ' H ∧ FrU τ' q p2 p4 k := by
  obtain ⟨⟨t0, t2, t3, t4⟩, tk⟩ := S
  rw [at_M Try.func126 16063 (by decide) 14 (by decide) (by kernel_rfl) [64255]]
  exact ⟨_, by simp [Try.f126, tk, beqF, h4]; rfl, ⟨by simp [t0], by simp [t2], by simp [t3], by simp [t4]⟩, by simp [tk]⟩
set_option maxRecDepth 20000 in
theorem frS_64255 {q p2 p4 : Nat} (k : Int) (h5 : ¬ (k = 5)) (h17 : ¬ (k = 17)) (h21 : ¬ (k = 21)) (m : Nat) (τ : Tm) (H : AH) (S : FrU τ q p2 p4 k) :
    ∃ τ', evAt Try.prog (ev Try.prog m) m 126 64255 τ H = evAt Try.prog (ev Try.prog m) m 126 257023 τ' H ∧ FrU τ' q p2 p4 k := by
  obtain ⟨⟨t0, t2, t3, t4⟩, tk⟩ := S
  rw [at_M Try.func126 64255 (by decide) 16 (by decide) (by kernel_rfl) [257023]]
  exact ⟨_, by simp [Try.f126, tk, beqF, h5, h17, h21]; rfl, ⟨by simp [t0], by simp [t2], by simp [t3], by simp [t4]⟩, by simp [tk]⟩
set_option maxRecDepth 20000 in
theorem frS_257023 {q p2 p4 : Nat} (k : Int) (h6 : ¬ (k = 6)) (h29 : ¬ (k = 29)) (m : Nat) (τ : Tm) (H : AH) (S : FrU τ q p2 p4 k) :
    ∃ τ', evAt Try.prog (ev Try.prog m) m 126 257023 τ H = evAt Try.prog (ev Try.prog m) m 126 1028095 τ' H ∧ FrU τ' q p2 p4 k := by
  obtain ⟨⟨t0, t2, t3, t4⟩, tk⟩ := S
  rw [at_M Try.func126 257023 (by decide) 18 (by decide) (by kernel_rfl) [1028095]]
  exact ⟨_, by simp [Try.f126, tk, beqF, h6, h29]; rfl, ⟨by simp [t0], by simp [t2], by simp [t3], by simp [t4]⟩, by simp [tk]⟩
set_option maxRecDepth 20000 in
theorem frS_1028095 {q p2 p4 : Nat} (k : Int) (h7 : ¬ (k = 7)) (m : Nat) (τ : Tm) (H : AH) (S : FrU τ q p2 p4 k) :
    ∃ τ', evAt Try.prog (ev Try.prog m) m 126 1028095 τ H = evAt Try.prog (ev Try.prog m) m 126 4112383 τ' H ∧ FrU τ' q p2 p4 k := by
  obtain ⟨⟨t0, t2, t3, t4⟩, tk⟩ := S
  rw [at_M Try.func126 1028095 (by decide) 20 (by decide) (by kernel_rfl) [4112383]]
  exact ⟨_, by simp [Try.f126, tk, beqF, h7]; rfl, ⟨by simp [t0], by simp [t2], by simp [t3], by simp [t4]⟩, by simp [tk]⟩
set_option maxRecDepth 20000 in
theorem frS_4112383 {q p2 p4 : Nat} (k : Int) (h8 : ¬ (k = 8)) (h9 : ¬ (k = 9)) (h10 : ¬ (k = 10)) (h11 : ¬ (k = 11)) (h12 : ¬ (k = 12)) (h13 : ¬ (k = 13)) (h14 : ¬ (k = 14)) (h15 : ¬ (k = 15)) (m : Nat) (τ : Tm) (H : AH) (S : FrU τ q p2 p4 k) :
    ∃ τ', evAt Try.prog (ev Try.prog m) m 126 4112383 τ H = evAt Try.prog (ev Try.prog m) m 126 16449535 τ' H ∧ FrU τ' q p2 p4 k := by
  obtain ⟨⟨t0, t2, t3, t4⟩, tk⟩ := S
  rw [at_M Try.func126 4112383 (by decide) 22 (by decide) (by kernel_rfl) [16449535]]
  exact ⟨_, by simp [Try.f126, tk, beqF, h8, h9, h10, h11, h12, h13, h14, h15]; rfl, ⟨by simp [t0], by simp [t2], by simp [t3], by simp [t4]⟩, by simp [tk]⟩
set_option maxRecDepth 20000 in
theorem frS_16449535 {q p2 p4 : Nat} (k : Int) (h18 : ¬ (k = 18)) (h19 : ¬ (k = 19)) (m : Nat) (τ : Tm) (H : AH) (S : FrU τ q p2 p4 k) :
    ∃ τ', evAt Try.prog (ev Try.prog m) m 126 16449535 τ H = evAt Try.prog (ev Try.prog m) m 126 65798143 τ' H ∧ FrU τ' q p2 p4 k := by
  obtain ⟨⟨t0, t2, t3, t4⟩, tk⟩ := S
  rw [at_M Try.func126 16449535 (by decide) 24 (by decide) (by kernel_rfl) [65798143]]
  exact ⟨_, by simp [Try.f126, tk, beqF, h18, h19]; rfl, ⟨by simp [t0], by simp [t2], by simp [t3], by simp [t4]⟩, by simp [tk]⟩
set_option maxRecDepth 20000 in
theorem frS_65798143 {q p2 p4 : Nat} (k : Int) (h22 : ¬ (k = 22)) (h23 : ¬ (k = 23)) (m : Nat) (τ : Tm) (H : AH) (S : FrU τ q p2 p4 k) :
    ∃ τ', evAt Try.prog (ev Try.prog m) m 126 65798143 τ H = evAt Try.prog (ev Try.prog m) m 126 263192575 τ' H ∧ FrU τ' q p2 p4 k := by
  obtain ⟨⟨t0, t2, t3, t4⟩, tk⟩ := S
  rw [at_M Try.func126 65798143 (by decide) 26 (by decide) (by kernel_rfl) [263192575]]
  exact ⟨_, by simp [Try.f126, tk, beqF, h22, h23]; rfl, ⟨by simp [t0], by simp [t2], by simp [t3], by simp [t4]⟩, by simp [tk]⟩
set_option maxRecDepth 20000 in
theorem frS_263192575 {q p2 p4 : Nat} (k : Int) (h16 : ¬ (k = 16)) (h20 : ¬ (k = 20)) (h25 : ¬ (k = 25)) (m : Nat) (τ : Tm) (H : AH) (S : FrU τ q p2 p4 k) :
    ∃ τ', evAt Try.prog (ev Try.prog m) m 126 263192575 τ H = evAt Try.prog (ev Try.prog m) m 126 1052770303 τ' H ∧ FrU τ' q p2 p4 k := by
  obtain ⟨⟨t0, t2, t3, t4⟩, tk⟩ := S
  rw [at_M Try.func126 263192575 (by decide) 28 (by decide) (by kernel_rfl) [1052770303]]
  exact ⟨_, by simp [Try.f126, tk, beqF, h16, h20, h25]; rfl, ⟨by simp [t0], by simp [t2], by simp [t3], by simp [t4]⟩, by simp [tk]⟩
set_option maxRecDepth 20000 in
theorem frS_1052770303 {q p2 p4 : Nat} (k : Int) (h24 : ¬ (k = 24)) (m : Nat) (τ : Tm) (H : AH) (S : FrU τ q p2 p4 k) :
    ∃ τ', evAt Try.prog (ev Try.prog m) m 126 1052770303 τ H = evAt Try.prog (ev Try.prog m) m 126 4211081215 τ' H ∧ FrU τ' q p2 p4 k := by
  obtain ⟨⟨t0, t2, t3, t4⟩, tk⟩ := S
  rw [at_M Try.func126 1052770303 (by decide) 30 (by decide) (by kernel_rfl) [4211081215]]
  exact ⟨_, by simp [Try.f126, tk, beqF, h24]; rfl, ⟨by simp [t0], by simp [t2], by simp [t3], by simp [t4]⟩, by simp [tk]⟩
set_option maxRecDepth 20000 in
theorem frS_4211081215 {q p2 p4 : Nat} (k : Int) (h26 : ¬ (k = 26)) (h27 : ¬ (k = 27)) (m : Nat) (τ : Tm) (H : AH) (S : FrU τ q p2 p4 k) :
    ∃ τ', evAt Try.prog (ev Try.prog m) m 126 4211081215 τ H = evAt Try.prog (ev Try.prog m) m 126 16844324863 τ' H ∧ FrU τ' q p2 p4 k := by
  obtain ⟨⟨t0, t2, t3, t4⟩, tk⟩ := S
  rw [at_M Try.func126 4211081215 (by decide) 32 (by decide) (by kernel_rfl) [16844324863]]
  exact ⟨_, by simp [Try.f126, tk, beqF, h26, h27]; rfl, ⟨by simp [t0], by simp [t2], by simp [t3], by simp [t4]⟩, by simp [tk]⟩
set_option maxRecDepth 20000 in
theorem frS_16844324863 {q p2 p4 : Nat} (k : Int) (h28 : ¬ (k = 28)) (m : Nat) (τ : Tm) (H : AH) (S : FrU τ q p2 p4 k) :
    ∃ τ', evAt Try.prog (ev Try.prog m) m 126 16844324863 τ H = evAt Try.prog (ev Try.prog m) m 126 67377299455 τ' H ∧ FrU τ' q p2 p4 k := by
  obtain ⟨⟨t0, t2, t3, t4⟩, tk⟩ := S
  rw [at_M Try.func126 16844324863 (by decide) 34 (by decide) (by kernel_rfl) [67377299455]]
  exact ⟨_, by simp [Try.f126, tk, beqF, h28]; rfl, ⟨by simp [t0], by simp [t2], by simp [t3], by simp [t4]⟩, by simp [tk]⟩
set_option maxRecDepth 20000 in
theorem frS_67377299455 {q p2 p4 : Nat} (k : Int) (h48 : ¬ (k = 48)) (m : Nat) (τ : Tm) (H : AH) (S : FrU τ q p2 p4 k) :
    ∃ τ', evAt Try.prog (ev Try.prog m) m 126 67377299455 τ H = evAt Try.prog (ev Try.prog m) m 126 269509197823 τ' H ∧ FrU τ' q p2 p4 k := by
  obtain ⟨⟨t0, t2, t3, t4⟩, tk⟩ := S
  rw [at_M Try.func126 67377299455 (by decide) 36 (by decide) (by kernel_rfl) [269509197823]]
  exact ⟨_, by simp [Try.f126, tk, beqF, h48]; rfl, ⟨by simp [t0], by simp [t2], by simp [t3], by simp [t4]⟩, by simp [tk]⟩
end Go.Ev

/- A frame read by the program: the kinds of numbers alone. -/
namespace Go.Ev
open Go Go.Proofs
set_option linter.unusedSimpArgs false
set_option linter.unusedVariables false

/-- what a kind's place leaves: the frame, the scanner -/
structure FrE (q p2 p4 : Nat) (s : AV) (k : Int) (h H' : AH) (τ' : Tm) (fr : List AV) (st : Nat × Int) : Prop where
  T : FrT τ' q p2 p4 k
  g4 : H'.get p4 = some (.cells 72 false fr)
  gq : H'.get q = some (scB s st.1 st.2)
  next : h.next ≤ H'.next
  rest : ∀ b, b < h.next → b ≠ q → b ≠ p4 → H'.get b = h.get b
set_option maxRecDepth 20000 in
theorem frK_A {Hb h : AH} {q p2 p4 a : Nat} {s : AV} {l : List Int} {c : Int} (hs : Bs Hb s l) (hb : By l) (hK : Kp Hb h) (hqb : Hb.next ≤ q) (hq : h.get q = some (scB s a c)) (hqn : q < h.next) (ha : a ≤ l.length) (hl : l.length ≤ 65536)
    (k : Int) (hk : k = 16 ∨ k = 20 ∨ k = 25) (n4 : p4 ≠ q) (l4 : p4 < h.next) (g4 : h.get p4 = some (.cells 72 false (frC k 0 0 0 false .nilSlice .nilSlice .nilSlice))) (m : Nat) (hm : 21 ≤ m) (τ : Tm) (S : FrU τ q p2 p4 k) :
    ∃ τ' H', evAt Try.prog (ev Try.prog m) m 126 263192575 τ h = some (.normal, τ', H') ∧ FrE q p2 p4 s k h H' τ' (frC k (numberI l a c).1 0 0 false .nilSlice .nilSlice .nilSlice) (numberI l a c).2 := by
  obtain ⟨⟨t0, t2, t3, t4⟩, tk⟩ := S
  obtain ⟨H1, e1, k1, n1, g1, l1⟩ := number_ev (c := c) (a := a) hs hb hK hqb hq ha hl m hm
  have c4 := (k1.get p4 l4 n4).trans g4
  have n4' : ¬ (q = p4) := fun e => n4 e.symm
  simp only [frC] at c4 ⊢
  rw [at_M Try.func126 263192575 (by decide) 28 (by decide) (by kernel_rfl) [1052770303]]
  rcases hk with rfl | rfl | rfl
  all_goals
    refine ⟨_, _, by simp [Try.f126, tk, t0, t4, e1, c4, stVar, spl]; exact ⟨rfl, rfl⟩, ⟨by simp [t0], by simp [t2], by simp [t3], by simp [t4]⟩, by simp, by simp [n4', g1], by simp [n1], fun b hb h1 h2 => ?_⟩
    simp [h2]; exact k1.get b hb h1
set_option maxRecDepth 20000 in
theorem frK_AB {Hb h : AH} {q p2 p4 a : Nat} {s : AV} {l : List Int} {c : Int} (hs : Bs Hb s l) (hb : By l) (hK : Kp Hb h) (hqb : Hb.next ≤ q) (hq : h.get q = some (scB s a c)) (hqn : q < h.next) (ha : a ≤ l.length) (hl : l.length ≤ 65536)
    (k : Int) (hk : k = 5 ∨ k = 17 ∨ k = 21) (n4 : p4 ≠ q) (l4 : p4 < h.next) (g4 : h.get p4 = some (.cells 72 false (frC k 0 0 0 false .nilSlice .nilSlice .nilSlice))) (m : Nat) (hm : 21 ≤ m) (τ : Tm) (S : FrU τ q p2 p4 k) :
    ∃ τ' H', evAt Try.prog (ev Try.prog m) m 126 64255 τ h = some (.normal, τ', H') ∧ FrE q p2 p4 s k h H' τ' (frC k (numberI l a c).1 (numberI l (numberI l a c).2.1 (numberI l a c).2.2).1 0 false .nilSlice .nilSlice .nilSlice) (numberI l (numberI l a c).2.1 (numberI l a c).2.2).2 := by
  obtain ⟨⟨t0, t2, t3, t4⟩, tk⟩ := S
  obtain ⟨H1, e1, k1, n1, g1, l1⟩ := number_ev (c := c) (a := a) hs hb hK hqb hq ha hl m hm
  obtain ⟨H2, e2, k2, n2, g2, l2⟩ := number_ev hs hb (k1.kp hK hqb) hqb g1 l1 hl m hm
  have k12 := k1.trans k2
  have c4 := (k12.get p4 l4 n4).trans g4
  have n4' : ¬ (q = p4) := fun e => n4 e.symm
  simp only [frC] at c4 ⊢
  rw [at_M Try.func126 64255 (by decide) 16 (by decide) (by kernel_rfl) [257023]]
  rcases hk with rfl | rfl | rfl
  all_goals
    refine ⟨_, _, by simp [Try.f126, tk, t0, t4, e1, e2, c4, stVar, spl]; exact ⟨rfl, rfl⟩, ⟨by simp [t0], by simp [t2], by simp [t3], by simp [t4]⟩, by simp, by simp [n4', g2], by simp [n1, n2], fun b hb h1 h2 => ?_⟩
    simp [h2]; exact k12.get b hb h1
set_option maxRecDepth 20000 in
theorem frK_ABC {Hb h : AH} {q p2 p4 a : Nat} {s : AV} {l : List Int} {c : Int} (hs : Bs Hb s l) (hb : By l) (hK : Kp Hb h) (hqb : Hb.next ≤ q) (hq : h.get q = some (scB s a c)) (hqn : q < h.next) (ha : a ≤ l.length) (hl : l.length ≤ 65536)
     (n4 : p4 ≠ q) (l4 : p4 < h.next) (g4 : h.get p4 = some (.cells 72 false (frC 4 0 0 0 false .nilSlice .nilSlice .nilSlice))) (m : Nat) (hm : 21 ≤ m) (τ : Tm) (S : FrU τ q p2 p4 4) :
    ∃ τ' H', evAt Try.prog (ev Try.prog m) m 126 16063 τ h = some (.normal, τ', H') ∧ FrE q p2 p4 s 4 h H' τ' (frC 4 (numberI l a c).1 (numberI l (numberI l a c).2.1 (numberI l a c).2.2).1 (numberI l (numberI l (numberI l a c).2.1 (numberI l a c).2.2).2.1 (numberI l (numberI l a c).2.1 (numberI l a c).2.2).2.2).1 false .nilSlice .nilSlice .nilSlice) (numberI l (numberI l (numberI l a c).2.1 (numberI l a c).2.2).2.1 (numberI l (numberI l a c).2.1 (numberI l a c).2.2).2.2).2 := by
  obtain ⟨⟨t0, t2, t3, t4⟩, tk⟩ := S
  obtain ⟨H1, e1, k1, n1, g1, l1⟩ := number_ev (c := c) (a := a) hs hb hK hqb hq ha hl m hm
  obtain ⟨H2, e2, k2, n2, g2, l2⟩ := number_ev hs hb (k1.kp hK hqb) hqb g1 l1 hl m hm
  have k12 := k1.trans k2
  obtain ⟨H3, e3, k3, n3, g3, l3⟩ := number_ev hs hb (k12.kp hK hqb) hqb g2 l2 hl m hm
  have k13 := k12.trans k3
  have c4 := (k13.get p4 l4 n4).trans g4
  have n4' : ¬ (q = p4) := fun e => n4 e.symm
  simp only [frC] at c4 ⊢
  rw [at_M Try.func126 16063 (by decide) 14 (by decide) (by kernel_rfl) [64255]]
  refine ⟨_, _, by simp [Try.f126, tk, t0, t4, e1, e2, e3, c4, stVar, spl]; exact ⟨rfl, rfl⟩, ⟨by simp [t0], by simp [t2], by simp [t3], by simp [t4]⟩, by simp, by simp [n4', g3], by simp [n1, n2, n3], fun b hb h1 h2 => ?_⟩
  simp [h2]; exact k13.get b hb h1
set_option maxRecDepth 20000 in
theorem frK_18 {Hb h : AH} {q p2 p4 a : Nat} {s : AV} {l : List Int} {c : Int} (hs : Bs Hb s l) (hb : By l) (hK : Kp Hb h) (hqb : Hb.next ≤ q) (hq : h.get q = some (scB s a c)) (hqn : q < h.next) (ha : a ≤ l.length) (hl : l.length ≤ 65536)
    (k : Int) (hk : k = 18 ∨ k = 19) (n4 : p4 ≠ q) (l4 : p4 < h.next) (b4 : Hb.next ≤ p4) (g4 : h.get p4 = some (.cells 72 false (frC k 0 0 0 false .nilSlice .nilSlice .nilSlice))) (m : Nat) (hm : 21 ≤ m) (τ : Tm) (S : FrU τ q p2 p4 k) :
    ∃ τ' H', evAt Try.prog (ev Try.prog m) m 126 16449535 τ h = some (.normal, τ', H') ∧ FrE q p2 p4 s k h H' τ' (frC 18 (numberI l a c).1 (k - 18) 0 false .nilSlice .nilSlice .nilSlice) (numberI l a c).2 := by
  obtain ⟨⟨t0, t2, t3, t4⟩, tk⟩ := S
  have n4' : ¬ (q = p4) := fun e => n4 e.symm
  have K1 : Kp Hb (h.set p4 (.cells 72 false (frC 18 0 (k - 18) 0 false .nilSlice .nilSlice .nilSlice))) := ⟨hK.next, fun b hb' => by rw [AH.set_getN _ _ (by omega)]; exact hK.get b hb'⟩
  obtain ⟨H1, e1, k1, n1, g1, l1⟩ := number_ev (c := c) (a := a) hs hb K1 hqb (by rw [AH.set_getN _ _ (by omega)]; exact hq) ha hl m hm
  have c4 := k1.get p4 (by simpa using l4) n4
  simp only [frC] at c4 g4 e1 ⊢
  simp at c4 n1
  have w1 : IntKind.i64.wrap (k - 18) = k - 18 := wrap_i64 (n := k - 18) (by omega) (by omega)
  rw [at_M Try.func126 16449535 (by decide) 24 (by decide) (by kernel_rfl) [65798143]]
  rcases hk with rfl | rfl
  all_goals
    have z0 : IntKind.i64.wrap 0 = 0 := by decide
    have z1 : IntKind.i64.wrap 1 = 1 := by decide
    simp at e1 c4
    refine ⟨_, _, by simp [Try.f126, tk, t0, t3, t4, e1, z0, z1, c4, g4, stVar, spl]; exact ⟨rfl, rfl⟩, ⟨by simp [t0], by simp [t2], by simp [t3], by simp [t4]⟩, by simp, by simp [n4', g1], by simp [n1], fun b hb h1 h2 => ?_⟩
    simp [h2]; rw [k1.get b (by simpa using hb) h1, AH.set_getN _ _ h2]

set_option maxRecDepth 20000 in
theorem frK_22 {Hb h : AH} {q p2 p4 a : Nat} {s : AV} {l : List Int} {c : Int} (hs : Bs Hb s l) (hb : By l) (hK : Kp Hb h) (hqb : Hb.next ≤ q) (hq : h.get q = some (scB s a c)) (hqn : q < h.next) (ha : a ≤ l.length) (hl : l.length ≤ 65536)
    (k : Int) (hk : k = 22 ∨ k = 23) (n4 : p4 ≠ q) (l4 : p4 < h.next) (b4 : Hb.next ≤ p4) (g4 : h.get p4 = some (.cells 72 false (frC k 0 0 0 false .nilSlice .nilSlice .nilSlice))) (m : Nat) (hm : 21 ≤ m) (τ : Tm) (S : FrU τ q p2 p4 k) :
    ∃ τ' H', evAt Try.prog (ev Try.prog m) m 126 65798143 τ h = some (.normal, τ', H') ∧ FrE q p2 p4 s k h H' τ' (frC 22 (numberI l a c).1 (k - 22) 0 false .nilSlice .nilSlice .nilSlice) (numberI l a c).2 := by
  obtain ⟨⟨t0, t2, t3, t4⟩, tk⟩ := S
  have n4' : ¬ (q = p4) := fun e => n4 e.symm
  have K1 : Kp Hb (h.set p4 (.cells 72 false (frC 22 0 (k - 22) 0 false .nilSlice .nilSlice .nilSlice))) := ⟨hK.next, fun b hb' => by rw [AH.set_getN _ _ (by omega)]; exact hK.get b hb'⟩
  obtain ⟨H1, e1, k1, n1, g1, l1⟩ := number_ev (c := c) (a := a) hs hb K1 hqb (by rw [AH.set_getN _ _ (by omega)]; exact hq) ha hl m hm
  have c4 := k1.get p4 (by simpa using l4) n4
  simp only [frC] at c4 g4 e1 ⊢
  simp at c4 n1
  have w1 : IntKind.i64.wrap (k - 22) = k - 22 := wrap_i64 (n := k - 22) (by omega) (by omega)
  rw [at_M Try.func126 65798143 (by decide) 26 (by decide) (by kernel_rfl) [263192575]]
  rcases hk with rfl | rfl
  all_goals
    have z0 : IntKind.i64.wrap 0 = 0 := by decide
    have z1 : IntKind.i64.wrap 1 = 1 := by decide
    simp at e1 c4
    refine ⟨_, _, by simp [Try.f126, tk, t0, t3, t4, e1, z0, z1, c4, g4, stVar, spl]; exact ⟨rfl, rfl⟩, ⟨by simp [t0], by simp [t2], by simp [t3], by simp [t4]⟩, by simp, by simp [n4', g1], by simp [n1], fun b hb h1 h2 => ?_⟩
    simp [h2]; rw [k1.get b (by simpa using hb) h1, AH.set_getN _ _ h2]

end Go.Ev

/- A frame read by the program: kinds of bytes alone. -/
namespace Go.Ev
open Go Go.Proofs
set_option linter.unusedSimpArgs false
set_option linter.unusedVariables false

set_option maxRecDepth 20000 in
theorem frK_7 {Hb h : AH} {q p2 p4 a : Nat} {s : AV} {l : List Int} {c : Int} (hs : Bs Hb s l) (hb : By l) (hK : Kp Hb h) (hqb : Hb.next ≤ q) (hq : h.get q = some (scB s a c)) (hqn : q < h.next) (ha : a ≤ l.length) (hl : l.length ≤ 65536)
    (n4 : p4 ≠ q) (l4 : p4 < h.next) (b4 : Hb.next ≤ p4) (g4 : h.get p4 = some (.cells 72 false (frC 7 0 0 0 false .nilSlice .nilSlice .nilSlice))) (m : Nat) (hm : 22 ≤ m) (τ : Tm) (S : FrU τ q p2 p4 7) :
    ∃ τ' H' r, evAt Try.prog (ev Try.prog m) m 126 1028095 τ h = some (.normal, τ', H') ∧ FrE q p2 p4 s 7 h H' τ' (frC 7 0 0 0 false r .nilSlice .nilSlice) (countedI l a c).2 ∧ Ow h.next H'.next H' r (countedI l a c).1 := by
  obtain ⟨⟨t0, t2, t3, t4⟩, tk⟩ := S
  have n4' : ¬ (q = p4) := fun e => n4 e.symm
  obtain ⟨r1, H1, e1, k1, n1, o1, g1, l1⟩ := counted_ev (c := c) (a := a) hs hb hK hqb hq ha hl m (by omega)
  have hlen : (countedI l a c).1.length ≤ 70368744177664 := by
    have := (takeI_len l (numberI l a c).2.1 (numberI l a c).2.2 (numberI l a c).1).2
    unfold countedI; omega
  obtain ⟨r, H2, e2, k2, o2⟩ := copied_ev o1 (k1.kp hK hqb) hlen m (by omega)
  have n2 := k2.next
  have c4 := (k2.get p4 (by omega)).trans ((k1.get p4 l4 n4).trans g4)
  have cq := (k2.get q (by omega)).trans g1
  have or_ := o2.bs.one
  have orc := cells_one or_
  have o3 := o2.kx ((Kx.refl p4 H2).set (.cells 72 false (frC 7 0 0 0 false r .nilSlice .nilSlice))) (.inl (by omega))
  simp only [frC] at c4 o3 ⊢
  rw [at_M Try.func126 1028095 (by decide) 20 (by decide) (by kernel_rfl) [4112383]]
  refine ⟨_, _, r, by simp [Try.f126, tk, t0, t4, e1, e2, c4, stVar, spl, or_, orc]; first | exact ⟨rfl, rfl⟩ | rfl, ⟨⟨by simp [t0], by simp [t2], by simp [t3], by simp [t4]⟩, by simp, by simp [n4', cq], by simp; omega, fun b hb h1 h2 => ?_⟩, Ow.wide o3 (by omega) (by simp) (by simp)⟩
  simp [h2]; rw [k2.get b (by omega)]; exact k1.get b hb h1
set_option maxRecDepth 20000 in
theorem frK_48 {Hb h : AH} {q p2 p4 a : Nat} {s : AV} {l : List Int} {c : Int} (hs : Bs Hb s l) (hb : By l) (hK : Kp Hb h) (hqb : Hb.next ≤ q) (hq : h.get q = some (scB s a c)) (hqn : q < h.next) (ha : a ≤ l.length) (hl : l.length ≤ 65536)
    (n4 : p4 ≠ q) (l4 : p4 < h.next) (b4 : Hb.next ≤ p4) (g4 : h.get p4 = some (.cells 72 false (frC 48 0 0 0 false .nilSlice .nilSlice .nilSlice))) (m : Nat) (hm : 22 ≤ m) (τ : Tm) (S : FrU τ q p2 p4 48) :
    ∃ τ' H' r, evAt Try.prog (ev Try.prog m) m 126 67377299455 τ h = some (.normal, τ', H') ∧ FrE q p2 p4 s 48 h H' τ' (frC 48 0 0 0 false r .nilSlice .nilSlice) (restI l a c).2 ∧ Ow h.next H'.next H' r (restI l a c).1 := by
  obtain ⟨⟨t0, t2, t3, t4⟩, tk⟩ := S
  have n4' : ¬ (q = p4) := fun e => n4 e.symm
  obtain ⟨r1, H1, e1, k1, n1, o1, g1, l1⟩ := rest_ev (c := c) (a := a) hs hK hqb hq ha hl m (by omega)
  have hlen : (restI l a c).1.length ≤ 70368744177664 := by
    have := (takeI_len l a c ((l.length : Int) - a)).2
    unfold restI; omega
  obtain ⟨r, H2, e2, k2, o2⟩ := copied_ev o1 (k1.kp hK hqb) hlen m (by omega)
  have n2 := k2.next
  have c4 := (k2.get p4 (by omega)).trans ((k1.get p4 l4 n4).trans g4)
  have cq := (k2.get q (by omega)).trans g1
  have or_ := o2.bs.one
  have orc := cells_one or_
  have o3 := o2.kx ((Kx.refl p4 H2).set (.cells 72 false (frC 48 0 0 0 false r .nilSlice .nilSlice))) (.inl (by omega))
  simp only [frC] at c4 o3 ⊢
  rw [at_M Try.func126 67377299455 (by decide) 36 (by decide) (by kernel_rfl) [269509197823]]
  refine ⟨_, _, r, by simp [Try.f126, tk, t0, t4, e1, e2, c4, stVar, spl, or_, orc]; first | exact ⟨rfl, rfl⟩ | rfl, ⟨⟨by simp [t0], by simp [t2], by simp [t3], by simp [t4]⟩, by simp, by simp [n4', cq], by simp; omega, fun b hb h1 h2 => ?_⟩, Ow.wide o3 (by omega) (by simp) (by simp)⟩
  simp [h2]; rw [k2.get b (by omega)]; exact k1.get b hb h1
end Go.Ev
