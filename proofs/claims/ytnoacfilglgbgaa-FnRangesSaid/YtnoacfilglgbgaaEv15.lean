/- Lemmas of an evaluator of the given code and of what the functions answer; no condition of its own. -/
import Derived.Test.YtnoacfilglgbgaaEv13
import Derived.Test.YtnoacfilglgbgaaEv14
import Derived.Test.YtnoacfilglgbgaaEv7
import Derived.WideShapes
/- The law FnRanges by the evaluator: its end. -/
namespace Go.Ev
open Go Go.Proofs
set_option linter.unusedSimpArgs false
set_option linter.unusedVariables false

theorem by_app {l m : List Int} (h : By l) (k : By m) : By (l ++ m) := fun x hx => by
  rcases List.mem_append.1 hx with hx | hx
  · exact h x hx
  · exact k x hx
theorem encs_by : ∀ {xs : List Int}, (∀ x ∈ xs, inN x) → By (encs xs)
  | [], _ => by simp [encs, By]
  | x :: l, h => by
    have h1 := h x (by simp)
    have h2 := encs_by (xs := l) fun y hy => h y (by simp [hy])
    simp only [encs, List.flatMap_cons] at h2 ⊢
    exact by_app (encV_by h1.1 h1.2) h2
theorem tailB_by : ∀ (rest : List Rg) (p : Rg), fallOK p rest → By (tailB p rest)
  | [], p, _ => by simp [tailB, By]
  | r :: l, p, h => by
    obtain ⟨⟨f1, f2, f3, f4, f5⟩, f6⟩ := h
    simp only [inV] at f3 f4 f5
    exact by_app (encs_by fun x hx => by simp at hx; rcases hx with rfl | rfl <;> exact ⟨by omega, by omega⟩) (tailB_by l r f6)
theorem ackB_by {L : List Rg} (h : rgOK L) (j : Nat) (hj : L.length = j + 1) {N : Int} (hN : inV N) : By (ackB (L[j]'(by omega)) N (L.take j).reverse) := by
  have hl := h.1
  have it := rgL_in h.2 (L[j]'(by omega)) (List.getElem_mem (by omega))
  have hle := rgL_le h.2 (L[j]'(by omega)) (List.getElem_mem (by omega))
  have hrl : (L.take j).reverse.length = j := by simp; omega
  simp only [inV] at it hN
  refine by_app (by_app (by intro x hx; simp at hx; subst hx; omega) (encs_by fun x hx => ?_)) (tailB_by _ _ (fall_of h.2 j (by omega)))
  simp only [List.mem_cons, List.not_mem_nil, or_false] at hx
  rcases hx with rfl | rfl | rfl | rfl
  · exact ⟨by omega, by omega⟩
  · exact ⟨by omega, by omega⟩
  · rw [hrl]; exact ⟨by omega, by omega⟩
  · exact ⟨by omega, by omega⟩
theorem nil34 (h : AH) : lenA Try.prog 34 .nilSlice h = some (.int .i64 0) := by simp [lenA]
set_option maxRecDepth 20000 in
set_option maxHeartbeats 1000000 in
theorem tailR {h : AH} {L : List Rg} {v3 v13 v14 : AV} {p4 : Nat} {b3 b13 b14 : List Nat} (R3 : (Ty.sl 94 tT94).R true h [v3] L b3) (ok : rgOK L) (bd : ∀ m, inR L m → 0 ≤ m ∧ m < 400) (g4 : h.get p4 = some (.cells 4 false (hasC fun j => decide (inR L j)))) (n4 : p4 < h.next)
    (R13 : (Ty.sl 3 (.int .i64)).R true h [v13] (sentL 400) b13) (R14 : (Ty.sl 3 (.int .i64)).R true h [v14] (ackd L (sentL 400)) b14) (m : Nat) (hm : 6000 ≤ m) (τ : Tm) (T : L2T τ v3 v13 v14 p4 (ackd L (sentL 400)).length 400) :
    ∃ τ' H', evAt Try.prog (ev Try.prog m) m 10 1023 τ h = some (.ret, τ', H') ∧ τ' 2 = .bool true := by
  obtain ⟨t3, t4, t12, t13, t14, t15⟩ := T
  have hbd : ∀ r ∈ L, 0 ≤ r.1 ∧ r.1 ≤ r.2 ∧ r.2 ≤ 399 := fun r hr => by
    have h1 := rgL_le ok.2 r hr
    have h2 := bd r.1 ⟨r, hr, Int.le_refl _, h1⟩
    have h3 := bd r.2 ⟨r, hr, h1, Int.le_refl _⟩
    omega
  have hcnt := ackd_cnt ok.2 hbd
  have hl := ok.1
  obtain ⟨H1, a1, a2⟩ := RangesCount_ev R3 (Kp.refl h) ok hbd m (by omega)
  rw [← hcnt] at a1
  have lL := R3.lenA (P := Try.prog) (T := 70) (by simp)
  by_cases h0 : L = []
  · subst h0
    rw [at_M Try.func10 1023 (by decide) 10 (by decide) (by kernel_rfl) []]
    simp at lL
    exact ⟨_, H1, by simp [Try.f10, t3, t12, a1, lL]; rfl, by simp⟩
  obtain ⟨j, hj⟩ : ∃ j, L.length = j + 1 := ⟨L.length - 1, by have := List.length_pos_iff.2 h0; omega⟩
  have hne : ((L.length : Int) == 0) = false := by simp; omega
  have i5 : inV 5 := ⟨by omega, by omega⟩
  obtain ⟨v', H2, b', c1, c2, c3⟩ := AckFrame_ev R3 a2 ok h0 i5 m (by omega)
  have or' := c2.sl_one
  let A : AH := H2.push (.cells 72 false (frC 2 5 0 0 false .nilSlice .nilSlice v'))
  have hA : H2.push (.cells 72 false (frC 2 5 0 0 false .nilSlice .nilSlice v')) = A := rfl
  have KA : Kp H2 A := (Kp.refl H2).push _
  have nA : A.next = H2.next + 1 := by simp [A]
  have gA : A.get H2.next = some (.cells 72 false (frC 2 5 0 0 false .nilSlice .nilSlice v')) := by simp [A]
  clear_value A
  obtain ⟨vb, H3, bb, d1, d2, d3, d4⟩ := FrameBytesAck_ev c2 KA nil34 nil34 rfl rfl ok j hj i5 m (by omega)
  have hby := ackB_by ok j hj i5
  have hrf := rf_ack ok j hj i5
  generalize hl' : ackB (L[j]'(by omega)) 5 (L.take j).reverse = bytes at *
  obtain ⟨fr, H4, bf, e1, e2, e3, e4, e5⟩ := readI_ev (x := 0) d2.bs hby (Kp.refl H3) m (by omega)
  rw [hrf] at e1 e3
  simp only [fpD] at e1 e3
  obtain ⟨x5, x6, x7, bx5, bx6, bx7, f1, f2, Q5, Q6, Q7, _⟩ := o72 e3
  subst f1
  have q5 := Q5.lenA (P := Try.prog) (T := 34) (by simp)
  have q6 := Q6.lenA (P := Try.prog) (T := 34) (by simp)
  simp at q5 q6
  have p5 := Q5.sl_one
  have p6 := Q6.sl_one
  have p7 := Q7.sl_one
  have K3 := ((a2.trans c3).trans KA).trans d4
  have K4 := K3.trans e2
  let B : AH := H4.push (.cells 72 false (frC 2 5 0 0 false x5 x6 x7))
  have hB : H4.push (.cells 72 false (frC 2 5 0 0 false x5 x6 x7)) = B := rfl
  have KB : Kp H4 B := (Kp.refl H4).push _
  have nB : B.next = H4.next + 1 := by simp [B]
  have gB : B.get H4.next = some (.cells 72 false (frC 2 5 0 0 false x5 x6 x7)) := by simp [B]
  clear_value B
  obtain ⟨v23, H5, b23, g1, g2, g3⟩ := AckedBy_ev Q7 (R13.kp K4) KB q5 q6 p5 p6 ok h0 i5 (by rw [sentL_len]; omega) (fun x hx => by simp [sentL] at hx; obtain ⟨i, hi, rfl⟩ := hx; exact ⟨by omega, by omega⟩) (fun i hi => by rw [sentL_get, sentL_get]; omega) m (by omega)
  have K5 := (K4.trans KB).trans g3
  have i200 : inV 200 := ⟨by omega, by omega⟩
  obtain ⟨v25, H6, b25, r1, r2, r3⟩ := RangesFrom_ev (N := 200) R3 K5 ok i200 m (by omega)
  have ok2 := frR_rg i200 ok
  have hal := ackd_le L 400
  have s1 := sameInts_ev (g2.kp r3) (R14.kp (K5.trans r3)) (by omega) m (by omega)
  obtain ⟨H7, u1, u2⟩ := RangesHas_ev (N := 199) r2 (Kp.refl H6) ok2 m (by omega)
  obtain ⟨H8, u3, u4⟩ := RangesHas_ev (N := 200) r2 u2 ok2 m (by omega)
  have n199 : ¬ inR (frR 200 L) 199 := fun hh => by have := ((frR_in 200 L 199).1 hh).2; omega
  have e200 : inR (frR 200 L) 200 ↔ inR L 200 := by rw [frR_in]; exact ⟨fun h => h.1, fun h => ⟨h, Int.le_refl _⟩⟩
  have K8 := ((K5.trans r3).trans u2).trans u4
  have g8 := (K8.get p4 n4).trans g4
  have ix := ix88 p4 200 (by omega)
  have ld := ldHas g8 200 (by omega)
  have ld7 := ldHas ((((K5.trans r3).trans u2).get p4 n4).trans g4) 200 (by omega)
  have ix' : idxA Try.prog 88 (.slice p4 0 400) (.int .i64 200) = some (.ptr p4 200) := ix
  rw [show ((200 : Nat) : Int) = 200 from rfl] at ld ld7
  simp only [frC] at hA gA hB gB c1 d1 e1 g1
  simp only [decide_eq_false n199] at u1
  have e200' : decide (inR (frR 200 L) 200) = decide (inR L 200) := by simp only [e200]
  rw [e200'] at u3
  rw [at_M Try.func10 1023 (by decide) 10 (by decide) (by kernel_rfl) [8191]]
  simp [Try.f10, t3, t12, a1, lL, hne, c1, hA, stVar, spl, or', fillA]
  generalize hτ : upd _ 17 _ = τ1
  have w3 : τ1 3 = v3 := by rw [← hτ]; simp [t3]
  have w4 : τ1 4 = .slice p4 0 400 := by rw [← hτ]; simp [t4]
  have w13 : τ1 13 = v13 := by rw [← hτ]; simp [t13]
  have w14 : τ1 14 = v14 := by rw [← hτ]; simp [t14]
  have w16 : τ1 16 = .ptr H2.next 0 := by rw [← hτ]; simp
  have w17 : τ1 17 = .int .i64 0 := by rw [← hτ]; simp
  clear hτ
  rw [at_M Try.func10 8191 (by decide) 13 (by decide) (by kernel_rfl) [131071]]
  simp [Try.f10, w3, w13, w16, gA, d1, e1, hB, gB, g1, r1, p5, p6, p7, ldVar, stVar, spl, fillA]
  generalize hτ : upd _ 26 _ = τ2
  have y4 : τ2 4 = .slice p4 0 400 := by rw [← hτ]; simp [w4]
  have y14 : τ2 14 = v14 := by rw [← hτ]; simp [w14]
  have y17 : τ2 17 = .int .i64 0 := by rw [← hτ]; simp [w17]
  have y19 : τ2 19 = .int .i64 0 := by rw [← hτ]; simp
  have y22 : τ2 22 = .int .i64 0 := by rw [← hτ]; simp
  have y23 : τ2 23 = v23 := by rw [← hτ]; simp
  have y24 : τ2 24 = .int .i64 0 := by rw [← hτ]; simp
  have y25 : τ2 25 = v25 := by rw [← hτ]; simp
  have y26 : τ2 26 = .int .i64 0 := by rw [← hτ]; simp
  clear hτ
  rw [at_M Try.func10 131071 (by decide) 17 (by decide) (by kernel_rfl) []]
  refine ⟨_, ⟨H8, by simp [Try.f10, y4, y14, y17, y19, y22, y23, y24, y25, y26, s1, u1, u3, ix', ld, ld7, evHist, ObsOk, ObOk, List.getElem?_cons_zero]; rfl⟩, by simp⟩
end Go.Ev

/- The law FnRanges by the evaluator, whole. -/
namespace Go.Ev
open Go Go.Proofs
set_option linter.unusedSimpArgs false
set_option linter.unusedVariables false

theorem bytes_bs {H : AH} {s : AV} {l : List Int} {rw : Bool} {bs : List Nat} (h : (Ty.sl 5 (.int .u8)).R rw H [s] l bs) : Bs H s l ∧ By l := by
  have hi := ints_in h
  refine ⟨⟨by simp, by simp, by simp, ?_⟩, fun x hx => ?_⟩
  · rcases h with ⟨h1, h2, h3⟩ | ⟨b, o, ro, xs, b', h1, h2, h3, h4, h5, h6, h7⟩
    · simp only [List.cons.injEq, and_true] at h1; subst h1 h2; exact .inl ⟨rfl, rfl⟩
    · simp only [List.cons.injEq, and_true] at h1; subst h1
      simp only [Ty.n, Nat.mul_one] at h6 h7
      obtain ⟨g1, g2, g3⟩ := rows_int.1 h7
      exact .inr ⟨b, o, ro, xs, by rw [u8L_len], h3, h4, by rw [u8L_len]; exact h6, by rw [u8L_len]; exact g1⟩
  · have := hi x hx
    simp [IntKind.min, IntKind.max, IntKind.signed, IntKind.bits] at this
    exact ⟨this.1, by omega⟩
theorem zeros1 (x : AV) : ∀ n, zerosA [x] n = List.replicate n x
  | 0 => rfl
  | n + 1 => by rw [zerosA, zeros1 x n]; rfl
theorem zeros_has : zerosA [AV.bool false] 400 = hasC fun j => decide (inR [] j) := by
  have e : (hasC fun j => decide (inR [] j)) = hasC fun _ => false := hasC_congr fun j _ => by simp [inR_nil]
  rw [e, zeros1]; unfold hasC; rw [List.map_const', List.length_range]
set_option maxRecDepth 20000 in
theorem law10 {H : AH} {s : AV} {l : List Int} {bs : List Nat} (h : (Ty.sl 5 (.int .u8)).R false H [s] l bs) (hs : (Ty.sl 5 (.int .u8)).sm l) (m : Nat) (hm : 4000000 ≤ m) : ∃ H', ev Try.prog m 10 [s] H = some (.bool true, H') := by
  obtain ⟨m, rfl⟩ : ∃ k, m = k + 1 := ⟨m - 1, by omega⟩
  have hL := h.lenA (P := Try.prog) (T := 34) (by simp)
  obtain ⟨hB, hby⟩ := bytes_bs h
  by_cases c : 1048576 < l.length
  · have c' : (1048576 : Int) < l.length := by omega
    rw [ev_M Try.func10 ok10 [] m _ H (by simp [Try.f10])]
    exact ⟨_, by simp [Try.f10, hL, c']; rfl⟩
  have c' := eq_false (show ¬ ((1048576 : Int) < l.length) by omega)
  let A : AH := (H.push (.cells 94 false [])).push (.cells 4 false (hasC fun j => decide (inR [] j)))
  have hA : (H.push (.cells 94 false [])).push (.cells 4 false (hasC fun j => decide (inR [] j))) = A := rfl
  have KA : Kp H A := ((Kp.refl H).push _).push _
  have nA : A.next = H.next + 2 := by simp [A]
  have g3 : A.get H.next = some (.cells 94 false []) := by simp [A]
  have g4 : A.get (H.next + 1) = some (.cells 4 false (hasC fun j => decide (inR [] j))) := by simp [A]
  clear_value A
  have X0 : L1H H A [] (.slice H.next 0 0) [H.next] (H.next + 1) := ⟨empty94 (by omega) g3, ⟨by simp, trivial⟩, fun m hm => absurd hm (inR_nil m), g4, ⟨by omega, by omega⟩, by simp, by simp, KA⟩
  rw [ev_M Try.func10 ok10 [63] m _ H (by simp [Try.f10])]
  simp [Try.f10, tm0, hL, c', zeros_has, zerosA_0, fillA, hA]
  generalize hLo : evLoop _ _ _ _ _ _ = R
  obtain ⟨e, τ1, H1, rfl, rfl, i, v3, b3, L, hi, T, X⟩ := loop_at hLo (l1Loop hB hby (Kp.refl H) m (by omega) _ ⟨0, .slice H.next 0 0, [H.next], [], by omega, ⟨by simp, by simp, by simp, by simp⟩, X0⟩)
  simp
  obtain ⟨t0, t3, t4, t5⟩ := T
  let B : AH := (H1.push (.cells 3 false [])).push (.cells 3 false [])
  have hBd : (H1.push (.cells 3 false [])).push (.cells 3 false []) = B := rfl
  have KB : Kp H1 B := ((Kp.refl H1).push _).push _
  have nB : B.next = H1.next + 2 := by simp [B]
  have q3 : B.get H1.next = some (.cells 3 false []) := by simp [B]
  have q4 : B.get (H1.next + 1) = some (.cells 3 false []) := by simp [B]
  clear_value B
  rw [at_M Try.func10 63 (by decide) 6 (by decide) (by kernel_rfl) [1023]]
  simp [Try.f10, fillA, zerosA_0, hBd]
  generalize hLo : evLoop _ _ _ _ _ _ = R
  have X2 : L2H H1 B L (.slice H1.next 0 0) (.slice (H1.next + 1) 0 0) [H1.next] [H1.next + 1] 0 :=
    ⟨by simpa [sentL] using empty3 (by omega) q3, by simpa [sentL, ackd] using empty3 (by omega) q4, by simp, by simp, by simp, fun b hb => by rcases hb with hb | hb <;> simp at hb <;> omega, KB⟩
  obtain ⟨e, τ2, H2, rfl, rfl, k, v13, v14, b13, b14, hk, T2, Y⟩ := loop_at hLo (l2Loop X.R X.ok X.g4 X.n4.2 m (by omega) _ ⟨0, .slice H1.next 0 0, .slice (H1.next + 1) 0 0, [H1.next], [H1.next + 1], by omega, ⟨by simp [t3], by simp [t4], by simp [sentL, ackd], by simp, by simp, by simp⟩, X2⟩)
  obtain rfl : k = 400 := by omega
  obtain ⟨τ3, H3, e1, e2⟩ := tailR (X.R.kp Y.K) X.ok X.bd ((Y.K.get _ X.n4.2).trans X.g4) (by have := Y.K.next; have := X.n4.2; omega) Y.R13 Y.R14 m (by omega) τ2 T2
  simp [e1, e2]
end Go.Ev

/- From what came in to the evaluator: a call's arguments. -/
namespace Go.Ev
open Go Go.RowKit
set_option linter.unusedSimpArgs false
set_option linter.unusedVariables false

section
variable {P : Program} {w : World} {Hd : Type} {enc : TypeId × Value → Hd} {held : Bool} {r : Reach} {base : Nat}

def HE : AH := { get := fun _ => none, next := 0 }
theorem rel_empty (P : Program) (w : World) : Rel P w HE (fun _ => none) w :=
  ⟨Below.refl _ _, fun _ _ => rfl, fun b x h => by simp [HE] at h, fun b x h => by simp [HE] at h, fun b x h => by simp [HE] at h⟩

/-- an argument: its abstract value, in the memory that its rows lie in -/
def ArgRes (P : Program) (w : World) (t : Ty) (v : Value) (H : AH) (μ : Mu) : Prop :=
  ∃ H' μ' a c d bs, Ext μ μ' ∧ Rel P w H' μ' w ∧ Kp H H' ∧ VR μ' a v ∧ t.R false H' c d bs ∧ t.sm d ∧ (a = .agg c ∨ c = [a])

theorem arg1 {T : TypeId} {t : Ty} {v : Value} {d : DataW Hd} {p : List MemPlace} {H : AH} {μ : Mu} (hf : Fits P T t) (h : DataW.Trod enc P w 0 (fun _ => true) held T v d p) (hR : Rel P w H μ w) (hv : v.cells.toList = [v]) :
    ∃ H' μ' a d bs, Ext μ μ' ∧ Rel P w H' μ' w ∧ Kp H H' ∧ VR μ' a v ∧ t.R false H' [a] d bs ∧ t.sm d := by
  obtain ⟨fuel, hf'⟩ := h
  rw [hv] at hf'
  obtain ⟨H', μ', c, d, bs, e, r1, k, hV, hr, hs⟩ := in_ty fuel hf hf' hR
  match c, hV with
  | [], hV => simp [VRs] at hV
  | [a], hV =>
    simp only [VRs] at hV
    obtain ⟨u, us, hu, hV, _⟩ := hV
    simp only [List.cons.injEq] at hu
    obtain ⟨rfl, _⟩ := hu
    exact ⟨H', μ', a, d, bs, e, r1, k, hV, hr, hs⟩
  | a :: b :: c, hV =>
    simp only [VRs] at hV
    obtain ⟨u, us, hu, hV, u2, us2, hu2, _⟩ := hV
    simp only [List.cons.injEq] at hu
    rw [hu2] at hu; simp at hu
theorem argSl {T e : TypeId} {t : Ty} {v : Value} {d : DataW Hd} {p : List MemPlace} {H : AH} {μ : Mu} (hf : Fits P T t) (hT : P.underlying T = some (.slice e)) (hval : Value.okWide P w r base T v) (h : DataW.Trod enc P w 0 (fun _ => true) held T v d p) (hR : Rel P w H μ w) :
    ∃ H' μ' a d bs, Ext μ μ' ∧ Rel P w H' μ' w ∧ Kp H H' ∧ VR μ' a v ∧ t.R false H' [a] d bs ∧ t.sm d := by
  obtain ⟨a, l, c, rfl⟩ := Go.WideShapes.okWide_slice hT hval
  exact arg1 hf h hR rfl
theorem argInt {T : TypeId} {k : IntKind} {t : Ty} {v : Value} {d : DataW Hd} {p : List MemPlace} {H : AH} {μ : Mu} (hf : Fits P T t) (hT : P.underlying T = some (.int k)) (hval : Value.okWide P w r base T v) (h : DataW.Trod enc P w 0 (fun _ => true) held T v d p) (hR : Rel P w H μ w) :
    ∃ H' μ' a d bs, Ext μ μ' ∧ Rel P w H' μ' w ∧ Kp H H' ∧ VR μ' a v ∧ t.R false H' [a] d bs ∧ t.sm d := by
  obtain ⟨n, rfl⟩ := Go.WideShapes.okWide_int hT hval
  exact arg1 hf h hR rfl
theorem argBool {T : TypeId} {t : Ty} {v : Value} {d : DataW Hd} {p : List MemPlace} {H : AH} {μ : Mu} (hf : Fits P T t) (hT : P.underlying T = some .bool) (hval : Value.okWide P w r base T v) (h : DataW.Trod enc P w 0 (fun _ => true) held T v d p) (hR : Rel P w H μ w) :
    ∃ H' μ' a d bs, Ext μ μ' ∧ Rel P w H' μ' w ∧ Kp H H' ∧ VR μ' a v ∧ t.R false H' [a] d bs ∧ t.sm d := by
  obtain ⟨n, rfl⟩ := Go.WideShapes.okWide_bool hT hval
  exact arg1 hf h hR rfl
theorem argStr {T : TypeId} {t : Ty} {v : Value} {d : DataW Hd} {p : List MemPlace} {H : AH} {μ : Mu} (hf : Fits P T t) (hT : P.underlying T = some .string) (hval : Value.okWide P w r base T v) (h : DataW.Trod enc P w 0 (fun _ => true) held T v d p) (hR : Rel P w H μ w) :
    ∃ H' μ' a d bs, Ext μ μ' ∧ Rel P w H' μ' w ∧ Kp H H' ∧ VR μ' a v ∧ t.R false H' [a] d bs ∧ t.sm d := by
  obtain ⟨n, rfl⟩ := Go.WideShapes.okWide_string hT hval
  exact arg1 hf h hR rfl
/-- a struct by value -/
theorem argAgg {T : TypeId} {fs : Array Field} {t : Ty} {v : Value} {d : DataW Hd} {p : List MemPlace} {H : AH} {μ : Mu} (hf : Fits P T t) (hT : P.underlying T = some (.struct fs)) (hval : Value.okWide P w r base T v) (h : DataW.Trod enc P w 0 (fun _ => true) held T v d p) (hR : Rel P w H μ w) :
    ∃ H' μ' c d bs, Ext μ μ' ∧ Rel P w H' μ' w ∧ Kp H H' ∧ VR μ' (.agg c) v ∧ t.R false H' c d bs ∧ t.sm d := by
  obtain ⟨cs, rfl, _⟩ := Go.WideShapes.okWide_struct hT hval
  obtain ⟨fuel, hf'⟩ := h
  obtain ⟨H', μ', c, d, bs, e, r1, k, hV, hr, hs⟩ := in_ty fuel hf hf' hR
  exact ⟨H', μ', c, d, bs, e, r1, k, by simp only [VR]; exact ⟨cs, rfl, hV⟩, hr, hs⟩

theorem law_run2 (hm : P.follows .mixedOrders = true) {H : AH} {μ : Mu} {n : Nat} {f : FuncId} {args : List AV} {vs : Array Value} {H' : AH} (hR : Rel P w H μ w)
    (h : ev P n f args H = some (.bool true, H')) (hv : VRs μ args vs.toList) :
    Calls P f vs w fun e w' => e = .returned (.bool true) ∧ Below w.heap.size w w' := by
  refine (ev_sound hm n f args H (.bool true) H' μ w vs h hR hv).2.mono ?_
  rintro e w' ⟨v, μ', rfl, hx, hR, hv⟩
  simp only [VR] at hv
  subst hv
  exact ⟨rfl, hR.below⟩
end
end Go.Ev
