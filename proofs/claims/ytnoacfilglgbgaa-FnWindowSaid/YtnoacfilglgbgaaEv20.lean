/- Lemmas of an evaluator of the given code and of what the functions answer; no condition of its own. -/
import Derived.Test.YtnoacfilglgbgaaEv19
import Derived.Test.YtnoacfilglgbgaaEv7
import Derived.WideShapes
/- Congestion: the program's run. -/
namespace Go.Ev
open Go Go.Proofs
set_option linter.unusedSimpArgs false
set_option linter.unusedVariables false

def RsJ (kind : Int) (ops : List tT40.D) (s : AV) (H : AH) (q : Nat) (d : Nat) (τ : Tm) (h : AH) : Prop :=
  ∃ (i : Nat) (S : Cc) (T : TypeId) (r : Nat) (own : List Nat) (bo : List Nat) (outs : List tT38.D), i + d = ops.length ∧ τ 23 = s ∧ τ 24 = .int .i64 ops.length ∧ τ 6 = .ptr q 0 ∧ τ 25 = .int .i64 i ∧ ObjI kind h q S T r own ∧ S.ok kind i ∧ (Ty.sl 38 tT38).R true h [τ 7] outs bo ∧ bo.Nodup ∧
    (∀ b ∈ bo, b ∉ q :: own) ∧ (∀ b ∈ q :: own, H.next ≤ b) ∧ (∀ b ∈ bo, H.next ≤ b) ∧ Kp H h ∧ outs ++ ccRun kind S (ops.drop i) = ccRun kind Cc0 ops ∧ outs.length = i
set_option maxRecDepth 20000 in
theorem runLoopJ {Hb H h0 : AH} {s : AV} {q : Nat} {kind : Int} {ops : List tT40.D} {bx : List Nat} {rw : Bool} (hd : (Ty.sl 40 tT40).R rw Hb [s] ops bx) (hKb : Kp Hb H) (hkd : kind = 1 ∨ kind = 2) (hlen : ops.length ≤ 600) (m : Nat) (hm : 760 ≤ m) (τ : Tm) (hI : RsJ kind ops s H q ops.length τ h0) :
    ∃ e τ' H', evLoop Try.prog (ev Try.prog m) m (lp Try.prog 18 506) τ h0 = some (e, τ', H') ∧ e = .exit 0 ∧ RsJ kind ops s H q 0 τ' H' := by
  refine loop_rule (d := ops.length) (RsJ kind ops s H q) (fun e τ h => e = .exit 0 ∧ RsJ kind ops s H q 0 τ h) ?_ hI (by omega)
  intro d τ h hI
  obtain ⟨i, S, T, r, own, bo, outs, hi, t1, t24, t6, t8, hS, hok, hR, hnd, hdj, hlo, hlo2, hK, hrun, hol⟩ := hI
  generalize t7 : τ 7 = v at *
  rewrite [lp18_506]
  by_cases hd0 : d = 0
  · subst hd0
    have hkn : (i : Int) = ops.length := by omega
    simp [Try.f18, t1, t24, t6, t8, hkn]
    exact ⟨i, S, T, r, own, bo, outs, hi, t1, t24, t6, t8, hS, hok, by simpa [t7] using hR, hnd, hdj, hlo, hlo2, hK, hrun, hol⟩
  · have hlt : i < ops.length := by omega
    obtain ⟨b, o, ro, x1, c, x2, bk, u1, u2, u3, u4, u5, u6, u7, u8⟩ := Ty.R.at_ (hd.kp (hKb.trans hK)) (P := Try.prog) (T := 27) (by simp) (by simp [Ty.n]) (k := i) hlt
    obtain ⟨xs, l1, l2, l3⟩ := at_blk (n := 5) u3 u4 (by simpa [Ty.n] using u5.len)
    obtain rfl := op_cells u5
    have hbh : ¬ (b = h.next) := by omega
    let A : AH := (h.push (.cells 40 false (opC (.of ops[i])))).push (.cells 38 false (obC 0 0 0 0 0 false))
    have KA : Kp h A := ((Kp.refl h).push _).push _
    have hA : ObjI kind A q S T r own := hS.stay KA.next fun b hb => KA.get b (hS.mem b hb)
    have nA : A.next = h.next + 2 := rfl
    have hmS0 := hS.mem
    obtain ⟨h2, own', a1, a2, a3, a4⟩ := doI_ev hA hkd hok (by omega) (CcOpP.of ops[i]) m (by omega)
    have hok2 := ccDo_ok (op := CcOpP.of ops[i]) hkd hok (by omega)
    have hobs := fun H' => obs_R (rw := true) (H := H') hok2
    have hdrop : ops.drop i = ops[i] :: ops.drop (i + 1) := List.drop_eq_getElem_cons hlt
    rw [hdrop] at hrun
    simp only [ccRun] at hrun
    generalize ccDo kind S (.of ops[i]) = R at *
    have gp : h2.get (h.next + 1) = some (.cells 38 false (obC 0 0 0 0 0 false)) := by
      rw [a3.get (h.next + 1) (by omega) (fun e => by have := hmS0 _ e; omega)]; simp [A]
    have n1 := a3.next
    -- what the object owns is neither the answer's block nor before
    have hnp : ∀ b ∈ q :: own', b ≠ h.next + 1 := fun b hb e => by
      rcases List.mem_cons.1 hb with hb | hb
      · have := hS.lt; omega
      · rcases a4 b hb with h1 | h1
        · have := hmS0 b (by simp [h1]); omega
        · omega
    have hsetA : ∀ z, ObjI kind (h2.set (h.next + 1) z) q R.1 T r own' := fun z => a2.stay (by simp) fun b hb => AH.set_getN _ _ (hnp b hb)
    obtain ⟨Ft, f1, f2⟩ := a2.rule.tells hok2
    have f3 : ∀ z, ev Try.prog m Ft [.ptr r 0] (h2.set (h.next + 1) z) = some (.tuple [.int .i64 R.1.window, .int .i64 R.1.rate, .int .i64 R.1.state], h2.set (h.next + 1) z) := fun z => by
      obtain ⟨Ft', g1, g2⟩ := (hsetA z).rule.tells hok2
      rw [f1] at g1
      obtain rfl := Option.some.inj g1
      exact g2 m (by omega)
    have hgq := a2.get
    simp only [obj] at hgq
    -- the answers
    let B : AH := h2.set (h.next + 1) (.cells 38 false (obsC R))
    have hbo := hR.mem
    have hRB : (Ty.sl 38 tT38).R true B [v] outs bo := by
      refine (hR.kp KA).stay (by simp only [B, AH.set_next]; exact a3.next) fun b hb => ?_
      have := hbo b hb
      rw [AH.set_getN _ _ (by omega)]
      exact a3.get b (by omega) (hdj b hb)
    obtain ⟨v', X', bo', b1, b2, b3, b4, b5⟩ := app_obs hRB hnd (hobs _) (by omega)
    simp only [B, AH.set_next, obsC, obC] at b1
    simp only [A, opC, obC] at a1
    simp only [obC] at gp
    have w1 := wrap_i64 (n := (i : Int) + 1) (by omega) (by omega)
    have n2 := b5.next
    have hBn : B.next = h2.next := rfl
    have hqp : ¬ (q = h.next + 1) := hnp q (by simp)
    have hmS := a2.mem
    have hdj2 : ∀ b ∈ bo, b ∉ q :: own' := fun b hb hb2 => by
      rcases List.mem_cons.1 hb2 with e | e
      · exact hdj b hb (by simp [e])
      · rcases a4 b e with h1 | h1
        · exact hdj b hb (by simp [h1])
        · have := hbo b hb; omega
    have hget : ∀ b ∈ q :: own', X'.get b = h2.get b := fun b hb => by
      rw [b5.get b (by have := hmS b hb; omega) (fun h => hdj2 b h hb), AH.set_getN _ _ (hnp b hb)]
    have hSX : ObjI kind X' q R.1 T r own' := a2.stay (by omega) hget
    have hqs := hS.lt
    have hqn : ¬ (q = h.next) := by omega
    have hne : ¬ (h.next = h.next + 1) := by omega
    have hne2 : ¬ (h.next + 1 = h.next) := by omega
    have hbh2 : ¬ (b = h.next + 1) := by omega
    have hqh2 : ¬ (q = h2.next) := by have := a2.lt; omega
    have hph2 : ¬ (h.next + 1 = h2.next) := by omega
    simp only [opC] at l3 
    simp [Try.f18, t1, t24, t6, t7, t8, hlt, u1, l1, l2, l3, hbh, hbh2, ldVar, stVar, spl, push_set2, push_set3, zerosA, hne, hne2, a1, gp, hgq, hqp, f1, f3, hqh2, hph2, b1, w1]
    refine ⟨d - 1, by omega, i + 1, R.1, T, r, own', bo', outs ++ [ccObs R], by omega, by simp [t1], by simp [t24], by simp [t6], by simp, hSX, hok2, by simpa using b2, b3, ?_, ?_, ?_, ?_, by simpa using hrun, by simp [hol]⟩
    · intro b hb hb2
      rcases b4 b hb with h1 | h1
      · exact hdj2 b h1 hb2
      · have := hmS b hb2; omega
    · intro b hb
      rcases List.mem_cons.1 hb with e | e
      · exact hlo b (by simp [e])
      · rcases a4 b e with h1 | h1
        · exact hlo b (by simp [h1])
        · have := hK.next; omega
    · intro b hb
      rcases b4 b hb with h1 | h1
      · exact hlo2 b h1
      · have := hK.next; omega
    · have hKB : Kp H B := ⟨by have := hK.next; omega, fun b hb => by
        have := hK.next
        rw [AH.set_getN _ _ (by omega), a3.get b (by omega) (fun e => by have := hlo b e; omega), KA.get b (by omega), hK.get b hb]⟩
      exact b5.kp hKB hlo2
set_option maxRecDepth 20000 in
theorem runI_ev {Hb H : AH} {s : AV} {kind : Int} {ops : List tT40.D} {bx : List Nat} {rw : Bool} (hd : (Ty.sl 40 tT40).R rw Hb [s] ops bx) (hKb : Kp Hb H) (m : Nat) (hm : 770 ≤ m) :
    ∃ r H' br, ev Try.prog m 18 [.int .i64 kind, s] H = some (.tuple [r, .int .i64 (CcRunP kind ops).2], H') ∧ Kp H H' ∧ (Ty.sl 38 tT38).R true H' [r] (CcRunP kind ops).1 br ∧ br.Nodup ∧ ∀ b ∈ br, H.next ≤ b := by
  obtain ⟨m, rfl⟩ : ∃ k, m = k + 1 := ⟨m - 1, by omega⟩
  have hL := Ty.R.lenA hd (P := Try.prog) (T := 27) (by simp)
  rw [ev_eq Try.func18 ok18 m _ H (by simp [Try.f18])]
  unfold CcRunP
  have empty : (Ty.sl 38 tT38).R true H [.nilSlice] [] [] := .inl ⟨rfl, rfl, rfl⟩
  by_cases c : 600 < ops.length
  · have c' : (600 : Int) < ops.length := by omega
    rw [if_pos c]
    simp [Try.f18, hL, c', zerosA]
    exact ⟨_, _, ⟨rfl, rfl⟩, Kp.refl H, [], empty, by simp, by simp⟩
  · have c' : ¬ ((600 : Int) < ops.length) := by omega
    rw [if_neg c]
    by_cases ck : kind ≠ 1 ∧ kind ≠ 2
    · rw [if_pos ck]
      simp [Try.f18, hL, c', ck.1, ck.2, zerosA]
      exact ⟨_, _, ⟨rfl, rfl⟩, Kp.refl H, [], empty, by simp, by simp⟩
    · rw [if_neg ck]
      have hkd : kind = 1 ∨ kind = 2 := by omega
      have fin : ∀ (τ : Tm) (h0 : AH) (T : TypeId), RsJ kind ops s H (H.next + 1) ops.length τ h0 → ∃ e τ' H', evLoop Try.prog (ev Try.prog m) m (lp Try.prog 18 506) τ h0 = some (e, τ', H') ∧ e = .exit 0 ∧ ∃ br, Kp H H' ∧ (Ty.sl 38 tT38).R true H' [τ' 7] (ccRun kind Cc0 ops) br ∧ br.Nodup ∧ ∀ b ∈ br, H.next ≤ b := fun τ h0 T hI => by
        obtain ⟨e, τ', H', e1, e2, i, S, T, r, own, bo, outs, hi, t1, t24, t6, t8, hS, hok, hR, hnd, hdj, hlo, hlo2, hK, hrun, hol⟩ := runLoopJ hd hKb hkd (by omega) m (by omega) τ hI
        have hil : i = ops.length := by omega
        subst hil
        rw [List.drop_length] at hrun
        simp only [ccRun, List.append_nil] at hrun
        subst hrun
        exact ⟨e, τ', H', e1, e2, bo, hK, hR, hnd, hlo2⟩
      rcases hkd with rfl | rfl
      · have hnew := newI1_ev H m (by omega)
        let A : AH := ((H.push (.cells 252 false (lossC Cc0))).push (.cells 152 false [.iface 250 (.ptr H.next 0), .int .i64 0])).push (.cells 38 false [])
        have KA : Kp H A := (((Kp.refl H).push _).push _).push _
        have hO : ObjI 1 A (H.next + 1) Cc0 250 H.next [H.next] :=
          ⟨by simp [A, obj, Cc0], by simp [A], by simp, .inl ⟨rfl, rfl, rfl, by simp [A]; omega, by simp [A]; omega⟩⟩
        have hR0 : (Ty.sl 38 tT38).R true A [.slice (H.next + 2) 0 0] [] [H.next + 2] :=
          .inr ⟨H.next + 2, 0, false, [], [], rfl, rfl, by simp [A], by simp [A], fun _ => ⟨rfl, rfl, by simp⟩, by simp, rfl, rfl⟩
        have goal : ∀ τ : Tm, τ 23 = s → τ 24 = .int .i64 ops.length → τ 6 = .ptr (H.next + 1) 0 → τ 7 = .slice (H.next + 2) 0 0 → τ 25 = .int .i64 0 → RsJ 1 ops s H (H.next + 1) ops.length τ A := fun τ t1 t24 t6 t7 t8 =>
          ⟨0, Cc0, 250, H.next, [H.next], [H.next + 2], [], by omega, t1, t24, t6, by simpa using t8, hO, Cc0_ok 1, by rw [t7]; exact hR0, by simp, by simp, by simp, by simp, KA, by simp, rfl⟩
        simp [Try.f18, hL, c', hnew, zerosA]
        generalize hLo : evLoop _ _ _ _ _ _ = R
        obtain ⟨e, τ', H', rfl, rfl, br, e4, e5, e6, e7⟩ := loop_at hLo (fin _ _ 250 (goal _ (by simp) (by simp) (by simp) (by simp) (by simp)))
        simp
        exact ⟨_, _, ⟨rfl, rfl⟩, e4, br, e5, e6, e7⟩
      · have hnew := newI2_ev H m (by omega)
        let A : AH := ((H.push (.cells 256 false (mdC Cc0 .nilSlice .nilSlice))).push (.cells 152 false [.iface 253 (.ptr H.next 0), .int .i64 0])).push (.cells 38 false [])
        have KA : Kp H A := (((Kp.refl H).push _).push _).push _
        have hO : ObjI 2 A (H.next + 1) Cc0 253 H.next [H.next] :=
          ⟨by simp [A, obj, Cc0], by simp [A], by simp, .inr ⟨rfl, rfl, .nilSlice, .nilSlice, [], [], rfl, ⟨by simp [A]; omega, .inl ⟨rfl, rfl, rfl⟩, .inl ⟨rfl, rfl, rfl⟩, by simp, by simp [A]; omega⟩⟩⟩
        have hR0 : (Ty.sl 38 tT38).R true A [.slice (H.next + 2) 0 0] [] [H.next + 2] :=
          .inr ⟨H.next + 2, 0, false, [], [], rfl, rfl, by simp [A], by simp [A], fun _ => ⟨rfl, rfl, by simp⟩, by simp, rfl, rfl⟩
        have goal : ∀ τ : Tm, τ 23 = s → τ 24 = .int .i64 ops.length → τ 6 = .ptr (H.next + 1) 0 → τ 7 = .slice (H.next + 2) 0 0 → τ 25 = .int .i64 0 → RsJ 2 ops s H (H.next + 1) ops.length τ A := fun τ t1 t24 t6 t7 t8 =>
          ⟨0, Cc0, 253, H.next, [H.next], [H.next + 2], [], by omega, t1, t24, t6, by simpa using t8, hO, Cc0_ok 2, by rw [t7]; exact hR0, by simp, by simp, by simp, by simp, KA, by simp, rfl⟩
        simp [Try.f18, hL, c', hnew, zerosA]
        generalize hLo : evLoop _ _ _ _ _ _ = R
        obtain ⟨e, τ', H', rfl, rfl, br, e4, e5, e6, e7⟩ := loop_at hLo (fin _ _ 253 (goal _ (by simp) (by simp) (by simp) (by simp) (by simp)))
        simp
        exact ⟨_, _, ⟨rfl, rfl⟩, e4, br, e5, e6, e7⟩
end Go.Ev

/- From what came in to the evaluator: a call's arguments. -/
namespace Go.Ev
open Go Go.RowKit
set_option linter.unusedSimpArgs false
set_option linter.unusedVariables false

section
variable {P : Program} {w : World} {Hd : Type} {enc : TypeId × Value → Hd} {held : Bool} {r : Reach} {base : Nat}

def HE : AH := { get := fun _ => none, next := 0 }
theorem rel_empty (P : Program) (w : World) : Rel P w HE (fun _ => none) w :=
  ⟨Below.refl _ _, fun _ _ => rfl, fun b x h => by simp [HE] at h, fun b x h => by simp [HE] at h, fun b x h => by simp [HE] at h⟩

/-- an argument: its abstract value, in the memory that its rows lie in -/
def ArgRes (P : Program) (w : World) (t : Ty) (v : Value) (H : AH) (μ : Mu) : Prop :=
  ∃ H' μ' a c d bs, Ext μ μ' ∧ Rel P w H' μ' w ∧ Kp H H' ∧ VR μ' a v ∧ t.R false H' c d bs ∧ t.sm d ∧ (a = .agg c ∨ c = [a])

theorem arg1 {T : TypeId} {t : Ty} {v : Value} {d : DataW Hd} {p : List MemPlace} {H : AH} {μ : Mu} (hf : Fits P T t) (h : DataW.Trod enc P w 0 (fun _ => true) held T v d p) (hR : Rel P w H μ w) (hv : v.cells.toList = [v]) :
    ∃ H' μ' a d bs, Ext μ μ' ∧ Rel P w H' μ' w ∧ Kp H H' ∧ VR μ' a v ∧ t.R false H' [a] d bs ∧ t.sm d := by
  obtain ⟨fuel, hf'⟩ := h
  rw [hv] at hf'
  obtain ⟨H', μ', c, d, bs, e, r1, k, hV, hr, hs⟩ := in_ty fuel hf hf' hR
  match c, hV with
  | [], hV => simp [VRs] at hV
  | [a], hV =>
    simp only [VRs] at hV
    obtain ⟨u, us, hu, hV, _⟩ := hV
    simp only [List.cons.injEq] at hu
    obtain ⟨rfl, _⟩ := hu
    exact ⟨H', μ', a, d, bs, e, r1, k, hV, hr, hs⟩
  | a :: b :: c, hV =>
    simp only [VRs] at hV
    obtain ⟨u, us, hu, hV, u2, us2, hu2, _⟩ := hV
    simp only [List.cons.injEq] at hu
    rw [hu2] at hu; simp at hu
theorem argSl {T e : TypeId} {t : Ty} {v : Value} {d : DataW Hd} {p : List MemPlace} {H : AH} {μ : Mu} (hf : Fits P T t) (hT : P.underlying T = some (.slice e)) (hval : Value.okWide P w r base T v) (h : DataW.Trod enc P w 0 (fun _ => true) held T v d p) (hR : Rel P w H μ w) :
    ∃ H' μ' a d bs, Ext μ μ' ∧ Rel P w H' μ' w ∧ Kp H H' ∧ VR μ' a v ∧ t.R false H' [a] d bs ∧ t.sm d := by
  obtain ⟨a, l, c, rfl⟩ := Go.WideShapes.okWide_slice hT hval
  exact arg1 hf h hR rfl
theorem argInt {T : TypeId} {k : IntKind} {t : Ty} {v : Value} {d : DataW Hd} {p : List MemPlace} {H : AH} {μ : Mu} (hf : Fits P T t) (hT : P.underlying T = some (.int k)) (hval : Value.okWide P w r base T v) (h : DataW.Trod enc P w 0 (fun _ => true) held T v d p) (hR : Rel P w H μ w) :
    ∃ H' μ' a d bs, Ext μ μ' ∧ Rel P w H' μ' w ∧ Kp H H' ∧ VR μ' a v ∧ t.R false H' [a] d bs ∧ t.sm d := by
  obtain ⟨n, rfl⟩ := Go.WideShapes.okWide_int hT hval
  exact arg1 hf h hR rfl
theorem argBool {T : TypeId} {t : Ty} {v : Value} {d : DataW Hd} {p : List MemPlace} {H : AH} {μ : Mu} (hf : Fits P T t) (hT : P.underlying T = some .bool) (hval : Value.okWide P w r base T v) (h : DataW.Trod enc P w 0 (fun _ => true) held T v d p) (hR : Rel P w H μ w) :
    ∃ H' μ' a d bs, Ext μ μ' ∧ Rel P w H' μ' w ∧ Kp H H' ∧ VR μ' a v ∧ t.R false H' [a] d bs ∧ t.sm d := by
  obtain ⟨n, rfl⟩ := Go.WideShapes.okWide_bool hT hval
  exact arg1 hf h hR rfl
theorem argStr {T : TypeId} {t : Ty} {v : Value} {d : DataW Hd} {p : List MemPlace} {H : AH} {μ : Mu} (hf : Fits P T t) (hT : P.underlying T = some .string) (hval : Value.okWide P w r base T v) (h : DataW.Trod enc P w 0 (fun _ => true) held T v d p) (hR : Rel P w H μ w) :
    ∃ H' μ' a d bs, Ext μ μ' ∧ Rel P w H' μ' w ∧ Kp H H' ∧ VR μ' a v ∧ t.R false H' [a] d bs ∧ t.sm d := by
  obtain ⟨n, rfl⟩ := Go.WideShapes.okWide_string hT hval
  exact arg1 hf h hR rfl
/-- a struct by value -/
theorem argAgg {T : TypeId} {fs : Array Field} {t : Ty} {v : Value} {d : DataW Hd} {p : List MemPlace} {H : AH} {μ : Mu} (hf : Fits P T t) (hT : P.underlying T = some (.struct fs)) (hval : Value.okWide P w r base T v) (h : DataW.Trod enc P w 0 (fun _ => true) held T v d p) (hR : Rel P w H μ w) :
    ∃ H' μ' c d bs, Ext μ μ' ∧ Rel P w H' μ' w ∧ Kp H H' ∧ VR μ' (.agg c) v ∧ t.R false H' c d bs ∧ t.sm d := by
  obtain ⟨cs, rfl, _⟩ := Go.WideShapes.okWide_struct hT hval
  obtain ⟨fuel, hf'⟩ := h
  obtain ⟨H', μ', c, d, bs, e, r1, k, hV, hr, hs⟩ := in_ty fuel hf hf' hR
  exact ⟨H', μ', c, d, bs, e, r1, k, by simp only [VR]; exact ⟨cs, rfl, hV⟩, hr, hs⟩

theorem law_run2 (hm : P.follows .mixedOrders = true) {H : AH} {μ : Mu} {n : Nat} {f : FuncId} {args : List AV} {vs : Array Value} {H' : AH} (hR : Rel P w H μ w)
    (h : ev P n f args H = some (.bool true, H')) (hv : VRs μ args vs.toList) :
    Calls P f vs w fun e w' => e = .returned (.bool true) ∧ Below w.heap.size w w' := by
  refine (ev_sound hm n f args H (.bool true) H' μ w vs h hR hv).2.mono ?_
  rintro e w' ⟨v, μ', rfl, hx, hR, hv⟩
  simp only [VR] at hv
  subst hv
  exact ⟨rfl, hR.below⟩
end
end Go.Ev

/- The law FnExactCcRun by the evaluator. -/
namespace Go.Ev
open Go Go.Proofs
set_option linter.unusedSimpArgs false
set_option linter.unusedVariables false

theorem ccRun_len (k : Int) : ∀ (S : Cc) (ops : List tT40.D), (ccRun k S ops).length = ops.length
  | _, [] => rfl
  | S, op :: l => by simp only [ccRun, List.length_cons]; rw [ccRun_len k _ l]
theorem CcRunP_len (k : Int) (ops : List tT40.D) : (CcRunP k ops).1.length ≤ 600 := by
  unfold CcRunP
  split
  · simp
  · split
    · simp
    · have := ccRun_len k Cc0 ops
      show (ccRun k Cc0 ops).length ≤ 600
      omega
theorem sz38 : ∀ l : List tT38.D, cntL tT38.sz l = 0
  | [] => rfl
  | d :: l => by
    have e : cntL tT38.sz (d :: l) = tT38.sz d + cntL tT38.sz l := rfl
    rw [e, sz38 l]; rfl
theorem lawCc {H : AH} {s0 s : AV} {k : Int} {ds : List tT143.D} {b0 bs : List Nat} (h0 : (Ty.int .i64).R false H [s0] k b0) (hd : (Ty.sl 143 tT143).R false H [s] ds bs) (_ : (Ty.int .i64).sm k) (hs : (Ty.sl 143 tT143).sm ds) (m : Nat) (hm : 4000000 ≤ m) :
    ∃ H', ev Try.prog m 3 [s0, s] H = some (.bool true, H') := by
  obtain ⟨m, rfl⟩ : ∃ k, m = k + 1 := ⟨m - 1, by omega⟩
  obtain rfl : s0 = .int .i64 k := by obtain ⟨h, _⟩ := h0; simpa using h
  obtain ⟨H1, a1, a2⟩ := szCcOpS_h hd (Kp.refl H) (left := 1048576) (by omega) (by omega) (Ty.sm_bd hs) m (by omega)
  rw [ev_eq Try.func3 ok3 m _ H (by simp [Try.f3])]
  by_cases h1 : szR 1048576 ((Ty.sl 143 tT143).sz ds) < 0
  · simp [Try.f3, a1, h1]
  · have hz : (Ty.sl 143 tT143).sz ds ≤ 1048576 := by unfold szR at h1; split at h1 <;> omega
    have hb : (Ty.sl 143 tT143).bd 1048576 ds := Ty.sz_bd hz
    have hb40 : (Ty.sl 40 tT40).bd 1048576 ds := hb
    have hz40 : (Ty.sl 40 tT40).sz ds ≤ 1048576 := hz
    have hcX : (Ty.sl 40 tT40).cnt true ds ≤ 1073741824 := Ty.cnt_bound hz40 (by simp [Ty.w])
    obtain ⟨x, H2, bx, b1, b2, b3, b4, b5⟩ := toCcOpS_h hd a2 hb m (by omega)
    obtain ⟨w, H3, bw, c1, c2, c3, c4, c5⟩ := runS_ev (kind := k) b3 (Kp.refl H2) m (by omega)
    have K3 := (a2.trans b2).trans c2
    obtain ⟨x0, H4, b0, d1, d2, d3, d4, d5⟩ := toCcOpS_h hd K3 hb m (by omega)
    obtain ⟨g, H5, bg, e1, e2, e3, e4, e5⟩ := runI_ev (kind := k) d3 (Kp.refl H4) m (by omega)
    have hol := CcRunP_len k ds
    generalize hRR : CcRunP k ds = R at *
    obtain ⟨outs, rc⟩ := R
    simp only at c1 c3 e1 e3 hol
    have hzO : (Ty.sl 38 tT38).sz outs ≤ 600 := by simp only [Ty.sz] at *; have := sz38 outs; simp only [Ty.sz] at this; omega
    have hbO : (Ty.sl 38 tT38).bd 1048576 outs := Ty.sz_bd (by omega)
    have hcO : (Ty.sl 38 tT38).cnt true outs ≤ 1073741824 := Ty.cnt_bound hzO (by simp [Ty.w])
    obtain ⟨H6, f1, f2⟩ := eqCcObsS_h e3 (c3.kp (d2.trans e2)) (Kp.refl H5) hbO m (by omega)
    have K6 := ((K3.trans d2).trans e2).trans f2
    obtain ⟨x1, H7, b7, g1, g2, g3, g4, g5⟩ := toCcOpS_h hd K6 hb m (by omega)
    obtain ⟨H8, i1, i2⟩ := eqCcOpS_h (d3.kp ((e2.trans f2).trans g2)) g3 (Kp.refl H7) hb40 m (by omega)
    have KX : Kp H4 H8 := ((e2.trans f2).trans g2).trans i2
    obtain ⟨H9, j1, j2, j3⟩ := markCcOpS_h (d3.kp KX) d4 hb40 (k0 := 1) (by omega) (by omega) m (by omega)
    have n0 := b2.next
    have n1 := c2.next
    have n2 := d2.next
    have n3 := e2.next
    have n4 := f2.next
    have n5 := g2.next
    have n6 := i2.next
    have n7 := a2.next
    have w9 := (c3.kp (d2.trans KX)).koL j2 fun b hb hx => by have := c3.mem b hb; have := d5 b hx; omega
    have r9 := (e3.kp ((f2.trans g2).trans i2)).koL j2 fun b hb hx => by have := d3.mem b hx; have := e5 b hb; omega
    obtain ⟨H10, k1, k2⟩ := eqCcObsS_h r9 w9 (Kp.refl H9) hbO m (by omega)
    have K9 : Kp H H9 := j2.kp ((K6.trans g2).trans i2) fun b hb => by have := d5 b hb; have := K3.next; omega
    obtain ⟨H11, l1, l2, l3⟩ := markCcObsS_h (r9.kp k2) e4 hbO (k0 := 1) (by omega) (by omega) m (by omega)
    have o1 := heldCcObsS_h l3 hbO (by omega) (by omega) m (by omega)
    have K11 : Kp H H11 := l2.kp (K9.trans k2) fun b hb => by have := e5 b hb; have := K3.next; omega
    have w11 := (w9.kp k2).koL l2 fun b hb hx => by have := c3.mem b hb; have := e5 b hx; omega
    obtain ⟨x2, H12, b12, p1, p2, p3, p4, p5⟩ := toCcOpS_h hd K11 hb m (by omega)
    obtain ⟨h0, H13, b13, q1, q2, q3, q4, q5⟩ := runI_ev (kind := k) p3 (Kp.refl H12) m (by omega)
    rw [hRR] at q1 q3
    simp only at q1 q3
    obtain ⟨H14, r1, r2⟩ := eqCcObsS_h q3 (w11.kp (p2.trans q2)) (Kp.refl H13) hbO m (by omega)
    have o2 := heldCcObsS_h (l3.kp ((p2.trans q2).trans r2)) hbO (by omega) (by omega) m (by omega)
    generalize hN1 : (Ty.sl 40 tT40).cnt true ds = N1 at *
    generalize hN2 : (Ty.sl 38 tT38).cnt true outs = N2 at *
    have t1 : ¬ (1 + (N1 : Int) < (0 : Int)) := by omega
    have t2 : ¬ (1 + (N2 : Int) < (0 : Int)) := by omega
    refine ⟨H14, ?_⟩
    simp [Try.f3, a1, h1, b1, c1, d1, e1, f1, g1, i1, j1, k1, l1, o1, p1, q1, r1, o2, t1, t2, evHist, ObsOk, ObOk]
end Go.Ev
