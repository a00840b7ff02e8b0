/- Lemmas of an evaluator of the given code and of what the functions answer; no condition of its own. -/
import Derived.Test.YtnoacfilglgbgaaEv17
/- Congestion: the program's model rule, its acknowledgement. -/
namespace Go.Ev
open Go Go.Proofs
set_option linter.unusedSimpArgs false
set_option linter.unusedVariables false

theorem CcM.apA {X : AH} {q : Nat} {S : Cc} {va vs : AV} {ba bs : List Nat} (h : CcM X q S va vs ba bs) {x y : Int} (hx : InK .i64 x) (hy : InK .i64 y) (htl : S.times.length = S.bytes.length) (hl : S.times.length ≤ 1000000) :
    ∃ v' X' ba', appA Try.prog 254 254 va (.slice X.next 0 1) (X.push (.cells 359 false [.int .i64 x, .int .i64 y])) = some (v', X') ∧ v'.one = true ∧ (∀ b, b < X.next → b ∉ ba → X'.get b = X.get b) ∧
      CcM (X'.set q (.cells 256 false (mdC S v' vs))) q { S with times := S.times ++ [x], bytes := S.bytes ++ [y] } v' vs ba' bs ∧
      KoS (ccR q ba bs) X (X'.set q (.cells 256 false (mdC S v' vs))) ∧ X.next ≤ X'.next ∧ (∀ b ∈ ccR q ba' bs, b ∈ ccR q ba bs ∨ X.next ≤ b) := by
  have hnd := h.nd
  have m1 := h.ra.mem
  have m2 := h.rs.mem
  have hq := h.lt
  simp only [List.nodup_cons, List.nodup_append, List.mem_append] at hnd
  have hzl : (S.times.zip S.bytes).length ≤ 1000000 := by simp; omega
  obtain ⟨v', X', ba', h1, h2, h3, h4, h5⟩ := Ty.R.app1 (P := Try.prog) (T := 254) h.ra (i359 (rw := true) (H := X) hx hy) (by simpa using hnd.2.1) (by simp) (by simp) (by simp [Ty.n]) (by_ := 16) (by simp) (z := [.int .i64 0, .int .i64 0]) (by simp) (by simp [Ty.n]) (by omega) (by omega)
  have hn := h5.next
  have h4' : ∀ b ∈ ba', b ∈ ba ∨ X.next ≤ b := fun b hb => by rcases h4 b hb with h | h | h <;> simp_all
  have hz : (S.times ++ [x]).zip (S.bytes ++ [y]) = S.times.zip S.bytes ++ [(x, y)] := by rw [List.zip_append htl]; rfl
  refine ⟨v', X', ba', h1, h2.sl_one, fun b hb hn => h5.get b hb hn, ⟨AH.set_getS _ _ _, ?_, ?_, ?_, by simp; omega⟩, ⟨by simp; omega, fun b hb hb2 => ?_⟩, hn, fun b hb => ?_⟩
  · rw [hz]; exact h2.stay (by simp) fun b hb => AH.set_getN _ _ (by grind)
  · exact (h.rs.koS h5 (by grind)).stay (by simp) fun b hb => AH.set_getN _ _ (by grind)
  · simp only [List.nodup_cons, List.nodup_append, List.mem_append]; grind
  · simp only [ccR, List.mem_cons, List.mem_append, not_or] at hb2
    rw [AH.set_getN _ _ hb2.1]; exact h5.get b hb hb2.2.1
  · simp only [ccR, List.mem_cons, List.mem_append] at hb ⊢; grind
theorem CcM.apS {X : AH} {q : Nat} {S : Cc} {va vs : AV} {ba bs : List Nat} (h : CcM X q S va vs ba bs) (x : Int) :
    ∃ v' X' bs' v2, appA Try.prog 60 60 vs (.slice X.next 0 1) (X.push (.cells 3 false [.int .i64 x])) = some (v', X') ∧ v'.one = true ∧ v2.one = true ∧ (∀ b, b < X.next → b ∉ bs → X'.get b = X.get b) ∧
      (∀ h, lenA Try.prog 60 v' h = some (.int .i64 (last8 S.samples ++ [x]).length)) ∧
      (if 8 < (last8 S.samples ++ [x]).length then cutA Try.prog 60 v' (some (some (.int .i64 1))) (some none) (X'.set q (.cells 256 false (mdC S va v'))) = some v2 else v2 = v') ∧
      CcM (X'.set q (.cells 256 false (mdC S va v2))) q { S with samples := S.samples ++ [x] } va v2 ba bs' ∧
      KoS (ccR q ba bs) X (X'.set q (.cells 256 false (mdC S va v2))) ∧ X.next ≤ X'.next ∧ (∀ b ∈ ccR q ba bs', b ∈ ccR q ba bs ∨ X.next ≤ b) := by
  have hnd := h.nd
  have m1 := h.ra.mem
  have m2 := h.rs.mem
  have hq := h.lt
  simp only [List.nodup_cons, List.nodup_append, List.mem_append] at hnd
  have h8 := last8_len S.samples
  obtain ⟨v', X', bs', h1, h2, h3, h4⟩ := h.rs.app x (by omega)
  have hn := h4.next
  have hnd' := h2.nd
  have h2' : OwnI (X'.set q (.cells 256 false (mdC S va v'))) v' (last8 S.samples ++ [x]) bs' := h2.stay (by simp) fun b hb => AH.set_getN _ _ (by have := h3 b hb; omega)
  have fin : ∀ v2 z, OwnI (X'.set q z) v2 (last8 (S.samples ++ [x])) bs' → CcM (X'.set q (.cells 256 false (mdC S va v2))) q { S with samples := S.samples ++ [x] } va v2 ba bs' ∧
      KoS (ccR q ba bs) X (X'.set q (.cells 256 false (mdC S va v2))) := fun v2 z hv => by
    refine ⟨⟨AH.set_getS _ _ _, ?_, ?_, ?_, by simp; omega⟩, ⟨by simp; omega, fun b hb hb2 => ?_⟩⟩
    · exact (h.ra.koS h4 (by grind)).stay (by simp) fun b hb => AH.set_getN _ _ (by grind)
    · have hne : ∀ b ∈ bs', b ≠ q := fun b hb => by have := h3 b hb; omega
      exact hv.stay (by simp) fun b hb => by rw [AH.set_getN _ _ (hne b hb), AH.set_getN _ _ (hne b hb)]
    · simp only [List.nodup_cons, List.nodup_append, List.mem_append]; grind
    · simp only [ccR, List.mem_cons, List.mem_append, not_or] at hb2
      rw [AH.set_getN _ _ hb2.1]; exact h4.get b hb hb2.2.2
  have hsub : ∀ b ∈ ccR q ba bs', b ∈ ccR q ba bs ∨ X.next ≤ b := fun b hb => by
    simp only [ccR, List.mem_cons, List.mem_append] at hb ⊢; grind
  have hl := last8_snoc S.samples x
  by_cases c : 8 < (last8 S.samples ++ [x]).length
  · rw [if_pos c] at hl
    obtain ⟨y, hl⟩ := hl
    have h7 := h2'
    rw [hl] at h7
    obtain ⟨v2, e1, e2⟩ := h7.tail
    obtain ⟨f1, f2⟩ := fin v2 _ e2
    refine ⟨v', X', bs', v2, h1, h2.one, e2.one, fun b hb hn => h4.get b hb hn, fun h => h2.len h, ?_, f1, f2, hn, hsub⟩
    rw [if_pos c]; exact e1
  · rw [if_neg c] at hl
    have h6 := h2'
    rw [hl] at h6
    obtain ⟨f1, f2⟩ := fin v' _ h6
    refine ⟨v', X', bs', v', h1, h2.one, h2.one, fun b hb hn => h4.get b hb hn, fun h => h2.len h, ?_, f1, f2, hn, hsub⟩
    rw [if_neg c]
set_option maxHeartbeats 4000000 in
set_option maxRecDepth 20000 in
theorem ackModelI_ev {H : AH} {q : Nat} {k : Int} {S : Cc} {va vs : AV} {ba bs : List Nat} {n : Nat} (h : CcM H q S va vs ba bs) (hk : k ≠ 1) (hok : S.ok k n) (hn : n + 1 ≤ 600) {op : CcOpP} (ho : opGood op) (h2 : op.k = 2) {f : Int} (hf : f = S.flight) (m : Nat) (hm : 730 ≤ m) :
    ∃ H' va' vs' ba' bs', ev Try.prog m 323 [.ptr q 0, .agg (opC op), .int .i64 f] H = some (U, H') ∧ CcM H' q (ackModelP S op) va' vs' ba' bs' ∧ KoS (ccR q ba bs) H H' ∧ (∀ b ∈ ccR q ba' bs', b ∈ ccR q ba bs ∨ H.next ≤ b) := by
  obtain ⟨m, rfl⟩ : ∃ k, m = k + 1 := ⟨m - 1, by omega⟩
  have hq := h.lt
  have hqn : ¬ (q = H.next) := by omega
  have hnq : ¬ (H.next = q) := by omega
  have htl := hok.tl
  have hin := ho.t
  have hib := ho.b
  have ham := ackModelP_ok hk hok ho hn h2
  have hall := allP_ok hok ho
  let A0 : AH := H.push (.cells 40 false (opC op))
  have KA : Kp H A0 := (Kp.refl H).push _
  have hmem := h.mem
  have hA : CcM A0 q S va vs ba bs := ⟨by rw [KA.get q hq]; exact h.get, h.ra.kp KA, h.rs.kp KA, h.nd, by simp [A0]; omega⟩
  have hp0 : A0.get H.next = some (.cells 40 false (opC op)) := by simp [A0]
  have hpn : H.next ∉ ccR q ba bs := fun e => by have := hmem _ e; omega
  simp only [ccR, List.mem_cons, List.mem_append, not_or] at hpn
  have hL := Ty.R.lenA hA.ra (P := Try.prog) (T := 254) (by simp)
  have hzl : (S.times.zip S.bytes).length = S.samples.length := by have := hok.le; simp; omega
  have hgA := hA.get
  -- the loop
  obtain ⟨LR, hLR⟩ : ∃ z, z = evLoop Try.prog (ev Try.prog m) m (lp Try.prog 323 58) := ⟨_, rfl⟩
  have a15 : ∀ τ : Tm, τ 0 = .ptr q 0 → τ 2 = .int .i64 f → τ 4 = .ptr H.next 0 → τ 6 = .int .i64 (allP op.s S.times S.bytes op.b) → ∀ A1, Kp A0 A1 →
      ∃ τ' H' va' vs' ba' bs', evAt Try.prog (ev Try.prog m) m 323 15 τ A1 = some (.normal, τ', H') ∧ CcM H' q (ackModelP S op) va' vs' ba' bs' ∧ KoS (ccR q ba bs) A1 H' ∧ (∀ b ∈ ccR q ba' bs', b ∈ ccR q ba bs ∨ A1.next ≤ b) := by
    intro τ t0 t2 t4 t6 A1 K1
    have hA1 : CcM A1 q S va vs ba bs := hA.stay K1.next fun b hb => K1.get b (hA.mem b hb)
    have hn1 := K1.next
    have hA0n : A0.next = H.next + 1 := rfl
    have p0 : A1.get H.next = some (.cells 40 false (opC op)) := (K1.get _ (by omega)).trans hp0
    have q0 := hA1.get
    -- the two rows
    obtain ⟨va', X1, ba', a1, o1, f1, g1, KX1, hX1, N1⟩ := hA1.apA (x := op.t) (y := op.b) (InK.i64 (by omega) (by omega)) (InK.i64 (by omega) (by omega)) (by omega) (by have := hok.tl; have := hok.le; omega)
    have p1 : X1.get H.next = some (.cells 40 false (opC op)) := (f1 _ (by omega) (by grind)).trans p0
    have hnd := h.nd
    simp only [List.nodup_cons, List.mem_append] at hnd
    have q1 := (f1 q (by omega) (by grind)).trans q0
    have hsx : 0 ≤ (allP op.s S.times S.bytes op.b * 1000000).tdiv (mxI 1 (op.t - op.s)) ∧ (allP op.s S.times S.bytes op.b * 1000000).tdiv (mxI 1 (op.t - op.s)) ≤ allP op.s S.times S.bytes op.b * 1000000 := tdiv_le_self (by omega) (by unfold mxI; split <;> omega)
    obtain ⟨vs', X2, bs', v2, a2, o2, o22, f2, l2, c2, g2, KX2, hX2, N2⟩ := g1.apS (miI ((allP op.s S.times S.bytes op.b * 1000000).tdiv (mxI 1 (op.t - op.s))) 1000000000000)
    have hbs : H.next ∉ bs := by grind
    simp only [AH.set_next] at hX2
    have p2 : X2.get H.next = some (.cells 40 false (opC op)) := (f2 _ (by simp; omega) hbs).trans ((AH.set_getN _ _ hnq).trans p1)
    have q2 := (f2 q (g1.lt) (by grind)).trans g1.get
    -- the state with its sample
    let S1 : Cc := { S with times := S.times ++ [op.t], bytes := S.bytes ++ [op.b], samples := S.samples ++ [miI ((allP op.s S.times S.bytes op.b * 1000000).tdiv (mxI 1 (op.t - op.s))) 1000000000000] }
    have hfl : f = (ack1P S op).flight := hf
    have step : ∀ S' : Cc, S'.samples = (ack1P S op).samples → S'.times = (ack1P S op).times → S'.bytes = (ack1P S op).bytes → CcM (X2.set q (.cells 256 false (mdC S' va' v2))) q S' va' v2 ba' bs' := fun S' e1 e2 e3 =>
      g2.step (S' := S') ⟨by simp, fun b _ hb => by rw [AH.set_getN _ _ (by simpa using hb), AH.set_getN _ _ (by simpa using hb)]⟩ (AH.set_getS _ _ _) e1 e2 e3
    have g4 := step (ack1P S op) rfl rfl rfl
    have hF := ham.1.floor
    have hB := bwI_ev g4 m (by omega)
    have hP := prodI_ev g4 ham.1.samples ham.1.floor m (by omega)
    have gF := step (ackModelP S op) (ackModelP_rows S op).1 (ackModelP_rows S op).2.1 (ackModelP_rows S op).2.2
    have KF : KoS (ccR q ba bs) A1 (X2.set q (.cells 256 false (mdC (ackModelP S op) va' v2))) := by
      refine ⟨by simp only [AH.set_next]; omega, fun b hb hnb => ?_⟩
      simp only [ccR, List.mem_cons, List.mem_append, not_or] at hnb
      rw [AH.set_getN _ _ hnb.1, f2 b (by simp; omega) hnb.2.2, AH.set_getN _ _ hnb.1, f1 b (by omega) hnb.2.1]
    have NF : ∀ b ∈ ccR q ba' bs', b ∈ ccR q ba bs ∨ A1.next ≤ b := fun b hb => by
      rcases N2 b hb with e | e
      · exact N1 b e
      · exact .inr (by simp only [AH.set_next] at e; omega)
    obtain ⟨hok1, hb1, hb2, hp1, hp2⟩ := ham
    have hmx : 1 ≤ mxI 1 (op.t - op.s) := by unfold mxI; split <;> omega
    have w1 := wrap_i64 (n := allP op.s S.times S.bytes op.b * 1000000) (by omega) (by omega)
    have w2 := wrap_i64 (n := op.t - op.s) (by have := ho.s; omega) (by have := ho.s; omega)
    have hmz : ¬ (mxI 1 (op.t - op.s) = 0) := by omega
    have w3 := wrap_i64 (n := (allP op.s S.times S.bytes op.b * 1000000).tdiv (mxI 1 (op.t - op.s))) (by omega) (by omega)
    have hmx2 : (if 1 < op.t - op.s then op.t - op.s else 1) = mxI 1 (op.t - op.s) := rfl
    have hmi2 : (if 1000000000000 < (allP op.s S.times S.bytes op.b * 1000000).tdiv (mxI 1 (op.t - op.s)) then 1000000000000 else (allP op.s S.times S.bytes op.b * 1000000).tdiv (mxI 1 (op.t - op.s))) = miI ((allP op.s S.times S.bytes op.b * 1000000).tdiv (mxI 1 (op.t - op.s))) 1000000000000 := rfl
    have tail : ∀ τ : Tm, τ 0 = .ptr q 0 → τ 2 = .int .i64 f → τ 4 = .ptr H.next 0 → ∃ τ', evAt Try.prog (ev Try.prog m) m 323 255 τ (X2.set q (.cells 256 false (mdC (ack1P S op) va' v2))) = some (.normal, τ', X2.set q (.cells 256 false (mdC (ackModelP S op) va' v2))) := by
      intro τ t0 t2 t4
      rw [at_cut Try.func323 255 (by decide) 8 (by decide) (by kernel_rfl) [1022, 1023]]
      simp [Try.f323, t0, t2, t4, hB, hP]
      generalize hτ : upd _ 10 _ = τ2
      obtain ⟨τ3, e1, e2, e3, e4⟩ := swI (τ := τ2) (op := op) (p := H.next) (AH.set_getS X2 q (.cells 256 false (mdC (ack1P S op) va' v2))) hk hok1 hfl ho ((AH.set_getN _ _ hnq).trans p2) hnq (B := bwP (ack1P S op).samples) ⟨hb1, hb2⟩ (Q := prodP (bwP (ack1P S op).samples) (ack1P S op).floor) (ev Try.prog m) m (by rw [← hτ]; simp [t0]) (by rw [← hτ]; simp [t2]) (by rw [← hτ]; simp [t4]) (by rw [← hτ]; simp) (by rw [← hτ]; simp)
      rw [set_set] at e1
      simp only [e1]
      obtain ⟨τ4, e5⟩ := finI (τ := τ3) (AH.set_getS X2 q (.cells 256 false (mdC (ack2P (ack1P S op) op (bwP (ack1P S op).samples) (prodP (bwP (ack1P S op).samples) (ack1P S op).floor)) va' v2))) hk (ack2P_ok hok1 hok.count.2 ho ⟨hb1, hb2⟩) ⟨hb1, hb2⟩ ⟨hp1, hp2⟩ (ev Try.prog m) m e2 e3 e4
      rw [set_set] at e5
      simp only [e5]
      exact ⟨τ4, rfl⟩
    have x0 : ¬ (q = A1.next) := by omega
    have x1 : ¬ (q = X1.next) := by omega
    have x2 : ¬ (q = X2.next) := by omega
    have y0 : ¬ (H.next = A1.next) := by omega
    have y1 : ¬ (H.next = X1.next) := by omega
    have y2 : ¬ (H.next = X2.next) := by omega
    obtain ⟨FIN, hFIN⟩ : ∃ z, z = X2.set q (.cells 256 false (mdC (ackModelP S op) va' v2)) := ⟨_, rfl⟩
    rw [← hFIN] at tail gF KF
    clear hFIN
    simp only [AH.set_next, mdC, opC] at a1 a2 c2 p0 p1 p2 q0 q1 q2
    simp only [mdC, ack1P] at tail
    have a127 : ∀ τ : Tm, τ 0 = .ptr q 0 → τ 2 = .int .i64 f → τ 4 = .ptr H.next 0 → ∃ τ', evAt Try.prog (ev Try.prog m) m 323 127 τ (X2.set q (.cells 256 false (mdC S va' v2))) = some (.normal, τ', FIN) := by
      intro τ t0 t2 t4
      rw [at_cut Try.func323 127 (by decide) 7 (by decide) (by kernel_rfl) [255]]
      by_cases cf0 : S.floor = 0
      · simp only [cf0, true_or, if_true] at tail
        simp [Try.f323, mdC, t0, t2, t4, ldVar, stVar, spl, p2, hqn, hnq, cf0, evHist, ObsOk, ObOk, List.getElem?_cons_zero]
        generalize hτ : upd _ _ _ = τ2
        obtain ⟨τ3, e1⟩ := tail τ2 (by rw [← hτ]; simp [t0]) (by rw [← hτ]; simp [t2]) (by rw [← hτ]; simp [t4])
        simp [e1]
      · by_cases cf1 : op.p < S.floor
        · simp only [cf1, or_true, if_true] at tail
          simp [Try.f323, mdC, t0, t2, t4, ldVar, stVar, spl, p2, hqn, hnq, cf0, cf1, evHist, ObsOk, ObOk, List.getElem?_cons_zero]
          generalize hτ : upd _ _ _ = τ2
          obtain ⟨τ3, e1⟩ := tail τ2 (by rw [← hτ]; simp [t0]) (by rw [← hτ]; simp [t2]) (by rw [← hτ]; simp [t4])
          simp [e1]
        · simp only [cf0, cf1, or_self, if_false] at tail
          simp [Try.f323, mdC, t0, t2, t4, ldVar, stVar, spl, p2, hqn, hnq, cf0, cf1, evHist, ObsOk, ObOk, List.getElem?_cons_zero]
          generalize hτ : upd _ _ _ = τ2
          obtain ⟨τ3, e1⟩ := tail τ2 (by rw [← hτ]; simp [t0]) (by rw [← hτ]; simp [t2]) (by rw [← hτ]; simp [t4])
          simp [e1]
    clear tail
    simp only [mdC] at a127
    have a63 : ∀ τ : Tm, τ 0 = .ptr q 0 → τ 2 = .int .i64 f → τ 4 = .ptr H.next 0 → ∃ τ', evAt Try.prog (ev Try.prog m) m 323 63 τ (X2.set q (.cells 256 false (mdC S va' vs'))) = some (.normal, τ', FIN) := by
      intro τ t0 t2 t4
      rw [at_cut Try.func323 63 (by decide) 6 (by decide) (by kernel_rfl) [127]]
      generalize hll : (last8 S.samples ++ [miI ((allP op.s S.times S.bytes op.b * 1000000).tdiv (mxI 1 (op.t - op.s))) 1000000000000]).length = ll at l2 c2
      by_cases c8 : 8 < ll
      · rw [if_pos c8] at c2
        have c8' : (8 : Int) < ll := by omega
        simp [Try.f323, mdC, t0, t2, t4, ldVar, stVar, spl, l2, c2, o22, cells_one o22, c8, c8', evHist, ObsOk, ObOk, List.getElem?_cons_zero]
        generalize hτ : upd _ _ _ = τ2
        obtain ⟨τ3, e1⟩ := a127 τ2 (by rw [← hτ]; simp [t0]) (by rw [← hτ]; simp [t2]) (by rw [← hτ]; simp [t4])
        simp [e1]
      · rw [if_neg c8] at c2
        have c8' : ¬ ((8 : Int) < ll) := by omega
        subst c2
        simp [Try.f323, mdC, t0, t2, t4, ldVar, stVar, spl, l2, c8, c8', evHist, ObsOk, ObOk, List.getElem?_cons_zero]
        generalize hτ : upd _ _ _ = τ2
        obtain ⟨τ3, e1⟩ := a127 τ2 (by rw [← hτ]; simp [t0]) (by rw [← hτ]; simp [t2]) (by rw [← hτ]; simp [t4])
        simp [e1]
    clear a127
    simp only [mdC] at a63
    have a31 : ∀ τ : Tm, τ 0 = .ptr q 0 → τ 2 = .int .i64 f → τ 4 = .ptr H.next 0 → τ 6 = .int .i64 (allP op.s S.times S.bytes op.b) → ∃ τ', evAt Try.prog (ev Try.prog m) m 323 31 τ (X1.set q (.cells 256 false (mdC S va' vs))) = some (.normal, τ', FIN) := by
      intro τ t0 t2 t4 t6
      rw [at_cut Try.func323 31 (by decide) 5 (by decide) (by kernel_rfl) [63]]
      simp [Try.f323, mdC, t0, t2, t4, t6, ldVar, stVar, spl, zerosA, p1, p2, hqn, hnq, w1, w2, w3, hmx2, hmi2, hmz, a2, o2, cells_one o2, q2, x0, x1, x2, y0, y1, y2, List.getElem?_cons_zero, evHist, ObsOk, ObOk]
      generalize hτ : upd _ _ _ = τ2
      obtain ⟨τ3, e1⟩ := a63 τ2 (by rw [← hτ]; simp [t0]) (by rw [← hτ]; simp [t2]) (by rw [← hτ]; simp [t4])
      simp [e1]
    clear a63
    simp only [mdC] at a31
    rw [at_cut Try.func323 15 (by decide) 4 (by decide) (by kernel_rfl) [31]]
    simp [Try.f323, mdC, t0, t2, t4, t6, ldVar, stVar, spl, zerosA, p0, p1, hqn, hnq, a1, o1, cells_one o1, q0, q1, x0, x1, x2, y0, y1, y2, List.getElem?_cons_zero, evHist, ObsOk, ObOk]
    generalize hτ : upd _ _ _ = τ2
    obtain ⟨τ3, e1⟩ := a31 τ2 (by rw [← hτ]; simp [t0]) (by rw [← hτ]; simp [t2]) (by rw [← hτ]; simp [t4]) (by rw [← hτ]; simp [t6])
    exact ⟨τ3, FIN, e1, va', v2, ba', bs', gF, KF, NF⟩
  rw [ev_cut Try.func323 ok323 [15] m _ H (by simp [Try.f323])]
  have hgH := h.get
  simp only [mdC] at hgH
  have hp1 := hp0
  simp only [A0, opC] at hp0
  simp [Try.f323, opC, ldVar, spl, hgH, hqn, hL, hzl, evHist, ObsOk, ObOk, List.getElem?_cons_zero]
  generalize hLo : evLoop _ _ _ _ _ _ = R
  obtain ⟨e, τ', H1, rfl, rfl, t0, t2, t4, t6, K1⟩ := loop_at hLo (allLoopI hA hok ho hp1 (by simp [A0]) m (by omega) _ _ (.int .i64 f) (by simp) (by simp) (by simp) (by simp) (by simp) (by simp) (by simp))
  obtain ⟨τ2, H2, va', vs', ba', bs', e1, g1, g2, g3⟩ := a15 τ' t0 t2 t4 t6 H1 K1
  have hn1 := K1.next
  have hA0n : A0.next = H.next + 1 := rfl
  refine ⟨H2, by simp [e1, U], va', vs', ba', bs', g1, ⟨by have := g2.next; omega, fun b hb hn => ?_⟩, fun b hb => ?_⟩
  · rw [g2.get b (by omega) hn, K1.get b (by omega), KA.get b hb]
  · rcases g3 b hb with h | h
    · exact .inl h
    · exact .inr (by omega)
end Go.Ev
