/- Lemmas of an evaluator of the given code and of what the functions answer; no condition of its own. -/
import Derived.Test.YtnoacfilglgbgaaEv11
import Derived.Test.YtnoacfilglgbgaaEv12
/- Congestion: the specification's model rule. -/
namespace Go.Ev
open Go Go.Proofs
set_option linter.unusedSimpArgs false
set_option linter.unusedVariables false

theorem allLoopS {H : AH} {q p : Nat} {k : Int} {S : Cc} {vs vt vb : AV} {bs bt bb : List Nat} {n : Nat} (h : CcS H q k S vs vt vb bs bt bb) (hok : S.ok k n) {op : CcOpP} (ho : opGood op) (hp : H.get p = some (.cells 40 false (opC op))) (m : Nat) (hm : 700 ≤ m) (call : CallF) (τ : Tm) (t0 : τ 0 = .ptr q 0) (t3 : τ 3 = .ptr p 0) (t4 : τ 4 = .int .i64 op.b) (t5 : τ 5 = .int .i64 0) :
    ∃ e τ' H', evLoop Try.prog call m (lp Try.prog 194 58) τ H = some (e, τ', H') ∧ e = .exit 0 ∧ τ' 0 = .ptr q 0 ∧ τ' 3 = .ptr p 0 ∧ τ' 4 = .int .i64 (allP op.s S.times S.bytes op.b) ∧ H' = H := by
  have hg := h.get
  simp only [ccC] at hg
  simp only [opC] at hp
  have hLt := Ty.R.lenA h.rt (P := Try.prog) (T := 60) (by simp)
  have htl := hok.tl
  have hle := hok.le
  refine loop_rule (d := S.times.length) (fun d τ h => ∃ (i : Nat) (a : Int), i + d = S.times.length ∧ τ 0 = .ptr q 0 ∧ τ 3 = .ptr p 0 ∧ τ 5 = .int .i64 i ∧ τ 4 = .int .i64 a ∧ 0 ≤ a ∧ a ≤ 2000 + 2000 * i ∧ allP op.s (S.times.drop i) (S.bytes.drop i) a = allP op.s S.times S.bytes op.b ∧ h = H)
    (fun e τ h => e = .exit 0 ∧ τ 0 = .ptr q 0 ∧ τ 3 = .ptr p 0 ∧ τ 4 = .int .i64 (allP op.s S.times S.bytes op.b) ∧ h = H) ?_ ⟨0, op.b, by omega, t0, t3, by simpa using t5, t4, ho.b.1, by have := ho.b.2; omega, by simp, rfl⟩ (by omega)
  intro d τ h1 hI
  obtain ⟨i, a, hi, t0, t3, t5, t4, a0, a1, ha, rfl⟩ := hI
  rewrite [lp194_58]
  by_cases hd0 : d = 0
  · have hil : i = S.times.length := by omega
    have hib : S.bytes.length ≤ i := by omega
    rw [List.drop_eq_nil_of_le (by omega), List.drop_eq_nil_of_le hib] at ha
    simp only [allP] at ha
    subst ha
    have c : (i : Int) = S.times.length := by omega
    simp [Try.f194, t0, t3, t5, t4, ldVar, hg, hLt, c]
  · have hlt : i < S.times.length := by omega
    have hlb : i < S.bytes.length := by omega
    obtain ⟨b, o, e, ro, xs, u1, u2, u3, _, _⟩ := tI_at h.rt hlt
    obtain ⟨b', o', e', ro', xs', u1', u2', u3', _, _⟩ := tI_at h.rb hlb
    have hb := hok.bytes _ (List.getElem_mem hlb)
    rw [allP_take op.s _ _ a i (by omega) hlt hlb] at ha
    have w1 := wrap_i64 (n := (i : Int) + 1) (by omega) (by omega)
    have w2 := wrap_i64 (n := a + S.bytes[i]) (by omega) (by omega)
    by_cases c : S.times[i] > op.s
    · rw [if_pos c] at ha
      simp [Try.f194, t0, t3, t5, t4, ldVar, hg, hp, hLt, hlt, w1, w2, c, u1, u2, u3, u1', u2', u3', evHist, ObsOk, ObOk]
      exact ⟨d - 1, by omega, i + 1, by omega, by push_cast; rfl, by omega, by omega, ha⟩
    · rw [if_neg c] at ha
      simp [Try.f194, t0, t3, t5, t4, ldVar, hg, hp, hLt, hlt, w1, c, u1, u2, u3, evHist, ObsOk, ObOk]
      exact ⟨d - 1, by omega, i + 1, by omega, by push_cast; rfl, a0, by push_cast; omega, ha⟩
theorem ack2P_rows (S : Cc) (op : CcOpP) (b p : Int) : (ack2P S op b p).samples = S.samples ∧ (ack2P S op b p).times = S.times ∧ (ack2P S op b p).bytes = S.bytes := by
  unfold ack2P
  split
  · split
    · exact ⟨rfl, rfl, rfl⟩
    · split <;> exact ⟨rfl, rfl, rfl⟩
  · split
    · split <;> exact ⟨rfl, rfl, rfl⟩
    · split <;> exact ⟨rfl, rfl, rfl⟩
theorem ackModelP_rows (S : Cc) (op : CcOpP) : (ackModelP S op).samples = (ack1P S op).samples ∧ (ackModelP S op).times = (ack1P S op).times ∧ (ackModelP S op).bytes = (ack1P S op).bytes := ack2P_rows _ _ _ _
/-- the switch -/
theorem swS {H : AH} {q p : Nat} {k : Int} {S : Cc} {vs vt vb : AV} {n : Nat} (hg : H.get q = some (.cells 141 false (ccC k S vs vt vb))) (hok : S.ok k n) {op : CcOpP} (ho : opGood op) (hp : H.get p = some (.cells 40 false (opC op))) (hpq : p ≠ q) {B Q : Int} (hB : 0 ≤ B ∧ B ≤ 1000000000000) (call : CallF) (m : Nat) (τ : Tm) (t0 : τ 0 = .ptr q 0) (t3 : τ 3 = .ptr p 0) (t6 : τ 6 = .int .i64 B) (t7 : τ 7 = .int .i64 Q) :
    ∃ τ', evAt Try.prog call m 194 2046 τ H = some (.normal, τ', H.set q (.cells 141 false (ccC k (ack2P S op B Q) vs vt vb))) ∧ τ' 0 = .ptr q 0 ∧ τ' 6 = .int .i64 B ∧ τ' 7 = .int .i64 Q := by
  have hcnt := hok.count
  have hbest := hok.best
  have hphase := hok.phase
  have hturn := hok.turn
  have hle := hok.le
  have hin := ho.t
  have hqp : q ≠ p := Ne.symm hpq
  have w4 := wrap_i64 (n := 4 * B) (by omega) (by omega)
  have w5 := wrap_i64 (n := 5 * S.best) (by omega) (by omega)
  have w6 := wrap_i64 (n := S.count + 1) (by omega) (by omega)
  have w7 := wrap_i64 (n := op.t - S.turn) (by omega) (by omega)
  have w8 := wrap_i64 (n := S.phase + 1) (by omega) (by omega)
  have hpm : (S.phase + 1).tmod 8 = (S.phase + 1) % 8 := Int.tmod_eq_emod_of_nonneg (by omega)
  have w9 := wrap_i64 (n := (S.phase + 1).tmod 8) (by omega) (by omega)
  have w33 : IntKind.i64.wrap 3 = 3 := by decide
  have hself := AH.set_same _ _ _ hg
  simp only [ccC] at hg hself
  simp only [opC] at hp
  rw [at_cut Try.func194 2046 (by decide) 11 (by decide) (by kernel_rfl) []]
  unfold ack2P
  by_cases s0 : S.state = 0
  · by_cases c1 : 4 * B ≥ 5 * S.best
    · simp [Try.f194, ccC, t0, t3, t6, t7, ldVar, stVar, spl, hg, hp, hpq, hqp, w4, w5, w6, w7, w8, w9, w33, s0, c1, evHist, ObsOk, ObOk]
    · by_cases c2 : S.count + 1 = 3
      · simp [Try.f194, ccC, t0, t3, t6, t7, ldVar, stVar, spl, hg, hp, hpq, hqp, w4, w5, w6, w7, w8, w9, w33, s0, c1, c2, evHist, ObsOk, ObOk]
      · simp [Try.f194, ccC, t0, t3, t6, t7, ldVar, stVar, spl, hg, hp, hpq, hqp, w4, w5, w6, w7, w8, w9, w33, s0, c1, c2, evHist, ObsOk, ObOk]
  · by_cases s2 : S.state = 2
    · by_cases c1 : S.flight ≤ Q
      · simp [Try.f194, ccC, t0, t3, t6, t7, ldVar, stVar, spl, hg, hp, hpq, hqp, w4, w5, w6, w7, w8, w9, w33, s0, s2, c1, evHist, ObsOk, ObOk]
      · rw [if_neg s0, if_pos s2, if_neg c1]
        simp only [s2] at hg hself
        simp [Try.f194, ccC, t0, t3, t6, t7, ldVar, stVar, spl, hg, hp, hpq, hqp, w4, w5, w6, w7, w8, w9, w33, s0, s2, c1, hself, evHist, ObsOk, ObOk]
    · by_cases c1 : op.t - S.turn ≥ S.floor
      · simp [Try.f194, ccC, t0, t3, t6, t7, ldVar, stVar, spl, hg, hp, hpq, hqp, w4, w5, w6, w7, w8, w9, w33, s0, s2, c1, evHist, ObsOk, ObOk]
      · simp [Try.f194, ccC, t0, t3, t6, t7, ldVar, stVar, spl, hg, hp, hpq, hqp, w4, w5, w6, w7, w8, w9, w33, s0, s2, c1, hself, evHist, ObsOk, ObOk]
/-- window and rate -/
theorem finS {H : AH} {q : Nat} {k : Int} {S : Cc} {vs vt vb : AV} (hg : H.get q = some (.cells 141 false (ccC k S vs vt vb))) {B Q : Int} (hB : 0 ≤ B ∧ B ≤ 1000000000000) (hQ : 0 ≤ Q ∧ Q ≤ 100000000) (call : CallF) (m : Nat) (τ : Tm) (t0 : τ 0 = .ptr q 0) (t6 : τ 6 = .int .i64 B) (t7 : τ 7 = .int .i64 Q) :
    ∃ τ', evAt Try.prog call m 194 2047 τ H = some (.normal, τ', H.set q (.cells 141 false (ccC k (ack3P S B Q) vs vt vb))) := by
  have w10 := wrap_i64 (n := Q * 23) (by omega) (by omega)
  have d10 := tdiv_le_self (a := Q * 23) (b := 8) (by omega) (by omega)
  have w11 := wrap_i64 (n := (Q * 23).tdiv 8) (by omega) (by omega)
  have w12 := wrap_i64 (n := 2 * Q) (by omega) (by omega)
  have w13 : ∀ g : Int, 3 ≤ g → g ≤ 23 → IntKind.i64.wrap (B * g) = B * g ∧ IntKind.i64.wrap ((B * g).tdiv 8) = (B * g).tdiv 8 := fun g h3 h4 => by
    have z0 : 0 ≤ B * g := Int.mul_nonneg hB.1 (by omega)
    have z1 : B * g ≤ 1000000000000 * 23 := Int.mul_le_mul hB.2 h4 (by omega) (by omega)
    have := tdiv_le_self (a := B * g) (b := 8) z0 (by omega)
    exact ⟨wrap_i64 (by omega) (by omega), wrap_i64 (by omega) (by omega)⟩
  have w19 := wrap_i64 (n := B) (by omega) (by omega)
  have w14 := w13 23 (by omega) (by omega)
  have w15 := w13 3 (by omega) (by omega)
  have w16 := w13 10 (by omega) (by omega)
  have w17 := w13 6 (by omega) (by omega)
  have w18 := w13 8 (by omega) (by omega)
  simp only [ccC] at hg
  rw [at_cut Try.func194 2047 (by decide) 11 (by decide) (by kernel_rfl) []]
  unfold ack3P gainP
  by_cases s3 : S.state = 3
  · by_cases z0 : S.phase = 0
    · simp [Try.f194, ccC, t0, t6, t7, ldVar, stVar, spl, hg, w10, w11, w12, w14, w15, w16, w17, w18, w19, s3, z0, miI, mxI, evHist, ObsOk, ObOk]
    · by_cases z1 : S.phase = 1
      · simp [Try.f194, ccC, t0, t6, t7, ldVar, stVar, spl, hg, w10, w11, w12, w14, w15, w16, w17, w18, w19, s3, z0, z1, miI, mxI, evHist, ObsOk, ObOk]
      · simp [Try.f194, ccC, t0, t6, t7, ldVar, stVar, spl, hg, w10, w11, w12, w14, w15, w16, w17, w18, w19, s3, z0, z1, miI, mxI, evHist, ObsOk, ObOk]
  · by_cases s2 : S.state = 2
    · simp [Try.f194, ccC, t0, t6, t7, ldVar, stVar, spl, hg, w10, w11, w12, w14, w15, w16, w17, w18, w19, s3, s2, miI, mxI, evHist, ObsOk, ObOk]
    · simp [Try.f194, ccC, t0, t6, t7, ldVar, stVar, spl, hg, w10, w11, w12, w14, w15, w16, w17, w18, w19, s3, s2, miI, mxI, evHist, ObsOk, ObOk]
set_option maxHeartbeats 4000000 in
set_option maxRecDepth 20000 in
theorem ackModelS_ev {H : AH} {q : Nat} {k : Int} {S : Cc} {vs vt vb : AV} {bs bt bb : List Nat} {n : Nat} (h : CcS H q k S vs vt vb bs bt bb) (hk : k ≠ 1) (hok : S.ok k n) (hn : n + 1 ≤ 600) {op : CcOpP} (ho : opGood op) (h2 : op.k = 2) (m : Nat) (hm : 730 ≤ m) :
    ∃ H' vs' vt' vb' bs' bt' bb', ev Try.prog m 194 [.ptr q 0, .agg (opC op)] H = some (U, H') ∧ CcS H' q k (ackModelP S op) vs' vt' vb' bs' bt' bb' ∧ KoS (ccB q bs bt bb) H H' ∧ (∀ b ∈ ccB q bs' bt' bb', b ∈ ccB q bs bt bb ∨ H.next ≤ b) := by
  obtain ⟨m, rfl⟩ : ∃ k, m = k + 1 := ⟨m - 1, by omega⟩
  have hq := h.lt
  have hqn : ¬ (q = H.next) := by omega
  have hnq : ¬ (H.next = q) := by omega
  have htl := hok.tl
  have hin := ho.t
  have hib := ho.b
  have ham := ackModelP_ok hk hok ho hn h2
  have hall := allP_ok hok ho
  let A0 : AH := H.push (.cells 40 false (opC op))
  have KA : Kp H A0 := (Kp.refl H).push _
  have hmem : ∀ b ∈ ccB q bs bt bb, b < H.next := by
    have m1 := h.rs.mem; have m2 := h.rt.mem; have m3 := h.rb.mem
    intro b hb; simp only [ccB, List.mem_cons, List.mem_append] at hb; grind
  have hA : CcS A0 q k S vs vt vb bs bt bb := ⟨by rw [KA.get q hq]; exact h.get, h.rs.kp KA, h.rt.kp KA, h.rb.kp KA, h.nd, by simp [A0]; omega⟩
  have hp0 : A0.get H.next = some (.cells 40 false (opC op)) := by simp [A0]
  have hpn : H.next ∉ ccB q bs bt bb := fun e => by have := hmem _ e; omega
  simp only [ccB, List.mem_cons, List.mem_append, not_or] at hpn
  -- the three rows
  obtain ⟨vt', X1, bt', a1, o1, f1, g1, K1, N1⟩ := hA.appT (x := op.t) (InK.i64 (by omega) (by omega)) (by omega)
  have p1 : X1.get H.next = some (.cells 40 false (opC op)) := (f1 _ (by simp [A0]) (by grind)).trans hp0
  have q1 := (f1 q (by simp [A0]; omega) (by have := h.nd; simp only [List.nodup_cons, List.mem_append] at this; grind)).trans hA.get
  obtain ⟨vb', X2, bb', a2, o2, f2, g2, K2, N2⟩ := g1.appB (x := op.b) (InK.i64 (by omega) (by omega)) (by simp; omega)
  have hbb : H.next ∉ bb := by grind
  have hA1 : A0.next = H.next + 1 := rfl
  have hX1 := K1.next
  have p2 : X2.get H.next = some (.cells 40 false (opC op)) := (f2 _ (by omega) hbb).trans ((AH.set_getN _ _ hnq).trans p1)
  have q2 := (f2 q (g1.lt) (by have := g1.nd; simp only [List.nodup_cons, List.mem_append] at this; grind)).trans g1.get
  have hsx : 0 ≤ (allP op.s S.times S.bytes op.b * 1000000).tdiv (mxI 1 (op.t - op.s)) ∧ (allP op.s S.times S.bytes op.b * 1000000).tdiv (mxI 1 (op.t - op.s)) ≤ allP op.s S.times S.bytes op.b * 1000000 := tdiv_le_self (by omega) (by unfold mxI; split <;> omega)
  obtain ⟨vs', X3, bs', a3, o3, f3, g3, K3, N3⟩ := g2.appS (x := miI ((allP op.s S.times S.bytes op.b * 1000000).tdiv (mxI 1 (op.t - op.s))) 1000000000000) (InK.i64 (by unfold miI; split <;> omega) (by unfold miI; split <;> omega)) (by simp; omega)
  have hbs : H.next ∉ bs := by grind
  have hX2 := K2.next
  have p3 : X3.get H.next = some (.cells 40 false (opC op)) := (f3 _ (by omega) hbs).trans ((AH.set_getN _ _ hnq).trans p2)
  have q3 := (f3 q (g2.lt) (by have := g2.nd; simp only [List.nodup_cons, List.mem_append] at this; grind)).trans g2.get
  -- the state with its sample
  let S1 : Cc := { S with times := S.times ++ [op.t], bytes := S.bytes ++ [op.b], samples := S.samples ++ [miI ((allP op.s S.times S.bytes op.b * 1000000).tdiv (mxI 1 (op.t - op.s))) 1000000000000] }
  have hS1 : ack1P S op = { S1 with floor := (ack1P S op).floor } := rfl
  have g4 : CcS (X3.set q (.cells 141 false (ccC k (ack1P S op) vs' vt' vb'))) q k (ack1P S op) vs' vt' vb' bs' bt' bb' := by
    have := g3.step (H' := X3.set q (.cells 141 false (ccC k (ack1P S op) vs' vt' vb'))) (S' := ack1P S op) ⟨by simp, fun b _ hb => by rw [AH.set_getN _ _ (by simpa using hb), AH.set_getN _ _ (by simpa using hb)]⟩ (AH.set_getS _ _ _) rfl rfl rfl
    exact this
  have hF := ham.1.floor
  have hB := bwS_ev g4 (by have := ham.1.tl; omega) m (by omega)
  have hP := prodS_ev g4 (by have := ham.1.tl; omega) ham.1.samples ham.1.floor m (by omega)
  have gF := g3.step (H' := X3.set q (.cells 141 false (ccC k (ackModelP S op) vs' vt' vb'))) (S' := ackModelP S op) ⟨by simp, fun b _ hb => by rw [AH.set_getN _ _ (by simpa using hb), AH.set_getN _ _ (by simpa using hb)]⟩ (AH.set_getS _ _ _) (ackModelP_rows S op).1 (ackModelP_rows S op).2.1 (ackModelP_rows S op).2.2
  have KF : KoS (ccB q bs bt bb) H (X3.set q (.cells 141 false (ccC k (ackModelP S op) vs' vt' vb'))) := by
    have hn3 := K3.next
    refine ⟨by simp only [AH.set_next] at hX1 hX2 hn3 ⊢; omega, fun b hb hnb => ?_⟩
    simp only [ccB, List.mem_cons, List.mem_append, not_or] at hnb
    have hbX1 : b < X1.next := by simp only [AH.set_next] at hX1; omega
    have hbX2 : b < X2.next := by simp only [AH.set_next] at hX2; omega
    rw [AH.set_getN _ _ hnb.1, f3 b hbX2 hnb.2.1, AH.set_getN _ _ hnb.1, f2 b hbX1 hnb.2.2.2, AH.set_getN _ _ hnb.1, f1 b (by omega) hnb.2.2.1, KA.get b hb]
  refine ⟨_, vs', vt', vb', bs', bt', bb', ?_, gF, KF, fun b hb => ?_⟩
  · obtain ⟨hok1, hb1, hb2, hp1, hp2⟩ := ham
    have hmx : 1 ≤ mxI 1 (op.t - op.s) := by unfold mxI; split <;> omega
    have w1 := wrap_i64 (n := allP op.s S.times S.bytes op.b * 1000000) (by omega) (by omega)
    have w2 := wrap_i64 (n := op.t - op.s) (by have := ho.s; omega) (by have := ho.s; omega)
    have hmz : ¬ (mxI 1 (op.t - op.s) = 0) := by omega
    have w3 := wrap_i64 (n := (allP op.s S.times S.bytes op.b * 1000000).tdiv (mxI 1 (op.t - op.s))) (by omega) (by omega)
    have hmx2 : (if 1 < op.t - op.s then op.t - op.s else 1) = mxI 1 (op.t - op.s) := rfl
    have hmi2 : (if 1000000000000 < (allP op.s S.times S.bytes op.b * 1000000).tdiv (mxI 1 (op.t - op.s)) then 1000000000000 else (allP op.s S.times S.bytes op.b * 1000000).tdiv (mxI 1 (op.t - op.s))) = miI ((allP op.s S.times S.bytes op.b * 1000000).tdiv (mxI 1 (op.t - op.s))) 1000000000000 := rfl
    -- behind the sample
    have tail : ∀ τ : Tm, τ 0 = .ptr q 0 → τ 3 = .ptr H.next 0 → ∃ τ', evAt Try.prog (ev Try.prog m) m 194 255 τ (X3.set q (.cells 141 false (ccC k (ack1P S op) vs' vt' vb'))) = some (.normal, τ', X3.set q (.cells 141 false (ccC k (ackModelP S op) vs' vt' vb'))) := by
      intro τ t0 t3
      rw [at_cut Try.func194 255 (by decide) 8 (by decide) (by kernel_rfl) [2046, 2047]]
      simp [Try.f194, t0, t3, hB, hP]
      generalize hτ : upd _ 7 _ = τ2
      obtain ⟨τ3, e1, e2, e3, e4⟩ := swS (τ := τ2) (op := op) (p := H.next) (AH.set_getS X3 q (.cells 141 false (ccC k (ack1P S op) vs' vt' vb'))) hok1 ho ((AH.set_getN _ _ hnq).trans p3) hnq ⟨hb1, hb2⟩ (ev Try.prog m) m (Q := prodP (bwP (ack1P S op).samples) (ack1P S op).floor) (by rw [← hτ]; simp [t0]) (by rw [← hτ]; simp [t3]) (by rw [← hτ]; simp) (by rw [← hτ]; simp)
      rw [set_set] at e1
      simp only [e1]
      obtain ⟨τ4, e5⟩ := finS (τ := τ3) (AH.set_getS X3 q (.cells 141 false (ccC k (ack2P (ack1P S op) op (bwP (ack1P S op).samples) (prodP (bwP (ack1P S op).samples) (ack1P S op).floor)) vs' vt' vb'))) ⟨hb1, hb2⟩ ⟨hp1, hp2⟩ (ev Try.prog m) m e2 e3 e4
      rw [set_set] at e5
      simp only [e5]
      exact ⟨τ4, rfl⟩
    have hqn1 : ¬ (q = H.next + 1) := by omega
    have x1 : ¬ (q = X1.next) := by have := g1.lt; simp only [AH.set_next] at this; omega
    have x2 : ¬ (q = X2.next) := by have := g2.lt; simp only [AH.set_next] at this; omega
    have x3 : ¬ (q = X3.next) := by have := g3.lt; simp only [AH.set_next] at this; omega
    simp only [AH.set_next] at hX1 hX2
    have y1 : ¬ (H.next = X1.next) := by omega
    have y2 : ¬ (H.next = X2.next) := by omega
    obtain ⟨FIN, hFIN⟩ : ∃ z, z = X3.set q (.cells 141 false (ccC k (ackModelP S op) vs' vt' vb')) := ⟨_, rfl⟩
    rw [← hFIN] at tail ⊢
    clear hFIN gF KF
    simp only [A0, AH.push_next, AH.set_next, ccC, opC] at a1 a2 a3 p1 p2 p3 q1 q2 q3
    simp only [ccC, ack1P] at tail
    have a127 : ∀ τ : Tm, τ 0 = .ptr q 0 → τ 3 = .ptr H.next 0 → ∃ τ', evAt Try.prog (ev Try.prog m) m 194 127 τ (X3.set q (.cells 141 false (ccC k S1 vs' vt' vb'))) = some (.normal, τ', FIN) := by
      intro τ t0 t3
      rw [at_cut Try.func194 127 (by decide) 7 (by decide) (by kernel_rfl) [255]]
      by_cases cf0 : S.floor = 0
      · simp only [cf0, true_or, if_true] at tail
        simp [Try.f194, ccC, S1, t0, t3, ldVar, stVar, spl, p3, hqn, hnq, cf0, evHist, ObsOk, ObOk]
        generalize hτ : upd _ _ _ = τ2
        obtain ⟨τ3, e1⟩ := tail τ2 (by rw [← hτ]; simp [t0]) (by rw [← hτ]; simp [t3])
        simp [e1]
      · by_cases cf1 : op.p < S.floor
        · simp only [cf1, or_true, if_true] at tail
          simp [Try.f194, ccC, S1, t0, t3, ldVar, stVar, spl, p3, hqn, hnq, cf0, cf1, evHist, ObsOk, ObOk]
          generalize hτ : upd _ _ _ = τ2
          obtain ⟨τ3, e1⟩ := tail τ2 (by rw [← hτ]; simp [t0]) (by rw [← hτ]; simp [t3])
          simp [e1]
        · simp only [cf0, cf1, or_self, if_false] at tail
          simp [Try.f194, ccC, S1, t0, t3, ldVar, stVar, spl, p3, hqn, hnq, cf0, cf1, evHist, ObsOk, ObOk]
          generalize hτ : upd _ _ _ = τ2
          obtain ⟨τ3, e1⟩ := tail τ2 (by rw [← hτ]; simp [t0]) (by rw [← hτ]; simp [t3])
          simp [e1]
    clear tail
    simp only [ccC, S1] at a127
    have a63 : ∀ τ : Tm, τ 0 = .ptr q 0 → τ 3 = .ptr H.next 0 → τ 4 = .int .i64 (allP op.s S.times S.bytes op.b) → ∃ τ', evAt Try.prog (ev Try.prog m) m 194 63 τ (X2.set q (.cells 141 false (ccC k { S with times := S.times ++ [op.t], bytes := S.bytes ++ [op.b] } vs vt' vb'))) = some (.normal, τ', FIN) := by
      intro τ t0 t3 t4
      rw [at_cut Try.func194 63 (by decide) 6 (by decide) (by kernel_rfl) [127]]
      simp [Try.f194, ccC, t0, t3, t4, ldVar, stVar, spl, zerosA, p2, p3, hqn, hnq, w1, w2, w3, hmx2, hmi2, hmz, a3, o3, cells_one o3, q3, hqn1, x1, x2, x3, y1, y2, List.getElem?_cons_zero, evHist, ObsOk, ObOk]
      generalize hτ : upd _ _ _ = τ2
      obtain ⟨τ3, e1⟩ := a127 τ2 (by rw [← hτ]; simp [t0]) (by rw [← hτ]; simp [t3])
      simp [e1]
    clear a127
    simp only [ccC] at a63
    have a31 : ∀ τ : Tm, τ 0 = .ptr q 0 → τ 3 = .ptr H.next 0 → τ 4 = .int .i64 (allP op.s S.times S.bytes op.b) → ∃ τ', evAt Try.prog (ev Try.prog m) m 194 31 τ (X1.set q (.cells 141 false (ccC k { S with times := S.times ++ [op.t] } vs vt' vb))) = some (.normal, τ', FIN) := by
      intro τ t0 t3 t4
      rw [at_cut Try.func194 31 (by decide) 5 (by decide) (by kernel_rfl) [63]]
      simp [Try.f194, ccC, t0, t3, t4, ldVar, stVar, spl, zerosA, p1, p2, hqn, hnq, a2, o2, cells_one o2, q2, hqn1, x1, x2, x3, y1, y2, List.getElem?_cons_zero, evHist, ObsOk, ObOk]
      generalize hτ : upd _ _ _ = τ2
      obtain ⟨τ3, e1⟩ := a63 τ2 (by rw [← hτ]; simp [t0]) (by rw [← hτ]; simp [t3]) (by rw [← hτ]; simp [t4])
      simp [e1]
    clear a63
    simp only [ccC] at a31
    rw [ev_cut Try.func194 ok194 [15] m _ H (by simp [Try.f194])]
    simp [Try.f194, opC, ldVar, spl]
    generalize hLo : evLoop _ _ _ _ _ _ = R
    obtain ⟨e, τ', H1, rfl, rfl, t0, t3, t4, rfl⟩ := loop_at hLo (allLoopS hA hok ho hp0 m (by omega) _ _ (by simp) (by simp) (by simp) (by simp))
    have hgA := h.get
    simp only [A0, ccC, opC] at hgA hp0
    simp
    rw [at_cut Try.func194 15 (by decide) 4 (by decide) (by kernel_rfl) [31]]
    simp [Try.f194, A0, opC, ccC, t0, t3, t4, ldVar, stVar, spl, zerosA, hgA, hp0, p1, a1, o1, cells_one o1, q1, hqn, hnq, hqn1, x1, x2, x3, y1, y2, List.getElem?_cons_zero, evHist, ObsOk, ObOk]
    generalize hτ : upd _ _ _ = τ2
    obtain ⟨τ3, e1⟩ := a31 τ2 (by rw [← hτ]; simp [t0]) (by rw [← hτ]; simp [t3]) (by rw [← hτ]; simp [t4])
    simp [e1, U]
  · have e1 := N3 b hb
    simp only [AH.set_next] at hX1 hX2 e1
    rcases e1 with e1 | e1
    · have e2 := N2 b e1
      simp only [AH.set_next] at e2
      rcases e2 with e2 | e2
      · have e3 := N1 b e2
        rcases e3 with e3 | e3
        · exact .inl e3
        · exact .inr (by omega)
      · exact .inr (by omega)
    · exact .inr (by omega)
end Go.Ev
