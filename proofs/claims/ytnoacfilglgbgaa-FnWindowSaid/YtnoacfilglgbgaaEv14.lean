/- Lemmas of an evaluator of the given code and of what the functions answer; no condition of its own. -/
import Derived.Test.YtnoacfilglgbgaaEv13
/- Congestion: an operation of the specification. -/
namespace Go.Ev
open Go Go.Proofs
set_option linter.unusedSimpArgs false
set_option linter.unusedVariables false

theorem CcS.kp {H H' : AH} {q : Nat} {k : Int} {S : Cc} {vs vt vb : AV} {bs bt bb : List Nat} (h : CcS H q k S vs vt vb bs bt bb) (K : Kp H H') : CcS H' q k S vs vt vb bs bt bb :=
  ⟨by rw [K.get q h.lt]; exact h.get, h.rs.kp K, h.rt.kp K, h.rb.kp K, h.nd, Nat.lt_of_lt_of_le h.lt K.next⟩
def obC (c w r s f : Int) (m : Bool) : List AV := [.int .i64 c, .int .i64 w, .int .i64 r, .int .i64 s, .int .i64 f, .bool m]
theorem badS {H : AH} {p : Nat} {op : CcOpP} (hp : H.get p = some (.cells 40 false (opC op))) (m : Nat) (hm : 1 ≤ m) (τ : Tm) (t3 : τ 3 = .ptr p 0) :
    ∃ τ', evAt Try.prog (ev Try.prog m) m 93 28 τ H = some (.normal, τ', H) ∧ τ' 51 = .bool (decide (badP op)) ∧ τ' 0 = τ 0 ∧ τ' 3 = τ 3 ∧ τ' 4 = τ 4 ∧ τ' 5 = τ 5 := by
  simp only [opC] at hp
  rw [at_cut Try.func93 28 (by decide) 5 (by decide) (by kernel_rfl) []]
  by_cases c1 : op.k < 1
  · have hb : badP op := by unfold badP; omega
    simp [Try.f93, U, t3, ldVar, hp, timeS_ev _ H m hm, hb, c1, evHist, ObsOk, ObOk]
  by_cases c2 : op.k > 4
  · have hb : badP op := by unfold badP; omega
    simp [Try.f93, U, t3, ldVar, hp, timeS_ev _ H m hm, hb, c1, c2, evHist, ObsOk, ObOk]
  by_cases c3 : 0 ≤ op.t ∧ op.t ≤ 1000000000000
  case neg =>
    have hb : badP op := by unfold badP; omega
    simp [Try.f93, U, t3, ldVar, hp, timeS_ev _ H m hm, hb, c1, c2, c3, evHist, ObsOk, ObOk]
  by_cases c4 : 0 ≤ op.s ∧ op.s ≤ 1000000000000
  case neg =>
    have hb : badP op := by unfold badP; omega
    simp [Try.f93, U, t3, ldVar, hp, timeS_ev _ H m hm, hb, c1, c2, c3, c4, evHist, ObsOk, ObOk]
  by_cases k2 : op.k = 2
  case pos =>
    by_cases c5 : op.p < 1
    · have hb : badP op := by unfold badP; omega
      simp [Try.f93, U, t3, ldVar, hp, timeS_ev _ H m hm, hb, c1, c2, c3, c4, k2, c5, evHist, ObsOk, ObOk]
    by_cases c6 : op.p > 1000000000000
    · have hb : badP op := by unfold badP; omega
      simp [Try.f93, U, t3, ldVar, hp, timeS_ev _ H m hm, hb, c1, c2, c3, c4, k2, c5, c6, evHist, ObsOk, ObOk]
    by_cases c7 : op.b < 0
    · have hb : badP op := by unfold badP; omega
      simp [Try.f93, U, t3, ldVar, hp, timeS_ev _ H m hm, hb, c1, c2, c3, c4, k2, c5, c6, c7, evHist, ObsOk, ObOk]
    by_cases c8 : op.b > 2000
    · have hb : badP op := by unfold badP; omega
      simp [Try.f93, U, t3, ldVar, hp, timeS_ev _ H m hm, hb, c1, c2, c3, c4, k2, c5, c6, c7, c8, evHist, ObsOk, ObOk]
    have hb : ¬ badP op := by unfold badP; omega
    simp [Try.f93, U, t3, ldVar, hp, timeS_ev _ H m hm, hb, c1, c2, c3, c4, k2, c5, c6, c7, c8, evHist, ObsOk, ObOk]
  case neg =>
    by_cases c7 : op.b < 0
    · have hb : badP op := by unfold badP; omega
      simp [Try.f93, U, t3, ldVar, hp, timeS_ev _ H m hm, hb, c1, c2, c3, c4, k2, c7, evHist, ObsOk, ObOk]
    by_cases c8 : op.b > 2000
    · have hb : badP op := by unfold badP; omega
      simp [Try.f93, U, t3, ldVar, hp, timeS_ev _ H m hm, hb, c1, c2, c3, c4, k2, c7, c8, evHist, ObsOk, ObOk]
    have hb : ¬ badP op := by unfold badP; omega
    simp [Try.f93, U, t3, ldVar, hp, timeS_ev _ H m hm, hb, c1, c2, c3, c4, k2, c7, c8, evHist, ObsOk, ObOk]
def DoS (H : AH) (q : Nat) (k : Int) (bs bt bb : List Nat) (op : CcOpP) (m : Nat) (R : Cc × Bool × Int) : Prop :=
  ∃ H' vs' vt' vb' bs' bt' bb', ev Try.prog m 93 [.ptr q 0, .agg (opC op)] H = some (.agg (obC R.2.2 0 0 0 0 R.2.1), H') ∧ CcS H' q k R.1 vs' vt' vb' bs' bt' bb' ∧ KoS (ccB q bs bt bb) H H' ∧ (∀ b ∈ ccB q bs' bt' bb', b ∈ ccB q bs bt bb ∨ H.next ≤ b)
/-- behind the first checks: what is left, by cases -/
theorem CcS.flight {H H' : AH} {q : Nat} {k f : Int} {S : Cc} {vs vt vb : AV} {bs bt bb : List Nat} (h : CcS H q k S vs vt vb bs bt bb) (e : H' = H.set q (.cells 141 false (ccC k { S with flight := f } vs vt vb))) : CcS H' q k { S with flight := f } vs vt vb bs bt bb ∧ KoS [q] H H' := by
  subst e
  have hK : KoS [q] H (H.set q (.cells 141 false (ccC k { S with flight := f } vs vt vb))) := ⟨by simp, fun b _ hb => AH.set_getN _ _ (by simpa using hb)⟩
  exact ⟨h.step hK (AH.set_getS _ _ _) rfl rfl rfl, hK⟩
theorem doS_ev {H : AH} {q : Nat} {k : Int} {S : Cc} {vs vt vb : AV} {bs bt bb : List Nat} {n : Nat} (h : CcS H q k S vs vt vb bs bt bb) (hkd : k = 1 ∨ k = 2) (hok : S.ok k n) (hn : n + 1 ≤ 600) (op : CcOpP) (m : Nat) (hm : 740 ≤ m) :
    DoS H q k bs bt bb op m (ccDo k S op) := by
  obtain ⟨m, rfl⟩ : ∃ k, m = k + 1 := ⟨m - 1, by omega⟩
  have hq := h.lt
  have hqn0 : ¬ (q = H.next) := by omega
  have hqn1 : ¬ (q = H.next + 1) := by omega
  have hqn2 : ¬ (q = H.next + 1 + 1) := by omega
  have mq0 : ¬ (H.next = q) := by omega
  have mq1 : ¬ (H.next + 1 = q) := by omega
  have mq2 : ¬ (H.next + 1 + 1 = q) := by omega
  have n1 : ¬ (H.next + 1 = H.next) := by omega
  have n2 : ¬ (H.next + 1 + 1 = H.next) := by omega
  have n3 : ¬ (H.next = H.next + 1) := by omega
  have n4 : ¬ (H.next = H.next + 1 + 1) := by omega
  have n5 : ¬ (H.next + 1 = H.next + 1 + 1) := by omega
  have n6 : ¬ (H.next + 1 + 1 = H.next + 1) := by omega
  let A : AH := ((H.push (.cells 40 false (opC op))).push (.cells 38 false (obC 0 0 0 0 0 false))).push (.cells 38 false (obC 0 0 0 0 0 false))
  have KA : Kp H A := (((Kp.refl H).push _).push _).push _
  have hA := h.kp KA
  have gA0 : A.get H.next = some (.cells 40 false (opC op)) := by simp [A]; omega
  have gA1 : A.get (H.next + 1) = some (.cells 38 false (obC 0 0 0 0 0 false)) := by simp [A]
  have gA2 : A.get (H.next + 1 + 1) = some (.cells 38 false (obC 0 0 0 0 0 false)) := by simp [A]
  have nA : A.next = H.next + 3 := rfl
  have hmem : ∀ b ∈ ccB q bs bt bb, b < H.next := by
    have m1 := h.rs.mem; have m2 := h.rt.mem; have m3 := h.rb.mem
    intro b hb; simp only [ccB, List.mem_cons, List.mem_append] at hb; grind
  -- from the state behind the operation to the answer
  have close : ∀ (c : Int) (mm : Bool) (H2 : AH) (S2 : Cc) (vs' vt' vb' : AV) (bs' bt' bb' : List Nat), CcS H2 q k S2 vs' vt' vb' bs' bt' bb' → KoS (ccB q bs bt bb) A H2 → (∀ b ∈ ccB q bs' bt' bb', b ∈ ccB q bs bt bb ∨ A.next ≤ b) → ccDo k S op = (S2, mm, c) →
      (ev Try.prog (m + 1) 93 [.ptr q 0, .agg (opC op)] H = some (.agg (obC c 0 0 0 0 mm), (H2.set (H.next + 1 + 1) (.cells 38 false (obC c 0 0 0 0 mm))).set (H.next + 1) (.cells 38 false (obC c 0 0 0 0 mm)))) → DoS H q k bs bt bb op (m + 1) (ccDo k S op) := by
    intro c mm H2 S2 vs' vt' vb' bs' bt' bb' hS hK hb hdo e1
    obtain ⟨H3, hH3⟩ : ∃ z, z = (H2.set (H.next + 1 + 1) (.cells 38 false (obC c 0 0 0 0 mm))).set (H.next + 1) (.cells 38 false (obC c 0 0 0 0 mm)) := ⟨_, rfl⟩
    rw [← hH3] at e1
    have e2 : H2.next = H3.next := by rw [hH3]; rfl
    have e3 : ∀ b, b ≠ H.next + 1 → b ≠ H.next + 1 + 1 → H3.get b = H2.get b := fun b h1 h2 => by rw [hH3, AH.set_getN _ _ h1, AH.set_getN _ _ h2]
    rw [hdo]
    have hin : ∀ b ∈ ccB q bs' bt' bb', b ≠ H.next + 1 ∧ b ≠ H.next + 1 + 1 := fun b hbb => by
      rcases hb b hbb with h1 | h1
      · have := hmem b h1; omega
      · omega
    have hs : ∀ b ∈ ccB q bs' bt' bb', H3.get b = H2.get b := fun b hbb => e3 b (hin b hbb).1 (hin b hbb).2
    have hn2 := hK.next
    refine ⟨H3, vs', vt', vb', bs', bt', bb', e1, ⟨(hs q (by simp [ccB])).trans hS.get, hS.rs.stay (by omega) fun b hb => hs b (by simp [ccB, hb]), hS.rt.stay (by omega) fun b hb => hs b (by simp [ccB, hb]), hS.rb.stay (by omega) fun b hb => hs b (by simp [ccB, hb]), hS.nd, by have := hS.lt; omega⟩, ⟨by omega, fun b hb hnb => ?_⟩, fun b hbb => ?_⟩
    · rw [e3 b (by omega) (by omega), hK.get b (by omega) hnb, KA.get b hb]
    · rcases hb b hbb with h1 | h1
      · exact .inl h1
      · exact .inr (by omega)
  have hgq := hA.get
  simp only [ccC] at hgq
  have hgH := h.get
  simp only [ccC] at hgH
  have gA0' := gA0
  simp only [opC] at gA0'
  by_cases hb : badP op
  · refine close 1 false A S vs vt vb bs bt bb hA (KoS.refl _ _) (fun b hb => .inl hb) (by unfold ccDo; rw [if_pos hb]) ?_
    rw [ev_cut Try.func93 ok93 [28, 29, 15] m _ H (by simp [Try.f93])]
    simp [Try.f93, obC, opC, stVar, spl, ldVar, push_set2, push_set3]
    generalize hτ : upd _ 5 _ = τ0
    obtain ⟨τ1, b1, b2, b3, b4, b5, b6⟩ := badS gA0 m (by omega) τ0 (by rw [← hτ]; simp)
    have t0 : τ0 0 = .ptr q 0 := by rw [← hτ]; simp
    have t3 : τ0 3 = .ptr H.next 0 := by rw [← hτ]; simp
    have t4 : τ0 4 = .ptr (H.next + 1) 0 := by rw [← hτ]; simp
    have t5 : τ0 5 = .ptr (H.next + 1 + 1) 0 := by rw [← hτ]; simp
    rw [t0] at b3; rw [t3] at b4; rw [t4] at b5; rw [t5] at b6
    simp only [A, obC, opC] at b1
    simp only [b1]
    rw [at_cut Try.func93 29 (by decide) 5 (by decide) (by kernel_rfl) []]
    simp [Try.f93, A, opC, b2, hb, b4, b5, b6, ldVar, stVar, spl, push_set2, push_set3, hqn0, hqn1, hqn2, mq0, mq1, mq2, n1, n2, n3, n4, n5, n6, obC]
  · have ho := opGood.of hb
    have hk4 := ho.k
    have hbb := ho.b
    have hfl := hok.flight
    have hle := hok.le
    have w1 := wrap_i64 (n := S.flight + op.b) (by omega) (by omega)
    have w2 := wrap_i64 (n := S.flight - op.b) (by omega) (by omega)
    -- the store into flight
    have hF : ∀ f : Int, CcS (A.set q (.cells 141 false (ccC k { S with flight := f } vs vt vb))) q k { S with flight := f } vs vt vb bs bt bb ∧ KoS [q] A (A.set q (.cells 141 false (ccC k { S with flight := f } vs vt vb))) := fun f => CcS.flight hA rfl
    have kq : ∀ {X Y : AH}, KoS [q] X Y → KoS (ccB q bs bt bb) X Y := fun h => h.mono fun b hb => .inl (by rw [List.mem_singleton] at hb; simp [ccB, hb])
    by_cases hs : (op.k = 2 ∨ op.k = 3) ∧ S.flight < op.b
    · refine close 7 false A S vs vt vb bs bt bb hA (KoS.refl _ _) (fun b hb => .inl hb) (by unfold ccDo; rw [if_neg hb, if_pos hs]) ?_
      rw [ev_cut Try.func93 ok93 [28, 29, 15] m _ H (by simp [Try.f93])]
      simp [Try.f93, obC, opC, stVar, spl, ldVar, push_set2, push_set3]
      generalize hτ : upd _ 5 _ = τ0
      obtain ⟨τ1, b1, b2, b3, b4, b5, b6⟩ := badS gA0 m (by omega) τ0 (by rw [← hτ]; simp)
      have t0 : τ0 0 = .ptr q 0 := by rw [← hτ]; simp
      have t3 : τ0 3 = .ptr H.next 0 := by rw [← hτ]; simp
      have t4 : τ0 4 = .ptr (H.next + 1) 0 := by rw [← hτ]; simp
      have t5 : τ0 5 = .ptr (H.next + 1 + 1) 0 := by rw [← hτ]; simp
      rw [t0] at b3; rw [t3] at b4; rw [t4] at b5; rw [t5] at b6
      simp only [A, obC, opC] at b1
      simp only [b1]
      rw [at_cut Try.func93 29 (by decide) 5 (by decide) (by kernel_rfl) []]
      simp [Try.f93, b2, hb]
      rw [at_cut Try.func93 15 (by decide) 4 (by decide) (by kernel_rfl) [31]]
      obtain ⟨hs1, hs2⟩ := hs
      rcases hs1 with k2 | k2
      · simp [Try.f93, A, opC, b3, b4, b5, b6, k2, hs2, ldVar, stVar, spl, push_set2, push_set3, hqn0, hqn1, hqn2, mq0, mq1, mq2, n1, n2, n3, n4, n5, n6, hgH, obC, ccC, evHist, ObsOk, ObOk, U]
      · simp [Try.f93, A, opC, b3, b4, b5, b6, k2, hs2, ldVar, stVar, spl, push_set2, push_set3, hqn0, hqn1, hqn2, mq0, mq1, mq2, n1, n2, n3, n4, n5, n6, hgH, obC, ccC, evHist, ObsOk, ObOk, U]
    · have hs' : ¬ ((op.k = 2 ∨ op.k = 3) ∧ S.flight < op.b) := hs
      by_cases k1 : op.k = 1
      · have go : (A.set q (.cells 141 false (ccC k { S with flight := S.flight + op.b } vs vt vb))).get (H.next + 1 + 1) = some (.cells 38 false (obC 0 0 0 0 0 false)) := (AH.set_getN _ _ mq2).trans gA2
        refine close 0 false (A.set q (.cells 141 false (ccC k { S with flight := S.flight + op.b } vs vt vb))) _ vs vt vb bs bt bb (hF _).1 (kq (hF _).2) (fun b hb => .inl hb) (by unfold ccDo; rw [if_neg hb, if_neg hs, if_pos k1]) ?_
        rw [AH.set_same _ _ _ go]
        rw [ev_cut Try.func93 ok93 [28, 29, 15] m _ H (by simp [Try.f93])]
        simp [Try.f93, obC, opC, stVar, spl, ldVar, push_set2, push_set3]
        generalize hτ : upd _ 5 _ = τ0
        obtain ⟨τ1, b1, b2, b3, b4, b5, b6⟩ := badS gA0 m (by omega) τ0 (by rw [← hτ]; simp)
        have t0 : τ0 0 = .ptr q 0 := by rw [← hτ]; simp
        have t3 : τ0 3 = .ptr H.next 0 := by rw [← hτ]; simp
        have t4 : τ0 4 = .ptr (H.next + 1) 0 := by rw [← hτ]; simp
        have t5 : τ0 5 = .ptr (H.next + 1 + 1) 0 := by rw [← hτ]; simp
        rw [t0] at b3; rw [t3] at b4; rw [t4] at b5; rw [t5] at b6
        simp only [A, obC, opC] at b1
        simp only [b1]
        rw [at_cut Try.func93 29 (by decide) 5 (by decide) (by kernel_rfl) []]
        simp [Try.f93, b2, hb]
        rw [at_cut Try.func93 15 (by decide) 4 (by decide) (by kernel_rfl) [31]]
        simp [Try.f93, A, opC, b3, b4, b5, b6, k1, ldVar, stVar, spl, push_set2, push_set3, hqn0, hqn1, hqn2, mq0, mq1, mq2, n1, n2, n3, n4, n5, n6, hgH, obC, ccC, evHist, ObsOk, ObOk, U]
        generalize hτ2 : upd _ _ _ = τ2
        have u0 : τ2 0 = .ptr q 0 := by rw [← hτ2]; simp [b3]
        have u3 : τ2 3 = .ptr H.next 0 := by rw [← hτ2]; simp [b4]
        have u4 : τ2 4 = .ptr (H.next + 1) 0 := by rw [← hτ2]; simp [b5]
        have u5 : τ2 5 = .ptr (H.next + 1 + 1) 0 := by rw [← hτ2]; simp [b6]
        rw [at_cut Try.func93 31 (by decide) 5 (by decide) (by kernel_rfl) []]
        simp [Try.f93, u0, u3, u4, u5, k1, ldVar, stVar, spl, push_set2, push_set3, hqn0, hqn1, hqn2, mq0, mq1, mq2, n1, n2, n3, n4, n5, n6, hgH, obC, ccC, w1, w2, k1, evHist, ObsOk, ObOk, List.getElem?_cons_zero, U]
      · by_cases k4 : op.k = 4
        · have k2 : ¬ (op.k = 2) := by omega
          have k3 : ¬ (op.k = 3) := by omega
          have w1' := wrap_i64 (n := S.flight + op.b) (by omega) (by omega)
          refine close 0 (decide (S.flight + op.b ≤ S.window)) A S vs vt vb bs bt bb hA (KoS.refl _ _) (fun b hb => .inl hb) (by unfold ccDo; rw [if_neg hb, if_neg hs, if_neg k1, if_neg k2, if_neg k3]) ?_
          rw [ev_cut Try.func93 ok93 [28, 29, 15] m _ H (by simp [Try.f93])]
          simp [Try.f93, obC, opC, stVar, spl, ldVar, push_set2, push_set3]
          generalize hτ : upd _ 5 _ = τ0
          obtain ⟨τ1, b1, b2, b3, b4, b5, b6⟩ := badS gA0 m (by omega) τ0 (by rw [← hτ]; simp)
          have t0 : τ0 0 = .ptr q 0 := by rw [← hτ]; simp
          have t3 : τ0 3 = .ptr H.next 0 := by rw [← hτ]; simp
          have t4 : τ0 4 = .ptr (H.next + 1) 0 := by rw [← hτ]; simp
          have t5 : τ0 5 = .ptr (H.next + 1 + 1) 0 := by rw [← hτ]; simp
          rw [t0] at b3; rw [t3] at b4; rw [t4] at b5; rw [t5] at b6
          simp only [A, obC, opC] at b1
          simp only [b1]
          rw [at_cut Try.func93 29 (by decide) 5 (by decide) (by kernel_rfl) []]
          simp [Try.f93, b2, hb]
          rw [at_cut Try.func93 15 (by decide) 4 (by decide) (by kernel_rfl) [31]]
          simp [Try.f93, A, opC, b3, b4, b5, b6, k4, ldVar, stVar, spl, push_set2, push_set3, hqn0, hqn1, hqn2, mq0, mq1, mq2, n1, n2, n3, n4, n5, n6, hgH, obC, ccC, evHist, ObsOk, ObOk, U]
          generalize hτ2 : upd _ _ _ = τ2
          have u0 : τ2 0 = .ptr q 0 := by rw [← hτ2]; simp [b3]
          have u3 : τ2 3 = .ptr H.next 0 := by rw [← hτ2]; simp [b4]
          have u4 : τ2 4 = .ptr (H.next + 1) 0 := by rw [← hτ2]; simp [b5]
          have u5 : τ2 5 = .ptr (H.next + 1 + 1) 0 := by rw [← hτ2]; simp [b6]
          rw [at_cut Try.func93 31 (by decide) 5 (by decide) (by kernel_rfl) []]
          simp [Try.f93, u0, u3, u4, u5, k4, ldVar, stVar, spl, push_set2, push_set3, hqn0, hqn1, hqn2, mq0, mq1, mq2, n1, n2, n3, n4, n5, n6, hgH, obC, ccC, w1, w2, k4, evHist, ObsOk, ObOk, List.getElem?_cons_zero, U]
        · have hfl2 : ¬ (S.flight < op.b) := by omega
          have go : (A.set q (.cells 141 false (ccC k { S with flight := S.flight - op.b } vs vt vb))).get (H.next + 1 + 1) = some (.cells 38 false (obC 0 0 0 0 0 false)) := (AH.set_getN _ _ mq2).trans gA2
          have gr : (A.set q (.cells 141 false (ccC k { S with flight := S.flight - op.b } vs vt vb))).get (H.next + 1) = some (.cells 38 false (obC 0 0 0 0 0 false)) := (AH.set_getN _ _ mq1).trans gA1
          have hokF := flight_ok (f := S.flight - op.b) hok (by omega) (by omega)
          by_cases k2 : op.k = 2
          · by_cases kk : k = 1
            · subst kk
              obtain ⟨H2, e1, e2, e3⟩ := ackLossS_ev (hF (S.flight - op.b)).1 hokF ho m (by omega)
              have go2 := (e3.get (H.next + 1 + 1) (by simp [A]) (by simpa using mq2)).trans go
              have gr2 := (e3.get (H.next + 1) (by simp [A]) (by simpa using mq1)).trans gr
              refine close 0 false H2 _ vs vt vb bs bt bb e2 (kq ((hF (S.flight - op.b)).2.trans e3 (fun b hb => .inl hb))) (fun b hb => .inl hb) (by unfold ccDo; rw [if_neg hb, if_neg hs, if_neg k1, if_pos k2, if_pos rfl]) ?_
              rw [AH.set_same _ _ _ go2]
              simp only [A, opC, ccC, obC, k2] at e1 go2 gr2
              rw [ev_cut Try.func93 ok93 [28, 29, 15] m _ H (by simp [Try.f93])]
              simp [Try.f93, obC, opC, stVar, spl, ldVar, push_set2, push_set3]
              generalize hτ : upd _ 5 _ = τ0
              obtain ⟨τ1, b1, b2, b3, b4, b5, b6⟩ := badS gA0 m (by omega) τ0 (by rw [← hτ]; simp)
              have t0 : τ0 0 = .ptr q 0 := by rw [← hτ]; simp
              have t3 : τ0 3 = .ptr H.next 0 := by rw [← hτ]; simp
              have t4 : τ0 4 = .ptr (H.next + 1) 0 := by rw [← hτ]; simp
              have t5 : τ0 5 = .ptr (H.next + 1 + 1) 0 := by rw [← hτ]; simp
              rw [t0] at b3; rw [t3] at b4; rw [t4] at b5; rw [t5] at b6
              simp only [A, obC, opC] at b1
              simp only [b1]
              rw [at_cut Try.func93 29 (by decide) 5 (by decide) (by kernel_rfl) []]
              simp [Try.f93, b2, hb]
              rw [at_cut Try.func93 15 (by decide) 4 (by decide) (by kernel_rfl) [31]]
              simp [Try.f93, A, opC, b3, b4, b5, b6, k2, hfl2, ldVar, stVar, spl, push_set2, push_set3, hqn0, hqn1, hqn2, mq0, mq1, mq2, n1, n2, n3, n4, n5, n6, hgH, obC, ccC, evHist, ObsOk, ObOk, U]
              generalize hτ2 : upd _ _ _ = τ2
              have u0 : τ2 0 = .ptr q 0 := by rw [← hτ2]; simp [b3]
              have u3 : τ2 3 = .ptr H.next 0 := by rw [← hτ2]; simp [b4]
              have u4 : τ2 4 = .ptr (H.next + 1) 0 := by rw [← hτ2]; simp [b5]
              have u5 : τ2 5 = .ptr (H.next + 1 + 1) 0 := by rw [← hτ2]; simp [b6]
              rw [at_cut Try.func93 31 (by decide) 5 (by decide) (by kernel_rfl) []]
              simp [Try.f93, u0, u3, u4, u5, k2, hfl2, ldVar, stVar, spl, push_set2, push_set3, hqn0, hqn1, hqn2, mq0, mq1, mq2, n1, n2, n3, n4, n5, n6, hgH, obC, ccC, w1, w2, e1, go2, gr2, evHist, ObsOk, ObOk, List.getElem?_cons_zero, U]
            · obtain ⟨H2, vs', vt', vb', bs', bt', bb', e1, e2, e3, e4⟩ := ackModelS_ev (hF (S.flight - op.b)).1 kk hokF hn ho k2 m (by omega)
              have nin2 : H.next + 1 + 1 ∉ ccB q bs bt bb := fun e => by have := hmem _ e; omega
              have nin1 : H.next + 1 ∉ ccB q bs bt bb := fun e => by have := hmem _ e; omega
              have go2 := (e3.get (H.next + 1 + 1) (by simp [A]) nin2).trans go
              have gr2 := (e3.get (H.next + 1) (by simp [A]) nin1).trans gr
              refine close 0 false H2 _ vs' vt' vb' bs' bt' bb' e2 ((kq (hF (S.flight - op.b)).2).trans e3 (fun b hb => .inl hb)) (fun b hb => by rcases e4 b hb with h | h; exact .inl h; exact .inr h) (by unfold ccDo; rw [if_neg hb, if_neg hs, if_neg k1, if_pos k2, if_neg kk]) ?_
              rw [AH.set_same _ _ _ go2]
              simp only [A, opC, ccC, obC, k2] at e1 go2 gr2
              rw [ev_cut Try.func93 ok93 [28, 29, 15] m _ H (by simp [Try.f93])]
              simp [Try.f93, obC, opC, stVar, spl, ldVar, push_set2, push_set3]
              generalize hτ : upd _ 5 _ = τ0
              obtain ⟨τ1, b1, b2, b3, b4, b5, b6⟩ := badS gA0 m (by omega) τ0 (by rw [← hτ]; simp)
              have t0 : τ0 0 = .ptr q 0 := by rw [← hτ]; simp
              have t3 : τ0 3 = .ptr H.next 0 := by rw [← hτ]; simp
              have t4 : τ0 4 = .ptr (H.next + 1) 0 := by rw [← hτ]; simp
              have t5 : τ0 5 = .ptr (H.next + 1 + 1) 0 := by rw [← hτ]; simp
              rw [t0] at b3; rw [t3] at b4; rw [t4] at b5; rw [t5] at b6
              simp only [A, obC, opC] at b1
              simp only [b1]
              rw [at_cut Try.func93 29 (by decide) 5 (by decide) (by kernel_rfl) []]
              simp [Try.f93, b2, hb]
              rw [at_cut Try.func93 15 (by decide) 4 (by decide) (by kernel_rfl) [31]]
              simp [Try.f93, A, opC, b3, b4, b5, b6, k2, hfl2, ldVar, stVar, spl, push_set2, push_set3, hqn0, hqn1, hqn2, mq0, mq1, mq2, n1, n2, n3, n4, n5, n6, hgH, obC, ccC, evHist, ObsOk, ObOk, U]
              generalize hτ2 : upd _ _ _ = τ2
              have u0 : τ2 0 = .ptr q 0 := by rw [← hτ2]; simp [b3]
              have u3 : τ2 3 = .ptr H.next 0 := by rw [← hτ2]; simp [b4]
              have u4 : τ2 4 = .ptr (H.next + 1) 0 := by rw [← hτ2]; simp [b5]
              have u5 : τ2 5 = .ptr (H.next + 1 + 1) 0 := by rw [← hτ2]; simp [b6]
              rw [at_cut Try.func93 31 (by decide) 5 (by decide) (by kernel_rfl) []]
              simp [Try.f93, u0, u3, u4, u5, k2, hfl2, ldVar, stVar, spl, push_set2, push_set3, hqn0, hqn1, hqn2, mq0, mq1, mq2, n1, n2, n3, n4, n5, n6, hgH, obC, ccC, w1, w2, kk, e1, go2, gr2, evHist, ObsOk, ObOk, List.getElem?_cons_zero, U]
          · have k3 : op.k = 3 := by omega
            obtain ⟨H2, e1, e2, e3⟩ := lostS_ev (op := op) (hF (S.flight - op.b)).1 hokF m (by omega)
            have go2 := (e3.get (H.next + 1 + 1) (by simp [A]) (by simpa using mq2)).trans go
            have gr2 := (e3.get (H.next + 1) (by simp [A]) (by simpa using mq1)).trans gr
            refine close 0 false H2 _ vs vt vb bs bt bb e2 (kq ((hF (S.flight - op.b)).2.trans e3 (fun b hb => .inl hb))) (fun b hb => .inl hb) (by unfold ccDo; rw [if_neg hb, if_neg hs, if_neg k1, if_neg k2, if_pos k3]) ?_
            rw [AH.set_same _ _ _ go2]
            simp only [A, opC, ccC, obC, k3] at e1 go2 gr2
            rw [ev_cut Try.func93 ok93 [28, 29, 15] m _ H (by simp [Try.f93])]
            simp [Try.f93, obC, opC, stVar, spl, ldVar, push_set2, push_set3]
            generalize hτ : upd _ 5 _ = τ0
            obtain ⟨τ1, b1, b2, b3, b4, b5, b6⟩ := badS gA0 m (by omega) τ0 (by rw [← hτ]; simp)
            have t0 : τ0 0 = .ptr q 0 := by rw [← hτ]; simp
            have t3 : τ0 3 = .ptr H.next 0 := by rw [← hτ]; simp
            have t4 : τ0 4 = .ptr (H.next + 1) 0 := by rw [← hτ]; simp
            have t5 : τ0 5 = .ptr (H.next + 1 + 1) 0 := by rw [← hτ]; simp
            rw [t0] at b3; rw [t3] at b4; rw [t4] at b5; rw [t5] at b6
            simp only [A, obC, opC] at b1
            simp only [b1]
            rw [at_cut Try.func93 29 (by decide) 5 (by decide) (by kernel_rfl) []]
            simp [Try.f93, b2, hb]
            rw [at_cut Try.func93 15 (by decide) 4 (by decide) (by kernel_rfl) [31]]
            simp [Try.f93, A, opC, b3, b4, b5, b6, k3, hfl2, ldVar, stVar, spl, push_set2, push_set3, hqn0, hqn1, hqn2, mq0, mq1, mq2, n1, n2, n3, n4, n5, n6, hgH, obC, ccC, evHist, ObsOk, ObOk, U]
            generalize hτ2 : upd _ _ _ = τ2
            have u0 : τ2 0 = .ptr q 0 := by rw [← hτ2]; simp [b3]
            have u3 : τ2 3 = .ptr H.next 0 := by rw [← hτ2]; simp [b4]
            have u4 : τ2 4 = .ptr (H.next + 1) 0 := by rw [← hτ2]; simp [b5]
            have u5 : τ2 5 = .ptr (H.next + 1 + 1) 0 := by rw [← hτ2]; simp [b6]
            rw [at_cut Try.func93 31 (by decide) 5 (by decide) (by kernel_rfl) []]
            simp [Try.f93, u0, u3, u4, u5, k3, hfl2, ldVar, stVar, spl, push_set2, push_set3, hqn0, hqn1, hqn2, mq0, mq1, mq2, n1, n2, n3, n4, n5, n6, hgH, obC, ccC, w1, w2, e1, go2, gr2, evHist, ObsOk, ObOk, List.getElem?_cons_zero, U]
end Go.Ev
