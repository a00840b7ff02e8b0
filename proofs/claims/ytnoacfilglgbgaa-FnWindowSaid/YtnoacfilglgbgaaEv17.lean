/- Lemmas of an evaluator of the given code and of what the functions answer; no condition of its own. -/
import Derived.Test.YtnoacfilglgbgaaEv16
/- Congestion: the program's model rule, its acknowledgement. -/
namespace Go.Ev
open Go Go.Proofs
set_option linter.unusedSimpArgs false
set_option linter.unusedVariables false

theorem o359 {rw : Bool} {H : AH} {c : List AV} {x y : Int} {bs : List Nat} (h : tA.R rw H c (x, y) bs) : c = [.int .i64 x, .int .i64 y] ∧ ([] : List Nat) = bs ∧ InK .i64 x ∧ InK .i64 y := by
  obtain ⟨c1, d1, e1, f1, rfl, rfl, ⟨rfl, rx, sx, rfl⟩, ⟨rfl, ry, sy, rfl⟩⟩ := h
  exact ⟨by simp, by simp, ⟨rx, sx⟩, ⟨ry, sy⟩⟩
theorem i359 {rw : Bool} {H : AH} {x y : Int} (ix : InK .i64 x) (iy : InK .i64 y) : tA.R rw H [.int .i64 x, .int .i64 y] (x, y) ([] : List Nat) := by
  have h : tA.R rw H ([.int .i64 x] ++ [.int .i64 y]) (x, y) ([] ++ []) := Ty.R.pair (Ty.R.int ix) (Ty.R.int iy)
  simpa using h
/-- the switch -/
theorem swI {H : AH} {q p : Nat} {k f : Int} {S : Cc} {va vs : AV} {n : Nat} (hg : H.get q = some (.cells 256 false (mdC S va vs))) (hk : k ≠ 1) (hok : S.ok k n) (hf : f = S.flight) {op : CcOpP} (ho : opGood op) (hp : H.get p = some (.cells 40 false (opC op))) (hpq : p ≠ q) {B Q : Int} (hB : 0 ≤ B ∧ B ≤ 1000000000000) (call : CallF) (m : Nat) (τ : Tm) (t0 : τ 0 = .ptr q 0) (t2 : τ 2 = .int .i64 f) (t4 : τ 4 = .ptr p 0) (t9 : τ 9 = .int .i64 B) (t10 : τ 10 = .int .i64 Q) :
    ∃ τ', evAt Try.prog call m 323 1022 τ H = some (.normal, τ', H.set q (.cells 256 false (mdC (ack2P S op B Q) va vs))) ∧ τ' 0 = .ptr q 0 ∧ τ' 9 = .int .i64 B ∧ τ' 10 = .int .i64 Q := by
  subst hf
  have hcnt := hok.count
  have hbest := hok.best
  have hphase := hok.phase
  have hturn := hok.turn
  have hle := hok.le
  have hst := hok.state
  have hs1 := hok.stm hk
  have hin := ho.t
  have hqp : q ≠ p := Ne.symm hpq
  have w4 := wrap_i64 (n := 4 * B) (by omega) (by omega)
  have w5 := wrap_i64 (n := 5 * S.best) (by omega) (by omega)
  have w6 := wrap_i64 (n := S.count + 1) (by omega) (by omega)
  have w7 := wrap_i64 (n := op.t - S.turn) (by omega) (by omega)
  have w8 := wrap_i64 (n := S.phase + 1) (by omega) (by omega)
  have hpm : (S.phase + 1).tmod 8 = (S.phase + 1) % 8 := Int.tmod_eq_emod_of_nonneg (by omega)
  have w9 := wrap_i64 (n := (S.phase + 1).tmod 8) (by omega) (by omega)
  have w33 : IntKind.i64.wrap 3 = 3 := by decide
  have hself := AH.set_same _ _ _ hg
  simp only [mdC] at hg hself
  simp only [opC] at hp
  rw [at_cut Try.func323 1022 (by decide) 10 (by decide) (by kernel_rfl) []]
  unfold ack2P
  by_cases s0 : S.state = 0
  · by_cases c1 : 4 * B ≥ 5 * S.best
    · simp [Try.f323, mdC, t0, t2, t4, t9, t10, ldVar, stVar, spl, hg, hp, hpq, hqp, w4, w5, w6, w7, w8, w9, w33, s0, c1, evHist, ObsOk, ObOk, List.getElem?_cons_zero]
    · by_cases c2 : S.count + 1 = 3
      · simp [Try.f323, mdC, t0, t2, t4, t9, t10, ldVar, stVar, spl, hg, hp, hpq, hqp, w4, w5, w6, w7, w8, w9, w33, s0, c1, c2, evHist, ObsOk, ObOk, List.getElem?_cons_zero]
      · simp [Try.f323, mdC, t0, t2, t4, t9, t10, ldVar, stVar, spl, hg, hp, hpq, hqp, w4, w5, w6, w7, w8, w9, w33, s0, c1, c2, evHist, ObsOk, ObOk, List.getElem?_cons_zero]
  · by_cases s2 : S.state = 2
    · by_cases c1 : S.flight ≤ Q
      · simp [Try.f323, mdC, t0, t2, t4, t9, t10, ldVar, stVar, spl, hg, hp, hpq, hqp, w4, w5, w6, w7, w8, w9, w33, s0, s2, c1, evHist, ObsOk, ObOk, List.getElem?_cons_zero]
      · rw [if_neg s0, if_pos s2, if_neg c1]
        simp only [s2] at hg hself
        simp [Try.f323, mdC, t0, t2, t4, t9, t10, ldVar, stVar, spl, hg, hp, hpq, hqp, w4, w5, w6, w7, w8, w9, w33, s0, s2, c1, hself, evHist, ObsOk, ObOk, List.getElem?_cons_zero]
    · have s3 : S.state = 3 := by omega
      by_cases c1 : op.t - S.turn ≥ S.floor
      · simp only [s3] at hg hself
        simp [Try.f323, mdC, t0, t2, t4, t9, t10, ldVar, stVar, spl, hg, hp, hpq, hqp, w4, w5, w6, w7, w8, w9, w33, s0, s2, s3, c1, evHist, ObsOk, ObOk, List.getElem?_cons_zero]
      · simp only [s3] at hg hself
        simp [Try.f323, mdC, t0, t2, t4, t9, t10, ldVar, stVar, spl, hg, hp, hpq, hqp, w4, w5, w6, w7, w8, w9, w33, s0, s2, s3, c1, hself, evHist, ObsOk, ObOk, List.getElem?_cons_zero]
/-- window and rate -/
theorem finI {H : AH} {q : Nat} {k : Int} {S : Cc} {va vs : AV} {n : Nat} (hg : H.get q = some (.cells 256 false (mdC S va vs))) (hk : k ≠ 1) (hok : S.ok k n) {B Q : Int} (hB : 0 ≤ B ∧ B ≤ 1000000000000) (hQ : 0 ≤ Q ∧ Q ≤ 100000000) (call : CallF) (m : Nat) (τ : Tm) (t0 : τ 0 = .ptr q 0) (t9 : τ 9 = .int .i64 B) (t10 : τ 10 = .int .i64 Q) :
    ∃ τ', evAt Try.prog call m 323 1023 τ H = some (.normal, τ', H.set q (.cells 256 false (mdC (ack3P S B Q) va vs))) := by
  have hst := hok.state
  have hs1 := hok.stm hk
  have c23 : 23 * Q = Q * 23 := Int.mul_comm _ _
  have w10 := wrap_i64 (n := Q * 23) (by omega) (by omega)
  have d10 := tdiv_le_self (a := Q * 23) (b := 8) (by omega) (by omega)
  have w11 := wrap_i64 (n := (Q * 23).tdiv 8) (by omega) (by omega)
  have w12 := wrap_i64 (n := 2 * Q) (by omega) (by omega)
  have w13 : ∀ g : Int, 3 ≤ g → g ≤ 23 → IntKind.i64.wrap (B * g) = B * g ∧ IntKind.i64.wrap ((B * g).tdiv 8) = (B * g).tdiv 8 ∧ g * B = B * g := fun g h3 h4 => by
    have z0 : 0 ≤ B * g := Int.mul_nonneg hB.1 (by omega)
    have z1 : B * g ≤ 1000000000000 * 23 := Int.mul_le_mul hB.2 h4 (by omega) (by omega)
    have := tdiv_le_self (a := B * g) (b := 8) z0 (by omega)
    exact ⟨wrap_i64 (by omega) (by omega), wrap_i64 (by omega) (by omega), Int.mul_comm _ _⟩
  have w19 := wrap_i64 (n := B) (by omega) (by omega)
  have w14 := w13 23 (by omega) (by omega)
  have w15 := w13 3 (by omega) (by omega)
  have w16 := w13 10 (by omega) (by omega)
  have w17 := w13 6 (by omega) (by omega)
  have w18 := w13 8 (by omega) (by omega)
  simp only [mdC] at hg
  rw [at_cut Try.func323 1023 (by decide) 10 (by decide) (by kernel_rfl) []]
  unfold ack3P gainP
  by_cases s3 : S.state = 3
  · by_cases z0 : S.phase = 0
    · simp [Try.f323, mdC, t0, t9, t10, ldVar, stVar, spl, hg, w10, w11, w12, w14, w15, w16, w17, w18, w19, s3, z0, c23, miI, mxI, evHist, ObsOk, ObOk, List.getElem?_cons_zero]
    · by_cases z1 : S.phase = 1
      · simp [Try.f323, mdC, t0, t9, t10, ldVar, stVar, spl, hg, w10, w11, w12, w14, w15, w16, w17, w18, w19, s3, z0, z1, c23, miI, mxI, evHist, ObsOk, ObOk, List.getElem?_cons_zero]
      · simp [Try.f323, mdC, t0, t9, t10, ldVar, stVar, spl, hg, w10, w11, w12, w14, w15, w16, w17, w18, w19, s3, z0, z1, c23, miI, mxI, evHist, ObsOk, ObOk, List.getElem?_cons_zero]
  · by_cases s2 : S.state = 2
    · simp [Try.f323, mdC, t0, t9, t10, ldVar, stVar, spl, hg, w10, w11, w12, w14, w15, w16, w17, w18, w19, s3, s2, c23, miI, mxI, evHist, ObsOk, ObOk, List.getElem?_cons_zero]
    · have s0 : S.state = 0 := by omega
      simp [Try.f323, mdC, t0, t9, t10, ldVar, stVar, spl, hg, w10, w11, w12, w14, w15, w16, w17, w18, w19, s3, s2, s0, c23, miI, mxI, evHist, ObsOk, ObOk, List.getElem?_cons_zero]
theorem zip_take (s : Int) : ∀ (ts bs : List Int) (a : Int) (i : Nat), (hi : i < (ts.zip bs).length) → ts.length = bs.length →
    allP s (ts.drop i) (bs.drop i) a = allP s (ts.drop (i + 1)) (bs.drop (i + 1)) (if (ts.zip bs)[i].1 > s then a + (ts.zip bs)[i].2 else a) := by
  intro ts bs a i hi hl
  have h1 : i < ts.length := by simp at hi; omega
  have h2 : i < bs.length := by omega
  rw [List.getElem_zip]
  exact allP_take s ts bs a i hl h1 h2
theorem allLoopI {H : AH} {q p : Nat} {k : Int} {S : Cc} {va vs : AV} {ba bs : List Nat} {n : Nat} (h : CcM H q S va vs ba bs) (hok : S.ok k n) {op : CcOpP} (ho : opGood op) (hp : H.get p = some (.cells 40 false (opC op))) (hpl : p < H.next) (m : Nat) (hm : 700 ≤ m) (call : CallF) (τ : Tm) (f : AV) (t0 : τ 0 = .ptr q 0) (t2 : τ 2 = f) (t4 : τ 4 = .ptr p 0) (t6 : τ 6 = .int .i64 op.b) (t17 : τ 17 = va) (t18 : τ 18 = .int .i64 S.samples.length) (t19 : τ 19 = .int .i64 0) :
    ∃ e τ' H', evLoop Try.prog call m (lp Try.prog 323 58) τ H = some (e, τ', H') ∧ e = .exit 0 ∧ τ' 0 = .ptr q 0 ∧ τ' 2 = f ∧ τ' 4 = .ptr p 0 ∧ τ' 6 = .int .i64 (allP op.s S.times S.bytes op.b) ∧ Kp H H' := by
  have htl := hok.tl
  have hle := hok.le
  have hzl : (S.times.zip S.bytes).length = S.samples.length := by simp; omega
  refine loop_rule (d := S.samples.length) (fun d τ h => ∃ (i : Nat) (a : Int), i + d = S.samples.length ∧ τ 0 = .ptr q 0 ∧ τ 2 = f ∧ τ 4 = .ptr p 0 ∧ τ 17 = va ∧ τ 18 = .int .i64 S.samples.length ∧ τ 19 = .int .i64 i ∧ τ 6 = .int .i64 a ∧ 0 ≤ a ∧ a ≤ 2000 + 2000 * i ∧ allP op.s (S.times.drop i) (S.bytes.drop i) a = allP op.s S.times S.bytes op.b ∧ Kp H h)
    (fun e τ h => e = .exit 0 ∧ τ 0 = .ptr q 0 ∧ τ 2 = f ∧ τ 4 = .ptr p 0 ∧ τ 6 = .int .i64 (allP op.s S.times S.bytes op.b) ∧ Kp H h) ?_ ⟨0, op.b, by omega, t0, t2, t4, t17, t18, by simpa using t19, t6, ho.b.1, by have := ho.b.2; omega, by simp, Kp.refl H⟩ (by omega)
  intro d τ h1 hI
  obtain ⟨i, a, hi, t0, t2, t4, t17, t18, t19, t6, a0, a1, ha, hK⟩ := hI
  rewrite [lp323_58]
  by_cases hd0 : d = 0
  · have hil : i = S.samples.length := by omega
    rw [List.drop_eq_nil_of_le (by omega), List.drop_eq_nil_of_le (by omega)] at ha
    simp only [allP] at ha
    subst ha
    have c : (i : Int) = S.samples.length := by omega
    simp [Try.f323, t0, t2, t4, t17, t18, t19, t6, c]
    exact hK
  · have hlt : i < (S.times.zip S.bytes).length := by omega
    have hlt' : i < S.samples.length := by omega
    obtain ⟨b, o, ro, x1, c, x2, bk, u1, u2, u3, u4, u5, u6, u7, u8⟩ := Ty.R.at_ (h.ra.kp hK) (P := Try.prog) (T := 254) (by simp) (by simp [Ty.n]) (k := i) hlt
    obtain ⟨xs, l1, l2, l3⟩ := at_blk (n := 2) u3 u4 (by simpa [Ty.n] using u5.len)
    rw [zip_take op.s _ _ a i hlt (by omega)] at ha
    have hb : 0 ≤ (S.times.zip S.bytes)[i].2 ∧ (S.times.zip S.bytes)[i].2 ≤ 2000 := by
      rw [List.getElem_zip]; exact hok.bytes _ (List.getElem_mem _)
    generalize (S.times.zip S.bytes)[i] = d0 at *
    obtain ⟨ct, cb⟩ := d0
    obtain ⟨rfl, rfl, _⟩ := o359 u5
    simp only at ha hb
    have hp1 := (hK.get p hpl).trans hp
    simp only [opC] at hp1
    have hpn : ¬ (p = h1.next) := by have := hK.next; omega
    have w1 := wrap_i64 (n := (i : Int) + 1) (by omega) (by omega)
    have w2 := wrap_i64 (n := a + cb) (by omega) (by omega)
    by_cases c : ct > op.s
    · rw [if_pos c] at ha
      simp [Try.f323, t0, t2, t4, t17, t18, t19, t6, ldVar, stVar, spl, hp1, hpn, hlt', w1, w2, c, u1, l1, l2, l3]
      exact ⟨d - 1, by omega, i + 1, by omega, by push_cast; rfl, by omega, by omega, ha, hK.push _⟩
    · rw [if_neg c] at ha
      simp [Try.f323, t0, t2, t4, t17, t18, t19, t6, ldVar, stVar, spl, hp1, hpn, hlt', w1, c, u1, l1, l2, l3]
      exact ⟨d - 1, by omega, i + 1, by omega, by push_cast; rfl, a0, by omega, ha, hK.push _⟩
end Go.Ev
