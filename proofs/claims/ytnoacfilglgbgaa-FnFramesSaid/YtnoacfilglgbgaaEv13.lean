/- Lemmas of an evaluator of the given code and of what the functions answer; no condition of its own. -/
import Derived.Test.YtnoacfilglgbgaaEv12
import Derived.Test.YtnoacfilglgbgaaEv8
/- All frames read by the program. -/
namespace Go.Ev
open Go Go.Proofs
set_option linter.unusedSimpArgs false
set_option linter.unusedVariables false

theorem ap72 {X : AH} {v : AV} {L : List tT72.D} {d : tT72.D} {c : List AV} {bs b1 : List Nat} (h : (Ty.sl 72 tT72).R true X [v] L bs) (hc : tT72.R true X c d b1) (hnd : (bs ++ b1).Nodup) (hl : L.length ≤ 1000000) :
    ∃ v' X' bs', appA Try.prog 61 61 v (.slice X.next 0 1) (X.push (.cells 72 false c)) = some (v', X') ∧ (Ty.sl 72 tT72).R true X' [v'] (L ++ [d]) bs' ∧ bs'.Nodup ∧ (∀ b ∈ bs', b ∈ bs ∨ b ∈ b1 ∨ X.next ≤ b) ∧ KoS bs X X' :=
  Ty.R.app1 (P := Try.prog) (T := 61) h hc hnd (by simp) (by simp) (by simp [Ty.n]) (by_ := 112) (by simp) (z := frC 0 0 0 0 false .nilSlice .nilSlice .nilSlice) (by simp [frC]) (by simp [Ty.n, frC]) (by omega) (by omega)
structure RfU (τ : Tm) (s : AV) (q : Nat) (v : AV) : Prop where
  t0 : τ 0 = s
  t4 : τ 4 = v
  t5 : τ 5 = .ptr q 0
def RfJ (L : List tT72.D) (s : AV) (q : Nat) (H0 : AH) (d : Nat) (τ : Tm) (h : AH) : Prop :=
  ∃ (L1 L2 : List tT72.D) (v : AV) (bs : List Nat), L = L1 ++ L2 ∧ L2.length = d ∧ RfU τ s q v ∧ h.get q = some (scB s (flatL L1).length 0) ∧ (Ty.sl 72 tT72).R true h [v] L1 bs ∧ bs.Nodup ∧ (∀ b ∈ bs, H0.next ≤ b ∧ b ≠ q) ∧ q < h.next ∧ Kp H0 h
set_option maxRecDepth 20000 in
theorem rfLoopJ {L : List tT72.D} {s : AV} {q : Nat} {H0 h0 : AH} (hs : Bs H0 s (flatL L)) (hb : By (flatL L)) (hg : gdL L) (hl : (flatL L).length ≤ 65536) (hL : L.length ≤ 255) (hq : H0.next ≤ q) (m : Nat) (hm : 1510 ≤ m) (τ : Tm) (hI : RfJ L s q H0 L.length τ h0) :
    ∃ e τ' H', evLoop Try.prog (ev Try.prog m) m (lp Try.prog 53 252) τ h0 = some (e, τ', H') ∧ e = .exit 0 ∧ RfJ L s q H0 0 τ' H' := by
  refine loop_rule (d := L.length) (RfJ L s q H0) (fun e τ h => e = .exit 0 ∧ RfJ L s q H0 0 τ h) ?_ hI (by omega)
  rintro dd τ h ⟨L1, L2, v, bs, rfl, hd, ⟨t0, t4, t5⟩, gq, hR, hnd, hlo, hqn, K⟩
  have hLn := hs.len
  have g1 : ldVar Try.prog 3 q 1 h = some (.int .i64 ((flatL L1).length : Int)) := by unfold scB at gq; simp [ldVar, gq]
  rw [lp_M Try.func53 252 (by decide) 8 (by decide) (by kernel_rfl) []]
  cases L2 with
  | nil =>
    have hc : (((flatL L1).length : Int) < ((flatL (L1 ++ [])).length : Int)) = False := eq_false (by simp)
    have hdd : dd = 0 := by simpa using hd.symm
    subst hdd
    simp only [List.append_nil] at *
    simp [Try.f53, U, t0, t5, g1, hLn, hc]
    exact ⟨L1, [], v, bs, by simp, rfl, ⟨by simp [t0], by simp [t4], by simp [t5]⟩, gq, hR, hnd, hlo, hqn, K⟩
  | cons d L2 =>
    have hfl : (flatL (L1 ++ d :: L2)).length = (flatL L1).length + (fyL d).length + (flatL L2).length := by simp [flatL]; omega
    obtain ⟨hd1, _, _⟩ := gd_mid hg
    obtain ⟨f1, f2, f3, f4⟩ := fy_facts hd1.tookD hd1.hD hd1.hT
    obtain ⟨N, hN⟩ : ∃ N : Nat, N = (flatL (L1 ++ d :: L2)).length := ⟨_, rfl⟩
    have hLn' : ∀ h', lenA Try.prog 34 s h' = some (.int .i64 (N : Int)) := fun h' => by rw [hN]; exact hLn h'
    obtain ⟨A, hA⟩ : ∃ A : Nat, A = (flatL L1).length := ⟨_, rfl⟩
    rw [← hA] at g1 gq hfl
    have hc : ((A : Int) < (N : Int)) = True := eq_true (by omega)
    have hc2 : (A < N) = True := eq_true (by omega)
    have L1n := hR.lenA (P := Try.prog) (T := 61) (by simp)
    have hl1 : L1.length < 256 := by simp at hL; omega
    have hne : ((L1.length : Int) == 256) = false := by simp; omega
    have hne2 : ((L1.length : Int) = 256) = False := eq_false (by omega)
    have hne3 : (L1.length = 256) = False := eq_false (by omega)
    have hrd := fl_read hg
    rw [← hA] at hrd
    obtain ⟨fr, H1, Kk, Aa, Bb, Cc, ff, D, T, rs, b1, a', e1, k1, R1, nd1, lo1, gq1, heq⟩ := frame_ev hs hb K (by omega) hqn gq (by omega) hl m (by omega)
    rw [hrd] at gq1 heq
    have heq := heq rfl
    obtain ⟨dk, da, db, dc, df, dD, dT, drs⟩ := d
    simp only [FP.mk.injEq, true_and, and_true] at heq
    obtain ⟨rfl, rfl, rfl, rfl, rfl, rfl, rfl, rfl, ha'⟩ := heq
    have kn := k1.next
    have hh : H0.next ≤ h.next := K.next
    have R0 : (Ty.sl 72 tT72).R true H1 [v] L1 bs := hR.stay kn fun b hb => k1.get b (hR.mem b hb) (hlo b hb).2
    obtain ⟨vx5, vx6, vx7, bx5, bx6, bx7, hcs, hbs, r5, r6, r7, iK, iA, iB, iC⟩ := o72 R1
    subst hcs
    obtain ⟨Z, hZ⟩ : ∃ Z : AH, Z = H1.push (.cells 72 false [.int .i64 dk, .int .i64 da, .int .i64 db, .int .i64 dc, .bool df, vx5, vx6, vx7]) := ⟨_, rfl⟩
    have kZ : Kp H1 Z := by rw [hZ]; exact (Kp.refl H1).push _
    have nZ : Z.next = H1.next + 1 := by rw [hZ]; simp
    have o5 := r5.sl_one; have o6 := r6.sl_one; have o7 := r7.sl_one
    have stZ : stVar Try.prog 72 H1.next 0 (.agg [.int .i64 dk, .int .i64 da, .int .i64 db, .int .i64 dc, .bool df, vx5, vx6, vx7]) (H1.push (.cells 72 false [.int .i64 0, .int .i64 0, .int .i64 0, .int .i64 0, .bool false, .nilSlice, .nilSlice, .nilSlice])) = some Z := by
      rw [hZ]; simp [stVar, o5, o6, o7, spl, push_set]
    have lZ : ldVar Try.prog 72 H1.next 0 Z = some (.agg [.int .i64 dk, .int .i64 da, .int .i64 db, .int .i64 dc, .bool df, vx5, vx6, vx7]) := by rw [hZ]; simp [ldVar]
    have gqZ : Z.get q = some (scB s a' 0) := (kZ.get q (by omega)).trans gq1
    have lq : ldVar Try.prog 3 q 2 Z = some (.int .i64 0) := by unfold scB at gqZ; simp [ldVar, gqZ]
    have ndx : (bs ++ b1).Nodup := by
      rw [List.nodup_append]
      exact ⟨hnd, nd1, fun x hx y hy e => by have := hR.mem x hx; have := lo1 y hy; omega⟩
    obtain ⟨v', Y, bs', e2, R2, nd2, bb2, ks2⟩ := ap72 (R0.kp kZ) (R1.kp kZ) ndx (by omega)
    obtain ⟨W, hW⟩ : ∃ W : AH, W = Z.push (.cells 72 false [.int .i64 dk, .int .i64 da, .int .i64 db, .int .i64 dc, .bool df, vx5, vx6, vx7]) := ⟨_, rfl⟩
    rw [← hW] at e2
    have hW' := hW.symm
    have nY := ks2.next
    have gqY : Y.get q = some (scB s a' 0) := by rw [ks2.get q (by omega) (fun e => (hlo q e).2 rfl)]; exact gqZ
    simp only at hrd
    have hdd : dd = L2.length + 1 := by simpa using hd.symm
    simp [Try.f53, U, t0, t4, t5, g1, hLn', hc, hc2, L1n, hne, hne2, hne3, e1, stZ, lZ, lq, hW', e2, o5, o6, o7, cells_one o5, cells_one o6, cells_one o7, zerosA, fillA, spl]
    refine ⟨L2.length, by omega, L1 ++ [(dk, da, db, dc, df, dD, dT, drs)], L2, v', bs', by simp, rfl, ⟨by simp [t0], by simp, by simp [t5]⟩, ?_, R2, nd2, fun b hb => ?_, by omega, ?_⟩
    · rw [gqY]
      have : a' = (flatL (L1 ++ [(dk, da, db, dc, df, dD, dT, drs)])).length := by rw [← ha']; simp [flatL] at hA ⊢; omega
      rw [this]
    · rcases bb2 b hb with h' | h' | h'
      · exact hlo b h'
      · have := lo1 b h'; exact ⟨by omega, by omega⟩
      · exact ⟨by omega, by omega⟩
    · refine ⟨by omega, fun b hb => ?_⟩
      rw [ks2.get b (by omega) (fun e => by have := hlo b e; omega), kZ.get b (by omega), k1.get b (by omega) (by omega)]
      exact K.get b hb
set_option maxRecDepth 20000 in
theorem ReadFrames_ev {L : List tT72.D} {s : AV} {Hb H : AH} (hs : Bs Hb s (flatL L)) (hK : Kp Hb H) (hb : By (flatL L)) (hg : gdL L) (hl : (flatL L).length ≤ 65536) (hL : L.length ≤ 255) (m : Nat) (hm : 1520 ≤ m) :
    ∃ v' H' bs', ev Try.prog m 53 [s] H = some (.tuple [v', .int .i64 (if L = [] then 3 else 0)], H') ∧ (L ≠ [] → (Ty.sl 72 tT72).R true H' [v'] L bs') ∧ (∀ b ∈ bs', H.next ≤ b) ∧ Kp H H' := by
  obtain ⟨m, rfl⟩ : ∃ k, m = k + 1 := ⟨m - 1, by omega⟩
  have hs := hs.kp hK
  have hLn := hs.len
  have tl := tooLong_ev hs H m (by omega)
  rw [show (decide (65536 < ((flatL L).length : Int))) = false from decide_eq_false (by omega)] at tl
  rw [ev_M Try.func53 ok53 [] m _ H (by simp [Try.f53])]
  by_cases hE : L = []
  · subst hE
    rw [if_pos rfl]
    have hL0 : ∀ h', lenA Try.prog 34 s h' = some (.int .i64 0) := fun h' => by rw [hLn h']; rfl
    exact ⟨.nilSlice, H, [], by simp [Try.f53, U, tm0, tl, hL0], fun h => absurd rfl h, by simp, Kp.refl H⟩
  · rw [if_neg hE]
    have hpos : 0 < (flatL L).length := by
      cases L with
      | nil => exact absurd rfl hE
      | cons d l => obtain ⟨f1, f2, f3, f4⟩ := fy_facts hg.1.tookD hg.1.hD hg.1.hT; simp [flatL]; omega
    obtain ⟨N, hN⟩ : ∃ N : Nat, N = (flatL L).length := ⟨_, rfl⟩
    have hLn' : ∀ h', lenA Try.prog 34 s h' = some (.int .i64 (N : Int)) := fun h' => by rw [hN]; exact hLn h'
    have hne : ((N : Int) == 0) = false := by simp; omega
    have hne2 : (N = 0) = False := eq_false (by omega)
    obtain ⟨A, hA⟩ : ∃ A : AH, A = H.push (.cells 72 false []) := ⟨_, rfl⟩
    have kA : Kp H A := by rw [hA]; exact (Kp.refl H).push _
    have nA : A.next = H.next + 1 := by rw [hA]; simp
    have gA : A.get H.next = some (.cells 72 false []) := by rw [hA]; simp
    obtain ⟨B, hB⟩ : ∃ B : AH, B = A.push (.cells 188 false [s, .int .i64 0, .int .i64 0]) := ⟨_, rfl⟩
    have kB : Kp A B := by rw [hB]; exact (Kp.refl A).push _
    have nB : B.next = A.next + 1 := by rw [hB]; simp
    have gB : B.get A.next = some (scB s 0 0) := by rw [hB]; simp [scB]
    have hA' := hA.symm
    have hB' := hB.symm
    have so := hs.one
    have I0 : ∀ τ : Tm, RfU τ s A.next (.slice H.next 0 0) → RfJ L s A.next H L.length τ B := fun τ T =>
      ⟨[], L, .slice H.next 0 0, [H.next], by simp, rfl, T, by simpa [flatL] using gB, .inr ⟨H.next, 0, false, [], [], rfl, rfl, by omega, (kB.get _ (by omega)).trans gA, fun _ => ⟨rfl, rfl, by simp⟩, by simp, rfl, rfl⟩, by simp, fun b hb => by simp at hb; subst hb; exact ⟨Nat.le_refl _, by omega⟩, by omega, kA.trans kB⟩
    simp [Try.f53, U, tm0, tl, hLn', hne, hne2, hA', hB', so, cells_one so, zerosA, fillA, spl]
    generalize hLo : evLoop _ _ _ _ _ _ = R
    obtain ⟨e, τ', H', rfl, rfl, L1, L2, v, bs, hLL, h2, ⟨t0, t4, t5⟩, gq, hR, hnd, hlo, hqn, K⟩ := loop_at hLo (rfLoopJ hs hb hg hl hL (by omega) m (by omega) _ (I0 _ ⟨by simp, by simp, by simp⟩))
    have : L2 = [] := List.length_eq_zero_iff.1 h2
    subst this
    rw [List.append_nil] at hLL
    subst hLL
    exact ⟨v, H', by simp [Try.f53, U, t4], bs, fun _ => hR, fun b hb => (hlo b hb).1, K⟩
end Go.Ev

/- The greater and the lesser of two numbers. -/
namespace Go.Ev
def mxI (a b : Int) : Int := if b > a then b else a
def miI (a b : Int) : Int := if b < a then b else a
end Go.Ev
