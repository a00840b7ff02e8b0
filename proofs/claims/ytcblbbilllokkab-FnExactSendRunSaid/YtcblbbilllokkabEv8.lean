/- Lemmas of an evaluator of the given code and of what the functions answer; no condition of its own. -/
import Derived.Test.YtcblbbilllokkabEv7
/- The specification's sending part: what is heard, whole. -/
namespace Go.Ev
open Go Go.Proofs
set_option linter.unusedSimpArgs false
set_option linter.unusedVariables false

theorem heardS_ev {H : AH} {q : Nat} {S : Snd} {bs : List Nat} (h : SndS H q S bs) (hok : S.ok) {off n how : Int} {fin a : Bool} (hha : how = if a then 2 else 3) (m : Nat) (hm : 65550 ≤ m) :
    ∃ H', ev Try.prog m 65 [.ptr q 0, .int .i64 off, .int .i64 n, .bool fin, .int .i64 how] H = some (.int .i64 (heardP S off n fin a).2, H') ∧ SndS H' q (heardP S off n fin a).1 bs ∧ KoS bs H H' := by
  obtain ⟨m, rfl⟩ : ∃ k, m = k + 1 := ⟨m - 1, by omega⟩
  have hdl := hok.len
  have hhl := hok.how
  have hnx := hok.nx
  have hfn := hok.fn
  have hst0 := hok.st
  have hlive := liveS_ev h hok m (by omega)
  obtain ⟨vd, vi, h1, o1, o2, hL, hLi, _, _⟩ := h.put (S' := S) rfl rfl
  simp only [sndD] at h1
  rw [ev_eq Try.func65 ok65 m _ H (by simp [Try.f65])]
  unfold heardP
  by_cases c1 : off < 0
  · rw [if_pos (.inl c1)]
    refine ⟨_, ?_, h, KoS.refl _ _⟩
    simp [Try.f65, c1, U]
  · by_cases c2 : n < 0
    · rw [if_pos (.inr (.inl c2))]
      refine ⟨_, ?_, h, KoS.refl _ _⟩
      simp [Try.f65, c1, c2, U]
    · by_cases c3 : (S.nx : Int) < off
      · rw [if_pos (.inr (.inr (.inl c3)))]
        refine ⟨_, ?_, h, KoS.refl _ _⟩
        simp [Try.f65, c1, c2, c3, ldVar, h1, U]
      · have w1 := wrap_i64 (n := (S.nx : Int) - off) (by omega) (by omega)
        by_cases c4 : (S.nx : Int) - off < n
        · rw [if_pos (.inr (.inr (.inr c4)))]
          refine ⟨_, ?_, h, KoS.refl _ _⟩
          simp [Try.f65, c1, c2, c3, w1, c4, ldVar, h1, U]
        · rw [if_neg (by omega)]
          have w2 := wrap_i64 (n := off + n) (by omega) (by omega)
          by_cases c5 : fin = true ∧ (S.fn = 0 ∨ off + n ≠ S.data.length)
          · rw [if_pos c5]
            refine ⟨_, ?_, h, KoS.refl _ _⟩
            obtain ⟨rfl, c5⟩ := c5
            by_cases c6 : S.fn = 0
            · rw [c6] at h1
              simp [Try.f65, c1, c2, c3, w1, c4, ldVar, h1, c6, U]
            · have c7 : ¬ (off + n = S.data.length) := by rcases c5 with h | h; exact absurd h c6; exact h
              simp [Try.f65, c1, c2, c3, w1, w2, c4, ldVar, h1, hL, c6, c7, U]
          · rw [if_neg c5]
            have w3 := wrap_i64 (n := (S.data.length : Int)) (by omega) (by omega)
            by_cases c8 : 2 < S.st
            · rw [if_pos c8]
              have cl : ¬ (S.st ≤ 2) := by omega
              simp only [cl, decide_false] at hlive
              refine ⟨_, ?_, h, KoS.refl _ _⟩
              cases fin with
              | false => simp [Try.f65, c1, c2, c3, w1, c4, ldVar, h1, hlive, U]
              | true =>
                have c6 : ¬ S.fn = 0 := fun e => c5 ⟨rfl, .inl e⟩
                have c7 : off + n = S.data.length := Classical.byContradiction fun e => c5 ⟨rfl, .inr e⟩
                simp [Try.f65, c1, c2, c3, w1, w2, w3, c4, ldVar, h1, hL, c6, c7, hlive, U]
            · rw [if_neg c8]
              have cl : S.st ≤ 2 := by omega
              simp only [cl, decide_true] at hlive
              obtain ⟨offN, hoff⟩ : ∃ k : Nat, off = k := ⟨off.toNat, by omega⟩
              obtain ⟨nN, hnN⟩ : ∃ k : Nat, n = k := ⟨n.toNat, by omega⟩
              subst hoff hnN
              simp only [Int.toNat_natCast]
              have hinit : SndS H q { S with how := setU S.how offN nN a 0 } bs := by rw [setU_zero]; exact h
              cases fin with
              | false =>
                simp [Try.f65, c1, c2, c3, w1, c4, ldVar, h1, hlive, U]
                generalize hLo : evLoop _ _ _ _ _ _ = R
                obtain ⟨e, τ', H1, rfl, rfl, i, hi, t0, t1, t2, t3, t4, t12, ⟨b, t11, hb⟩, hS, hK, hn⟩ := loop_at hLo (heardLoopS (S := S) (q := q) (off := offN) (n := nN) (a := a) (fin := false) (how := how) (bs := bs) hok (by omega) hha m (by omega) _ ⟨0, by simp, by simp, by simp, by simp, by simp, by simp, by simp, by simp, hinit, KoS.refl _ _, rfl⟩)
                have hil : i = S.how.length := by omega
                subst hil
                rw [setU_all] at hS
                have htk : (setR S.how offN nN a).take S.how.length = setR S.how offN nN a := by rw [← setR_len S.how offN nN a, List.take_length]
                rw [htk] at hb
                obtain ⟨vd3, vi3, g1, _, _, _, _, g2, g3⟩ := hS.put (S' := { S with how := setR S.how offN nN a, st := 3 }) rfl rfl
                simp only [sndD] at g1 g2 g3
                by_cases c9 : S.fn = 2 ∧ ∀ x ∈ setR S.how offN nN a, x = 2
                · rw [if_pos c9]
                  have hbt : b = true := hb.2 ⟨hok.fi (by omega), c9.2⟩
                  subst hbt
                  rw [c9.1] at g1
                  simp [t0, t3, t11, ldVar, stVar, g1, spl, U]
                  rw [c9.1] at g2 g3
                  exact ⟨by simpa [c9.1] using g2, hK.trans g3 fun b hb => .inl hb⟩
                · rw [if_neg c9]
                  cases b with
                  | true =>
                    have c10 : ¬ S.fn = 2 := fun e => c9 ⟨e, (hb.1 rfl).2⟩
                    simp [t0, t3, t11, ldVar, stVar, g1, c10, U]
                    exact ⟨hS, hK⟩
                  | false =>
                    simp [t0, t3, t11, U]
                    exact ⟨hS, hK⟩
              | true =>
                have c6 : ¬ S.fn = 0 := fun e => c5 ⟨rfl, .inl e⟩
                have c7 : (offN : Int) + nN = S.data.length := Classical.byContradiction fun e => c5 ⟨rfl, .inr e⟩
                simp [Try.f65, c1, c2, c3, w1, w2, w3, c4, ldVar, h1, hL, c6, c7, hlive, U]
                generalize hLo : evLoop _ _ _ _ _ _ = R
                obtain ⟨e, τ', H1, rfl, rfl, i, hi, t0, t1, t2, t3, t4, t12, ⟨b, t11, hb⟩, hS, hK, hn⟩ := loop_at hLo (heardLoopS (S := S) (q := q) (off := offN) (n := nN) (a := a) (fin := true) (how := how) (bs := bs) hok (by omega) hha m (by omega) _ ⟨0, by simp, by simp, by simp, by simp, by simp, by simp, by simp, by simp, hinit, KoS.refl _ _, rfl⟩)
                have hil : i = S.how.length := by omega
                subst hil
                rw [setU_all] at hS
                have htk : (setR S.how offN nN a).take S.how.length = setR S.how offN nN a := by rw [← setR_len S.how offN nN a, List.take_length]
                rw [htk] at hb
                have hfi : S.fi = true := hok.fi c6
                by_cases c22 : S.fn = 2
                · have hone : setOne a S.fn = S.fn := by rw [c22]; unfold setOne; cases a <;> rfl
                  simp only [if_true, hone]
                  obtain ⟨vd3, vi3, g1, _, _, _, _, g2, g3⟩ := hS.put (S' := { S with how := setR S.how offN nN a, st := 3 }) rfl rfl
                  simp only [sndD] at g1 g2 g3
                  by_cases c9 : S.fn = 2 ∧ ∀ x ∈ setR S.how offN nN a, x = 2
                  · rw [if_pos c9]
                    have hbt : b = true := hb.2 ⟨hfi, c9.2⟩
                    subst hbt
                    rw [c22] at g1
                    simp [t0, t3, t11, ldVar, stVar, g1, spl, U]
                    rw [c22] at g2 g3
                    exact ⟨by simpa [c22] using g2, hK.trans g3 fun b hb => .inl hb⟩
                  · rw [if_neg c9]
                    have hbf : b = false := by
                      cases b with
                      | false => rfl
                      | true => exact absurd ⟨c22, (hb.1 rfl).2⟩ c9
                    subst hbf
                    rw [c22] at g1
                    simp [t0, t3, t11, ldVar, g1, U]
                    exact ⟨hS, hK⟩
                · have hone : setOne a S.fn = how := by rw [hha]; unfold setOne; cases a <;> simp [c22]
                  simp only [if_true, hone]
                  obtain ⟨vd4, vi4, p1, p2, p3, _, _, hS2, KS2⟩ := hS.put (S' := { S with how := setR S.how offN nN a, fn := how }) rfl rfl
                  have KT2 := hK.trans KS2 fun b hb => .inl hb
                  obtain ⟨vd3, vi3, g1, _, _, _, _, g2, g3⟩ := hS2.put (S' := { S with how := setR S.how offN nN a, fn := how, st := 3 }) rfl rfl
                  have hgq : (H1.set q (.cells 73 false (sndD { S with how := setR S.how offN nN a, fn := how } vd4 vi4))).get q = some (.cells 73 false (sndD { S with how := setR S.how offN nN a, fn := how } vd4 vi4)) := by rw [AH.set_get, if_pos rfl]
                  rw [hgq] at g1
                  simp only [Option.some.injEq, Blk.cells.injEq, sndD, List.cons.injEq, true_and, and_true] at g1
                  obtain ⟨rfl, rfl⟩ := g1
                  simp only [sndD, set_set] at p1 hS2 KT2 g2 g3
                  by_cases c9 : how = 2 ∧ ∀ x ∈ setR S.how offN nN a, x = 2
                  · rw [if_pos c9]
                    have hbt : b = true := hb.2 ⟨hfi, c9.2⟩
                    subst hbt
                    have hh2 := c9.1
                    subst hh2
                    simp [t0, t3, t4, t11, ldVar, stVar, p1, c22, spl, U]
                    exact ⟨g2, KT2.trans g3 fun b hb => .inl hb⟩
                  · rw [if_neg c9]
                    cases b with
                    | true =>
                      have c10 : ¬ how = 2 := fun e => c9 ⟨e, (hb.1 rfl).2⟩
                      simp [t0, t3, t4, t11, ldVar, stVar, p1, c22, c10, spl, U]
                      exact ⟨hS2, KT2⟩
                    | false =>
                      simp [t0, t3, t4, t11, ldVar, stVar, p1, c22, spl, U]
                      exact ⟨hS2, KT2⟩
end Go.Ev

/- The specification's sending part: one operation. -/
namespace Go.Ev
open Go Go.Proofs
set_option linter.unusedSimpArgs false
set_option linter.unusedVariables false

theorem writeP_code (S : Snd) (x : List Int) : 0 ≤ (writeP S x).2 ∧ (writeP S x).2 ≤ 13 := by
  unfold writeP; split
  · simp
  · split <;> simp
theorem finP_code (S : Snd) : 0 ≤ (finP S).2 ∧ (finP S).2 ≤ 13 := by unfold finP; split <;> simp
theorem heardP_code (S : Snd) (off n : Int) (fin a : Bool) : 0 ≤ (heardP S off n fin a).2 ∧ (heardP S off n fin a).2 ≤ 13 := by
  unfold heardP; split
  · simp
  · split
    · simp
    · split <;> simp
def zO : List AV := [.int .i64 0, .int .i64 0, .int .i64 0, .nilSlice, .bool false, .bool false, .bool false]
def DoRes (H : AH) (q : Nat) (bs : List Nat) (c : List AV) (m : Nat) (R : Snd × tSendObs.D) : Prop :=
  ∃ c' H' bs' bo, ev Try.prog m 31 [.ptr q 0, .agg c] H = some (.agg c', H') ∧ SndS H' q R.1 bs' ∧ KoS bs H H' ∧ (∀ b ∈ bs', b ∈ bs ∨ H.next ≤ b) ∧ tSendObs.R true H' c' R.2 bo ∧ (bs' ++ bo).Nodup ∧ ∀ b ∈ bo, H.next ≤ b
/-- where no bytes are answered: the operation's memory h2, and what comes behind it -/
theorem doRes_of {H h2 : AH} {q : Nat} {bs bs' : List Nat} {S' : Snd} {c : List AV} {m : Nat} (hok : S'.ok) (k o : Int) (hk : 0 ≤ k ∧ k ≤ 13) (ho : 0 ≤ o ∧ o ≤ 65536) (hS : SndS h2 q S' bs') (hK : KoS bs H h2) (hb : ∀ b ∈ bs', b ∈ bs ∨ H.next ≤ b)
    (hn : H.next + 3 ≤ h2.next) (h1 : H.next + 1 ∉ bs') (h3 : H.next + 2 ∉ bs') (hbn : ∀ b ∈ bs, b < H.next)
    (hev : ∃ Hf, ev Try.prog m 31 [.ptr q 0, .agg c] H = some (.agg [.int .i64 k, .int .i64 S'.st, .int .i64 o, .nilSlice, .bool false, .bool false, .bool false], Hf) ∧ Hf.next = h2.next ∧ ∀ b, b ≠ H.next + 1 → b ≠ H.next + 1 + 1 → Hf.get b = h2.get b) :
    DoRes H q bs c m (S', (k, S'.st, o, [], false, false, false)) := by
  obtain ⟨Hf, hev, hnf, hg⟩ := hev
  have hst := hok.st
  refine ⟨_, _, bs', [], hev, hS.same (by omega) fun b hbm => hg b (fun e => h1 (by rw [← e]; exact hbm)) (fun e => h3 (by rw [← e]; exact hbm)), ⟨by omega, fun b hbl hbb => ?_⟩, hb,
    SendObs_in (.inl ⟨rfl, rfl, rfl⟩) (inI_small (by omega) (by omega)) (inI_small (by omega) (by omega)) (inI_small (by omega) (by omega)), by simpa using hS.nd, by simp⟩
  rw [hg b (by omega) (by omega)]
  exact hK.get b hbl hbb
theorem doS_ev {Hb H : AH} {q : Nat} {S : Snd} {bs : List Nat} (h : SndS H q S bs) (hok : S.ok) {c : List AV} {op : tSendOp.D} {bc : List Nat} {rc : Bool} (hd : tSendOp.R rc Hb c op bc) (hKb : Kp Hb H) (hob : opBytes op ≤ 1048576) (m : Nat) (hm : 65600 ≤ m) : DoRes H q bs c m (doP S op) := by
  obtain ⟨m, rfl⟩ : ∃ k, m = k + 1 := ⟨m - 1, by omega⟩
  obtain ⟨k, o, n, x, f⟩ := op
  obtain ⟨v, rfl, hx, i1, i2, i3⟩ := SendOp_out hd
  have hlx : x.length ≤ 1048576 := hob
  have hmem := h.mem
  have hov := (tB_bs hx).1.one
  let A : AH := ((H.push (.cells 77 false [.int .i64 k, .int .i64 o, .int .i64 n, v, .bool f])).push (.cells 75 false zO)).push (.cells 75 false zO)
  have KA : Kp H A := (((Kp.refl H).push _).push _).push _
  have hA := h.kp KA
  have gA0 : A.get H.next = some (.cells 77 false [.int .i64 k, .int .i64 o, .int .i64 n, v, .bool f]) := by simp [A]; omega
  have gA1 : A.get (H.next + 1) = some (.cells 75 false zO) := by simp [A]
  have gA2 : A.get (H.next + 2) = some (.cells 75 false zO) := by simp [A]
  have nA : A.next = H.next + 3 := rfl
  have nb : ∀ j, H.next + j ∉ bs := fun j e => by have := hmem _ e; omega
  have hEv := ev_eq Try.func31 ok31 m [.ptr q 0, .agg [.int .i64 k, .int .i64 o, .int .i64 n, v, .bool f]] H (by simp [Try.f31])
  have hq := h.lt
  have qn0 : ¬ (q = H.next) := by omega
  have qn1 : ¬ (q = H.next + 1) := by omega
  have qn2 : ¬ (q = H.next + 1 + 1) := by omega
  have n01 : ¬ (H.next = H.next + 1) := by omega
  have n02 : ¬ (H.next = H.next + 1 + 1) := by omega
  have n12 : ¬ (H.next + 1 = H.next + 1 + 1) := by omega
  have m0 : ¬ (H.next = q) := by omega
  have m1 : ¬ (H.next + 1 = q) := by omega
  have m2 : ¬ (H.next + 1 + 1 = q) := by omega
  have n21 : ¬ (H.next + 1 + 1 = H.next + 1) := by omega
  have n20 : ¬ (H.next + 1 + 1 = H.next) := by omega
  have n10 : ¬ (H.next + 1 = H.next) := by omega
  -- what an operation that answers a code leaves
  have step : ∀ {h2 : AH} {bs2 : List Nat} {S2 : Snd}, SndS h2 q S2 bs2 → KoS bs A h2 → (∀ b ∈ bs2, b ∈ bs ∨ A.next ≤ b) →
      ∃ vd vi, h2.get q = some (.cells 73 false (sndD S2 vd vi)) ∧ h2.get (H.next + 1) = some (.cells 75 false zO) ∧ h2.get (H.next + 1 + 1) = some (.cells 75 false zO) ∧ H.next + 3 ≤ h2.next ∧ H.next + 1 ∉ bs2 ∧ H.next + 2 ∉ bs2 ∧ KoS bs H h2 ∧ (∀ b ∈ bs2, b ∈ bs ∨ H.next ≤ b) := fun {h2 bs2 S2} hS hK hb => by
    obtain ⟨⟨vd, vi, bd, bi, g1, _⟩, _, _⟩ := id hS
    refine ⟨vd, vi, g1, ?_, ?_, by have := hK.next; omega, ?_, ?_, (KA.koS bs).trans hK fun b hb => .inl hb, fun b hbm => ?_⟩
    · rw [hK.get _ (by omega) (nb 1)]; exact gA1
    · rw [hK.get _ (by omega) (nb 2)]; exact gA2
    · intro e; rcases hb _ e with e | e; exact nb 1 e; omega
    · intro e; rcases hb _ e with e | e; exact nb 2 e; omega
    · rcases hb b hbm with e | e; exact .inl e; exact .inr (by omega)
  unfold doP
  by_cases k1 : k = 1
  · subst k1
    simp only [if_true]
    obtain ⟨h2, bs2, a1, a2, a3, a4⟩ := writeS_ev hA hok (hx.kp (hKb.trans KA)) hlx m (by omega)
    obtain ⟨vd, vi, g1, g2, g3, g4, g5, g6, g7, g8⟩ := step a2 a3 a4
    have hcode := writeP_code S x
    refine doRes_of (writeP_ok hok x) (writeP S x).2 0 hcode (by omega) a2 g7 g8 g4 g5 g6 hmem ?_
    rw [hEv]
    simp only [A, zO] at a1 g2 g3
    simp only [sndD] at g1
    refine ⟨_, by simp [Try.f31, ldVar, stVar, spl, push_set3, hov, cells_one hov, qn0, qn1, qn2, n01, n02, n12, m0, m1, m2, n21, n20, n10, U, a1, g1, g2, g3]; rfl, by simp, fun b e1 e2 => by simp [AH.set_get, e1, e2]⟩
  · by_cases k2 : k = 2
    · subst k2
      rw [if_neg k1, if_pos rfl]
      obtain ⟨h2, a1, a2, a3⟩ := endS_ev hA hok m (by omega)
      obtain ⟨vd, vi, g1, g2, g3, g4, g5, g6, g7, g8⟩ := step a2 a3 fun b hb => .inl hb
      have hcode := finP_code S
      refine doRes_of (finP_ok hok) (finP S).2 0 hcode (by omega) a2 g7 g8 g4 g5 g6 hmem ?_
      rw [hEv]
      simp only [A, zO] at a1 g2 g3
      simp only [sndD] at g1
      refine ⟨_, by simp [Try.f31, ldVar, stVar, spl, push_set3, hov, cells_one hov, qn0, qn1, qn2, n01, n02, n12, m0, m1, m2, n21, n20, n10, U, a1, g1, g2, g3]; rfl, by simp, fun b e1 e2 => by simp [AH.set_get, e1, e2]⟩
    · by_cases k3 : k = 3
      · subst k3
        rw [if_neg k1, if_neg k2, if_pos rfl]
        have hcr := hok.cr
        by_cases cn : n < 0
        · rw [if_pos cn]
          obtain ⟨vd0, vi0, p1, _, _, _, _, p2, p3⟩ := hA.put (S' := S) rfl rfl
          obtain ⟨vd, vi, g1, g2, g3, g4, g5, g6, g7, g8⟩ := step p2 p3 fun b hb => .inl hb
          refine doRes_of hok 1 0 (by omega) (by omega) p2 g7 g8 g4 g5 g6 hmem ?_
          rw [hEv]
          have cn' : @LT.lt Int _ n 0 := cn
          have hmx : ¬ (S.cr < n) := by omega
          have p1H : H.get q = some (.cells 73 false (sndD S vd0 vi0)) := by rw [← KA.get q hq]; exact p1
          simp only [sndD] at p1H
          refine ⟨_, by simp [Try.f31, ldVar, stVar, spl, push_set3, hov, cells_one hov, qn0, qn1, qn2, n01, n02, n12, m0, m1, m2, n21, n20, n10, U, cn, p1H, hmx]; rfl, by simp [A], fun b e1 e2 => ?_⟩
          simp only [A, sndD, zO, AH.set_get, AH.push_get, AH.push_next, if_neg e1, if_neg e2]
          try (by_cases e3 : b = q <;> simp [e3, e1, e2])
        · rw [if_neg cn]
          obtain ⟨vd0, vi0, p1, _, _, _, _, p2, p3⟩ := hA.put (S' := { S with cr := if S.cr < n then n else S.cr }) rfl rfl
          obtain ⟨vd, vi, g1, g2, g3, g4, g5, g6, g7, g8⟩ := step p2 p3 fun b hb => .inl hb
          have hok2 := doP_ok hok (3, o, n, x, f) i3
          unfold doP at hok2
          simp only [if_neg cn] at hok2
          refine doRes_of (by simpa using hok2) 0 0 (by omega) (by omega) p2 g7 g8 g4 g5 g6 hmem ?_
          rw [hEv]
          have p1H : H.get q = some (.cells 73 false (sndD S vd0 vi0)) := by rw [← KA.get q hq]; exact p1
          simp only [sndD] at p1H
          refine ⟨_, by simp [Try.f31, ldVar, stVar, spl, push_set3, hov, cells_one hov, qn0, qn1, qn2, n01, n02, n12, m0, m1, m2, n21, n20, n10, U, cn, p1H]; rfl, by simp [A], fun b e1 e2 => ?_⟩
          simp only [A, sndD, zO, AH.set_get, AH.push_get, AH.push_next, if_neg e1, if_neg e2]
          try (by_cases e3 : b = q <;> simp [e3, e1, e2])
      · by_cases k4 : k = 4
        · subst k4
          rw [if_neg k1, if_neg k2, if_neg k3, if_pos rfl]
          have p1 : ∃ vd vi, A.get q = some (.cells 73 false (sndD S vd vi)) := by obtain ⟨⟨vd, vi, bd, bi, g1, _⟩, _, _⟩ := id hA; exact ⟨vd, vi, g1⟩
          obtain ⟨vd0, vi0, p1⟩ := p1
          have p1H : H.get q = some (.cells 73 false (sndD S vd0 vi0)) := by rw [← KA.get q hq]; exact p1
          simp only [sndD] at p1H
          by_cases cn : @LT.lt Int _ n 1 ∨ @LT.lt Int _ 1500 n
          · have hp : pullP S n = (S, (1, 0, 0, [], false, false, false)) := by unfold pullP; rw [if_pos cn]
            rw [hp]
            obtain ⟨vd, vi, g1, g2, g3, g4, g5, g6, g7, g8⟩ := step hA (KoS.refl _ _) fun b hb => .inl hb
            refine doRes_of hok 1 0 (by omega) (by omega) hA g7 g8 g4 g5 g6 hmem ?_
            rw [hEv]
            by_cases cn1 : @LT.lt Int _ n 1
            · refine ⟨_, by simp [Try.f31, ldVar, stVar, spl, push_set3, hov, cells_one hov, qn0, qn1, qn2, n01, n02, n12, m0, m1, m2, n21, n20, n10, U, cn1, p1H]; rfl, by simp [A], fun b e1 e2 => ?_⟩
              simp only [A, zO, AH.set_get, AH.push_get, AH.push_next, if_neg e1, if_neg e2]
              try (simp [e1, e2])
            · have cn2 : @LT.lt Int _ 1500 n := by rcases cn with h | h; exact absurd h cn1; exact h
              refine ⟨_, by simp [Try.f31, ldVar, stVar, spl, push_set3, hov, cells_one hov, qn0, qn1, qn2, n01, n02, n12, m0, m1, m2, n21, n20, n10, U, cn1, cn2, p1H]; rfl, by simp [A], fun b e1 e2 => ?_⟩
              simp only [A, zO, AH.set_get, AH.push_get, AH.push_next, if_neg e1, if_neg e2]
              try (simp [e1, e2])
          · have cn1 : ¬ (@LT.lt Int _ n 1) := fun e => cn (.inl e)
            have cn2 : ¬ (@LT.lt Int _ 1500 n) := fun e => cn (.inr e)
            have h0n : @LE.le Int _ 0 n := by omega
            obtain ⟨nN, hnN⟩ : ∃ j : Nat, n = (j : Int) := ⟨Int.toNat n, (Int.toNat_of_nonneg h0n).symm⟩
            subst hnN
            obtain ⟨c', h2, bo, a1, a2, a3, a4, a5, a6⟩ := pullS_ev hA hok (nN := nN) (by omega) (by omega) m (by omega)
            have hok2 := pullP_ok hok (nN : Int)
            have hst2 := hok2.st
            generalize pullP S (nN : Int) = R at *
            obtain ⟨S2, rc0, rs, ro, rx, rp, rq, rr⟩ := R
            obtain ⟨r, rfl, hr, j1, j2, j3⟩ := SendObs_out a4
            have hro := (tB_bs hr).1.one
            obtain ⟨vd, vi, g1, g2, g3, g4, g5, g6, g7, g8⟩ := step a2 a3 fun b hb => .inl hb
            simp only [A, zO] at a1 g2 g3
            simp only [sndD] at g1
            simp only at a2 hst2 g1 ⊢
            unfold DoRes
            rw [hEv]
            simp [Try.f31, ldVar, stVar, spl, push_set3, hov, cells_one hov, qn0, qn1, qn2, n01, n02, n12, m0, m1, m2, n21, n20, n10, U, cn1, cn2, p1H, a1, g1, g2, g3, hro, cells_one hro]
            have hg : ∀ X Y b, b ≠ H.next + 1 → b ≠ H.next + 1 + 1 → ((h2.set (H.next + 1 + 1) X).set (H.next + 1) Y).get b = h2.get b := fun X Y b e1 e2 => by rw [AH.set_get, if_neg e1, AH.set_get, if_neg e2]
            refine ⟨_, _, ⟨rfl, rfl⟩, bs, a2.same (by simp) fun b hb => hg _ _ b (fun e => nb 1 (by rw [← e]; exact hb)) (fun e => nb 2 (by rw [show H.next + 2 = H.next + 1 + 1 from rfl, ← e]; exact hb)), ⟨by simp; omega, fun b hbl hbb => ?_⟩, fun b hb => .inl hb, bo,
              SendObs_in (hr.stay (by simp) fun b hb => hg _ _ b (by have := a6 b hb; omega) (by have := a6 b hb; omega)) j1 (inI_small (by omega) (by omega)) j3, ?_, fun b hb => by have := a6 b hb; omega⟩
            · rw [hg _ _ b (by omega) (by omega)]
              exact g7.get b hbl hbb
            · exact List.nodup_append.2 ⟨h.nd, a5, fun y hy z hz e => by have := hmem y hy; have := a6 z hz; omega⟩
        · by_cases k5 : k = 5
          · subst k5
            rw [if_neg k1, if_neg k2, if_neg k3, if_neg k4, if_pos (.inl rfl)]
            simp only [decide_true]
            obtain ⟨h2, a1, a2, a3⟩ := heardS_ev (off := o) (n := n) (how := 2) (fin := f) (a := true) hA hok rfl m (by omega)
            obtain ⟨vd, vi, g1, g2, g3, g4, g5, g6, g7, g8⟩ := step a2 a3 fun b hb => .inl hb
            have hcode := heardP_code S o n f true
            refine doRes_of (heardP_ok hok o n f true) (heardP S o n f true).2 0 hcode (by omega) a2 g7 g8 g4 g5 g6 hmem ?_
            rw [hEv]
            simp only [A, zO] at a1 g2 g3
            simp only [sndD] at g1
            refine ⟨_, by simp [Try.f31, ldVar, stVar, spl, push_set3, hov, cells_one hov, qn0, qn1, qn2, n01, n02, n12, m0, m1, m2, n21, n20, n10, U, a1, g1, g2, g3]; rfl, by simp, fun b e1 e2 => by simp [AH.set_get, e1, e2]⟩
          · by_cases k6 : k = 6
            · subst k6
              rw [if_neg k1, if_neg k2, if_neg k3, if_neg k4, if_pos (.inr rfl)]
              have hd6 : decide (@Eq Int 6 5) = false := rfl
              simp only [hd6]
              obtain ⟨h2, a1, a2, a3⟩ := heardS_ev (off := o) (n := n) (how := 3) (fin := f) (a := false) hA hok rfl m (by omega)
              obtain ⟨vd, vi, g1, g2, g3, g4, g5, g6, g7, g8⟩ := step a2 a3 fun b hb => .inl hb
              have hcode := heardP_code S o n f false
              refine doRes_of (heardP_ok hok o n f false) (heardP S o n f false).2 0 hcode (by omega) a2 g7 g8 g4 g5 g6 hmem ?_
              rw [hEv]
              simp only [A, zO] at a1 g2 g3
              simp only [sndD] at g1
              refine ⟨_, by simp [Try.f31, ldVar, stVar, spl, push_set3, hov, cells_one hov, qn0, qn1, qn2, n01, n02, n12, m0, m1, m2, n21, n20, n10, U, a1, g1, g2, g3]; rfl, by simp, fun b e1 e2 => by simp [AH.set_get, e1, e2]⟩
            · have p1 : ∃ vd vi, A.get q = some (.cells 73 false (sndD S vd vi)) := by obtain ⟨⟨vd, vi, bd, bi, g1, _⟩, _, _⟩ := id hA; exact ⟨vd, vi, g1⟩
              obtain ⟨vd0, vi0, p1⟩ := p1
              have p1H : H.get q = some (.cells 73 false (sndD S vd0 vi0)) := by rw [← KA.get q hq]; exact p1
              simp only [sndD] at p1H
              have hlive := liveS_ev hA hok m (by omega)
              simp only [A, zO] at hlive
              have hst := hok.st
              have hnx := hok.nx
              have hdl := hok.len
              obtain ⟨vdA, viA, gA1', gA2', gA3', gA4', gA5', gA6', gA7', gA8'⟩ := step hA (KoS.refl _ _) fun b hb => .inl hb
              by_cases k7 : k = 7
              · subst k7
                rw [if_neg k1, if_neg k2, if_neg k3, if_neg k4, if_neg (by simp), if_pos rfl]
                by_cases cs : 2 < S.st
                · rw [if_pos cs]
                  have cl : ¬ (S.st ≤ 2) := by omega
                  simp only [cl, decide_false] at hlive
                  refine doRes_of hok 7 0 (by omega) (by omega) hA gA7' gA8' gA4' gA5' gA6' hmem ?_
                  rw [hEv]
                  refine ⟨_, by simp [Try.f31, ldVar, stVar, spl, push_set3, hov, cells_one hov, qn0, qn1, qn2, n01, n02, n12, m0, m1, m2, n21, n20, n10, U, hlive, p1H]; rfl, by simp [A], fun b e1 e2 => ?_⟩
                  simp only [A, zO, AH.set_get, AH.push_get, AH.push_next, if_neg e1, if_neg e2]
                  try (simp [e1, e2])
                · rw [if_neg cs]
                  have cl : S.st ≤ 2 := by omega
                  simp only [cl, decide_true] at hlive
                  obtain ⟨vd1, vi1, r1, _, _, _, _, r2, r3⟩ := hA.put (S' := { S with st := 4 }) rfl rfl
                  obtain ⟨vd, vi, g1, g2, g3, g4, g5, g6, g7, g8⟩ := step r2 r3 fun b hb => .inl hb
                  have r1H : H.get q = some (.cells 73 false (sndD S vd1 vi1)) := by rw [← KA.get q hq]; exact r1
                  simp only [sndD] at r1H
                  refine doRes_of (S' := { S with st := 4 }) ⟨(by decide : (0 : Int) ≤ 4 ∧ (4 : Int) ≤ 5), hok.cr, hok.nx, hok.len, hok.how, hok.fn, hok.hw, hok.fi⟩ 0 S.nx (by omega) (by omega) r2 g7 g8 g4 g5 g6 hmem ?_
                  rw [hEv]
                  refine ⟨_, by simp [Try.f31, ldVar, stVar, spl, push_set3, hov, cells_one hov, qn0, qn1, qn2, n01, n02, n12, m0, m1, m2, n21, n20, n10, U, hlive, r1H]; rfl, by simp [A], fun b e1 e2 => ?_⟩
                  simp only [A, sndD, zO, AH.set_get, AH.push_get, AH.push_next, if_neg e1, if_neg e2]
                  try (by_cases e3 : b = q <;> simp [e3, e1, e2])
              · by_cases k8 : k = 8
                · subst k8
                  rw [if_neg k1, if_neg k2, if_neg k3, if_neg k4, if_neg (by simp), if_neg k7, if_pos rfl]
                  by_cases cs : S.st = 4
                  · rw [if_neg (by simpa using cs)]
                    obtain ⟨vd1, vi1, r1, _, _, _, _, r2, r3⟩ := hA.put (S' := { S with st := 5 }) rfl rfl
                    obtain ⟨vd, vi, g1, g2, g3, g4, g5, g6, g7, g8⟩ := step r2 r3 fun b hb => .inl hb
                    have r1H : H.get q = some (.cells 73 false (sndD S vd1 vi1)) := by rw [← KA.get q hq]; exact r1
                    simp only [sndD, cs] at r1H
                    refine doRes_of (S' := { S with st := 5 }) ⟨(by decide : (0 : Int) ≤ 5 ∧ (5 : Int) ≤ 5), hok.cr, hok.nx, hok.len, hok.how, hok.fn, hok.hw, hok.fi⟩ 0 0 (by omega) (by omega) r2 g7 g8 g4 g5 g6 hmem ?_
                    rw [hEv]
                    refine ⟨_, by simp [Try.f31, ldVar, stVar, spl, push_set3, hov, cells_one hov, qn0, qn1, qn2, n01, n02, n12, m0, m1, m2, n21, n20, n10, U, r1H]; rfl, by simp [A], fun b e1 e2 => ?_⟩
                    simp only [A, sndD, zO, AH.set_get, AH.push_get, AH.push_next, if_neg e1, if_neg e2]
                    try (by_cases e3 : b = q <;> simp [e3, e1, e2])
                  · rw [if_pos (by simpa using cs)]
                    refine doRes_of hok 7 0 (by omega) (by omega) hA gA7' gA8' gA4' gA5' gA6' hmem ?_
                    rw [hEv]
                    refine ⟨_, by simp [Try.f31, ldVar, stVar, spl, push_set3, hov, cells_one hov, qn0, qn1, qn2, n01, n02, n12, m0, m1, m2, n21, n20, n10, U, p1H, cs]; rfl, by simp [A], fun b e1 e2 => ?_⟩
                    simp only [A, zO, AH.set_get, AH.push_get, AH.push_next, if_neg e1, if_neg e2]
                    try (simp [e1, e2])
                · have hk56 : ¬ (k = 5 ∨ k = 6) := fun e => by rcases e with e | e; exact k5 e; exact k6 e
                  rw [if_neg k1, if_neg k2, if_neg k3, if_neg k4, if_neg hk56, if_neg k7, if_neg k8]
                  refine doRes_of hok 1 0 (by omega) (by omega) hA gA7' gA8' gA4' gA5' gA6' hmem ?_
                  rw [hEv]
                  refine ⟨_, by simp [Try.f31, ldVar, stVar, spl, push_set3, hov, cells_one hov, qn0, qn1, qn2, n01, n02, n12, m0, m1, m2, n21, n20, n10, U, p1H, k1, k2, k3, k4, k5, k6, k7, k8]; rfl, by simp [A], fun b e1 e2 => ?_⟩
                  simp only [A, zO, AH.set_get, AH.push_get, AH.push_next, if_neg e1, if_neg e2]
                  try (simp [e1, e2])
end Go.Ev

/- The specification's run of the sending part. -/
namespace Go.Ev
open Go Go.Proofs
set_option linter.unusedSimpArgs false
set_option linter.unusedVariables false

def RsInv (ops : List tSendOp.D) (s : AV) (H : AH) (d : Nat) (τ : Tm) (h : AH) : Prop :=
  ∃ (k : Nat) (S : Snd) (outs : List tSendObs.D) (bs bo : List Nat), k + d = ops.length ∧ τ 0 = s ∧ τ 4 = .ptr H.next 0 ∧ τ 6 = .int .i64 k ∧ SndS h H.next S bs ∧ S.ok ∧ (Ty.sl 75 tSendObs).R true h [τ 5] outs bo ∧
    (bs ++ bo).Nodup ∧ (∀ b ∈ bs ++ bo, H.next ≤ b) ∧ Kp H h ∧ outs ++ runP S (ops.drop k) = runP Snd0 ops ∧ outs.length = k
theorem runLoopS {Hb H h0 : AH} {s : AV} {ops : List tSendOp.D} {bx : List Nat} {rw : Bool} (hd : (Ty.sl 77 tSendOp).R rw Hb [s] ops bx) (hKb : Kp Hb H) (hlen : ops.length ≤ 400) (hob : ∀ d ∈ ops, opBytes d ≤ 1048576) (m : Nat) (hm : 65700 ≤ m) (τ : Tm) (hI : RsInv ops s H ops.length τ h0) :
    ∃ e τ' H', evLoop Try.prog (ev Try.prog m) m (lp Try.prog 7 250) τ h0 = some (e, τ', H') ∧ e = .exit 0 ∧ RsInv ops s H 0 τ' H' := by
  have hL := Ty.R.lenA hd (P := Try.prog) (T := 27) (by simp)
  refine loop_rule (d := ops.length) (RsInv ops s H) (fun e τ h => e = .exit 0 ∧ RsInv ops s H 0 τ h) ?_ hI (by omega)
  rintro d τ h ⟨k, S, outs, bs, bo, hk, t0, t4, t6, hS, hok, hR, hnd, hlo, hK, hrun, hol⟩
  generalize t5 : τ 5 = v at *
  by_cases hd0 : d = 0
  · subst hd0
    have hkn : (k : Int) = ops.length := by omega
    rewrite [lp7_250]
    simp [Try.f7, t0, t6, hL, hkn]
    exact ⟨k, S, outs, bs, bo, hk, t0, t4, t6, hS, hok, by simpa [t5] using hR, hnd, hlo, hK, hrun, hol⟩
  · have hlt : k < ops.length := by omega
    have hKK := hKb.trans hK
    obtain ⟨b, o, ro, x1, c, x2, bk, u1, u2, u3, u4, u5, u6, u7, u8⟩ := Ty.R.at_ (hd.kp hKK) (P := Try.prog) (T := 27) (by simp) (by simp [Ty.n]) (k := k) hlt
    have hld := ld_midA0 (P := Try.prog) (T := 77) (n := 5) u3 u4 (by simp) (by simp) (by simpa [Ty.n] using u5.len)
    obtain ⟨c', h2, bs2, bo2, v1, v2, v3, v4, v5, v6, v7⟩ := doS_ev hS hok u5 (Kp.refl h) (hob _ (List.getElem_mem hlt)) m (by omega)
    have hin : InI (ops[k]).2.2.1 := by
      generalize ops[k] = op at *
      obtain ⟨a1, a2, a3, a4, a5⟩ := op
      obtain ⟨_, _, _, _, _, h3⟩ := SendOp_out u5
      exact h3
    have hok2 := doP_ok hok ops[k] hin
    have hrun2 : (outs ++ [(doP S ops[k]).2]) ++ runP (doP S ops[k]).1 (ops.drop (k + 1)) = runP Snd0 ops := by
      rw [← hrun, List.drop_eq_getElem_cons hlt, runP, List.append_assoc]; rfl
    generalize doP S ops[k] = R at *
    obtain ⟨S2, r1, r2, r3, r4, r5, r6, r7⟩ := R
    obtain ⟨rv, rfl, hr, _⟩ := SendObs_out v5
    have hrv := (tB_bs hr).1.one
    have hnd' := List.nodup_append.1 hnd
    have hmo := hR.mem
    have hR2 : (Ty.sl 75 tSendObs).R true h2 [v] outs bo := hR.koS v3 fun y hy hyb => hnd'.2.2 y hyb y hy rfl
    have hnd2 : (bo ++ bo2).Nodup := List.nodup_append.2 ⟨hnd'.2.1, (List.nodup_append.1 v6).2.1, fun y hy z hz e => by have := hmo y hy; have := v7 z hz; omega⟩
    have hl1 : (outs.length + 1) * 56 ≤ 70368744177664 := by omega
    obtain ⟨v', h3, bo3, w1, w2, w3, w4, w5⟩ := Ty.R.app1 (P := Try.prog) (T := 24) hR2 v5 hnd2 (by simp) (by simp) (by simp [Ty.n]) (by_ := 56) (by simp) (z := zO) (by simp [zO]) (by simp [zO, Ty.n]) hl1 (by omega)
    have hS3 : SndS h3 H.next S2 bs2 := v2.same w5.next fun y hy => w5.get y (v2.mem y hy) fun hyo => by
      rcases v4 y hy with h | h
      · exact hnd'.2.2 y h y hyo rfl
      · have := hmo y hyo; omega
    have hwi := wrap_i64 (n := (k : Int) + 1) (by omega) (by omega)
    rewrite [lp7_250]
    simp [Try.f7, t0, t4, t5, t6, hL, hlt, u1, hld, v1, zerosA, spl, hrv, cells_one hrv, w1, hwi]
    refine ⟨d - 1, by omega, k + 1, S2, _, bs2, bo3, by omega, by simp [t0], by simp [t4], by simp, hS3, hok2, by simpa using w2, ?_, ?_, ?_, hrun2, by simp [hol]⟩
    · refine List.nodup_append.2 ⟨(List.nodup_append.1 v6).1, w3, fun y hy z hz e => ?_⟩
      subst e
      have hyl := v2.mem y hy
      rcases w4 y hz with h | h | h
      · have hyo := hmo y h
        rcases v4 y hy with g | g
        · exact hnd'.2.2 y g y h rfl
        · omega
      · exact (List.nodup_append.1 v6).2.2 y hy y h rfl
      · omega
    · intro y hy
      rcases List.mem_append.1 hy with hy | hy
      · rcases v4 y hy with g | g
        · exact hlo y (by simp [g])
        · have := hK.next; omega
      · rcases w4 y hy with g | g | g
        · exact hlo y (by simp [g])
        · have := v7 y g; have := hK.next; omega
        · have := hK.next; have := v3.next; omega
    · exact w5.kp (v3.kp hK fun y hy => hlo y (by simp [hy])) fun y hy => hlo y (by simp [hy])
/-- what a run answers -/
def RunP (ops : List tSendOp.D) : List tSendObs.D × Int := if 400 < ops.length then ([], 4) else (runP Snd0 ops, 0)
theorem runS_ev {Hb H : AH} {s : AV} {ops : List tSendOp.D} {bx : List Nat} {rw : Bool} (hd : (Ty.sl 77 tSendOp).R rw Hb [s] ops bx) (hKb : Kp Hb H) (hob : ∀ d ∈ ops, opBytes d ≤ 1048576) (m : Nat) (hm : 65710 ≤ m) :
    ∃ r H' br, ev Try.prog m 7 [s] H = some (.tuple [r, .int .i64 (RunP ops).2], H') ∧ Kp H H' ∧ (Ty.sl 75 tSendObs).R true H' [r] (RunP ops).1 br ∧ br.Nodup ∧ ∀ b ∈ br, H.next ≤ b := by
  obtain ⟨m, rfl⟩ : ∃ k, m = k + 1 := ⟨m - 1, by omega⟩
  have hL := Ty.R.lenA hd (P := Try.prog) (T := 27) (by simp)
  rw [ev_eq Try.func7 ok7 m _ H (by simp [Try.f7])]
  unfold RunP
  by_cases c : 400 < ops.length
  · have c' : (400 : Int) < ops.length := by omega
    rw [if_pos c]
    simp [Try.f7, hL, c', zerosA]
    exact ⟨_, _, ⟨rfl, rfl⟩, (Kp.refl H).push _, [H.next], .inr ⟨H.next, 0, false, [], [], rfl, rfl, by simp, by simp, fun _ => ⟨rfl, rfl, by simp⟩, by simp, rfl, rfl⟩, by simp, by simp⟩
  · have c' : ¬ ((400 : Int) < ops.length) := by omega
    rw [if_neg c]
    simp [Try.f7, hL, c', zerosA]
    generalize hLo : evLoop _ _ _ _ _ _ = R
    have hS0 : SndS ((H.push (.cells 73 false [.int .i64 0, .int .i64 0, .int .i64 0, .int .i64 0, .bool false, .nilSlice, .nilSlice])).push (.cells 75 false [])) H.next Snd0 [H.next] :=
      ⟨⟨.nilSlice, .nilSlice, [], [], by simp [sndD, Snd0], .inl ⟨rfl, rfl, rfl⟩, .inl ⟨rfl, rfl, rfl⟩, rfl⟩, by simp, by simp; omega⟩
    have hO0 : (Ty.sl 75 tSendObs).R true ((H.push (.cells 73 false [.int .i64 0, .int .i64 0, .int .i64 0, .int .i64 0, .bool false, .nilSlice, .nilSlice])).push (.cells 75 false [])) [.slice (H.next + 1) 0 0] [] [H.next + 1] :=
      .inr ⟨H.next + 1, 0, false, [], [], rfl, rfl, by simp, by simp, fun _ => ⟨rfl, rfl, by simp⟩, by simp, rfl, rfl⟩
    obtain ⟨e, τ', H', rfl, rfl, k, S, outs, bs, bo, hk, t0, t4, t6, hS, hok, hR, hnd, hlo, hK, hrun, hol⟩ := loop_at hLo (runLoopS hd hKb (by omega) hob m (by omega) _ ⟨0, Snd0, [], [H.next], [H.next + 1], by simp, by simp, by simp, by simp, hS0, Snd0_ok, by simpa using hO0, by simp, by simp, ((Kp.refl H).push _).push _, rfl, rfl⟩)
    have hkl : k = ops.length := by omega
    subst hkl
    rw [List.drop_length] at hrun
    have hrun' : outs = runP Snd0 ops := by rw [← hrun]; simp [runP]
    subst hrun'
    simp
    exact ⟨_, _, ⟨rfl, rfl⟩, hK, bo, hR, (List.nodup_append.1 hnd).2.1, fun b hb => hlo b (by simp [hb])⟩
end Go.Ev

/- The program's run of the sending part: what closes a round. -/
namespace Go.Ev
open Go Go.Proofs
set_option linter.unusedSimpArgs false
set_option linter.unusedVariables false

/-- what the run knows ahead of a round -/
structure RnI (H : AH) (q : Nat) (S : Snd) (v : AV) (outs : List tSendObs.D) (bs bo : List Nat) (h : AH) : Prop where
  snd : SndI h q S bs
  ok : S.ok
  out : (Ty.sl 75 tSendObs).R true h [v] outs bo
  nd : (bs ++ bo).Nodup
  lo : ∀ b ∈ bs ++ bo, H.next ≤ b
  kp : Kp H h
/-- hX: the memory ahead of the append; the answer's cells c show obs -/
theorem RnI.close {H h hX : AH} {q : Nat} {S S2 : Snd} {v : AV} {outs : List tSendObs.D} {bs bo bs2 bo2 : List Nat} (g : RnI H q S v outs bs bo h) (hS : SndI hX q S2 bs2) (hok : S2.ok) (hK : KoS bs h hX) (hb : ∀ b ∈ bs2, b ∈ bs ∨ h.next ≤ b)
    {c : List AV} {obs : tSendObs.D} (hc : tSendObs.R true hX c obs bo2) (hn2 : (bs2 ++ bo2).Nodup) (hlo2 : ∀ b ∈ bo2, h.next ≤ b) (hl : outs.length ≤ 100000) :
    ∃ v' h3 bo3, appA Try.prog 24 24 v (.slice hX.next 0 1) (hX.push (.cells 75 false c)) = some (v', h3) ∧ RnI H q S2 v' (outs ++ [obs]) bs2 bo3 h3 := by
  have hnd' := List.nodup_append.1 g.nd
  have hmo := g.out.mem
  have hR2 : (Ty.sl 75 tSendObs).R true hX [v] outs bo := g.out.koS hK fun y hy hyb => hnd'.2.2 y hyb y hy rfl
  have hnd2 : (bo ++ bo2).Nodup := List.nodup_append.2 ⟨hnd'.2.1, (List.nodup_append.1 hn2).2.1, fun y hy z hz e => by have := hmo y hy; have := hlo2 z hz; omega⟩
  have hl1 : (outs.length + 1) * 56 ≤ 70368744177664 := by omega
  obtain ⟨v', h3, bo3, w1, w2, w3, w4, w5⟩ := Ty.R.app1 (P := Try.prog) (T := 24) hR2 hc hnd2 (by simp) (by simp) (by simp [Ty.n]) (by_ := 56) (by simp) (z := zO) (by simp [zO]) (by simp [zO, Ty.n]) hl1 (by omega)
  have hS3 : SndI h3 q S2 bs2 := hS.same w5.next fun y hy => w5.get y (hS.mem y hy) fun hyo => by
    rcases hb y hy with h | h
    · exact hnd'.2.2 y h y hyo rfl
    · have := hmo y hyo; omega
  refine ⟨v', h3, bo3, w1, hS3, hok, w2, ?_, ?_, ?_⟩
  · refine List.nodup_append.2 ⟨(List.nodup_append.1 hn2).1, w3, fun y hy z hz e => ?_⟩
    subst e
    have hyl := hS.mem y hy
    rcases w4 y hz with h | h | h
    · have hyo := hmo y h
      rcases hb y hy with k | k
      · exact hnd'.2.2 y k y h rfl
      · omega
    · exact (List.nodup_append.1 hn2).2.2 y hy y h rfl
    · omega
  · intro y hy
    rcases List.mem_append.1 hy with hy | hy
    · rcases hb y hy with k | k
      · exact g.lo y (by simp [k])
      · have := g.kp.next; omega
    · rcases w4 y hy with k | k | k
      · exact g.lo y (by simp [k])
      · have := hlo2 y k; have := g.kp.next; omega
      · have := g.kp.next; have := hK.next; omega
  · exact w5.kp (hK.kp g.kp fun y hy => g.lo y (by simp [hy])) fun y hy => g.lo y (by simp [hy])
/-- where no bytes are answered: hX agrees with h2 but for the two blocks of this round -/
theorem RnI.code {H h h2 hX : AH} {q : Nat} {S S2 : Snd} {v : AV} {outs : List tSendObs.D} {bs bo bs2 : List Nat} (g : RnI H q S v outs bs bo h) (hS : SndI h2 q S2 bs2) (hok : S2.ok) (hK : KoS bs h h2) (hb : ∀ b ∈ bs2, b ∈ bs ∨ h.next + 2 ≤ b)
    (hn : h2.next ≤ hX.next) (hn2 : h.next + 2 ≤ h2.next) (hg : ∀ b, b ≠ h.next → b ≠ h.next + 1 → hX.get b = h2.get b) (k o : Int) (hk : 0 ≤ k ∧ k ≤ 13) (ho : 0 ≤ o ∧ o ≤ 65536) (hl : outs.length ≤ 100000) :
    ∃ v' h3 bo3, appA Try.prog 24 24 v (.slice hX.next 0 1) (hX.push (.cells 75 false [.int .i64 k, .int .i64 S2.st, .int .i64 o, .nilSlice, .bool false, .bool false, .bool false])) = some (v', h3) ∧
      RnI H q S2 v' (outs ++ [(k, S2.st, o, [], false, false, false)]) bs2 bo3 h3 := by
  have hst := hok.st
  have hbm := g.snd.mem
  have hb1 : ∀ b ∈ bs2, b ≠ h.next ∧ b ≠ h.next + 1 := fun b hbb => by
    rcases hb b hbb with e | e
    · have := hbm b e; omega
    · omega
  refine g.close (hS.same hn fun b hbb => hg b (hb1 b hbb).1 (hb1 b hbb).2) hok ⟨by have := hK.next; omega, fun b hbl hbb => ?_⟩ (fun b hbb => ?_)
    (SendObs_in (.inl ⟨rfl, rfl, rfl⟩) (inI_small (by omega) (by omega)) (inI_small (by omega) (by omega)) (inI_small (by omega) (by omega))) (by simpa using hS.nd) (by simp) hl
  · rw [hg b (by omega) (by omega)]; exact hK.get b hbl hbb
  · rcases hb b hbb with e | e
    · exact .inl e
    · exact .inr (by omega)
end Go.Ev

/- The program's run of the sending part: one round (under way). -/
namespace Go.Ev
open Go Go.Proofs
set_option linter.unusedSimpArgs false
set_option linter.unusedVariables false

def RnInv (ops : List tSendOp.D) (s : AV) (H : AH) (d : Nat) (τ : Tm) (h : AH) : Prop :=
  ∃ (k : Nat) (S : Snd) (outs : List tSendObs.D) (bs bo : List Nat), k + d = ops.length ∧ τ 15 = s ∧ τ 16 = .int .i64 ops.length ∧ τ 4 = .ptr H.next 0 ∧ τ 17 = .int .i64 k ∧ RnI H H.next S (τ 5) outs bs bo h ∧ outs ++ runP S (ops.drop k) = runP Snd0 ops ∧ outs.length = k
set_option maxRecDepth 30000 in
theorem runLoopI {Hb H h0 : AH} {s : AV} {ops : List tSendOp.D} {bx : List Nat} {rw : Bool} (hd : (Ty.sl 77 tSendOp).R rw Hb [s] ops bx) (hKb : Kp Hb H) (hlen : ops.length ≤ 400) (hob : ∀ d ∈ ops, opBytes d ≤ 1048576) (m : Nat) (hm : 65700 ≤ m) (τ : Tm) (hI : RnInv ops s H ops.length τ h0) :
    ∃ e τ' H', evLoop Try.prog (ev Try.prog m) m (lp Try.prog 9 250) τ h0 = some (e, τ', H') ∧ e = .exit 0 ∧ RnInv ops s H 0 τ' H' := by
  refine loop_rule (d := ops.length) (RnInv ops s H) (fun e τ h => e = .exit 0 ∧ RnInv ops s H 0 τ h) ?_ hI (by omega)
  rintro d τ h ⟨j, S, outs, bs, bo, hj, t15, t16, t4, t17, g, hrun, hol⟩
  by_cases hd0 : d = 0
  · subst hd0
    have hkn : (j : Int) = ops.length := by omega
    rewrite [lp9_250]
    simp [Try.f9, t16, t17, hkn]
    exact ⟨j, S, outs, bs, bo, hj, t15, t16, t4, t17, g, hrun, hol⟩
  · have hlt : j < ops.length := by omega
    have hKK := hKb.trans g.kp
    generalize t5 : τ 5 = v at *
    obtain ⟨b, oo, ro, x1, c, x2, bk, u1, u2, u3, u4, u5, u6, u7, u8⟩ := Ty.R.at_ (hd.kp hKK) (P := Try.prog) (T := 27) (by simp) (by simp [Ty.n]) (k := j) hlt
    have hld := ld_midA0 (P := Try.prog) (T := 77) (n := 5) u3 u4 (by simp) (by simp) (by simpa [Ty.n] using u5.len)
    have hobj := hob _ (List.getElem_mem hlt)
    have hrun2 : (outs ++ [(doP S ops[j]).2]) ++ runP (doP S ops[j]).1 (ops.drop (j + 1)) = runP Snd0 ops := by
      rw [← hrun, List.drop_eq_getElem_cons hlt, runP, List.append_assoc]; rfl
    generalize ops[j] = op at *
    obtain ⟨k, o, n, x, f⟩ := op
    obtain ⟨vx, rfl, hx, i1, i2, i3⟩ := SendOp_out u5
    have hlx : x.length ≤ 1048576 := hobj
    have hov := (tB_bs hx).1.one
    have hld2 := hld
    simp only [ldVar, tyA77, tyS77] at hld2
    let A : AH := (h.push (.cells 77 false [.int .i64 k, .int .i64 o, .int .i64 n, vx, .bool f])).push (.cells 75 false zO)
    have KA : Kp h A := ((Kp.refl h).push _).push _
    have hA := g.snd.kp KA
    have nA : A.next = h.next + 2 := rfl
    have hq := g.snd.lt
    have hbm := g.snd.mem
    have nb : ∀ i, h.next + i ∉ bs := fun i e => by have := hbm _ e; omega
    have qn0 : ¬ (H.next = h.next) := by omega
    have qn1 : ¬ (H.next = h.next + 1) := by omega
    have m0 : ¬ (h.next = H.next) := by omega
    have m1 : ¬ (h.next + 1 = H.next) := by omega
    have n01 : ¬ (h.next = h.next + 1) := by omega
    have n10 : ¬ (h.next + 1 = h.next) := by omega
    have gA0 : A.get h.next = some (.cells 77 false [.int .i64 k, .int .i64 o, .int .i64 n, vx, .bool f]) := by simp [A]
    have gA1 : A.get (h.next + 1) = some (.cells 75 false zO) := by simp [A]
    have hwj := wrap_i64 (n := (j : Int) + 1) (by omega) (by omega)
    have fin : ∀ {S2 : Snd × tSendObs.D} {v' : AV} {bs2 bo3 : List Nat} {h3 : AH} (τ' : Tm), doP S (k, o, n, x, f) = (S2.1, S2.2) → RnI H H.next S2.1 v' (outs ++ [S2.2]) bs2 bo3 h3 → τ' 15 = s → τ' 16 = .int .i64 ops.length → τ' 4 = .ptr H.next 0 → τ' 17 = .int .i64 ((j : Int) + 1) → τ' 5 = v' → ∃ d', d' < d ∧ RnInv ops s H d' τ' h3 := fun {S2 v' bs2 bo3 h3} τ' hdo hg a1 a2 a3 a4 a5 => by
      rw [hdo] at hrun2
      exact ⟨d - 1, by omega, j + 1, S2.1, outs ++ [S2.2], bs2, bo3, by omega, a1, a2, a3, by rw [a4]; push_cast; rfl, by rw [a5]; exact hg, hrun2, by simp [hol]⟩
    have step : ∀ {h2 : AH} {bs2 : List Nat} {S2 : Snd}, SndI h2 H.next S2 bs2 → KoS bs A h2 → (∀ b ∈ bs2, b ∈ bs ∨ A.next ≤ b) →
        ∃ vd vi, h2.get H.next = some (.cells 81 false (sndC S2 vd vi)) ∧ h2.get h.next = some (.cells 77 false [.int .i64 k, .int .i64 o, .int .i64 n, vx, .bool f]) ∧ h2.get (h.next + 1) = some (.cells 75 false zO) ∧ h.next + 2 ≤ h2.next ∧ KoS bs h h2 := fun {h2 bs2 S2} hS hK hb => by
      obtain ⟨⟨vd, vi, bd, bi, g1, _⟩, _, _⟩ := id hS
      refine ⟨vd, vi, g1, ?_, ?_, by have := hK.next; omega, (KA.koS bs).trans hK fun b hb => .inl hb⟩
      · rw [hK.get h.next (by omega) (nb 0)]; exact gA0
      · rw [hK.get _ (by omega) (nb 1)]; exact gA1
    by_cases k1 : k = 1
    · subst k1
      obtain ⟨h2, bs2, a1, a2, a3, a4⟩ := writeI_ev hA g.ok (hx.kp KA) hlx m (by omega)
      obtain ⟨vd, vi, g1, g2, g3, g4, g5⟩ := step a2 a3 a4
      have hcode := writeP_code S x
      obtain ⟨v', h3, bo3, w1, w2⟩ := g.code (hX := h2.set (h.next + 1) (.cells 75 false [.int .i64 (writeP S x).2, .int .i64 (writeP S x).1.st, .int .i64 0, .nilSlice, .bool false, .bool false, .bool false])) a2 (writeP_ok g.ok x) g5 (fun b hb => a4 b hb) (by simp) g4 (fun b e1 e2 => by rw [AH.set_get, if_neg e2]) (writeP S x).2 0 hcode (by omega) (by omega)
      simp only [A, zO] at a1 g3
      simp only [sndC] at g1
      simp only [AH.set_next] at w1
      rewrite [lp9_250]
      simp [Try.f9, t4, t5, t15, t16, t17, hlt, u1, hld2, ldVar, stVar, spl, hov, cells_one hov, qn0, qn1, m0, m1, n01, n10, push_set2, a1, g1, g2, g3, w1, zerosA, hwj, U]
      exact fin _ (S2 := ((writeP S x).1, ((writeP S x).2, (writeP S x).1.st, 0, [], false, false, false))) (by simp [doP]) w2 (by simp [t15]) (by simp [t16]) (by simp [t4]) (by simp) (by simp)
    · by_cases k2 : k = 2
      · subst k2
        obtain ⟨h2, a1, a2, a3⟩ := finI_ev hA m (by omega)
        obtain ⟨vd, vi, g1, g2, g3, g4, g5⟩ := step a2 a3 fun b hb => .inl hb
        have hcode := finP_code S
        obtain ⟨v', h3, bo3, w1, w2⟩ := g.code (hX := h2.set (h.next + 1) (.cells 75 false [.int .i64 (finP S).2, .int .i64 (finP S).1.st, .int .i64 0, .nilSlice, .bool false, .bool false, .bool false])) a2 (finP_ok g.ok) g5 (fun b hb => .inl hb) (by simp) g4 (fun b e1 e2 => by rw [AH.set_get, if_neg e2]) (finP S).2 0 hcode (by omega) (by omega)
        simp only [A, zO] at a1 g3
        simp only [sndC] at g1
        simp only [AH.set_next] at w1
        rewrite [lp9_250]
        simp [Try.f9, t4, t5, t15, t16, t17, hlt, u1, hld2, ldVar, stVar, spl, hov, cells_one hov, qn0, qn1, m0, m1, n01, n10, push_set2, zerosA, hwj, U, a1, g1, g2, g3, w1]
        exact fin _ (S2 := ((finP S).1, ((finP S).2, (finP S).1.st, 0, [], false, false, false))) (by simp [doP]) w2 (by simp [t15]) (by simp [t16]) (by simp [t4]) (by simp) (by simp)
      · by_cases k5 : k = 5
        · subst k5
          obtain ⟨h2, a1, a2, a3⟩ := heardI_ev (off := o) (n := n) (fin := f) (a := true) hA g.ok m (by omega)
          obtain ⟨vd, vi, g1, g2, g3, g4, g5⟩ := step a2 a3 fun b hb => .inl hb
          have hcode := heardP_code S o n f true
          obtain ⟨v', h3, bo3, w1, w2⟩ := g.code (hX := h2.set (h.next + 1) (.cells 75 false [.int .i64 (heardP S o n f true).2, .int .i64 (heardP S o n f true).1.st, .int .i64 0, .nilSlice, .bool false, .bool false, .bool false])) a2 (heardP_ok g.ok o n f true) g5 (fun b hb => .inl hb) (by simp) g4 (fun b e1 e2 => by rw [AH.set_get, if_neg e2]) (heardP S o n f true).2 0 hcode (by omega) (by omega)
          simp only [A, zO] at a1 g3
          simp only [sndC] at g1
          simp only [AH.set_next] at w1
          rewrite [lp9_250]
          simp [Try.f9, t4, t5, t15, t16, t17, hlt, u1, hld2, ldVar, stVar, spl, hov, cells_one hov, qn0, qn1, m0, m1, n01, n10, push_set2, zerosA, hwj, U, a1, g1, g2, g3, w1]
          exact fin _ (S2 := ((heardP S o n f true).1, ((heardP S o n f true).2, (heardP S o n f true).1.st, 0, [], false, false, false))) (by simp [doP]) w2 (by simp [t15]) (by simp [t16]) (by simp [t4]) (by simp) (by simp)
        · by_cases k6 : k = 6
          · subst k6
            obtain ⟨h2, a1, a2, a3⟩ := heardI_ev (off := o) (n := n) (fin := f) (a := false) hA g.ok m (by omega)
            obtain ⟨vd, vi, g1, g2, g3, g4, g5⟩ := step a2 a3 fun b hb => .inl hb
            have hcode := heardP_code S o n f false
            obtain ⟨v', h3, bo3, w1, w2⟩ := g.code (hX := h2.set (h.next + 1) (.cells 75 false [.int .i64 (heardP S o n f false).2, .int .i64 (heardP S o n f false).1.st, .int .i64 0, .nilSlice, .bool false, .bool false, .bool false])) a2 (heardP_ok g.ok o n f false) g5 (fun b hb => .inl hb) (by simp) g4 (fun b e1 e2 => by rw [AH.set_get, if_neg e2]) (heardP S o n f false).2 0 hcode (by omega) (by omega)
            simp only [A, zO] at a1 g3
            simp only [sndC] at g1
            simp only [AH.set_next] at w1
            rewrite [lp9_250]
            simp [Try.f9, t4, t5, t15, t16, t17, hlt, u1, hld2, ldVar, stVar, spl, hov, cells_one hov, qn0, qn1, m0, m1, n01, n10, push_set2, zerosA, hwj, U, a1, g1, g2, g3, w1]
            exact fin _ (S2 := ((heardP S o n f false).1, ((heardP S o n f false).2, (heardP S o n f false).1.st, 0, [], false, false, false))) (by simp [doP]) w2 (by simp [t15]) (by simp [t16]) (by simp [t4]) (by simp) (by simp)
          · by_cases k4 : k = 4
            · subst k4
              obtain ⟨c', h2, bo2, a1, a2, a3, a4, a5, a6⟩ := pullI_ev hA g.ok n m (by omega)
              have hok2 := pullP_ok g.ok n
              have hst2 := hok2.st
              have hdo : doP S (4, o, n, x, f) = ((pullP S n).1, ((pullP S n).2.1, (pullP S n).1.st, (pullP S n).2.2.2)) := by simp [doP]
              generalize pullP S n = R at *
              obtain ⟨S2, rc0, rs, rro, rx, rp, rq, rr⟩ := R
              simp only at a2 hok2 hst2 hdo
              obtain ⟨r, rfl, hr, j1, j2, j3⟩ := SendObs_out a4
              have hro := (tB_bs hr).1.one
              obtain ⟨vd, vi, g1, g2, g3, g4, g5⟩ := step a2 a3 fun b hb => .inl hb
              have hgX : ∀ b, b ≠ h.next + 1 → (h2.set (h.next + 1) (.cells 75 false [.int .i64 rc0, .int .i64 S2.st, .int .i64 rro, r, .bool rp, .bool rq, .bool rr])).get b = h2.get b := fun b e => by rw [AH.set_get, if_neg e]
              obtain ⟨v', h3, bo3, w1, w2⟩ := g.close (obs := (rc0, S2.st, rro, rx, rp, rq, rr)) (hX := h2.set (h.next + 1) (.cells 75 false [.int .i64 rc0, .int .i64 S2.st, .int .i64 rro, r, .bool rp, .bool rq, .bool rr])) (a2.same (by simp) fun b hb => hgX b fun e => nb 1 (by rw [← e]; exact hb)) hok2
                ⟨by have := g5.next; simpa using this, fun b hbl hbb => by rw [hgX b (by omega)]; exact g5.get b hbl hbb⟩ (fun b hb => .inl hb)
                (SendObs_in (hr.stay (by simp) fun b hb => hgX b (by have := a6 b hb; omega)) j1 (inI_small (n := S2.st) (by have := hst2.1; omega) (by have := hst2.2; omega)) j3) (List.nodup_append.2 ⟨(List.nodup_append.1 g.nd).1, a5, fun y hy z hz e => by have := hbm y hy; have := a6 z hz; omega⟩) (fun b hb => by have := a6 b hb; omega) (by omega)
              simp only [A, zO] at a1 g3
              simp only [sndC] at g1
              simp only [AH.set_next] at w1
              rewrite [lp9_250]
              simp [Try.f9, t4, t5, t15, t16, t17, hlt, u1, hld2, ldVar, stVar, spl, hov, cells_one hov, qn0, qn1, m0, m1, n01, n10, push_set2, zerosA, hwj, U, a1, g1, g2, g3, hro, cells_one hro, w1]
              exact fin _ (S2 := (S2, (rc0, S2.st, rro, rx, rp, rq, rr))) hdo w2 (by simp [t15]) (by simp [t16]) (by simp [t4]) (by simp) (by simp)
            · obtain ⟨vdS, viS, pA⟩ : ∃ vd vi, h.get H.next = some (.cells 81 false (sndC S vd vi)) := by obtain ⟨⟨vd, vi, bd, bi, g1, _⟩, _, _⟩ := id g.snd; exact ⟨vd, vi, g1⟩
              simp only [sndC] at pA
              have hst := g.ok.st
              have hnx := g.ok.nx
              have hdl := g.ok.len
              by_cases k3 : k = 3
              · subst k3
                have hcr := g.ok.cr
                by_cases cn : @LT.lt Int _ n 0
                · have hdo : doP S (3, o, n, x, f) = (S, (1, S.st, 0, [], false, false, false)) := by simp [doP, cn]
                  obtain ⟨v', h3, bo3, w1, w2⟩ := g.code (h2 := A) (hX := (h.push (.cells 77 false [.int .i64 3, .int .i64 o, .int .i64 n, vx, .bool f])).push (.cells 75 false [.int .i64 1, .int .i64 S.st, .int .i64 0, .nilSlice, .bool false, .bool false, .bool false])) hA g.ok (KA.koS bs) (fun b hb => .inl hb) (by simp [A]) (by simp [A]) (fun b e1 e2 => by simp only [A, AH.push_get, AH.push_next, if_neg e1, if_neg e2]) 1 0 (by omega) (by omega) (by omega)
                  simp only [AH.push_next] at w1
                  rewrite [lp9_250]
                  simp [Try.f9, t4, t5, t15, t16, t17, hlt, u1, hld2, ldVar, stVar, spl, hov, cells_one hov, qn0, qn1, m0, m1, n01, n10, push_set2, zerosA, hwj, U, cn, pA, w1]
                  exact fin _ (S2 := (S, (1, S.st, 0, [], false, false, false))) (by exact hdo) w2 (by simp [t15]) (by simp [t16]) (by simp [t4]) (by simp) (by simp)
                · have hok2 := doP_ok g.ok (3, o, n, x, f) i3
                  have hdo : doP S (3, o, n, x, f) = ({ S with cr := if S.cr < n then n else S.cr }, (0, S.st, 0, [], false, false, false)) := by simp [doP, cn]
                  rw [hdo] at hok2
                  obtain ⟨vd0, vi0, p1, o1, o2, p2, p3⟩ := hA.put (S' := { S with cr := if S.cr < n then n else S.cr }) rfl rfl
                  have p1H : h.get H.next = some (.cells 81 false (sndC S vd0 vi0)) := by rw [← KA.get H.next hq]; exact p1
                  simp only [sndC] at p1H
                  obtain ⟨vd, vi, g1, g2, g3, g4, g5⟩ := step p2 p3 fun b hb => .inl hb
                  obtain ⟨v', h3, bo3, w1, w2⟩ := g.code (hX := (A.set H.next (.cells 81 false (sndC { S with cr := if S.cr < n then n else S.cr } vd0 vi0))).set (h.next + 1) (.cells 75 false [.int .i64 0, .int .i64 ({ S with cr := if S.cr < n then n else S.cr }).st, .int .i64 0, .nilSlice, .bool false, .bool false, .bool false])) p2 hok2 g5 (fun b hb => .inl hb) (by simp) g4 (fun b e1 e2 => by rw [AH.set_get, if_neg e2]) 0 0 (by omega) (by omega) (by omega)
                  simp only [AH.set_next, AH.push_next, A, zO, sndC] at w1
                  rewrite [lp9_250]
                  simp [Try.f9, t4, t5, t15, t16, t17, hlt, u1, hld2, ldVar, stVar, spl, hov, cells_one hov, qn0, qn1, m0, m1, n01, n10, push_set2, zerosA, hwj, U, cn, p1H, w1]
                  exact fin _ (S2 := ({ S with cr := if S.cr < n then n else S.cr }, (0, ({ S with cr := if S.cr < n then n else S.cr }).st, 0, [], false, false, false))) (by exact hdo) w2 (by simp [t15]) (by simp [t16]) (by simp [t4]) (by simp) (by simp)
              · by_cases k7 : k = 7
                · subst k7
                  by_cases cs : 2 < S.st
                  · have hdo : doP S (7, o, n, x, f) = (S, (7, S.st, 0, [], false, false, false)) := by simp [doP, cs]
                    obtain ⟨v', h3, bo3, w1, w2⟩ := g.code (h2 := A) (hX := (h.push (.cells 77 false [.int .i64 7, .int .i64 o, .int .i64 n, vx, .bool f])).push (.cells 75 false [.int .i64 7, .int .i64 S.st, .int .i64 0, .nilSlice, .bool false, .bool false, .bool false])) hA g.ok (KA.koS bs) (fun b hb => .inl hb) (by simp [A]) (by simp [A]) (fun b e1 e2 => by simp only [A, AH.push_get, AH.push_next, if_neg e1, if_neg e2]) 7 0 (by omega) (by omega) (by omega)
                    simp only [AH.push_next] at w1
                    rewrite [lp9_250]
                    simp [Try.f9, t4, t5, t15, t16, t17, hlt, u1, hld2, ldVar, stVar, spl, hov, cells_one hov, qn0, qn1, m0, m1, n01, n10, push_set2, zerosA, hwj, U, cs, pA, w1]
                    exact fin _ (S2 := (S, (7, S.st, 0, [], false, false, false))) (by exact hdo) w2 (by simp [t15]) (by simp [t16]) (by simp [t4]) (by simp) (by simp)
                  · have hdo : doP S (7, o, n, x, f) = ({ S with st := 4 }, (0, 4, (S.nx : Int), [], false, false, false)) := by simp [doP, cs]
                    have hok2 : ({ S with st := 4 } : Snd).ok := ⟨(by decide : (0 : Int) ≤ 4 ∧ (4 : Int) ≤ 5), g.ok.cr, g.ok.nx, g.ok.len, g.ok.how, g.ok.fn, g.ok.hw, g.ok.fi⟩
                    obtain ⟨vd0, vi0, p1, o1, o2, p2, p3⟩ := hA.put (S' := { S with st := 4 }) rfl rfl
                    have p1H : h.get H.next = some (.cells 81 false (sndC S vd0 vi0)) := by rw [← KA.get H.next hq]; exact p1
                    simp only [sndC] at p1H
                    obtain ⟨vd, vi, g1, g2, g3, g4, g5⟩ := step p2 p3 fun b hb => .inl hb
                    obtain ⟨v', h3, bo3, w1, w2⟩ := g.code (hX := (A.set H.next (.cells 81 false (sndC { S with st := 4 } vd0 vi0))).set (h.next + 1) (.cells 75 false [.int .i64 0, .int .i64 ({ S with st := 4 }).st, .int .i64 S.nx, .nilSlice, .bool false, .bool false, .bool false])) p2 hok2 g5 (fun b hb => .inl hb) (by simp) g4 (fun b e1 e2 => by rw [AH.set_get, if_neg e2]) 0 S.nx (by omega) (by omega) (by omega)
                    simp only [AH.set_next, AH.push_next, A, zO, sndC] at w1
                    rewrite [lp9_250]
                    simp [Try.f9, t4, t5, t15, t16, t17, hlt, u1, hld2, ldVar, stVar, spl, hov, cells_one hov, qn0, qn1, m0, m1, n01, n10, push_set2, zerosA, hwj, U, cs, p1H, w1]
                    exact fin _ (S2 := ({ S with st := 4 }, (0, ({ S with st := 4 }).st, S.nx, [], false, false, false))) (by exact hdo) w2 (by simp [t15]) (by simp [t16]) (by simp [t4]) (by simp) (by simp)
                · by_cases k8 : k = 8
                  · subst k8
                    by_cases cs : S.st = 4
                    · have hdo : doP S (8, o, n, x, f) = ({ S with st := 5 }, (0, 5, 0, [], false, false, false)) := by simp [doP, cs]
                      have hok2 : ({ S with st := 5 } : Snd).ok := ⟨(by decide : (0 : Int) ≤ 5 ∧ (5 : Int) ≤ 5), g.ok.cr, g.ok.nx, g.ok.len, g.ok.how, g.ok.fn, g.ok.hw, g.ok.fi⟩
                      obtain ⟨vd0, vi0, p1, o1, o2, p2, p3⟩ := hA.put (S' := { S with st := 5 }) rfl rfl
                      have p1H : h.get H.next = some (.cells 81 false (sndC S vd0 vi0)) := by rw [← KA.get H.next hq]; exact p1
                      simp only [sndC] at p1H
                      simp only [cs] at p1H pA
                      obtain ⟨vd, vi, g1, g2, g3, g4, g5⟩ := step p2 p3 fun b hb => .inl hb
                      obtain ⟨v', h3, bo3, w1, w2⟩ := g.code (hX := (A.set H.next (.cells 81 false (sndC { S with st := 5 } vd0 vi0))).set (h.next + 1) (.cells 75 false [.int .i64 0, .int .i64 ({ S with st := 5 }).st, .int .i64 0, .nilSlice, .bool false, .bool false, .bool false])) p2 hok2 g5 (fun b hb => .inl hb) (by simp) g4 (fun b e1 e2 => by rw [AH.set_get, if_neg e2]) 0 0 (by omega) (by omega) (by omega)
                      simp only [AH.set_next, AH.push_next, A, zO, sndC] at w1
                      rewrite [lp9_250]
                      simp [Try.f9, t4, t5, t15, t16, t17, hlt, u1, hld2, ldVar, stVar, spl, hov, cells_one hov, qn0, qn1, m0, m1, n01, n10, push_set2, zerosA, hwj, U, p1H, w1]
                      exact fin _ (S2 := ({ S with st := 5 }, (0, ({ S with st := 5 }).st, 0, [], false, false, false))) (by exact hdo) w2 (by simp [t15]) (by simp [t16]) (by simp [t4]) (by simp) (by simp)
                    · have hdo : doP S (8, o, n, x, f) = (S, (7, S.st, 0, [], false, false, false)) := by simp [doP, cs]
                      obtain ⟨v', h3, bo3, w1, w2⟩ := g.code (h2 := A) (hX := (h.push (.cells 77 false [.int .i64 8, .int .i64 o, .int .i64 n, vx, .bool f])).push (.cells 75 false [.int .i64 7, .int .i64 S.st, .int .i64 0, .nilSlice, .bool false, .bool false, .bool false])) hA g.ok (KA.koS bs) (fun b hb => .inl hb) (by simp [A]) (by simp [A]) (fun b e1 e2 => by simp only [A, AH.push_get, AH.push_next, if_neg e1, if_neg e2]) 7 0 (by omega) (by omega) (by omega)
                      simp only [AH.push_next] at w1
                      rewrite [lp9_250]
                      simp [Try.f9, t4, t5, t15, t16, t17, hlt, u1, hld2, ldVar, stVar, spl, hov, cells_one hov, qn0, qn1, m0, m1, n01, n10, push_set2, zerosA, hwj, U, cs, pA, w1]
                      exact fin _ (S2 := (S, (7, S.st, 0, [], false, false, false))) (by exact hdo) w2 (by simp [t15]) (by simp [t16]) (by simp [t4]) (by simp) (by simp)
                  · have hdo : doP S (k, o, n, x, f) = (S, (1, S.st, 0, [], false, false, false)) := by simp [doP, k1, k2, k3, k4, k5, k6, k7, k8]
                    obtain ⟨v', h3, bo3, w1, w2⟩ := g.code (h2 := A) (hX := (h.push (.cells 77 false [.int .i64 k, .int .i64 o, .int .i64 n, vx, .bool f])).push (.cells 75 false [.int .i64 1, .int .i64 S.st, .int .i64 0, .nilSlice, .bool false, .bool false, .bool false])) hA g.ok (KA.koS bs) (fun b hb => .inl hb) (by simp [A]) (by simp [A]) (fun b e1 e2 => by simp only [A, AH.push_get, AH.push_next, if_neg e1, if_neg e2]) 1 0 (by omega) (by omega) (by omega)
                    simp only [AH.push_next] at w1
                    rewrite [lp9_250]
                    simp [Try.f9, t4, t5, t15, t16, t17, hlt, u1, hld2, ldVar, stVar, spl, hov, cells_one hov, qn0, qn1, m0, m1, n01, n10, push_set2, zerosA, hwj, U, pA, k1, k2, k3, k4, k5, k6, k7, k8, w1]
                    exact fin _ (S2 := (S, (1, S.st, 0, [], false, false, false))) (by exact hdo) w2 (by simp [t15]) (by simp [t16]) (by simp [t4]) (by simp) (by simp)
end Go.Ev

/- The program's run of the sending part. -/
namespace Go.Ev
open Go Go.Proofs
set_option linter.unusedSimpArgs false
set_option linter.unusedVariables false

theorem runI_ev {Hb H : AH} {s : AV} {ops : List tSendOp.D} {bx : List Nat} {rw : Bool} (hd : (Ty.sl 77 tSendOp).R rw Hb [s] ops bx) (hKb : Kp Hb H) (hob : ∀ d ∈ ops, opBytes d ≤ 1048576) (m : Nat) (hm : 65710 ≤ m) :
    ∃ r H' br, ev Try.prog m 9 [s] H = some (.tuple [r, .int .i64 (RunP ops).2], H') ∧ Kp H H' ∧ (Ty.sl 75 tSendObs).R true H' [r] (RunP ops).1 br ∧ br.Nodup ∧ ∀ b ∈ br, H.next ≤ b := by
  obtain ⟨m, rfl⟩ : ∃ k, m = k + 1 := ⟨m - 1, by omega⟩
  have hL := Ty.R.lenA hd (P := Try.prog) (T := 27) (by simp)
  rw [ev_eq Try.func9 ok9 m _ H (by simp [Try.f9])]
  unfold RunP
  by_cases c : 400 < ops.length
  · have c' : (400 : Int) < ops.length := by omega
    rw [if_pos c]
    simp [Try.f9, hL, c', zerosA]
    exact ⟨_, _, ⟨rfl, rfl⟩, Kp.refl H, [], .inl ⟨rfl, rfl, rfl⟩, by simp, by simp⟩
  · have c' : ¬ ((400 : Int) < ops.length) := by omega
    rw [if_neg c]
    simp [Try.f9, hL, c', zerosA]
    generalize hLo : evLoop _ _ _ _ _ _ = R
    have hS0 : SndI ((H.push (.cells 81 false [.int .i64 0, .int .i64 0, .nilSlice, .nilSlice, .int .i64 0, .bool false, .int .u8 0])).push (.cells 75 false [])) H.next Snd0 [H.next] :=
      ⟨⟨.nilSlice, .nilSlice, [], [], by simp [sndC, Snd0], .inl ⟨rfl, rfl, rfl⟩, .inl ⟨rfl, rfl, rfl⟩, rfl⟩, by simp, by simp; omega⟩
    have hO0 : (Ty.sl 75 tSendObs).R true ((H.push (.cells 81 false [.int .i64 0, .int .i64 0, .nilSlice, .nilSlice, .int .i64 0, .bool false, .int .u8 0])).push (.cells 75 false [])) [.slice (H.next + 1) 0 0] [] [H.next + 1] :=
      .inr ⟨H.next + 1, 0, false, [], [], rfl, rfl, by simp, by simp, fun _ => ⟨rfl, rfl, by simp⟩, by simp, rfl, rfl⟩
    obtain ⟨e, τ', H', rfl, rfl, k, S, outs, bs, bo, hk, t15, t16, t4, t17, g, hrun, hol⟩ := loop_at hLo (runLoopI hd hKb (by omega) hob m (by omega) _ ⟨0, Snd0, [], [H.next], [H.next + 1], by simp, by simp, by simp, by simp, by simp, ⟨hS0, Snd0_ok, by simpa using hO0, by simp, by simp, ((Kp.refl H).push _).push _⟩, rfl, rfl⟩)
    have hkl : k = ops.length := by omega
    subst hkl
    rw [List.drop_length] at hrun
    have hrun' : outs = runP Snd0 ops := by rw [← hrun]; simp [runP]
    subst hrun'
    simp
    exact ⟨_, _, ⟨rfl, rfl⟩, g.kp, bo, g.out, (List.nodup_append.1 g.nd).2.1, fun b hb => g.lo b (by simp [hb])⟩
end Go.Ev
