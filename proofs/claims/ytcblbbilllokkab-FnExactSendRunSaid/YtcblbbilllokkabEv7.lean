/- Lemmas of an evaluator of the given code and of what the functions answer; no condition of its own. -/
import Derived.Test.YtcblbbilllokkabEv6
/- The sending part: a piece is pulled, the program's, whole. -/
namespace Go.Ev
open Go Go.Proofs
set_option linter.unusedSimpArgs false
set_option linter.unusedVariables false

theorem push_set2' (H : AH) (a b y : Blk) : ((H.push a).push b).set (H.next + 1) y = (H.push a).push y := push_set b y rfl
theorem inI_small {n : Int} (h0 : -1000000 ≤ n) (h1 : n ≤ 1000000) : InI n := (InI.iff n).2 (by omega)
def zObs : List AV := [.int .i64 0, .int .i64 0, .int .i64 0, .nilSlice, .bool false, .bool false, .bool false]
def PuRes (H : AH) (q : Nat) (bs : List Nat) (n : Int) (m : Nat) (R : Snd × (Int × Int × Int × List Int × Bool × Bool × Bool)) : Prop :=
  ∃ c H' bo, ev Try.prog m 35 [.ptr q 0, .int .i64 n] H = some (.agg c, H') ∧ SndI H' q R.1 bs ∧ KoS bs H H' ∧ tSendObs.R true H' c R.2 bo ∧ bo.Nodup ∧ ∀ b ∈ bo, H.next ≤ b
theorem puRes_of {H : AH} {q : Nat} {S : Snd} {bs : List Nat} (h : SndI H q S bs) {n : Int} {m : Nat} (k : Int) (bl : Bool) (hk : 0 ≤ k ∧ k ≤ 100) (X Y Z : Blk)
    (hev : ev Try.prog m 35 [.ptr q 0, .int .i64 n] H = some (.agg [.int .i64 k, .int .i64 0, .int .i64 0, .nilSlice, .bool false, .bool false, .bool bl], ((H.push X).push Y).set H.next Z)) : PuRes H q bs n m (S, (k, 0, 0, [], false, false, bl)) := by
  have K : Kp H (((H.push X).push Y).set H.next Z) := (((Kp.refl H).push _).push _).set (Nat.le_refl _) _
  exact ⟨_, _, [], hev, h.kp K, K.koS _, SendObs_in (.inl ⟨rfl, rfl, rfl⟩) (inI_small (by omega) (by omega)) (inI_small (by omega) (by omega)) (inI_small (by omega) (by omega)), by simp, by simp⟩
theorem SndI.same {H H' : AH} {q : Nat} {S : Snd} {bs : List Nat} (h : SndI H q S bs) (hn : H.next ≤ H'.next) (hg : ∀ b ∈ bs, H'.get b = H.get b) : SndI H' q S bs := by
  obtain ⟨⟨vd, vi, bd, bi, h1, h2, h3, rfl⟩, h5, h6⟩ := h
  exact ⟨⟨vd, vi, bd, bi, by rw [hg q (by simp)]; exact h1, h2.stay hn fun b hb => hg b (by simp [hb]), h3.stay hn fun b hb => hg b (by simp [hb]), rfl⟩, h5, by omega⟩
theorem cutBs {Hb : AH} {s : AV} {l : List Int} (hs : Bs Hb s l) (a n : Nat) (h : a + n ≤ l.length) {A N : Int} (hA : A = a) (hN : N = a + n) :
    ∃ s', (∀ H, Kp Hb H → cutA Try.prog 34 s (some (some (.int .i64 A))) (some (some (.int .i64 N))) H = some s') ∧ Bs Hb s' ((l.drop a).take n) := by
  subst hA; subst hN
  have h1 : (List.take (a + n) (u8L l)).drop a = u8L ((l.drop a).take n) := by simp [u8L, List.drop_take]
  obtain ⟨s', k1, k2⟩ := hs.cut a (a + n) (by omega) (by rw [u8L_len]; omega) (lo := some (some (.int .i64 a))) (hi := some (some (.int .i64 (a + n)))) (by simp) (by simp)
  rw [h1] at k2
  refine ⟨s', fun H hK => ?_, k2⟩
  rcases hs.lie with ⟨rfl, _⟩ | ⟨b, o, ro, xs, rfl, hn, hg, _⟩
  · rw [← k1]; simp [cutA]
  · rw [← k1]; simp only [cutA, tyU34, tyS5, hK.get b hn]
theorem pullI_ev {H : AH} {q : Nat} {S : Snd} {bs : List Nat} (h : SndI H q S bs) (hok : S.ok) (n : Int) (m : Nat) (hm : 65560 ≤ m) : PuRes H q bs n m (pullP S n) := by
  obtain ⟨m, rfl⟩ : ∃ k, m = k + 1 := ⟨m - 1, by omega⟩
  have hmem := h.mem
  have hdl := hok.len
  have hhl := hok.how
  have hnx := hok.nx
  have hqn : ¬ (q = H.next) := by have := h.lt; omega
  have hqn1 : ¬ (q = H.next + 1) := by have := h.lt; omega
  have K2 : ∀ X Y, Kp H ((H.push X).push Y) := fun X Y => ((Kp.refl H).push _).push _
  obtain ⟨vd, vi, h1, o1, o2, _, _⟩ := h.put (S' := S) rfl rfl
  obtain ⟨⟨vd2, vi2, bd, bi, e1, e2, e3, e4⟩, _, hq⟩ := id h
  rw [h1] at e1
  simp only [Option.some.injEq, Blk.cells.injEq, sndC, List.cons.injEq, true_and, and_true] at e1
  obtain ⟨rfl, rfl⟩ := e1
  have hL := Ty.R.lenA e2 (P := Try.prog) (T := 34) (by simp)
  simp only [sndC] at h1
  have hn0 : ¬ (H.next = H.next + 1) := by omega
  have hEv := ev_eq Try.func35 ok35 m [.ptr q 0, .int .i64 n] H (by simp [Try.f35])
  unfold pullP
  by_cases c1 : n < 1
  · rw [if_pos (.inl c1)]
    refine puRes_of h 1 false (by omega) (.cells 75 false zObs) (.cells 75 false [.int .i64 1, .int .i64 0, .int .i64 0, .nilSlice, .bool false, .bool false, .bool false]) (.cells 75 false [.int .i64 1, .int .i64 0, .int .i64 0, .nilSlice, .bool false, .bool false, .bool false]) ?_
    rw [hEv]
    simp [Try.f35, c1, ldVar, stVar, spl, push_set2, zObs, hn0]
  · by_cases c2 : 1500 < n
    · rw [if_pos (.inr c2)]
      refine puRes_of h 1 false (by omega) (.cells 75 false zObs) (.cells 75 false [.int .i64 1, .int .i64 0, .int .i64 0, .nilSlice, .bool false, .bool false, .bool false]) (.cells 75 false [.int .i64 1, .int .i64 0, .int .i64 0, .nilSlice, .bool false, .bool false, .bool false]) ?_
      rw [hEv]
      simp [Try.f35, c1, c2, ldVar, stVar, spl, push_set2, zObs, hn0]
    · rw [if_neg (by omega)]
      obtain ⟨nN, rfl⟩ : ∃ k : Nat, n = k := ⟨n.toNat, by omega⟩
      simp only [Int.toNat_natCast]
      have hle := pieceP_le hok nN
      have hnext := nextI_ev (h.kp (K2 (.cells 75 false zObs) (.cells 75 false zObs))) hok (n := nN) (by omega) (by omega) m (by omega)
      generalize pieceP S nN = Pc at *
      obtain ⟨A, B, som⟩ := Pc
      simp only at hle hnext ⊢
      simp only [zObs] at hnext
      cases som with
      | false =>
        rw [if_pos rfl]
        refine puRes_of h 0 (decide (S.st ≤ 2 ∧ S.nx < S.data.length)) (by omega) (.cells 75 false zObs) (.cells 75 false [.int .i64 0, .int .i64 0, .int .i64 0, .nilSlice, .bool false, .bool false, .bool (decide (S.st ≤ 2 ∧ S.nx < S.data.length))]) (.cells 75 false [.int .i64 0, .int .i64 0, .int .i64 0, .nilSlice, .bool false, .bool false, .bool (decide (S.st ≤ 2 ∧ S.nx < S.data.length))]) ?_
        rw [hEv]
        by_cases c3 : S.st ≤ 2
        · by_cases c4 : S.nx < S.data.length
          · simp [Try.f35, c1, c2, hnext, ldVar, stVar, spl, push_set2, zObs, hn0, h1, hqn, hqn1, hL, c3, c4]
          · simp [Try.f35, c1, c2, hnext, ldVar, stVar, spl, push_set2, zObs, hn0, h1, hqn, hqn1, hL, c3, c4]
        · simp [Try.f35, c1, c2, hnext, ldVar, stVar, spl, push_set2, zObs, hn0, h1, hqn, hqn1, hL, c3]
      | true =>
        rw [if_neg (by simp)]
        obtain ⟨D, hD⟩ : ∃ D, D = B - A := ⟨_, rfl⟩
        have hDB : A + D = B := by omega
        have hDc : ((B : Int) - A) = (D : Int) := by omega
        rw [hDc] at hnext
        rw [← hD]
        have w1 := wrap_i64 (n := (A : Int) + D) (by omega) (by omega)
        obtain ⟨sc, p1, p2⟩ := cutBs (tB_bs e2).1 A D (by omega) (A := (A : Int)) (N := (A : Int) + D) rfl rfl
        have KA := K2 (.cells 75 false zObs) (.cells 75 false zObs)
        have p1' := p1 _ KA
        obtain ⟨r, H1, k1, k2, k3⟩ := copied_ev p2 KA (by simp; omega) m (by omega)
        obtain ⟨br, k4, k5, k6⟩ := ow_tB k3 (((tB_bs e2).2.drop A).take D)
        have KH1 := KA.trans k2
        have hone := (tB_bs k4).1.one
        have hn1 := k2.next
        simp only [AH.push_next] at hn1 k6
        simp only [zObs] at k1 k2 p1' KA KH1
        have g1 : H1.get (H.next + 1) = some (.cells 75 false zObs) := by rw [k2.get _ (by simp)]; simp [zObs]
        have g0 : H1.get H.next = some (.cells 75 false zObs) := by rw [k2.get _ (by simp; omega)]; simp [zObs]
        have gq : H1.get q = H.get q := KH1.get q h.lt
        obtain ⟨BO, hBO⟩ : ∃ X, X = Blk.cells 75 false [.int .i64 0, .int .i64 0, .int .i64 A, r, .bool true, .bool false, .bool false] := ⟨_, rfl⟩
        have KH2 : Kp H (H1.set (H.next + 1) BO) := KH1.set (by omega) _
        have hS0 : SndI (H1.set (H.next + 1) BO) q { S with how := setW S.how A 0 } bs := by rw [setW_zero]; exact h.kp KH2
        simp only [zObs] at g0 g1
        unfold PuRes
        rw [hEv]
        simp [Try.f35, c1, c2, hnext, ldVar, stVar, spl, push_set2, hn0, h1, hqn, hqn1, p1', k1, g1, hone, cells_one hone, w1, ← hBO, U]
        generalize hLo : evLoop _ _ _ _ _ _ = R
        obtain ⟨e, τ', h3, rfl, rfl, k, hk, t0, t4, t5, t6, t7, t9, hS3, hK3, hn3⟩ := loop_at hLo (pullLoop (S := S) (q := q) (off := A) (n := D) (p := H.next) (bs := bs) hok (by omega) m (by omega) _ ⟨0, by simp, by simp, by simp, by simp, by simp, by simp, by simp, hS0, KoS.refl _ _, rfl⟩)
        have hkD : k = D := by omega
        subst hkD
        have nb0 : H.next ∉ bs := fun e => by have := hmem _ e; omega
        have nb1 : H.next + 1 ∉ bs := fun e => by have := hmem _ e; omega
        have f1 : h3.get (H.next + 1) = some BO := by rw [hK3.get _ (by simp; omega) nb1, AH.set_get, if_pos rfl]
        have f0 : h3.get H.next = some (.cells 75 false [.int .i64 0, .int .i64 0, .int .i64 0, .nilSlice, .bool false, .bool false, .bool false]) := by
          rw [hK3.get _ (by simp; omega) nb0, AH.set_get, if_neg (by omega)]; exact g0
        rw [hBO] at f1
        simp only [AH.set_next] at hn3
        have fin : ∀ (S2 : Snd) (BQ : Blk) (Hf : AH), SndI (h3.set q BQ) q S2 bs → Hf.next = h3.next → (∀ b, b ≠ H.next → b ≠ H.next + 1 → Hf.get b = (h3.set q BQ).get b) → SndI Hf q S2 bs ∧ KoS bs H Hf ∧ tB.R true Hf [r] ((S.data.drop A).take k) br := fun S2 BQ Hf hS2 hnf hgf =>
          ⟨hS2.same (by simp; omega) fun b hb => hgf b (fun e => nb0 (by rw [← e]; exact hb)) (fun e => nb1 (by rw [← e]; exact hb)),
           ⟨by omega, fun b hb hbb => by
              have hbq : b ≠ q := fun e => hbb (by rw [e, e4]; simp)
              rw [hgf b (by omega) (by omega), AH.set_get, if_neg hbq, hK3.get b (by simp; omega) hbb, AH.set_get, if_neg (by omega)]
              exact KH1.get b hb⟩,
           k4.stay (by omega) fun b hb => by
              have h1 := k6 b hb
              have hbq : b ≠ q := by have := h.lt; omega
              have hbb : b ∉ bs := fun e => by have := hmem _ e; omega
              rw [hgf b (by omega) (by omega), AH.set_get, if_neg hbq, hK3.get b (by simp; omega) hbb, AH.set_get, if_neg (by omega)]⟩
        obtain ⟨MX, hMX⟩ : ∃ x : Nat, x = max S.nx B := ⟨_, rfl⟩
        have mxe : (if (S.nx : Int) < (A : Int) + k then (A : Int) + k else (S.nx : Int)) = (MX : Int) := by omega
        simp only [← hMX]
        have w4 := wrap_i64 (n := (S.data.length : Int)) (by omega) (by omega)
        have q0 : ¬ (H.next = q) := Ne.symm hqn
        have q1 : ¬ (H.next + 1 = q) := Ne.symm hqn1
        have q2 : ¬ (H.next + 1 = H.next) := by omega
        have iA : InI (A : Int) := inI_small (by omega) (by omega)
        have i0 : InI 0 := inI_small (by omega) (by omega)
        have hbo : ∀ b ∈ br, H.next ≤ b := fun b hb => by have := (k6 b hb).1; omega
        by_cases c5 : S.fi = true ∧ B = S.data.length ∧ S.fn ≠ 2
        · rw [if_pos c5]
          obtain ⟨c51, c52, c53⟩ := c5
          obtain ⟨vd3, vi3, y1, yo1, yo2, y2, y3⟩ := hS3.put (S' := { S with how := setW S.how A k, nx := MX, fn := 1, st := 2 }) rfl rfl
          have hL3 : lenA Try.prog 34 vd3 = fun h' => some (.int .i64 S.data.length) := by
            obtain ⟨⟨vd5, vi5, bd5, bi5, z1, z2, z3, z4⟩, _, _⟩ := hS3
            rw [y1] at z1
            simp only [Option.some.injEq, Blk.cells.injEq, sndC, List.cons.injEq, true_and, and_true] at z1
            obtain ⟨rfl, rfl⟩ := z1
            exact funext fun h' => Ty.R.lenA z2 (P := Try.prog) (T := 34) (by simp) h'
          have c52' : (A : Int) + k = S.data.length := by omega
          have mxe' : (if (S.nx : Int) < (S.data.length : Int) then (S.data.length : Int) else (S.nx : Int)) = (MX : Int) := by rw [← c52']; exact mxe
          have mxe2 : (if S.nx < S.data.length then (S.data.length : Int) else (S.nx : Int)) = (MX : Int) := by split <;> omega
          simp only [sndC, c51] at y1 y2
          simp [t0, t4, t5, t6, t7, ldVar, stVar, spl, y1, f0, f1, hL3, w1, w4, mxe, mxe', mxe2, c52', c53, q0, q1, q2, hqn, hqn1, hn0, hone, cells_one hone, U]
          obtain ⟨r1, r2, r3⟩ := fin _ _ ((((h3.set q (.cells 81 false [.int .i64 S.st, .int .i64 S.cr, vd3, vi3, .int .i64 MX, .bool true, .int .u8 S.fn])).set (H.next + 1) (.cells 75 false [.int .i64 0, .int .i64 0, .int .i64 A, r, .bool true, .bool true, .bool false])).set q (.cells 81 false [.int .i64 2, .int .i64 S.cr, vd3, vi3, .int .i64 MX, .bool true, .int .u8 1])).set H.next (.cells 75 false [.int .i64 0, .int .i64 0, .int .i64 A, r, .bool true, .bool true, .bool false])) y2 (by simp) (fun b hb0 hb1 => by
            simp only [AH.set_get, if_neg hb0, if_neg hb1]
            by_cases e : b = q
            · simp [e]
            · simp [e])
          rw [c51]
          exact ⟨_, _, ⟨rfl, rfl⟩, r1, r2, br, SendObs_in r3 i0 i0 iA, k5, hbo⟩
        · rw [if_neg c5]
          by_cases c8 : S.st = 0
          · rw [if_pos c8]
            obtain ⟨vd3, vi3, y1, yo1, yo2, y2, y3⟩ := hS3.put (S' := { S with how := setW S.how A k, nx := MX, st := 1 }) rfl rfl
            have hL3 : lenA Try.prog 34 vd3 = fun h' => some (.int .i64 S.data.length) := by
              obtain ⟨⟨vd5, vi5, bd5, bi5, z1, z2, z3, z4⟩, _, _⟩ := hS3
              rw [y1] at z1
              simp only [Option.some.injEq, Blk.cells.injEq, sndC, List.cons.injEq, true_and, and_true] at z1
              obtain ⟨rfl, rfl⟩ := z1
              exact funext fun h' => Ty.R.lenA z2 (P := Try.prog) (T := 34) (by simp) h'
            have mxe2 : (if S.nx < S.data.length then (S.data.length : Int) else (S.nx : Int)) = (if (S.nx : Int) < (S.data.length : Int) then (S.data.length : Int) else (S.nx : Int)) := by split <;> split <;> omega
            simp only [sndC] at y1 y2
            by_cases d1 : S.fi = true
            · rw [d1] at y1 y2 ⊢
              by_cases d2 : B = S.data.length
              · have d3 : S.fn = 2 := Classical.byContradiction fun e => c5 ⟨d1, d2, e⟩
                have d2' : (A : Int) + k = S.data.length := by omega
                have mxe' : (if (S.nx : Int) < (S.data.length : Int) then (S.data.length : Int) else (S.nx : Int)) = (MX : Int) := by rw [← d2']; exact mxe
                have mxe3 : (if S.nx < S.data.length then (S.data.length : Int) else (S.nx : Int)) = (MX : Int) := by split <;> omega
                rw [d3] at y1 y2 ⊢
                simp [t0, t4, t5, t6, t7, ldVar, stVar, spl, y1, f0, f1, hL3, w1, w4, mxe, q0, q1, q2, hqn, hqn1, hn0, hone, cells_one hone, U, mxe', mxe3, d2', c8]
                obtain ⟨r1, r2, r3⟩ := fin _ _ ((h3.set q (.cells 81 false [.int .i64 1, .int .i64 S.cr, vd3, vi3, .int .i64 MX, .bool true, .int .u8 2])).set H.next (.cells 75 false [.int .i64 0, .int .i64 0, .int .i64 A, r, .bool true, .bool false, .bool false])) y2 (by simp) (fun b hb0 hb1 => by simp only [AH.set_get, if_neg hb0])
                exact ⟨_, _, ⟨rfl, rfl⟩, r1, r2, br, SendObs_in r3 i0 i0 iA, k5, hbo⟩
              · have d2' : ¬ ((A : Int) + k = S.data.length) := by omega
                simp [t0, t4, t5, t6, t7, ldVar, stVar, spl, y1, f0, f1, hL3, w1, w4, mxe, q0, q1, q2, hqn, hqn1, hn0, hone, cells_one hone, U, d2', c8]
                obtain ⟨r1, r2, r3⟩ := fin _ _ ((h3.set q (.cells 81 false [.int .i64 1, .int .i64 S.cr, vd3, vi3, .int .i64 MX, .bool true, .int .u8 S.fn])).set H.next (.cells 75 false [.int .i64 0, .int .i64 0, .int .i64 A, r, .bool true, .bool false, .bool false])) y2 (by simp) (fun b hb0 hb1 => by simp only [AH.set_get, if_neg hb0])
                exact ⟨_, _, ⟨rfl, rfl⟩, r1, r2, br, SendObs_in r3 i0 i0 iA, k5, hbo⟩
            · have d1' : S.fi = false := by simpa using d1
              rw [d1'] at y1 y2 ⊢
              simp [t0, t4, t5, t6, t7, ldVar, stVar, spl, y1, f0, f1, hL3, w1, w4, mxe, q0, q1, q2, hqn, hqn1, hn0, hone, cells_one hone, U, c8]
              obtain ⟨r1, r2, r3⟩ := fin _ _ ((h3.set q (.cells 81 false [.int .i64 1, .int .i64 S.cr, vd3, vi3, .int .i64 MX, .bool false, .int .u8 S.fn])).set H.next (.cells 75 false [.int .i64 0, .int .i64 0, .int .i64 A, r, .bool true, .bool false, .bool false])) y2 (by simp) (fun b hb0 hb1 => by simp only [AH.set_get, if_neg hb0])
              exact ⟨_, _, ⟨rfl, rfl⟩, r1, r2, br, SendObs_in r3 i0 i0 iA, k5, hbo⟩
          · rw [if_neg c8]
            obtain ⟨vd3, vi3, y1, yo1, yo2, y2, y3⟩ := hS3.put (S' := { S with how := setW S.how A k, nx := MX, st := S.st }) rfl rfl
            have hL3 : lenA Try.prog 34 vd3 = fun h' => some (.int .i64 S.data.length) := by
              obtain ⟨⟨vd5, vi5, bd5, bi5, z1, z2, z3, z4⟩, _, _⟩ := hS3
              rw [y1] at z1
              simp only [Option.some.injEq, Blk.cells.injEq, sndC, List.cons.injEq, true_and, and_true] at z1
              obtain ⟨rfl, rfl⟩ := z1
              exact funext fun h' => Ty.R.lenA z2 (P := Try.prog) (T := 34) (by simp) h'
            have mxe2 : (if S.nx < S.data.length then (S.data.length : Int) else (S.nx : Int)) = (if (S.nx : Int) < (S.data.length : Int) then (S.data.length : Int) else (S.nx : Int)) := by split <;> split <;> omega
            simp only [sndC] at y1 y2
            by_cases d1 : S.fi = true
            · rw [d1] at y1 y2 ⊢
              by_cases d2 : B = S.data.length
              · have d3 : S.fn = 2 := Classical.byContradiction fun e => c5 ⟨d1, d2, e⟩
                have d2' : (A : Int) + k = S.data.length := by omega
                have mxe' : (if (S.nx : Int) < (S.data.length : Int) then (S.data.length : Int) else (S.nx : Int)) = (MX : Int) := by rw [← d2']; exact mxe
                have mxe3 : (if S.nx < S.data.length then (S.data.length : Int) else (S.nx : Int)) = (MX : Int) := by split <;> omega
                rw [d3] at y1 y2 ⊢
                simp [t0, t4, t5, t6, t7, ldVar, stVar, spl, y1, f0, f1, hL3, w1, w4, mxe, q0, q1, q2, hqn, hqn1, hn0, hone, cells_one hone, U, mxe', mxe3, d2', c8]
                obtain ⟨r1, r2, r3⟩ := fin _ _ ((h3.set q (.cells 81 false [.int .i64 S.st, .int .i64 S.cr, vd3, vi3, .int .i64 MX, .bool true, .int .u8 2])).set H.next (.cells 75 false [.int .i64 0, .int .i64 0, .int .i64 A, r, .bool true, .bool false, .bool false])) y2 (by simp) (fun b hb0 hb1 => by simp only [AH.set_get, if_neg hb0])
                exact ⟨_, _, ⟨rfl, rfl⟩, r1, r2, br, SendObs_in r3 i0 i0 iA, k5, hbo⟩
              · have d2' : ¬ ((A : Int) + k = S.data.length) := by omega
                simp [t0, t4, t5, t6, t7, ldVar, stVar, spl, y1, f0, f1, hL3, w1, w4, mxe, q0, q1, q2, hqn, hqn1, hn0, hone, cells_one hone, U, d2', c8]
                obtain ⟨r1, r2, r3⟩ := fin _ _ ((h3.set q (.cells 81 false [.int .i64 S.st, .int .i64 S.cr, vd3, vi3, .int .i64 MX, .bool true, .int .u8 S.fn])).set H.next (.cells 75 false [.int .i64 0, .int .i64 0, .int .i64 A, r, .bool true, .bool false, .bool false])) y2 (by simp) (fun b hb0 hb1 => by simp only [AH.set_get, if_neg hb0])
                exact ⟨_, _, ⟨rfl, rfl⟩, r1, r2, br, SendObs_in r3 i0 i0 iA, k5, hbo⟩
            · have d1' : S.fi = false := by simpa using d1
              rw [d1'] at y1 y2 ⊢
              simp [t0, t4, t5, t6, t7, ldVar, stVar, spl, y1, f0, f1, hL3, w1, w4, mxe, q0, q1, q2, hqn, hqn1, hn0, hone, cells_one hone, U, c8]
              obtain ⟨r1, r2, r3⟩ := fin _ _ ((h3.set q (.cells 81 false [.int .i64 S.st, .int .i64 S.cr, vd3, vi3, .int .i64 MX, .bool false, .int .u8 S.fn])).set H.next (.cells 75 false [.int .i64 0, .int .i64 0, .int .i64 A, r, .bool true, .bool false, .bool false])) y2 (by simp) (fun b hb0 hb1 => by simp only [AH.set_get, if_neg hb0])
              exact ⟨_, _, ⟨rfl, rfl⟩, r1, r2, br, SendObs_in r3 i0 i0 iA, k5, hbo⟩
end Go.Ev

/- The sending part: one operation, and a run, in plain. -/
namespace Go.Ev
open Go Go.Proofs
set_option linter.unusedSimpArgs false
set_option linter.unusedVariables false

theorem finP_ok {S : Snd} (h : S.ok) : (finP S).1.ok := by
  unfold finP
  split
  · exact ⟨h.st, h.cr, h.nx, h.len, h.how, h.fn, h.hw, fun _ => rfl⟩
  · exact h
theorem heardP_ok {S : Snd} (h : S.ok) (off n : Int) (fin a : Bool) : (heardP S off n fin a).1.ok := by
  unfold heardP
  split
  · exact h
  · split
    · exact h
    · split
      · exact h
      · rename_i c1 c2 c3
        refine ⟨?_, h.cr, h.nx, h.len, by have := h.how; simpa [setR_len] using this, ?_, ?_, ?_⟩
        · have hs := h.st
          simp only
          by_cases c : (if fin = true then setOne a S.fn else S.fn) = 2 ∧ ∀ x ∈ setR S.how off.toNat n.toNat a, x = 2
          · rw [if_pos c]; omega
          · rw [if_neg c]; exact hs
        · simp only; split
          · exact setOne_in _ _
          · exact h.fn
        · intro x hx
          simp only [setR, List.mem_map, List.mem_range] at hx
          obtain ⟨i, hi, rfl⟩ := hx
          split
          · exact setOne_in _ _
          · have : S.how.getD i 0 = S.how[i] := by simp [List.getD_eq_getElem?_getD, List.getElem?_eq_getElem hi]
            rw [this]; exact h.hw _ (List.getElem_mem hi)
        · intro hf
          simp only at hf ⊢
          cases fin with
          | false => exact h.fi (by simpa using hf)
          | true => exact h.fi fun e => c2 ⟨rfl, .inl e⟩
theorem setW_in {S : Snd} (h : S.ok) (A k : Nat) : ∀ x ∈ setW S.how A k, 0 ≤ x ∧ x ≤ 3 := by
  intro x hx
  simp only [setW, List.mem_map, List.mem_range] at hx
  obtain ⟨i, hi, rfl⟩ := hx
  split
  · omega
  · have : S.how.getD i 0 = S.how[i] := by simp [List.getD_eq_getElem?_getD, List.getElem?_eq_getElem hi]
    rw [this]; exact h.hw _ (List.getElem_mem hi)
theorem pullP_ok {S : Snd} (h : S.ok) (n : Int) : (pullP S n).1.ok := by
  have hle := pieceP_le h n.toNat
  have hnx := h.nx
  have hst := h.st
  unfold pullP
  split
  · exact h
  · split
    · exact h
    · split
      · rename_i c
        exact ⟨by simp only; omega, h.cr, by simp only; omega, h.len, by have := h.how; simpa [setW_len] using this, by simp only; omega, setW_in h _ _, fun _ => c.1⟩
      · exact ⟨by simp only; split <;> omega, h.cr, by simp only; omega, h.len, by have := h.how; simpa [setW_len] using this, h.fn, setW_in h _ _, h.fi⟩
/-- one operation -/
def doP (S : Snd) (op : tSendOp.D) : Snd × tSendObs.D :=
  let r : Snd × tSendObs.D :=
    if op.1 = 1 then ((writeP S op.2.2.2.1).1, ((writeP S op.2.2.2.1).2, 0, 0, [], false, false, false))
    else if op.1 = 2 then ((finP S).1, ((finP S).2, 0, 0, [], false, false, false))
    else if op.1 = 3 then (if op.2.2.1 < 0 then (S, (1, 0, 0, [], false, false, false)) else ({ S with cr := if S.cr < op.2.2.1 then op.2.2.1 else S.cr }, (0, 0, 0, [], false, false, false)))
    else if op.1 = 4 then pullP S op.2.2.1
    else if op.1 = 5 ∨ op.1 = 6 then ((heardP S op.2.1 op.2.2.1 op.2.2.2.2 (decide (op.1 = 5))).1, ((heardP S op.2.1 op.2.2.1 op.2.2.2.2 (decide (op.1 = 5))).2, 0, 0, [], false, false, false))
    else if op.1 = 7 then (if 2 < S.st then (S, (7, 0, 0, [], false, false, false)) else ({ S with st := 4 }, (0, 0, (S.nx : Int), [], false, false, false)))
    else if op.1 = 8 then (if S.st ≠ 4 then (S, (7, 0, 0, [], false, false, false)) else ({ S with st := 5 }, (0, 0, 0, [], false, false, false)))
    else (S, (1, 0, 0, [], false, false, false))
  (r.1, (r.2.1, r.1.st, r.2.2.2))
def runP (S : Snd) : List tSendOp.D → List tSendObs.D
  | [] => []
  | op :: l => (doP S op).2 :: runP (doP S op).1 l
def Snd0 : Snd := ⟨0, 0, 0, 0, false, [], []⟩
theorem Snd0_ok : Snd0.ok := ⟨by simp [Snd0], by simp [Snd0], by simp [Snd0], by simp [Snd0], rfl, by simp [Snd0], by simp [Snd0], by simp [Snd0]⟩
theorem doP_ok {S : Snd} (h : S.ok) (op : tSendOp.D) (hn : InI op.2.2.1) : (doP S op).1.ok := by
  rw [InI.iff] at hn
  have hcr := h.cr
  unfold doP
  simp only
  split
  · exact writeP_ok h _
  · split
    · exact finP_ok h
    · split
      · split
        · exact h
        · exact ⟨h.st, by simp only; split <;> omega, h.nx, h.len, h.how, h.fn, h.hw, h.fi⟩
      · split
        · exact pullP_ok h _
        · split
          · exact heardP_ok h _ _ _ _
          · split
            · split
              · exact h
              · exact ⟨by simp only; omega, h.cr, h.nx, h.len, h.how, h.fn, h.hw, h.fi⟩
            · split
              · split
                · exact h
                · exact ⟨by simp only; omega, h.cr, h.nx, h.len, h.how, h.fn, h.hw, h.fi⟩
              · exact h
end Go.Ev

/- The specification's sending part: its state; live, end. -/
namespace Go.Ev
open Go Go.Proofs
set_option linter.unusedSimpArgs false
set_option linter.unusedVariables false

abbrev tI : Ty := .sl 3 (.int .i64)
def sndD (S : Snd) (vd vi : AV) : List AV := [.int .i64 S.st, .int .i64 S.cr, .int .i64 S.nx, .int .i64 S.fn, .bool S.fi, vd, vi]
/-- the specification's sending part -/
structure SndS (H : AH) (q : Nat) (S : Snd) (bs : List Nat) : Prop where
  ex : ∃ vd vi bd bi, H.get q = some (.cells 73 false (sndD S vd vi)) ∧ tB.R true H [vd] S.data bd ∧ tI.R true H [vi] S.how bi ∧ bs = q :: (bd ++ bi)
  nd : bs.Nodup
  lt : q < H.next
theorem SndS.kp {H H' : AH} {q : Nat} {S : Snd} {bs : List Nat} (h : SndS H q S bs) (hK : Kp H H') : SndS H' q S bs := by
  obtain ⟨⟨vd, vi, bd, bi, h1, h2, h3, h4⟩, h5, h6⟩ := h
  exact ⟨⟨vd, vi, bd, bi, by rw [hK.get q h6]; exact h1, h2.kp hK, h3.kp hK, h4⟩, h5, Nat.lt_of_lt_of_le h6 hK.next⟩
theorem SndS.mem {H : AH} {q : Nat} {S : Snd} {bs : List Nat} (h : SndS H q S bs) : ∀ b ∈ bs, b < H.next := by
  obtain ⟨⟨vd, vi, bd, bi, h1, h2, h3, rfl⟩, h5, h6⟩ := h
  intro b hb
  rcases List.mem_cons.1 hb with rfl | hb
  · exact h6
  · rcases List.mem_append.1 hb with hb | hb
    · exact h2.mem b hb
    · exact h3.mem b hb
theorem SndS.same {H H' : AH} {q : Nat} {S : Snd} {bs : List Nat} (h : SndS H q S bs) (hn : H.next ≤ H'.next) (hg : ∀ b ∈ bs, H'.get b = H.get b) : SndS H' q S bs := by
  obtain ⟨⟨vd, vi, bd, bi, h1, h2, h3, rfl⟩, h5, h6⟩ := h
  exact ⟨⟨vd, vi, bd, bi, by rw [hg q (by simp)]; exact h1, h2.stay hn fun b hb => hg b (by simp [hb]), h3.stay hn fun b hb => hg b (by simp [hb]), rfl⟩, h5, by omega⟩
theorem tI_one {rw : Bool} {H : AH} {v : AV} {d : List Int} {bs : List Nat} (h : tI.R rw H [v] d bs) : v.one = true := by
  have := Ty.R.one h; simpa using this
theorem SndS.put {H : AH} {q : Nat} {S S' : Snd} {bs : List Nat} (h : SndS H q S bs) (hd : S'.data = S.data) (hh : S'.how = S.how) :
    ∃ vd vi, H.get q = some (.cells 73 false (sndD S vd vi)) ∧ vd.one = true ∧ vi.one = true ∧ (∀ h', lenA Try.prog 34 vd h' = some (.int .i64 (List.length S.data))) ∧ (∀ h', lenA Try.prog 43 vi h' = some (.int .i64 (List.length S.how))) ∧
      SndS (H.set q (.cells 73 false (sndD S' vd vi))) q S' bs ∧ KoS bs H (H.set q (.cells 73 false (sndD S' vd vi))) := by
  obtain ⟨⟨vd, vi, bd, bi, h1, h2, h3, rfl⟩, h5, h6⟩ := h
  have h5' := h5
  rw [List.nodup_cons, List.mem_append] at h5'
  have hst : ∀ b, b ≠ q → (H.set q (.cells 73 false (sndD S' vd vi))).get b = H.get b := fun b hb => by rw [AH.set_get, if_neg hb]
  refine ⟨vd, vi, h1, (tB_bs h2).1.one, tI_one h3, Ty.R.lenA h2 (P := Try.prog) (T := 34) (by simp), Ty.R.lenA h3 (P := Try.prog) (T := 43) (by simp), ⟨⟨vd, vi, bd, bi, by simp, ?_, ?_, rfl⟩, h5, by simpa using h6⟩, ⟨by simp, fun b hb hn => hst b fun e => hn (by simp [e])⟩⟩
  · rw [hd]; exact h2.stay (by simp) fun b hb => hst b fun e => h5'.1 (.inl (by rw [← e]; exact hb))
  · rw [hh]; exact h3.stay (by simp) fun b hb => hst b fun e => h5'.1 (.inr (by rw [← e]; exact hb))
theorem liveS_ev {H : AH} {q : Nat} {S : Snd} {bs : List Nat} (h : SndS H q S bs) (hok : S.ok) (m : Nat) (hm : 1 ≤ m) : ev Try.prog m 66 [.ptr q 0] H = some (.bool (decide (S.st ≤ 2)), H) := by
  obtain ⟨m, rfl⟩ : ∃ k, m = k + 1 := ⟨m - 1, by omega⟩
  obtain ⟨⟨vd, vi, bd, bi, h1, h2, h3, h4⟩, h5, h6⟩ := h
  have hst := hok.st
  rw [ev_eq Try.func66 ok66 m _ H (by simp [Try.f66])]
  simp only [sndD] at h1
  by_cases c0 : S.st = 0
  · rw [c0] at h1
    simp [Try.f66, ldVar, h1, c0]
  · by_cases c1 : S.st = 1
    · rw [c1] at h1
      simp [Try.f66, ldVar, h1, c1]
    · by_cases c2 : S.st = 2
      · rw [c2] at h1
        simp [Try.f66, ldVar, h1, c2]
      · have : ¬ (S.st ≤ 2) := by omega
        simp [Try.f66, ldVar, h1, c0, c1, c2, this]
theorem endS_ev {H : AH} {q : Nat} {S : Snd} {bs : List Nat} (h : SndS H q S bs) (hok : S.ok) (m : Nat) (hm : 2 ≤ m) :
    ∃ H', ev Try.prog m 63 [.ptr q 0] H = some (.int .i64 (finP S).2, H') ∧ SndS H' q (finP S).1 bs ∧ KoS bs H H' := by
  obtain ⟨m, rfl⟩ : ∃ k, m = k + 1 := ⟨m - 1, by omega⟩
  have q1 := liveS_ev h hok m (by omega)
  have hst := hok.st
  obtain ⟨vd, vi, h1, o1, o2, L1, L2, h2, h3⟩ := h.put (S' := { S with fi := true }) rfl rfl
  rw [ev_eq Try.func63 ok63 m _ H (by simp [Try.f63])]
  unfold finP
  simp only [sndD] at h1 h2 h3
  by_cases c : S.st = 0 ∨ S.st = 1
  · have cl : S.st ≤ 2 := by omega
    have c2 : ¬ (S.st = 2) := by omega
    simp only [cl, decide_true] at q1
    by_cases cf : S.fi = false
    · rw [if_pos ⟨c, cf⟩]
      refine ⟨_, ?_, h2, h3⟩
      simp only [cf] at h1 ⊢
      simp [Try.f63, ldVar, stVar, q1, h1, c2, spl]
    · have cf' : S.fi = true := by simpa using cf
      rw [if_neg (by simp [cf'])]
      refine ⟨H, ?_, h, KoS.refl _ _⟩
      simp only [cf'] at h1 ⊢
      simp [Try.f63, ldVar, stVar, q1, h1, c2]
  · rw [if_neg (fun e => c e.1)]
    refine ⟨H, ?_, h, KoS.refl _ _⟩
    by_cases cl : S.st ≤ 2
    · have c2 : S.st = 2 := by omega
      simp only [cl, decide_true] at q1
      rw [c2] at h1
      simp [Try.f63, ldVar, q1, h1]
    · simp only [cl, decide_false] at q1
      simp [Try.f63, q1]
end Go.Ev

/- The specification's sending part: bytes are written. -/
namespace Go.Ev
open Go Go.Proofs
set_option linter.unusedSimpArgs false
set_option linter.unusedVariables false

theorem i64_mm0 : IntKind.min .i64 ≤ 0 ∧ (0 : Int) ≤ IntKind.max .i64 := by decide
/-- one number more behind 'how' -/
theorem SndS.more {H : AH} {q : Nat} {S : Snd} {bs : List Nat} (h : SndS H q S bs) (hl : S.how.length ≤ 100000) :
    ∃ vd vi vi' H1, H.get q = some (.cells 73 false (sndD S vd vi)) ∧ appA Try.prog 43 43 vi (.slice H.next 0 1) (H.push (.cells 3 false [.int .i64 0])) = some (vi', H1) ∧ vi'.one = true ∧ H1.get q = some (.cells 73 false (sndD S vd vi)) ∧
      ∃ bs', SndS (H1.set q (.cells 73 false (sndD { S with how := S.how ++ [0] } vd vi'))) q { S with how := S.how ++ [0] } bs' ∧ KoS bs H (H1.set q (.cells 73 false (sndD { S with how := S.how ++ [0] } vd vi'))) ∧ ∀ b ∈ bs', b ∈ bs ∨ H.next ≤ b := by
  have hmem := h.mem
  obtain ⟨⟨vd, vi, bd, bi, h1, h2, h3, rfl⟩, h5, h6⟩ := h
  have hnd := h5
  rw [List.nodup_cons, List.mem_append, List.nodup_append] at hnd
  obtain ⟨nq, nd1, nd2, nd3⟩ := hnd
  have hl1 : (List.length S.how + 1) * 8 ≤ 70368744177664 := by omega
  obtain ⟨vi', H1, bi', a1, a2, a3, a4, a5⟩ := Ty.R.app1 (P := Try.prog) (T := 43) (e := 3) (t := .int .i64) (c := [.int .i64 0]) (d := (0 : Int)) (b1 := []) h3 ⟨rfl, i64_mm0.1, i64_mm0.2, rfl⟩ (by simpa using nd2)
    (by simp) (by simp) (by simp [Ty.n]) (by_ := 8) (by simp) (z := [.int .i64 0]) (by simp) (by simp [Ty.n]) hl1 (by omega)
  have hn1 := a5.next
  have gq : H1.get q = H.get q := a5.get q h6 fun e => nq (.inr e)
  have hq' : ∀ b ∈ bi', b ≠ q := fun b hb e => by
    rcases a4 b hb with h | h | h
    · exact nq (.inr (by rw [← e]; exact h))
    · simp at h
    · omega
  have hst : ∀ X b, b ≠ q → (H1.set q X).get b = H1.get b := fun X b hb => by rw [AH.set_get, if_neg hb]
  refine ⟨vd, vi, vi', H1, h1, a1, tI_one a2, by rw [gq]; exact h1, q :: (bd ++ bi'), ⟨⟨vd, vi', bd, bi', by simp, ?_, a2.stay (by simp) fun b hb => hst _ b (hq' b hb), rfl⟩, ?_, by simp; omega⟩, ⟨by simp; omega, fun b hb hn => ?_⟩, fun b hb => ?_⟩
  · exact (h2.koS a5 fun b hb hbi => nd3 b hb b hbi rfl).stay (by simp) fun b hb => hst _ b fun e => nq (.inl (by rw [← e]; exact hb))
  · rw [List.nodup_cons, List.mem_append, List.nodup_append]
    refine ⟨fun e => by rcases e with e | e; exact nq (.inl e); exact hq' q e rfl, nd1, a3, fun y hy z hz e => ?_⟩
    subst e
    rcases a4 y hz with hz | hz | hz
    · exact nd3 y hy y hz rfl
    · simp at hz
    · have := h2.mem y hy; omega
  · simp only [List.mem_cons, List.mem_append, not_or] at hn
    rw [hst _ b hn.1, a5.get b hb hn.2.2]
  · rcases List.mem_cons.1 hb with rfl | hb
    · exact .inl (by simp)
    · rcases List.mem_append.1 hb with hb | hb
      · exact .inl (by simp [hb])
      · rcases a4 b hb with h | h | h
        · exact .inl (by simp [h])
        · simp at h
        · exact .inr h
def WrInv (S : Snd) (x : List Int) (q : Nat) (bs : List Nat) (H : AH) (d : Nat) (τ : Tm) (h : AH) : Prop :=
  ∃ j bs', j + d = x.length ∧ τ 0 = .ptr q 0 ∧ SndS h q { S with data := S.data ++ x, how := S.how ++ List.replicate j 0 } bs' ∧ KoS bs H h ∧ ∀ b ∈ bs', b ∈ bs ∨ H.next ≤ b
theorem writeLoop {S : Snd} {x : List Int} {q : Nat} {bs : List Nat} {H h0 : AH} (hhl : S.how.length = S.data.length) (hl : S.data.length + x.length ≤ 65536) (m : Nat) (hm : 65540 ≤ m) (τ : Tm) (hI : WrInv S x q bs H x.length τ h0) :
    ∃ e τ' H', evLoop Try.prog (ev Try.prog m) m (lp Try.prog 62 124) τ h0 = some (e, τ', H') ∧ e = .exit 0 ∧ WrInv S x q bs H 0 τ' H' := by
  refine loop_rule (d := x.length) (WrInv S x q bs H) (fun e τ h => e = .exit 0 ∧ WrInv S x q bs H 0 τ h) ?_ hI (by omega)
  rintro d τ h ⟨j, bs', hj, t0, hS, hK, hb⟩
  obtain ⟨vd0, vi0, y1, _, _, L1, L2, _, _⟩ := hS.put (S' := { S with data := S.data ++ x, how := S.how ++ List.replicate j 0 }) rfl rfl
  have e1 : ((List.length (S.data ++ x) : Nat) : Int) = (S.data.length : Int) + x.length := by simp
  have e2 : ((List.length (S.how ++ List.replicate j (0 : Int)) : Nat) : Int) = (S.data.length : Int) + j := by simp; omega
  simp only [e1] at L1
  simp only [e2] at L2
  by_cases hd0 : d = 0
  · subst hd0
    have hjn : (j : Int) = x.length := by omega
    simp only [sndD] at y1
    rewrite [lp62_124]
    simp [Try.f62, t0, ldVar, y1, L1, L2, hjn]
    exact ⟨j, bs', hj, t0, hS, hK, hb⟩
  · have hlt : (S.data.length : Int) + j < (S.data.length : Int) + x.length := by omega
    obtain ⟨vd, vi, vi', H1, m1, m2, m3, m4, bs2, m5, m6, m7⟩ := hS.more (by simp; omega)
    rw [y1] at m1
    simp only [Option.some.injEq, Blk.cells.injEq, sndD, List.cons.injEq, true_and, and_true] at m1
    obtain ⟨rfl, rfl⟩ := m1
    simp only [sndD] at y1 m4 m5 m6
    rewrite [lp62_124]
    simp [Try.f62, t0, ldVar, stVar, y1, L1, L2, hlt, zerosA, spl, m2, m3, cells_one m3, m4]
    have hrep : S.how ++ List.replicate (j + 1) 0 = (S.how ++ List.replicate j 0) ++ [0] := by rw [List.replicate_succ', List.append_assoc]
    exact ⟨d - 1, by omega, j + 1, bs2, by omega, by simp [t0], by rw [hrep]; exact m5, hK.trans m6 hb, fun b hbm => by
      rcases m7 b hbm with h | h
      · exact hb b h
      · have := hK.next; exact .inr (by omega)⟩
theorem writeS_ev {H : AH} {q : Nat} {S : Snd} {bs : List Nat} (h : SndS H q S bs) (hok : S.ok) {sx : AV} {x : List Int} {bx : List Nat} {rx : Bool} (hx : tB.R rx H [sx] x bx) (hxl : x.length ≤ 1048576) (m : Nat) (hm : 65550 ≤ m) :
    ∃ H' bs', ev Try.prog m 62 [.ptr q 0, sx] H = some (.int .i64 (writeP S x).2, H') ∧ SndS H' q (writeP S x).1 bs' ∧ KoS bs H H' ∧ ∀ b ∈ bs', b ∈ bs ∨ H.next ≤ b := by
  obtain ⟨m, rfl⟩ : ∃ k, m = k + 1 := ⟨m - 1, by omega⟩
  have q1 := liveS_ev h hok m (by omega)
  have hst := hok.st
  have hdl := hok.len
  have hhl := hok.how
  have h0 := h
  obtain ⟨⟨vd, vi, bd, bi, h1, h2, h3, rfl⟩, h5, h6⟩ := h
  have hL1 := Ty.R.lenA h2 (P := Try.prog) (T := 34) (by simp)
  have hL2 := Ty.R.lenA hx (P := Try.prog) (T := 34) (by simp)
  rw [ev_eq Try.func62 ok62 m _ H (by simp [Try.f62])]
  unfold writeP
  simp only [sndD] at h1
  by_cases c : S.st = 0 ∨ S.st = 1
  · have cl : S.st ≤ 2 := by omega
    have c2 : ¬ (S.st = 2) := by omega
    simp only [cl, decide_true] at q1
    by_cases cf : S.fi = false
    · rw [if_neg (by simp [c, cf])]
      rw [cf] at h1
      have w1 := wrap_i64 (n := (List.length S.data : Int) + x.length) (by omega) (by omega)
      by_cases cL : 65536 < S.data.length + x.length
      · rw [if_pos cL]
        have cL' : (65536 : Int) < (List.length S.data : Int) + x.length := by omega
        refine ⟨H, _, ?_, h0, KoS.refl _ _, fun b hb => .inl hb⟩
        simp [Try.f62, ldVar, stVar, q1, h1, c2, hL1, hL2, w1, cL']
      · rw [if_neg cL]
        have cL' : ¬ ((65536 : Int) < (List.length S.data : Int) + x.length) := by omega
        have hnd := h5
        rw [List.nodup_cons, List.mem_append, List.nodup_append] at hnd
        obtain ⟨nq, nd1, nd2, nd3⟩ := hnd
        obtain ⟨vd', H1, bd', a1, a2, a3, a4, a5⟩ := Ty.R.appI (P := Try.prog) (T := 34) h2 hx (by simp) (by simp) (by simp) (by_ := 1) (by simp) (z := [.int .u8 0]) (by simp) (by simp) (by omega) (by omega)
        have g1 : H1.get q = H.get q := a5.get q h6 fun e => nq (.inl e)
        rw [h1] at g1
        have hn1 := a5.next
        have hq' : ∀ b ∈ bd', b ≠ q := fun b hb e => by rcases a4 b hb with h | h; exact nq (.inl (by rw [← e]; exact h)); omega
        have ov' := (tB_bs a2).1.one
        have hst2 : ∀ X b, b ≠ q → (H1.set q X).get b = H1.get b := fun X b hb => by rw [AH.set_get, if_neg hb]
        have hS2 : SndS (H1.set q (.cells 73 false [.int .i64 S.st, .int .i64 S.cr, .int .i64 S.nx, .int .i64 S.fn, .bool false, vd', vi])) q { S with data := S.data ++ x, how := S.how ++ List.replicate 0 0 } (q :: (bd' ++ bi)) := by
          refine ⟨⟨vd', vi, bd', bi, by simp [sndD, cf], a2.stay (by simp) fun b hb => hst2 _ b (hq' b hb), ?_, rfl⟩, ?_, by simp; omega⟩
          · simp only [List.replicate_zero, List.append_nil]
            exact (h3.koS a5 fun b hb hbd => nd3 b hbd b hb rfl).stay (by simp) fun b hb => hst2 _ b fun e => nq (.inr (by rw [← e]; exact hb))
          · rw [List.nodup_cons, List.mem_append, List.nodup_append]
            refine ⟨fun e => by rcases e with e | e; exact hq' q e rfl; exact nq (.inr e), a3, nd2, fun y hy z hz e => ?_⟩
            subst e
            rcases a4 y hy with hy' | hy'
            · exact nd3 y hy' y hz rfl
            · have := h3.mem y hz; omega
        have hK2 : KoS (q :: (bd ++ bi)) H (H1.set q (.cells 73 false [.int .i64 S.st, .int .i64 S.cr, .int .i64 S.nx, .int .i64 S.fn, .bool false, vd', vi])) := ⟨by simp; omega, fun b hb hn => by
          simp only [List.mem_cons, List.mem_append, not_or] at hn
          rw [hst2 _ b hn.1, a5.get b hb hn.2.1]⟩
        have hb2 : ∀ b ∈ q :: (bd' ++ bi), b ∈ q :: (bd ++ bi) ∨ H.next ≤ b := fun b hb => by
          rcases List.mem_cons.1 hb with rfl | hb
          · exact .inl (by simp)
          · rcases List.mem_append.1 hb with hb | hb
            · rcases a4 b hb with h | h
              · exact .inl (by simp [h])
              · exact .inr h
            · exact .inl (by simp [hb])
        simp [Try.f62, ldVar, stVar, q1, h1, c2, hL1, hL2, w1, cL', a1, g1, ov', cells_one ov', spl, U]
        generalize hLo : evLoop _ _ _ _ _ _ = R
        obtain ⟨e, τ', H', rfl, rfl, j, bs', hj, t0, hS, hK, hb⟩ := loop_at hLo (writeLoop (S := S) (x := x) (q := q) (bs := q :: (bd ++ bi)) (H := H) hhl (by omega) m (by omega) _ ⟨0, _, by simp, by simp, hS2, hK2, hb2⟩)
        have hjl : j = x.length := by omega
        subst hjl
        simp
        exact ⟨bs', hS, hK, by simpa using hb⟩
    · have cf' : S.fi = true := by simpa using cf
      rw [if_pos (by simp [cf'])]
      refine ⟨H, _, ?_, h0, KoS.refl _ _, fun b hb => .inl hb⟩
      rw [cf'] at h1
      simp [Try.f62, ldVar, stVar, q1, h1, c2]
  · rw [if_pos (fun e => c e.1)]
    refine ⟨H, _, ?_, h0, KoS.refl _ _, fun b hb => .inl hb⟩
    by_cases cl : S.st ≤ 2
    · have c2 : S.st = 2 := by omega
      simp only [cl, decide_true] at q1
      rw [c2] at h1
      simp [Try.f62, ldVar, q1, h1]
    · simp only [cl, decide_false] at q1
      simp [Try.f62, q1]
end Go.Ev

/- The specification's sending part: the next piece. -/
namespace Go.Ev
open Go Go.Proofs
set_option linter.unusedSimpArgs false
set_option linter.unusedVariables false

theorem tI_at {H : AH} {s : AV} {l : List Int} {bs : List Nat} {rw : Bool} (h : tI.R rw H [s] l bs) {k : Nat} (hk : k < l.length) : ∃ b o ro xs, H.get b = some (.cells 3 ro xs) ∧ idxA Try.prog 43 s (.int .i64 k) = some (.ptr b (o + k)) ∧ xs[o + k]? = some (.int .i64 l[k]) ∧ b ∈ bs := by
  rcases h with ⟨h1, h2, h3⟩ | ⟨b, o, ro, xs, b', h1, h2, h3, h4, h5, h6, h7⟩
  · subst h2; simp at hk
  · simp only [List.cons.injEq, and_true] at h1; subst h1
    simp only [Ty.n, Nat.mul_one] at h6 h7
    obtain ⟨g1, g2, g3⟩ := rows_int.1 h7
    refine ⟨b, o, ro, xs, h4, ?_, ?_, by rw [h2]; simp⟩
    · simp [idxA, hk]
    · have : (l.map (AV.int .i64))[k]? = some (.int .i64 l[k]) := by simp [hk]
      rw [← this, ← g1, List.getElem?_take, if_pos hk, List.getElem?_drop]
def PcInv (S : Snd) (q n : Nat) (H : AH) (d : Nat) (τ : Tm) (h : AH) : Prop :=
  ∃ i : Nat, i + d = S.nx ∧ τ 0 = .ptr q 0 ∧ τ 1 = .int .i64 n ∧ τ 7 = .int .i64 i ∧ lostFrom S.how d i = lostFrom S.how S.nx 0 ∧ h = H
def PrInv (S : Snd) (q n i : Nat) (H : AH) (d : Nat) (τ : Tm) (h : AH) : Prop :=
  ∃ k r : Nat, k + d = S.nx ∧ i ≤ k ∧ k - i + r = n ∧ τ 0 = .ptr q 0 ∧ τ 1 = .int .i64 n ∧ τ 7 = .int .i64 i ∧ τ 8 = .int .i64 k ∧ runTo S.how d k r = runTo S.how (S.nx - i) i n ∧ h = H
theorem pieceS_ev {H : AH} {q : Nat} {S : Snd} {bs : List Nat} (h : SndS H q S bs) (hok : S.ok) {n : Nat} (hn1 : 1 ≤ n) (hn2 : n ≤ 1500) (m : Nat) (hm : 65540 ≤ m) :
    ev Try.prog m 92 [.ptr q 0, .int .i64 n] H = some (.tuple [.int .i64 (pieceP S n).1, .int .i64 (pieceP S n).2.1, .bool (pieceP S n).2.2], H) := by
  obtain ⟨m, rfl⟩ : ∃ k, m = k + 1 := ⟨m - 1, by omega⟩
  obtain ⟨⟨vd, vi, bd, bi, h1, h2, h3, h4⟩, h5, h6⟩ := h
  have hL1 := Ty.R.lenA h2 (P := Try.prog) (T := 34) (by simp)
  have hdl := hok.len
  have hhl := hok.how
  have hnx := hok.nx
  have hcr := hok.cr
  simp only [sndD] at h1
  have hst := hok.st
  have q1 := liveS_ev (H := H) (q := q) (S := S) (bs := bs) ⟨⟨vd, vi, bd, bi, h1, h2, h3, h4⟩, h5, h6⟩ hok m (by omega)
  rw [ev_eq Try.func92 ok92 m _ H (by simp [Try.f92])]
  unfold pieceP
  by_cases c : 2 < S.st
  · rw [if_pos c]
    have cl : ¬ (S.st ≤ 2) := by omega
    simp only [cl, decide_false] at q1
    simp [Try.f92, q1]
  · rw [if_neg c]
    have cl : S.st ≤ 2 := by omega
    simp only [cl, decide_true] at q1
    simp [Try.f92, q1]
    generalize hLo : evLoop _ _ _ _ _ _ = R
    obtain ⟨e, τ', H', rfl, rfl, g⟩ := loop_at hLo (loop_rule (d := S.nx) (PcInv S q n H)
      (fun e τ h => h = H ∧ ((e = .exit 0 ∧ lostFrom S.how S.nx 0 = none ∧ τ 0 = .ptr q 0 ∧ τ 1 = .int .i64 n) ∨ (e = .ret ∧ ∃ i, lostFrom S.how S.nx 0 = some i ∧ τ 4 = .int .i64 i ∧ τ 5 = .int .i64 (runTo S.how (S.nx - i) i n : Nat) ∧ τ 6 = .bool true)))
      (by
        rintro d τ h ⟨i, hi, t0, t1, t7, hF, rfl⟩
        by_cases hd0 : d = 0
        · subst hd0
          have hin : (i : Int) = S.nx := by omega
          rewrite [lp92_58]
          simp [Try.f92, t0, t1, t7, ldVar, h1, hin]
          rw [← hF]; rfl
        · obtain ⟨d, rfl⟩ : ∃ e, d = e + 1 := ⟨d - 1, by omega⟩
          have hlt : i < S.nx := by omega
          have hlt' : i < S.how.length := by omega
          obtain ⟨b, o, ro, xs, a1, a2, a3, a4⟩ := tI_at h3 hlt'
          have hgd : S.how.getD i 0 = S.how[i] := by simp [List.getD_eq_getElem?_getD, List.getElem?_eq_getElem hlt']
          by_cases hx : S.how[i] = 3
          · rw [hx] at a3
            rewrite [lp92_58]
            simp [Try.f92, t0, t1, t7, ldVar, h1, hlt, a2, a1, a3]
            generalize hLo2 : evLoop _ _ _ _ _ _ = R2
            obtain ⟨e2, τ2, H2, rfl, rfl, rfl, y8, y7⟩ := loop_at hLo2 (loop_rule (d := d + 1) (PrInv S q n i h)
              (fun e τ h' => h' = h ∧ e = .exit 2 ∧ τ 8 = .int .i64 (runTo S.how (S.nx - i) i n : Nat) ∧ τ 7 = .int .i64 i)
              (by
                rintro d2 τ2 h' ⟨k, r, hk, hik, hr, t0, t1, t7, t8, hF2, rfl⟩
                by_cases hd2 : d2 = 0
                · subst hd2
                  have hkn : (k : Int) = S.nx := by omega
                  have hres : runTo S.how (S.nx - i) i n = k := by rw [← hF2]; rfl
                  rewrite [lp92_29844]
                  simp [Try.f92, t0, t1, t7, t8, ldVar, h1, hkn, U]
                  rw [hres, hkn]
                · obtain ⟨d2, rfl⟩ : ∃ e, d2 = e + 1 := ⟨d2 - 1, by omega⟩
                  have hltk : k < S.nx := by omega
                  have hltk' : k < S.how.length := by omega
                  obtain ⟨b', o', ro', xs', a1', a2', a3', a4'⟩ := tI_at h3 hltk'
                  have hgk : S.how.getD k 0 = S.how[k] := by simp [List.getD_eq_getElem?_getD, List.getElem?_eq_getElem hltk']
                  have wk := wrap_i64 (n := (k : Int) - i) (by omega) (by omega)
                  by_cases hxk : S.how[k] = 3
                  · rw [hxk] at a3'
                    by_cases hr0 : r = 0
                    · subst hr0
                      have hni : ¬ ((k : Int) - i < n) := by omega
                      have hres : runTo S.how (S.nx - i) i n = k := by rw [← hF2]; rfl
                      rewrite [lp92_29844]
                      simp [Try.f92, t0, t1, t7, t8, ldVar, h1, hltk, a2', a1', a3', wk, hni, U]
                      rw [hres]
                    · obtain ⟨r, rfl⟩ : ∃ e, r = e + 1 := ⟨r - 1, by omega⟩
                      have hni : ((k : Int) - i < n) := by omega
                      rw [runTo, if_pos (by rw [hgk]; exact hxk)] at hF2
                      rewrite [lp92_29844]
                      simp [Try.f92, t0, t1, t7, t8, ldVar, h1, hltk, a2', a1', a3', wk, hni, U, wrap_i64 (n := (k : Int) + 1) (by omega) (by omega)]
                      exact ⟨d2, by omega, k + 1, r, by omega, by omega, by omega, by simp [t0], by simp [t1], by simp [t7], by simp, hF2, rfl⟩
                  · have hres : runTo S.how (S.nx - i) i n = k := by
                      rw [← hF2]
                      cases r with
                      | zero => rfl
                      | succ r => rw [runTo, if_neg (by rw [hgk]; exact hxk)]
                    by_cases hni : (k : Int) - i < n
                    · rewrite [lp92_29844]
                      simp [Try.f92, t0, t1, t7, t8, ldVar, h1, hltk, a2', a1', a3', hxk, wk, hni, U]
                      rw [hres]
                    · rewrite [lp92_29844]
                      simp [Try.f92, t0, t1, t7, t8, ldVar, h1, hltk, a2', a1', a3', hxk, wk, hni, U]
                      rw [hres])
              ⟨i, n, hi, Nat.le_refl _, by omega, by simp [t0], by simp [t1], by simp [t7], by simp, by rw [show S.nx - i = d + 1 by omega], rfl⟩ (by omega))
            have hle := runTo_le S.how (S.nx - i) i n
            have wk := wrap_i64 (n := ((runTo S.how (S.nx - i) i n : Nat) : Int) - i) (by omega) (by omega)
            simp [y8, y7, wk]
            rw [← hF, lostFrom, if_pos (by rw [hgd]; exact hx)]
            exact ⟨i, rfl, rfl, rfl⟩
          · rw [lostFrom, if_neg (by rw [hgd]; exact hx)] at hF
            rewrite [lp92_58]
            simp [Try.f92, t0, t1, t7, ldVar, h1, hlt, a2, a1, a3, hx, wrap_i64 (n := (i : Int) + 1) (by omega) (by omega)]
            exact ⟨d, by omega, i + 1, by omega, by simp [t0], by simp [t1], by simp, hF, rfl⟩)
      ⟨0, by simp, by simp, by simp, by simp, rfl, rfl⟩ (by omega))
    rcases g with ⟨rfl, g1, t0, t1⟩ | ⟨rfl, i, g1, g2, g3, g4⟩
    · simp only [g1]
      simp [Try.f92, t0, t1, ldVar, h1, hL1, U]
      have hM : (if (S.data.length : Int) < S.cr then (S.data.length : Int) else S.cr) = mnI S.data.length S.cr := by unfold mnI; split <;> split <;> omega
      have hMb : mnI S.data.length S.cr ≤ 65536 ∧ 0 ≤ mnI S.data.length S.cr := by unfold mnI; split <;> omega
      rw [hM]
      generalize mnI S.data.length S.cr = M at *
      by_cases cm : (S.nx : Int) < M
      · have w1 := wrap_i64 (n := (S.nx : Int) + n) (by omega) (by omega)
        have e1 : (if (S.nx : Int) + n < M then (S.nx : Int) + n else M) = max (mnI M (S.nx + n)) 0 := by
          unfold mnI; split <;> omega
        simp [cm, w1]
        exact e1
      · by_cases c3 : S.fi = true
        · by_cases c4 : S.nx = S.data.length
          · have c4' : (S.nx : Int) = S.data.length := by omega
            have cm2 : ¬ ((S.data.length : Int) < M) := by omega
            by_cases c5 : S.fn = 0
            · simp [t0, t1, ldVar, h1, hL1, U, cm, cm2, c3, c4, c4', c5]
            · by_cases c6 : S.fn = 3
              · simp [t0, t1, ldVar, h1, hL1, U, cm, cm2, c3, c4, c4', c5, c6]
              · simp [t0, t1, ldVar, h1, hL1, U, cm, cm2, c3, c4, c4', c5, c6]
          · have c4' : ¬ ((S.nx : Int) = S.data.length) := by omega
            simp [t0, t1, ldVar, h1, hL1, U, cm, c3, c4, c4']
        · have c3' : S.fi = false := by simpa using c3
          simp [t0, t1, ldVar, h1, hL1, U, cm, c3']
    · simp [g1, g2, g3, g4]
end Go.Ev

/- The specification's sending part: a piece is pulled. -/
namespace Go.Ev
open Go Go.Proofs
set_option linter.unusedSimpArgs false
set_option linter.unusedVariables false

/-- one of the bytes is told otherwise -/
theorem SndS.byte {H : AH} {q : Nat} {S : Snd} {bs : List Nat} (h : SndS H q S bs) {k : Nat} (hk : k < S.how.length) :
    ∃ vd vi b, H.get q = some (.cells 73 false (sndD S vd vi)) ∧ idxA Try.prog 43 vi (.int .i64 k) = some (.ptr b k) ∧ H.get b = some (.cells 3 false (S.how.map (.int .i64))) ∧ b ∈ bs ∧ b ≠ q ∧
      ∀ v, 0 ≤ v ∧ v ≤ 3 → SndS (H.set b (.cells 3 false ((S.how.map (.int .i64)).set k (.int .i64 v)))) q { S with how := S.how.set k v } bs := by
  obtain ⟨⟨vd, vi, bd, bi, h1, h2, h3, rfl⟩, h5, h6⟩ := h
  have h5' := h5
  rw [List.nodup_cons, List.mem_append, List.nodup_append] at h5'
  obtain ⟨nq, nd1, nd2, nd3⟩ := h5'
  rcases ints_own h3 with ⟨rfl, hl, _⟩ | ⟨b, rfl, rfl, hlt, hg⟩
  · have hl : S.how = [] := hl
    rw [hl] at hk; simp at hk
  · have hbq : b ≠ q := fun e => nq (.inr (by simp [e]))
    refine ⟨vd, .slice b 0 S.how.length, b, h1, by simp [idxA, hk], hg, by simp, hbq, fun v hv => ?_⟩
    have hst : ∀ c, c ≠ b → (H.set b (.cells 3 false ((S.how.map (.int .i64)).set k (.int .i64 v)))).get c = H.get c := fun c hc => by rw [AH.set_get, if_neg hc]
    have hin := ints_in h3
    have hnew := ints_one (e := 3) (k := .i64) (H := H.set b (.cells 3 false ((S.how.map (.int .i64)).set k (.int .i64 v)))) (l := S.how.set k v) (b := b) (by simpa using hlt) (by simp [List.map_set])
      (by
        intro d hd
        rcases List.mem_or_eq_of_mem_set hd with hd | hd
        · exact hin d hd
        · rw [hd]; exact (InI.iff v).2 (by omega))
    rw [List.length_set] at hnew
    refine ⟨⟨vd, .slice b 0 S.how.length, bd, [b], ?_, h2.stay (by simp) fun c hc => hst c fun e => nd3 c hc b (by simp) e, hnew, rfl⟩, h5, by simpa using h6⟩
    rw [hst q (Ne.symm hbq)]; exact h1
def PvInv (S : Snd) (q off n p : Nat) (bs : List Nat) (H : AH) (d : Nat) (τ : Tm) (h : AH) : Prop :=
  ∃ k : Nat, k + d = n ∧ τ 0 = .ptr q 0 ∧ τ 4 = .ptr p 0 ∧ τ 5 = .ptr (p + 1) 0 ∧ τ 6 = .int .i64 off ∧ τ 7 = .int .i64 ((off + n : Nat) : Int) ∧ τ 9 = .int .i64 ((off + k : Nat) : Int) ∧
    SndS h q { S with how := setW S.how off k } bs ∧ KoS bs H h ∧ h.next = H.next
theorem pullLoopS {S : Snd} {q off n p : Nat} {bs : List Nat} {H : AH} (hok : S.ok) (hon : off + n ≤ S.data.length) (m : Nat) (hm : 65540 ≤ m) (τ : Tm) (hI : PvInv S q off n p bs H n τ H) :
    ∃ e τ' H', evLoop Try.prog (ev Try.prog m) m (lp Try.prog 64 2042) τ H = some (e, τ', H') ∧ e = .exit 0 ∧ PvInv S q off n p bs H 0 τ' H' := by
  have hdl := hok.len
  have hhl := hok.how
  refine loop_rule (d := n) (PvInv S q off n p bs H) (fun e τ h => e = .exit 0 ∧ PvInv S q off n p bs H 0 τ h) ?_ hI (by omega)
  rintro d τ h ⟨k, hk, t0, t4, t5, t6, t7, t9, hS, hK, hn⟩
  have t7' : τ 7 = .int .i64 ((off : Int) + n) := by rw [t7]; push_cast; rfl
  by_cases hd0 : d = 0
  · subst hd0
    have hkn : k = n := by omega
    subst hkn
    have t9' : τ 9 = .int .i64 ((off : Int) + k) := by rw [t9]; push_cast; rfl
    rewrite [lp64_2042]
    simp [Try.f64, t0, t6, t7', t9']
    exact ⟨k, hk, t0, t4, t5, t6, t7, t9, hS, hK, hn⟩
  · have hlt : off + k < (setW S.how off k).length := by rw [setW_len]; omega
    have hlt' : off + k < S.how.length := by omega
    have hlt2 : ((off + k : Nat) : Int) < (off : Int) + n := by push_cast; omega
    obtain ⟨vd, vi, b, g1, g2, g3, g4, g5, g6⟩ := hS.byte hlt
    have hst : stVar Try.prog 3 b (off + k) (.int .i64 1) h = some (h.set b (.cells 3 false (((setW S.how off k).map (.int .i64)).set (off + k) (.int .i64 1)))) := st_one g3 (by simp) rfl (by simpa using hlt)
    have hnew := g6 1 (by omega)
    simp only [sndD] at g1
    have hset : (setW S.how off k).set (off + k) 1 = setW S.how off (k + 1) := setW_step _ _ _ hlt'
    simp only [hset] at hnew
    have hld : ldVar Try.prog 43 q 6 h = some vi := by rw [ld_one g1 (by simp)]; rfl
    generalize hX : ((off + k : Nat) : Int) = X at *
    rewrite [lp64_2042]
    simp [Try.f64, t0, t6, t7', t9, hlt2, hld, g2, hst, wrap_i64 (n := X + 1) (by omega) (by omega)]
    exact ⟨d - 1, by omega, k + 1, by omega, by simp [t0], by simp [t4], by simp [t5], by simp [t6], by simp [t7], by simp; omega, hnew,
      hK.trans ⟨by simp, fun c hc hcb => by rw [AH.set_get, if_neg (fun e => hcb (by rw [e]; exact g4))]⟩ (fun c hc => .inl hc), hn⟩
end Go.Ev

/- The specification's sending part: a piece is pulled, whole. -/
namespace Go.Ev
open Go Go.Proofs
set_option linter.unusedSimpArgs false
set_option linter.unusedVariables false

def PvRes (H : AH) (q : Nat) (bs : List Nat) (n : Int) (m : Nat) (R : Snd × (Int × Int × Int × List Int × Bool × Bool × Bool)) : Prop :=
  ∃ c H' bo, ev Try.prog m 64 [.ptr q 0, .int .i64 n] H = some (.agg c, H') ∧ SndS H' q R.1 bs ∧ KoS bs H H' ∧ tSendObs.R true H' c R.2 bo ∧ bo.Nodup ∧ ∀ b ∈ bo, H.next ≤ b
theorem pvRes_of {H : AH} {q : Nat} {S : Snd} {bs : List Nat} (h : SndS H q S bs) {n : Int} {m : Nat} (k : Int) (bl : Bool) (hk : 0 ≤ k ∧ k ≤ 100) (X Y Z : Blk)
    (hev : ev Try.prog m 64 [.ptr q 0, .int .i64 n] H = some (.agg [.int .i64 k, .int .i64 0, .int .i64 0, .nilSlice, .bool false, .bool false, .bool bl], ((H.push X).push Y).set H.next Z)) : PvRes H q bs n m (S, (k, 0, 0, [], false, false, bl)) := by
  have K : Kp H (((H.push X).push Y).set H.next Z) := (((Kp.refl H).push _).push _).set (Nat.le_refl _) _
  exact ⟨_, _, [], hev, h.kp K, K.koS _, SendObs_in (.inl ⟨rfl, rfl, rfl⟩) (inI_small (by omega) (by omega)) (inI_small (by omega) (by omega)) (inI_small (by omega) (by omega)), by simp, by simp⟩
theorem pullS_ev {H : AH} {q : Nat} {S : Snd} {bs : List Nat} (h : SndS H q S bs) (hok : S.ok) {nN : Nat} (c1 : 1 ≤ nN) (c2 : nN ≤ 1500) (m : Nat) (hm : 65560 ≤ m) : PvRes H q bs nN m (pullP S nN) := by
  obtain ⟨m, rfl⟩ : ∃ k, m = k + 1 := ⟨m - 1, by omega⟩
  have hmem := h.mem
  have hdl := hok.len
  have hhl := hok.how
  have hnx := hok.nx
  have hst0 := hok.st
  have hqn : ¬ (q = H.next) := by have := h.lt; omega
  have hqn1 : ¬ (q = H.next + 1) := by have := h.lt; omega
  have K2 : ∀ X Y, Kp H ((H.push X).push Y) := fun X Y => ((Kp.refl H).push _).push _
  obtain ⟨vd, vi, h1, o1, o2, hL, hLi, _, _⟩ := h.put (S' := S) rfl rfl
  obtain ⟨⟨vd2, vi2, bd, bi, e1, e2, e3, e4⟩, _, hq⟩ := id h
  rw [h1] at e1
  simp only [Option.some.injEq, Blk.cells.injEq, sndD, List.cons.injEq, true_and, and_true] at e1
  obtain ⟨rfl, rfl⟩ := e1
  simp only [sndD] at h1
  have hn0 : ¬ (H.next = H.next + 1) := by omega
  have hEv := ev_eq Try.func64 ok64 m [.ptr q 0, .int .i64 nN] H (by simp [Try.f64])
  unfold pullP
  rw [if_neg (by omega)]
  simp only [Int.toNat_natCast]
  have hle := pieceP_le hok nN
  have hnext := pieceS_ev (h.kp (K2 (.cells 75 false zObs) (.cells 75 false zObs))) hok (n := nN) (by omega) (by omega) m (by omega)
  have hlive := liveS_ev (h.kp (K2 (.cells 75 false zObs) (.cells 75 false zObs))) hok m (by omega)
  generalize pieceP S nN = Pc at *
  obtain ⟨A, B, som⟩ := Pc
  simp only at hle hnext ⊢
  simp only [zObs] at hnext hlive
  cases som with
  | false =>
    rw [if_pos rfl]
    refine pvRes_of h 0 (decide (S.st ≤ 2 ∧ S.nx < S.data.length)) (by omega) (.cells 75 false zObs) (.cells 75 false [.int .i64 0, .int .i64 0, .int .i64 0, .nilSlice, .bool false, .bool false, .bool (decide (S.st ≤ 2 ∧ S.nx < S.data.length))]) (.cells 75 false [.int .i64 0, .int .i64 0, .int .i64 0, .nilSlice, .bool false, .bool false, .bool (decide (S.st ≤ 2 ∧ S.nx < S.data.length))]) ?_
    rw [hEv]
    by_cases c3 : S.st ≤ 2
    · simp only [c3, decide_true] at hlive
      by_cases c4 : S.nx < S.data.length
      · simp [Try.f64, hnext, hlive, ldVar, stVar, spl, push_set2, zObs, hn0, h1, hqn, hqn1, hL, c3, c4]
      · simp [Try.f64, hnext, hlive, ldVar, stVar, spl, push_set2, zObs, hn0, h1, hqn, hqn1, hL, c3, c4]
    · simp only [c3, decide_false] at hlive
      simp [Try.f64, hnext, hlive, ldVar, stVar, spl, push_set2, zObs, hn0, h1, hqn, hqn1, hL, c3]
  | true =>
    rw [if_neg (by simp)]
    obtain ⟨D, hD⟩ : ∃ D, D = B - A := ⟨_, rfl⟩
    have hDB : A + D = B := by omega
    rw [← hD]
    obtain ⟨sc, p1, p2⟩ := cutBs (tB_bs e2).1 A D (by omega) (A := (A : Int)) (N := (B : Int)) rfl (by omega)
    let Z1 : Blk := .cells 75 false [.int .i64 0, .int .i64 0, .int .i64 A, .nilSlice, .bool true, .bool false, .bool false]
    have KA := K2 (.cells 75 false zObs) Z1
    have p1' := p1 _ KA
    obtain ⟨r, H1, k1, k2, k3⟩ := l03Copy_ev p2 KA (by simp; omega) m (by omega)
    obtain ⟨br, k4, k5, k6⟩ := ow_tB k3 (((tB_bs e2).2.drop A).take D)
    have KH1 := KA.trans k2
    have hone := (tB_bs k4).1.one
    have hn1 := k2.next
    simp only [AH.push_next] at hn1 k6
    simp only [zObs, Z1] at k1 k2 p1' KA KH1
    have g1 : H1.get (H.next + 1) = some (.cells 75 false [.int .i64 0, .int .i64 0, .int .i64 A, .nilSlice, .bool true, .bool false, .bool false]) := by rw [k2.get _ (by simp)]; simp
    have g0 : H1.get H.next = some (.cells 75 false [.int .i64 0, .int .i64 0, .int .i64 0, .nilSlice, .bool false, .bool false, .bool false]) := by rw [k2.get _ (by simp; omega)]; simp
    obtain ⟨BO, hBO⟩ : ∃ X, X = Blk.cells 75 false [.int .i64 0, .int .i64 0, .int .i64 A, r, .bool true, .bool false, .bool false] := ⟨_, rfl⟩
    have KH2 : Kp H (H1.set (H.next + 1) BO) := KH1.set (by omega) _
    have hS0 : SndS (H1.set (H.next + 1) BO) q { S with how := setW S.how A 0 } bs := by rw [setW_zero]; exact h.kp KH2
    unfold PvRes
    rw [hEv]
    simp [Try.f64, hnext, ldVar, stVar, spl, push_set2, hn0, h1, hqn, hqn1, p1', k1, g1, hone, cells_one hone, ← hBO, U]
    generalize hLo : evLoop _ _ _ _ _ _ = R
    obtain ⟨e, τ', h3, rfl, rfl, k, hk, t0, t4, t5, t6, t7, t9, hS3, hK3, hn3⟩ := loop_at hLo (pullLoopS (S := S) (q := q) (off := A) (n := D) (p := H.next) (bs := bs) hok (by omega) m (by omega) _ ⟨0, by simp, by simp, by simp, by simp, by simp, by simp; omega, by simp, hS0, KoS.refl _ _, rfl⟩)
    have hkD : k = D := by omega
    subst hkD
    have nb0 : H.next ∉ bs := fun e => by have := hmem _ e; omega
    have nb1 : H.next + 1 ∉ bs := fun e => by have := hmem _ e; omega
    have f1 : h3.get (H.next + 1) = some BO := by rw [hK3.get _ (by simp; omega) nb1, AH.set_get, if_pos rfl]
    have f0 : h3.get H.next = some (.cells 75 false [.int .i64 0, .int .i64 0, .int .i64 0, .nilSlice, .bool false, .bool false, .bool false]) := by
      rw [hK3.get _ (by simp; omega) nb0, AH.set_get, if_neg (by omega)]; exact g0
    rw [hBO] at f1
    simp only [AH.set_next] at hn3
    have fin : ∀ (S2 : Snd) (BQ : Blk) (Hf : AH), SndS (h3.set q BQ) q S2 bs → Hf.next = h3.next → (∀ b, b ≠ H.next → b ≠ H.next + 1 → Hf.get b = (h3.set q BQ).get b) → SndS Hf q S2 bs ∧ KoS bs H Hf ∧ tB.R true Hf [r] ((S.data.drop A).take k) br := fun S2 BQ Hf hS2 hnf hgf =>
      ⟨hS2.same (by simp; omega) fun b hb => hgf b (fun e => nb0 (by rw [← e]; exact hb)) (fun e => nb1 (by rw [← e]; exact hb)),
       ⟨by omega, fun b hb hbb => by
          have hbq : b ≠ q := fun e => hbb (by rw [e, e4]; simp)
          rw [hgf b (by omega) (by omega), AH.set_get, if_neg hbq, hK3.get b (by simp; omega) hbb, AH.set_get, if_neg (by omega)]
          exact KH1.get b hb⟩,
       k4.stay (by omega) fun b hb => by
          have h1 := k6 b hb
          have hbq : b ≠ q := by have := h.lt; omega
          have hbb : b ∉ bs := fun e => by have := hmem _ e; omega
          rw [hgf b (by omega) (by omega), AH.set_get, if_neg hbq, hK3.get b (by simp; omega) hbb, AH.set_get, if_neg (by omega)]⟩
    have t7' : τ' 7 = .int .i64 (B : Int) := by rw [t7, hDB]
    obtain ⟨MX, hMX⟩ : ∃ x : Nat, x = max S.nx B := ⟨_, rfl⟩
    have mxe : (if (S.nx : Int) < (B : Int) then (B : Int) else (S.nx : Int)) = (MX : Int) := by split <;> omega
    have mxe2 : (if S.nx < B then (B : Int) else (S.nx : Int)) = (MX : Int) := by split <;> omega
    simp only [← hMX]
    have q0 : ¬ (H.next = q) := Ne.symm hqn
    have q1 : ¬ (H.next + 1 = q) := Ne.symm hqn1
    have q2 : ¬ (H.next + 1 = H.next) := by omega
    have iA : InI (A : Int) := inI_small (by omega) (by omega)
    have i0 : InI 0 := inI_small (by omega) (by omega)
    have hbo : ∀ b ∈ br, H.next ≤ b := fun b hb => by have := (k6 b hb).1; omega
    by_cases c5 : S.fi = true ∧ B = S.data.length ∧ S.fn ≠ 2
    · rw [if_pos c5]
      obtain ⟨c51, c52, c53⟩ := c5
      have c52' : (B : Int) = S.data.length := by omega
      have mxe3 : (if (S.nx : Int) < (S.data.length : Int) then (S.data.length : Int) else (S.nx : Int)) = (MX : Int) := by rw [← c52']; exact mxe
      have mxe4 : (if S.nx < S.data.length then (S.data.length : Int) else (S.nx : Int)) = (MX : Int) := by split <;> omega
      obtain ⟨vd3, vi3, y1, yo1, yo2, hL3, hLi3, y2, y3⟩ := hS3.put (S' := { S with how := setW S.how A k, nx := MX, fn := 1, st := 2 }) rfl rfl
      simp only [sndD] at y1 y2
      rw [c51] at y1 y2 ⊢
      by_cases c8 : S.st = 0
      · rw [c8] at y1
        simp [t0, t4, t5, t6, t7', ldVar, stVar, spl, y1, f0, f1, hL3, mxe, mxe2, q0, q1, q2, hqn, hqn1, hn0, hone, cells_one hone, U, mxe3, mxe4, c52', c52, c53, c8]
        obtain ⟨r1, r2, r3⟩ := fin _ _ ((((h3.set q (.cells 73 false [.int .i64 1, .int .i64 S.cr, .int .i64 MX, .int .i64 S.fn, .bool true, vd3, vi3])).set (H.next + 1) (.cells 75 false [.int .i64 0, .int .i64 0, .int .i64 A, r, .bool true, .bool true, .bool false])).set q (.cells 73 false [.int .i64 2, .int .i64 S.cr, .int .i64 MX, .int .i64 1, .bool true, vd3, vi3])).set H.next (.cells 75 false [.int .i64 0, .int .i64 0, .int .i64 A, r, .bool true, .bool true, .bool false])) y2 (by simp) (fun b hb0 hb1 => by
          simp only [AH.set_get, if_neg hb0, if_neg hb1]
          by_cases e : b = q
          · simp [e]
          · simp [e])
        exact ⟨_, _, ⟨rfl, rfl⟩, r1, r2, br, SendObs_in r3 i0 i0 iA, k5, hbo⟩
      · skip
        simp [t0, t4, t5, t6, t7', ldVar, stVar, spl, y1, f0, f1, hL3, mxe, mxe2, q0, q1, q2, hqn, hqn1, hn0, hone, cells_one hone, U, mxe3, mxe4, c52', c52, c53, c8]
        obtain ⟨r1, r2, r3⟩ := fin _ _ ((((h3.set q (.cells 73 false [.int .i64 S.st, .int .i64 S.cr, .int .i64 MX, .int .i64 S.fn, .bool true, vd3, vi3])).set (H.next + 1) (.cells 75 false [.int .i64 0, .int .i64 0, .int .i64 A, r, .bool true, .bool true, .bool false])).set q (.cells 73 false [.int .i64 2, .int .i64 S.cr, .int .i64 MX, .int .i64 1, .bool true, vd3, vi3])).set H.next (.cells 75 false [.int .i64 0, .int .i64 0, .int .i64 A, r, .bool true, .bool true, .bool false])) y2 (by simp) (fun b hb0 hb1 => by
          simp only [AH.set_get, if_neg hb0, if_neg hb1]
          by_cases e : b = q
          · simp [e]
          · simp [e])
        exact ⟨_, _, ⟨rfl, rfl⟩, r1, r2, br, SendObs_in r3 i0 i0 iA, k5, hbo⟩
    · rw [if_neg c5]
      by_cases c8 : S.st = 0
      · rw [if_pos c8]
        obtain ⟨vd3, vi3, y1, yo1, yo2, hL3, hLi3, y2, y3⟩ := hS3.put (S' := { S with how := setW S.how A k, nx := MX, st := 1 }) rfl rfl
        simp only [sndD] at y1 y2
        rw [c8] at y1
        by_cases d1 : S.fi = true
        · rw [d1] at y1 y2 ⊢
          by_cases d2 : B = S.data.length
          · have d3 : S.fn = 2 := Classical.byContradiction fun e => c5 ⟨d1, d2, e⟩
            have d2' : (B : Int) = S.data.length := by omega
            have mxe3 : (if (S.nx : Int) < (S.data.length : Int) then (S.data.length : Int) else (S.nx : Int)) = (MX : Int) := by rw [← d2']; exact mxe
            have mxe4 : (if S.nx < S.data.length then (S.data.length : Int) else (S.nx : Int)) = (MX : Int) := by split <;> omega
            rw [d3] at y1 y2 ⊢
            simp [t0, t4, t5, t6, t7', ldVar, stVar, spl, y1, f0, f1, hL3, mxe, mxe2, q0, q1, q2, hqn, hqn1, hn0, hone, cells_one hone, U, mxe3, mxe4, d2', d2, c8]
            obtain ⟨r1, r2, r3⟩ := fin _ _ ((h3.set q (.cells 73 false [.int .i64 1, .int .i64 S.cr, .int .i64 MX, .int .i64 2, .bool true, vd3, vi3])).set H.next (.cells 75 false [.int .i64 0, .int .i64 0, .int .i64 A, r, .bool true, .bool false, .bool false])) y2 (by simp) (fun b hb0 hb1 => by simp only [AH.set_get, if_neg hb0])
            exact ⟨_, _, ⟨rfl, rfl⟩, r1, r2, br, SendObs_in r3 i0 i0 iA, k5, hbo⟩
          · have d2' : ¬ ((B : Int) = S.data.length) := by omega
            simp [t0, t4, t5, t6, t7', ldVar, stVar, spl, y1, f0, f1, hL3, mxe, mxe2, q0, q1, q2, hqn, hqn1, hn0, hone, cells_one hone, U, d2', d2, c8]
            obtain ⟨r1, r2, r3⟩ := fin _ _ ((h3.set q (.cells 73 false [.int .i64 1, .int .i64 S.cr, .int .i64 MX, .int .i64 S.fn, .bool true, vd3, vi3])).set H.next (.cells 75 false [.int .i64 0, .int .i64 0, .int .i64 A, r, .bool true, .bool false, .bool false])) y2 (by simp) (fun b hb0 hb1 => by simp only [AH.set_get, if_neg hb0])
            exact ⟨_, _, ⟨rfl, rfl⟩, r1, r2, br, SendObs_in r3 i0 i0 iA, k5, hbo⟩
        · have d1' : S.fi = false := by simpa using d1
          rw [d1'] at y1 y2 ⊢
          simp [t0, t4, t5, t6, t7', ldVar, stVar, spl, y1, f0, f1, hL3, mxe, mxe2, q0, q1, q2, hqn, hqn1, hn0, hone, cells_one hone, U, c8]
          obtain ⟨r1, r2, r3⟩ := fin _ _ ((h3.set q (.cells 73 false [.int .i64 1, .int .i64 S.cr, .int .i64 MX, .int .i64 S.fn, .bool false, vd3, vi3])).set H.next (.cells 75 false [.int .i64 0, .int .i64 0, .int .i64 A, r, .bool true, .bool false, .bool false])) y2 (by simp) (fun b hb0 hb1 => by simp only [AH.set_get, if_neg hb0])
          exact ⟨_, _, ⟨rfl, rfl⟩, r1, r2, br, SendObs_in r3 i0 i0 iA, k5, hbo⟩
      · rw [if_neg c8]
        obtain ⟨vd3, vi3, y1, yo1, yo2, hL3, hLi3, y2, y3⟩ := hS3.put (S' := { S with how := setW S.how A k, nx := MX, st := S.st }) rfl rfl
        simp only [sndD] at y1 y2
        by_cases d1 : S.fi = true
        · rw [d1] at y1 y2 ⊢
          by_cases d2 : B = S.data.length
          · have d3 : S.fn = 2 := Classical.byContradiction fun e => c5 ⟨d1, d2, e⟩
            have d2' : (B : Int) = S.data.length := by omega
            have mxe3 : (if (S.nx : Int) < (S.data.length : Int) then (S.data.length : Int) else (S.nx : Int)) = (MX : Int) := by rw [← d2']; exact mxe
            have mxe4 : (if S.nx < S.data.length then (S.data.length : Int) else (S.nx : Int)) = (MX : Int) := by split <;> omega
            rw [d3] at y1 y2 ⊢
            simp [t0, t4, t5, t6, t7', ldVar, stVar, spl, y1, f0, f1, hL3, mxe, mxe2, q0, q1, q2, hqn, hqn1, hn0, hone, cells_one hone, U, mxe3, mxe4, d2', d2, c8]
            obtain ⟨r1, r2, r3⟩ := fin _ _ ((h3.set q (.cells 73 false [.int .i64 S.st, .int .i64 S.cr, .int .i64 MX, .int .i64 2, .bool true, vd3, vi3])).set H.next (.cells 75 false [.int .i64 0, .int .i64 0, .int .i64 A, r, .bool true, .bool false, .bool false])) y2 (by simp) (fun b hb0 hb1 => by simp only [AH.set_get, if_neg hb0])
            exact ⟨_, _, ⟨rfl, rfl⟩, r1, r2, br, SendObs_in r3 i0 i0 iA, k5, hbo⟩
          · have d2' : ¬ ((B : Int) = S.data.length) := by omega
            simp [t0, t4, t5, t6, t7', ldVar, stVar, spl, y1, f0, f1, hL3, mxe, mxe2, q0, q1, q2, hqn, hqn1, hn0, hone, cells_one hone, U, d2', d2, c8]
            obtain ⟨r1, r2, r3⟩ := fin _ _ ((h3.set q (.cells 73 false [.int .i64 S.st, .int .i64 S.cr, .int .i64 MX, .int .i64 S.fn, .bool true, vd3, vi3])).set H.next (.cells 75 false [.int .i64 0, .int .i64 0, .int .i64 A, r, .bool true, .bool false, .bool false])) y2 (by simp) (fun b hb0 hb1 => by simp only [AH.set_get, if_neg hb0])
            exact ⟨_, _, ⟨rfl, rfl⟩, r1, r2, br, SendObs_in r3 i0 i0 iA, k5, hbo⟩
        · have d1' : S.fi = false := by simpa using d1
          rw [d1'] at y1 y2 ⊢
          simp [t0, t4, t5, t6, t7', ldVar, stVar, spl, y1, f0, f1, hL3, mxe, mxe2, q0, q1, q2, hqn, hqn1, hn0, hone, cells_one hone, U, c8]
          obtain ⟨r1, r2, r3⟩ := fin _ _ ((h3.set q (.cells 73 false [.int .i64 S.st, .int .i64 S.cr, .int .i64 MX, .int .i64 S.fn, .bool false, vd3, vi3])).set H.next (.cells 75 false [.int .i64 0, .int .i64 0, .int .i64 A, r, .bool true, .bool false, .bool false])) y2 (by simp) (fun b hb0 hb1 => by simp only [AH.set_get, if_neg hb0])
          exact ⟨_, _, ⟨rfl, rfl⟩, r1, r2, br, SendObs_in r3 i0 i0 iA, k5, hbo⟩
end Go.Ev

/- The specification's sending part: what is heard. -/
namespace Go.Ev
open Go Go.Proofs
set_option linter.unusedSimpArgs false
set_option linter.unusedVariables false

/-- as setR, but only the first i are done -/
def setU (l : List Int) (off n : Nat) (a : Bool) (i : Nat) : List Int := (setR l off n a).take i ++ l.drop i
theorem setU_len (l : List Int) (off n : Nat) (a : Bool) (i : Nat) : (setU l off n a i).length = l.length := by simp [setU, setR_len]; omega
theorem setU_at (l : List Int) (off n : Nat) (a : Bool) (i : Nat) (h : i < l.length) : (setU l off n a i)[i]'(by rw [setU_len]; exact h) = l[i] := by
  unfold setU
  rw [List.getElem_append_right (by simp; omega)]
  simp [setR_len, Nat.min_eq_left (Nat.le_of_lt h)]
theorem setU_step (l : List Int) (off n : Nat) (a : Bool) (i : Nat) (h : i < l.length) : (setU l off n a i).set i ((setR l off n a)[i]'(by rw [setR_len]; exact h)) = setU l off n a (i + 1) := by
  unfold setU
  have hl : ((setR l off n a).take i).length = i := by simp [setR_len]; omega
  rw [List.set_append_right _ _ (by omega), hl, Nat.sub_self, List.drop_eq_getElem_cons h, List.set_cons_zero, List.take_add_one, List.getElem?_eq_getElem (by rw [setR_len]; exact h), List.append_assoc]
  rfl
theorem setU_same (l : List Int) (off n : Nat) (a : Bool) (i : Nat) (h : i < l.length) (e : (setR l off n a)[i]'(by rw [setR_len]; exact h) = l[i]) : setU l off n a (i + 1) = setU l off n a i := by
  rw [← setU_step l off n a i h, e, ← setU_at l off n a i h, List.set_getElem_self]
theorem setU_zero (l : List Int) (off n : Nat) (a : Bool) : setU l off n a 0 = l := by simp [setU]
theorem setU_all (l : List Int) (off n : Nat) (a : Bool) : setU l off n a l.length = setR l off n a := by
  have : (setR l off n a).take l.length = setR l off n a := by rw [← setR_len l off n a, List.take_length]
  simp [setU, this]
def HsInv (S : Snd) (q off n : Nat) (a fin : Bool) (how : Int) (bs : List Nat) (H : AH) (d : Nat) (τ : Tm) (h : AH) : Prop :=
  ∃ i : Nat, i + d = S.how.length ∧ τ 0 = .ptr q 0 ∧ τ 1 = .int .i64 off ∧ τ 2 = .int .i64 n ∧ τ 3 = .bool fin ∧ τ 4 = .int .i64 how ∧ τ 12 = .int .i64 i ∧
    (∃ b : Bool, τ 11 = .bool b ∧ (b = true ↔ S.fi = true ∧ ∀ x ∈ (setR S.how off n a).take i, x = 2)) ∧
    SndS h q { S with how := setU S.how off n a i } bs ∧ KoS bs H h ∧ h.next = H.next
theorem heardLoopS {S : Snd} {q off n : Nat} {a fin : Bool} {how : Int} {bs : List Nat} {H : AH} (hok : S.ok) (hon : off + n ≤ S.nx) (hha : how = if a then 2 else 3) (m : Nat) (hm : 65540 ≤ m) (τ : Tm) (hI : HsInv S q off n a fin how bs H S.how.length τ H) :
    ∃ e τ' H', evLoop Try.prog (ev Try.prog m) m (lp Try.prog 65 250) τ H = some (e, τ', H') ∧ e = .exit 0 ∧ HsInv S q off n a fin how bs H 0 τ' H' := by
  have hdl := hok.len
  have hhl := hok.how
  have hnx := hok.nx
  refine loop_rule (d := S.how.length) (HsInv S q off n a fin how bs H) (fun e τ h => e = .exit 0 ∧ HsInv S q off n a fin how bs H 0 τ h) ?_ hI (by omega)
  rintro d τ h ⟨i, hi, t0, t1, t2, t3, t4, t12, ⟨b, t11, hb⟩, hS, hK, hn⟩
  have w1 := wrap_i64 (n := (off : Int) + n) (by omega) (by omega)
  obtain ⟨vd0, vi0, y1, yo1, yo2, L1, L2, _, _⟩ := hS.put (S' := { S with how := setU S.how off n a i }) rfl rfl
  simp only [sndD] at y1
  have e2 : ((List.length (setU S.how off n a i) : Nat) : Int) = S.how.length := by rw [setU_len]
  simp only [e2] at L2
  by_cases hd0 : d = 0
  · subst hd0
    have hin : (i : Int) = S.how.length := by omega
    rewrite [lp65_250]
    simp [Try.f65, t0, t12, ldVar, y1, L2, hin]
    exact ⟨i, hi, t0, t1, t2, t3, t4, t12, ⟨b, t11, hb⟩, hS, hK, hn⟩
  · have hlt : i < S.how.length := by omega
    have hltU : i < (setU S.how off n a i).length := by rw [setU_len]; exact hlt
    have hltR : i < (setR S.how off n a).length := by rw [setR_len]; exact hlt
    obtain ⟨vd, vi, c, g1, g2, g3, g4, g5, g6⟩ := hS.byte hltU
    rw [y1] at g1
    simp only [Option.some.injEq, Blk.cells.injEq, sndD, List.cons.injEq, true_and, and_true] at g1
    obtain ⟨rfl, rfl⟩ := g1
    have hx : ((setU S.how off n a i).map (AV.int .i64))[i]? = some (.int .i64 S.how[i]) := by
      rw [List.getElem?_map, List.getElem?_eq_getElem hltU, setU_at _ _ _ _ _ hlt]; rfl
    have hR := setR_get S.how off n a i hlt
    have hwi := wrap_i64 (n := (i : Int) + 1) (by omega) (by omega)
    have htk : (setR S.how off n a).take (i + 1) = (setR S.how off n a).take i ++ [(setR S.how off n a)[i]] := by rw [List.take_add_one, List.getElem?_eq_getElem hltR]; rfl
    have hball : ∀ v, (setR S.how off n a)[i] = v → ((b = true ∧ v = 2) ↔ S.fi = true ∧ ∀ x ∈ (setR S.how off n a).take (i + 1), x = 2) := by
      intro v hv
      rw [htk, hb, hv]
      constructor
      · rintro ⟨⟨h1, h2⟩, h3⟩
        refine ⟨h1, fun x hx => ?_⟩
        rcases List.mem_append.1 hx with hx | hx
        · exact h2 x hx
        · simp at hx; rw [hx]; exact h3
      · rintro ⟨h1, h2⟩
        exact ⟨⟨h1, fun x hx => h2 x (by simp [hx])⟩, h2 v (by simp)⟩
    have hld3 : ldVar Try.prog 43 q 6 h = some vi0 := by rw [ld_one y1 (by simp)]; rfl
    have hldc : ldVar Try.prog 3 c i h = some (.int .i64 S.how[i]) := by rw [ld_one g3 (by simp)]; exact hx
    by_cases cr : off ≤ i ∧ i < off + n
    · obtain ⟨cr1, cr2⟩ := cr
      have cr1' : (off : Int) ≤ i := by omega
      have cr2' : (i : Int) < (off : Int) + n := by omega
      rw [if_pos ⟨cr1, cr2⟩] at hR
      by_cases cx : S.how[i] = 2
      · have hRv : (setR S.how off n a)[i] = S.how[i] := by rw [hR, cx]; unfold setOne; split <;> rfl
        have hsame := setU_same S.how off n a i hlt hRv
        have hfin := hball 2 (by rw [hRv, cx])
        rw [cx] at hldc
        rewrite [lp65_250]
        cases b with
        | true =>
          simp [Try.f65, t0, t1, t2, t4, t11, t12, w1, hld3, L2, hlt, g2, hldc, cr1, cr2', hwi]
          exact ⟨d - 1, by omega, i + 1, by omega, by simp [t0], by simp [t1], by simp [t2], by simp [t3], by simp [t4], by simp, ⟨true, by simp, by simpa using hfin⟩, by rw [hsame]; exact hS, hK, hn⟩
        | false =>
          simp [Try.f65, t0, t1, t2, t4, t11, t12, w1, hld3, L2, hlt, g2, hldc, cr1, cr2', hwi]
          exact ⟨d - 1, by omega, i + 1, by omega, by simp [t0], by simp [t1], by simp [t2], by simp [t3], by simp [t4], by simp, ⟨false, by simp, by simpa using hfin⟩, by rw [hsame]; exact hS, hK, hn⟩
      · have hRv : (setR S.how off n a)[i] = how := by
          rw [hR, hha]; unfold setOne
          cases a with
          | true => rfl
          | false => simp [cx]
        have hfin := hball how hRv
        have hh3 : 0 ≤ how ∧ how ≤ 3 := by rw [hha]; split <;> omega
        have hst : stVar Try.prog 3 c i (.int .i64 how) h = some (h.set c (.cells 3 false (((setU S.how off n a i).map (.int .i64)).set i (.int .i64 how)))) := st_one g3 (by simp) rfl (by simpa using hltU)
        have hnew := g6 how hh3
        have hstep := setU_step S.how off n a i hlt
        rw [hRv] at hstep
        simp only [hstep] at hnew
        have hgq : (h.set c (.cells 3 false (((setU S.how off n a i).map (.int .i64)).set i (.int .i64 how)))).get q = h.get q := by rw [AH.set_get, if_neg (Ne.symm g5)]
        rw [y1] at hgq
        have hld4 : ldVar Try.prog 43 q 6 (h.set c (.cells 3 false (((setU S.how off n a i).map (.int .i64)).set i (.int .i64 how)))) = some vi0 := by rw [ld_one hgq (by simp)]; rfl
        have hld5 : ldVar Try.prog 3 c i (h.set c (.cells 3 false (((setU S.how off n a i).map (.int .i64)).set i (.int .i64 how)))) = some (.int .i64 how) := by
          rw [ld_one (e := 3) (ro := false) (xs := ((setU S.how off n a i).map (.int .i64)).set i (.int .i64 how)) (by rw [AH.set_get, if_pos rfl]) (by simp)]
          rw [List.getElem?_set_self (by simpa using hltU)]
        have hK2 : KoS bs H (h.set c (.cells 3 false (((setU S.how off n a i).map (.int .i64)).set i (.int .i64 how)))) := hK.trans ⟨by simp, fun y hy hyb => by rw [AH.set_get, if_neg (fun e => hyb (by rw [e]; exact g4))]⟩ (fun y hy => .inl hy)
        have hn2 : (h.set c (.cells 3 false (((setU S.how off n a i).map (.int .i64)).set i (.int .i64 how)))).next = H.next := hn
        generalize (h.set c (.cells 3 false (((setU S.how off n a i).map (.int .i64)).set i (.int .i64 how)))) = h2 at *
        rewrite [lp65_250]
        cases b with
        | true =>
          by_cases c22 : how = 2
          · subst c22
            simp [Try.f65, t0, t1, t2, t4, t11, t12, w1, hld3, L2, hlt, g2, hldc, cr1, cr2', cx, hst, hld4, hld5, hwi]
            exact ⟨d - 1, by omega, i + 1, by omega, by simp [t0], by simp [t1], by simp [t2], by simp [t3], by simp [t4], by simp, ⟨true, by simp, by simpa using hfin⟩, hnew, hK2, hn2⟩
          · simp [Try.f65, t0, t1, t2, t4, t11, t12, w1, hld3, L2, hlt, g2, hldc, cr1, cr2', cx, hst, hld4, hld5, c22, hwi]
            exact ⟨d - 1, by omega, i + 1, by omega, by simp [t0], by simp [t1], by simp [t2], by simp [t3], by simp [t4], by simp, ⟨false, by simp [c22], by simpa [c22] using hfin⟩, hnew, hK2, hn2⟩
        | false =>
          simp [Try.f65, t0, t1, t2, t4, t11, t12, w1, hld3, L2, hlt, g2, hldc, cr1, cr2', cx, hst, hld4, hld5, hwi]
          exact ⟨d - 1, by omega, i + 1, by omega, by simp [t0], by simp [t1], by simp [t2], by simp [t3], by simp [t4], by simp, ⟨false, by simp, by simpa using hfin⟩, hnew, hK2, hn2⟩
    · rw [if_neg cr] at hR
      have hsame := setU_same S.how off n a i hlt hR
      have hfin := hball _ hR
      by_cases cr1 : off ≤ i
      · have cr2' : ¬ ((i : Int) < (off : Int) + n) := by omega
        rewrite [lp65_250]
        cases b with
        | true =>
          by_cases cx : S.how[i] = 2
          · rw [cx] at hldc
            simp [Try.f65, t0, t1, t2, t4, t11, t12, w1, hld3, L2, hlt, g2, hldc, cr1, cr2', hwi]
            exact ⟨d - 1, by omega, i + 1, by omega, by simp [t0], by simp [t1], by simp [t2], by simp [t3], by simp [t4], by simp, ⟨true, by simp, by simpa [cx] using hfin⟩, by rw [hsame]; exact hS, hK, hn⟩
          · simp [Try.f65, t0, t1, t2, t4, t11, t12, w1, hld3, L2, hlt, g2, hldc, cr1, cr2', cx, hwi]
            exact ⟨d - 1, by omega, i + 1, by omega, by simp [t0], by simp [t1], by simp [t2], by simp [t3], by simp [t4], by simp, ⟨false, by simp [cx], by simpa [cx] using hfin⟩, by rw [hsame]; exact hS, hK, hn⟩
        | false =>
          simp [Try.f65, t0, t1, t2, t4, t11, t12, w1, hld3, L2, hlt, g2, hldc, cr1, cr2', hwi]
          exact ⟨d - 1, by omega, i + 1, by omega, by simp [t0], by simp [t1], by simp [t2], by simp [t3], by simp [t4], by simp, ⟨false, by simp, by simpa using hfin⟩, by rw [hsame]; exact hS, hK, hn⟩
      · rewrite [lp65_250]
        cases b with
        | true =>
          by_cases cx : S.how[i] = 2
          · rw [cx] at hldc
            simp [Try.f65, t0, t1, t2, t4, t11, t12, w1, hld3, L2, hlt, g2, hldc, cr1, hwi]
            exact ⟨d - 1, by omega, i + 1, by omega, by simp [t0], by simp [t1], by simp [t2], by simp [t3], by simp [t4], by simp, ⟨true, by simp, by simpa [cx] using hfin⟩, by rw [hsame]; exact hS, hK, hn⟩
          · simp [Try.f65, t0, t1, t2, t4, t11, t12, w1, hld3, L2, hlt, g2, hldc, cr1, cx, hwi]
            exact ⟨d - 1, by omega, i + 1, by omega, by simp [t0], by simp [t1], by simp [t2], by simp [t3], by simp [t4], by simp, ⟨false, by simp [cx], by simpa [cx] using hfin⟩, by rw [hsame]; exact hS, hK, hn⟩
        | false =>
          simp [Try.f65, t0, t1, t2, t4, t11, t12, w1, hld3, L2, hlt, g2, hldc, cr1, hwi]
          exact ⟨d - 1, by omega, i + 1, by omega, by simp [t0], by simp [t1], by simp [t2], by simp [t3], by simp [t4], by simp, ⟨false, by simp, by simpa using hfin⟩, by rw [hsame]; exact hS, hK, hn⟩
end Go.Ev
