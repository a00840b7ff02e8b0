/- Lemmas of an evaluator of the given code and of what the functions answer; no condition of its own. -/
import Derived.Test.YtnoacfilglgbgaaEv14
/- Congestion: the specification's run. -/
namespace Go.Ev
open Go Go.Proofs
set_option linter.unusedSimpArgs false
set_option linter.unusedVariables false

theorem at_blk {h : AH} {b o n : Nat} {e : TypeId} {ro : Bool} {x1 c x2 : List AV} (h3 : h.get b = some (.cells e ro (x1 ++ c ++ x2))) (h4 : x1.length = o) (hc : c.length = n) :
    ∃ xs, h.get b = some (.cells e ro xs) ∧ o + n ≤ xs.length ∧ List.take n (List.drop o xs) = c :=
  ⟨_, h3, by simp; omega, by rw [List.append_assoc, List.drop_append, List.drop_eq_nil_of_le (by omega)]; simp [← h4, ← hc]⟩
theorem op_cells {rw : Bool} {H : AH} {c : List AV} {d : tT40.D} {bs : List Nat} (h : tT40.R rw H c d bs) : c = opC (.of d) := by
  obtain ⟨k, t, b, s, p⟩ := d
  obtain ⟨rfl, rfl, _⟩ := o40 h
  rfl
theorem ccDo_code (kind : Int) (S : Cc) (op : CcOpP) : 0 ≤ (ccDo kind S op).2.2 ∧ (ccDo kind S op).2.2 ≤ 7 := by
  unfold ccDo; repeat' split
  all_goals simp
/-- an answer's cells -/
def obsC (r : Cc × Bool × Int) : List AV := obC r.2.2 r.1.window r.1.rate r.1.state r.1.flight r.2.1
theorem obs_R {H : AH} {rw : Bool} {kind : Int} {S : Cc} {n : Nat} {op : CcOpP} (hok : (ccDo kind S op).1.ok kind n) : tT38.R rw H (obsC (ccDo kind S op)) (ccObs (ccDo kind S op)) [] := by
  have hc := ccDo_code kind S op
  have h1 := hok.win; have h2 := hok.rate; have h3 := hok.state; have h4 := hok.flight; have h5 := hok.le
  exact i38 (InK.i64 (by omega) (by omega)) (InK.i64 (by omega) (by omega)) (InK.i64 (by omega) (by omega)) (InK.i64 (by omega) (by omega)) (InK.i64 (by omega) (by omega))
/-- an answer more -/
theorem app_obs {X : AH} {v : AV} {l : List tT38.D} {bs : List Nat} {c : List AV} {d : tT38.D} (h : (Ty.sl 38 tT38).R true X [v] l bs) (hnd : bs.Nodup) (hx : tT38.R true X c d []) (hl : l.length ≤ 1000000) :
    ∃ v' X' bs', appA Try.prog 24 24 v (.slice X.next 0 1) (X.push (.cells 38 false c)) = some (v', X') ∧ (Ty.sl 38 tT38).R true X' [v'] (l ++ [d]) bs' ∧ bs'.Nodup ∧ (∀ b ∈ bs', b ∈ bs ∨ X.next ≤ b) ∧ KoS bs X X' := by
  obtain ⟨v', X', bs', h1, h2, h3, h4, h5⟩ := Ty.R.app1 (P := Try.prog) (T := 24) h hx (by simpa using hnd) (by simp) (by simp) (by simp [Ty.n]) (by_ := 48) (by simp) (z := obC 0 0 0 0 0 false) (by simp [obC]) (by simp [obC, Ty.n]) (by omega) (by omega)
  exact ⟨v', X', bs', h1, h2, h3, fun b hb => by rcases h4 b hb with h | h | h <;> simp_all, h5⟩
def RsI (kind : Int) (ops : List tT40.D) (s : AV) (H : AH) (q : Nat) (d : Nat) (τ : Tm) (h : AH) : Prop :=
  ∃ (i : Nat) (S : Cc) (vs vt vb : AV) (bs bt bb bo : List Nat) (outs : List tT38.D), i + d = ops.length ∧ τ 1 = s ∧ τ 6 = .ptr q 0 ∧ τ 8 = .int .i64 i ∧ CcS h q kind S vs vt vb bs bt bb ∧ S.ok kind i ∧ (Ty.sl 38 tT38).R true h [τ 7] outs bo ∧ bo.Nodup ∧
    (∀ b ∈ bo, b ∉ ccB q bs bt bb) ∧ (∀ b ∈ ccB q bs bt bb, H.next ≤ b) ∧ (∀ b ∈ bo, H.next ≤ b) ∧ Kp H h ∧ outs ++ ccRun kind S (ops.drop i) = ccRun kind Cc0 ops ∧ outs.length = i
set_option maxRecDepth 20000 in
theorem runLoopS {Hb H h0 : AH} {s : AV} {q : Nat} {kind : Int} {ops : List tT40.D} {bx : List Nat} {rw : Bool} (hd : (Ty.sl 40 tT40).R rw Hb [s] ops bx) (hKb : Kp Hb H) (hkd : kind = 1 ∨ kind = 2) (hlen : ops.length ≤ 600) (m : Nat) (hm : 760 ≤ m) (τ : Tm) (hI : RsI kind ops s H q ops.length τ h0) :
    ∃ e τ' H', evLoop Try.prog (ev Try.prog m) m (lp Try.prog 16 506) τ h0 = some (e, τ', H') ∧ e = .exit 0 ∧ RsI kind ops s H q 0 τ' H' := by
  have hL := Ty.R.lenA hd (P := Try.prog) (T := 27) (by simp)
  refine loop_rule (d := ops.length) (RsI kind ops s H q) (fun e τ h => e = .exit 0 ∧ RsI kind ops s H q 0 τ h) ?_ hI (by omega)
  intro d τ h hI
  obtain ⟨i, S, vs, vt, vb, bs, bt, bb, bo, outs, hi, t1, t6, t8, hS, hok, hR, hnd, hdj, hlo, hlo2, hK, hrun, hol⟩ := hI
  generalize t7 : τ 7 = v at *
  rewrite [lp16_506]
  by_cases hd0 : d = 0
  · subst hd0
    have hkn : (i : Int) = ops.length := by omega
    simp [Try.f16, t1, t6, t8, hL, hkn]
    exact ⟨i, S, vs, vt, vb, bs, bt, bb, bo, outs, hi, t1, t6, t8, hS, hok, by simpa [t7] using hR, hnd, hdj, hlo, hlo2, hK, hrun, hol⟩
  · have hlt : i < ops.length := by omega
    obtain ⟨b, o, ro, x1, c, x2, bk, u1, u2, u3, u4, u5, u6, u7, u8⟩ := Ty.R.at_ (hd.kp (hKb.trans hK)) (P := Try.prog) (T := 27) (by simp) (by simp [Ty.n]) (k := i) hlt
    obtain ⟨xs, l1, l2, l3⟩ := at_blk (n := 5) u3 u4 (by simpa [Ty.n] using u5.len)
    obtain rfl := op_cells u5
    obtain ⟨h2, vs', vt', vb', bs', bt', bb', a1, a2, a3, a4⟩ := doS_ev hS hkd hok (by omega) (CcOpP.of ops[i]) m (by omega)
    have hok2 := ccDo_ok (op := CcOpP.of ops[i]) hkd hok (by omega)
    have hobs := fun H' => obs_R (rw := true) (H := H') hok2
    have hdrop : ops.drop i = ops[i] :: ops.drop (i + 1) := List.drop_eq_getElem_cons hlt
    rw [hdrop] at hrun
    simp only [ccRun] at hrun
    generalize ccDo kind S (.of ops[i]) = R at *
    have hbo := hR.mem
    have hR2 : (Ty.sl 38 tT38).R true h2 [v] outs bo := hR.koS a3 hdj
    have KX : Kp h2 (h2.push (.cells 38 false (obsC R))) := (Kp.refl h2).push _
    obtain ⟨v', X', bo', b1, b2, b3, b4, b5⟩ := app_obs (hR2.kp KX) hnd (hobs _) (by omega)
    have hq2 := a2.lt
    have hqn : ¬ (q = h2.next) := by omega
    have hqn1 : ¬ (q = h2.next + 1) := by omega
    have hg2 := a2.get
    simp only [ccC] at hg2
    simp only [AH.push_next, obsC, obC] at b1
    simp only [obC] at a1
    have w1 := wrap_i64 (n := (i : Int) + 1) (by omega) (by omega)
    have hz : h2.push (.cells 38 false (obsC R)) = h2.push (.cells 38 false (obsC R)) := rfl
    have n1 := a3.next
    have n2 := b5.next
    simp only [AH.push_next] at n2
    have hmS : ∀ b ∈ ccB q bs' bt' bb', b < h2.next := by
      have m1 := a2.rs.mem; have m2 := a2.rt.mem; have m3 := a2.rb.mem
      intro b hb; simp only [ccB, List.mem_cons, List.mem_append] at hb; grind
    have hdj2 : ∀ b ∈ bo, b ∉ ccB q bs' bt' bb' := fun b hb hb2 => by
      rcases a4 b hb2 with h1 | h1
      · exact hdj b hb h1
      · have := hbo b hb; omega
    have hget : ∀ b ∈ ccB q bs' bt' bb', X'.get b = h2.get b := fun b hb => by
      rw [b5.get b (by have := hmS b hb; simp; omega) (fun h => hdj2 b h hb), AH.push_get, if_neg (by have := hmS b hb; omega)]
    have hSX : CcS X' q kind R.1 vs' vt' vb' bs' bt' bb' :=
      ⟨(hget q (by simp [ccB])).trans a2.get, a2.rs.stay (by omega) fun b hb => hget b (by simp [ccB, hb]), a2.rt.stay (by omega) fun b hb => hget b (by simp [ccB, hb]), a2.rb.stay (by omega) fun b hb => hget b (by simp [ccB, hb]), a2.nd, by omega⟩
    simp [Try.f16, t1, t6, t7, t8, hL, hlt, u1, l1, l2, l3, a1, ldVar, stVar, spl, hg2, hqn, hqn1, push_set2, zerosA, b1, w1]
    refine ⟨d - 1, by omega, i + 1, R.1, vs', vt', vb', bs', bt', bb', bo', outs ++ [ccObs R], by omega, by simp [t1], by simp [t6], by simp, hSX, hok2, by simpa using b2, b3, ?_, ?_, ?_, ?_, by simpa using hrun, by simp [hol]⟩
    · intro b hb hb2
      rcases b4 b hb with h1 | h1
      · exact hdj2 b h1 hb2
      · have := hmS b hb2; simp at h1; omega
    · intro b hb
      rcases a4 b hb with h1 | h1
      · exact hlo b h1
      · have := hK.next; omega
    · intro b hb
      rcases b4 b hb with h1 | h1
      · exact hlo2 b h1
      · have := hK.next; simp at h1; omega
    · exact b5.kp ((a3.kp hK hlo).trans KX) hlo2
set_option maxRecDepth 20000 in
theorem runS_ev {Hb H : AH} {s : AV} {kind : Int} {ops : List tT40.D} {bx : List Nat} {rw : Bool} (hd : (Ty.sl 40 tT40).R rw Hb [s] ops bx) (hKb : Kp Hb H) (m : Nat) (hm : 770 ≤ m) :
    ∃ r H' br, ev Try.prog m 16 [.int .i64 kind, s] H = some (.tuple [r, .int .i64 (CcRunP kind ops).2], H') ∧ Kp H H' ∧ (Ty.sl 38 tT38).R true H' [r] (CcRunP kind ops).1 br ∧ br.Nodup ∧ ∀ b ∈ br, H.next ≤ b := by
  obtain ⟨m, rfl⟩ : ∃ k, m = k + 1 := ⟨m - 1, by omega⟩
  have hL := Ty.R.lenA hd (P := Try.prog) (T := 27) (by simp)
  rw [ev_eq Try.func16 ok16 m _ H (by simp [Try.f16])]
  unfold CcRunP
  have empty : (Ty.sl 38 tT38).R true (H.push (.cells 38 false [])) [.slice H.next 0 0] [] [H.next] :=
    .inr ⟨H.next, 0, false, [], [], rfl, rfl, by simp, by simp, fun _ => ⟨rfl, rfl, by simp⟩, by simp, rfl, rfl⟩
  by_cases c : 600 < ops.length
  · have c' : (600 : Int) < ops.length := by omega
    rw [if_pos c]
    simp [Try.f16, hL, c', zerosA]
    exact ⟨_, _, ⟨rfl, rfl⟩, (Kp.refl H).push _, [H.next], empty, by simp, by simp⟩
  · have c' : ¬ ((600 : Int) < ops.length) := by omega
    rw [if_neg c]
    by_cases ck : kind ≠ 1 ∧ kind ≠ 2
    · rw [if_pos ck]
      simp [Try.f16, hL, c', ck.1, ck.2, zerosA]
      exact ⟨_, _, ⟨rfl, rfl⟩, (Kp.refl H).push _, [H.next], empty, by simp, by simp⟩
    · rw [if_neg ck]
      have hkd : kind = 1 ∨ kind = 2 := by omega
      have hnew := newS_ev kind H m (by omega)
      have hS0 : CcS ((H.push (.cells 141 false (ccC kind Cc0 .nilSlice .nilSlice .nilSlice))).push (.cells 38 false [])) H.next kind Cc0 .nilSlice .nilSlice .nilSlice [] [] [] :=
        ⟨by simp, .inl ⟨rfl, rfl, rfl⟩, .inl ⟨rfl, rfl, rfl⟩, .inl ⟨rfl, rfl, rfl⟩, by simp, by simp; omega⟩
      have hO0 : (Ty.sl 38 tT38).R true ((H.push (.cells 141 false (ccC kind Cc0 .nilSlice .nilSlice .nilSlice))).push (.cells 38 false [])) [.slice (H.next + 1) 0 0] [] [H.next + 1] :=
        .inr ⟨H.next + 1, 0, false, [], [], rfl, rfl, by simp, by simp, fun _ => ⟨rfl, rfl, by simp⟩, by simp, rfl, rfl⟩
      have goal : ∀ τ : Tm, τ 1 = s → τ 6 = .ptr H.next 0 → τ 7 = .slice (H.next + 1) 0 0 → τ 8 = .int .i64 0 → RsI kind ops s H H.next ops.length τ ((H.push (.cells 141 false (ccC kind Cc0 .nilSlice .nilSlice .nilSlice))).push (.cells 38 false [])) := fun τ t1 t6 t7 t8 =>
        ⟨0, Cc0, .nilSlice, .nilSlice, .nilSlice, [], [], [], [H.next + 1], [], by omega, t1, t6, by simpa using t8, hS0, Cc0_ok kind, by rw [t7]; exact hO0, by simp, by simp [ccB], by simp [ccB], by simp, ((Kp.refl H).push _).push _, by simp, rfl⟩
      rcases hkd with rfl | rfl
      all_goals
        simp [Try.f16, hL, c', hnew, zerosA]
        generalize hLo : evLoop _ _ _ _ _ _ = R
        obtain ⟨e, τ', H', rfl, rfl, i, S, vs, vt, vb, bs, bt, bb, bo, outs, hi, t1, t6, t8, hS, hok, hR, hnd, hdj, hlo, hlo2, hK, hrun, hol⟩ := loop_at hLo (runLoopS hd hKb (by omega) (by omega) m (by omega) _ (goal _ (by simp) (by simp) (by simp) (by simp)))
        have hil : i = ops.length := by omega
        subst hil
        rw [List.drop_length] at hrun
        simp only [ccRun, List.append_nil] at hrun
        subst hrun
        simp
        exact ⟨_, _, ⟨rfl, rfl⟩, hK, bo, hR, hnd, hlo2⟩
end Go.Ev

/- Congestion: the program's loss rule; rows that may begin inside a block. -/
namespace Go.Ev
open Go Go.Proofs
set_option linter.unusedSimpArgs false
set_option linter.unusedVariables false

def lossC (S : Cc) : List AV := [.int .i64 S.window, .int .i64 S.threshold, .int .i64 S.mark, .int .i64 S.rest, .int .i64 S.state]
theorem tellsL_ev {H : AH} {r : Nat} {S : Cc} (hg : H.get r = some (.cells 252 false (lossC S))) (m : Nat) (hm : 1 ≤ m) : ev Try.prog m 322 [.ptr r 0] H = some (.tuple [.int .i64 S.window, .int .i64 0, .int .i64 S.state], H) := by
  obtain ⟨m, rfl⟩ : ∃ k, m = k + 1 := ⟨m - 1, by omega⟩
  simp only [lossC] at hg
  rw [ev_eq Try.func322 ok322 m _ H (by simp [Try.f322])]
  simp [Try.f322, ldVar, hg, evHist, ObsOk, ObOk, List.getElem?_cons_zero]
theorem restLoopI {H : AH} {q : Nat} {S : Cc} {T4 : AV} (hg : H.get q = some (.cells 252 false (lossC S))) (hw : 2400 ≤ S.window ∧ S.window ≤ 100000000) (hr : 0 ≤ S.rest ∧ S.rest < S.window + 2400) (m : Nat) (hm : 3 ≤ m) (call : CallF) (τ : Tm) (t0 : τ 0 = .ptr q 0) (t4 : τ 4 = T4) :
    ∃ e τ' H', evLoop Try.prog call m (lp Try.prog 320 478) τ H = some (e, τ', H') ∧ e = .exit 0 ∧ τ' 0 = .ptr q 0 ∧ τ' 4 = T4 ∧ H' = H.set q (.cells 252 false (lossC (lossR S))) := by
  refine loop_rule (d := 1) (fun d τ h => τ 0 = .ptr q 0 ∧ τ 4 = T4 ∧ ∃ S', h = H.set q (.cells 252 false (lossC S')) ∧ ((d = 1 ∧ S' = S) ∨ (d = 0 ∧ S' = lossR S ∧ S.rest ≥ S.window)))
    (fun e τ h => e = .exit 0 ∧ τ 0 = .ptr q 0 ∧ τ 4 = T4 ∧ h = H.set q (.cells 252 false (lossC (lossR S)))) ?_ ⟨t0, t4, S, (AH.set_same _ _ _ hg).symm, .inl ⟨rfl, rfl⟩⟩ (by omega)
  intro d τ h hI
  obtain ⟨t0, t4, S', rfl, h1⟩ := hI
  rewrite [lp320_478]
  rcases h1 with ⟨rfl, rfl⟩ | ⟨rfl, rfl, h2⟩
  · by_cases c : S'.window ≤ S'.rest
    · have w1 := wrap_i64 (n := S'.rest - S'.window) (by omega) (by omega)
      have w2 := wrap_i64 (n := S'.window + 1200) (by omega) (by omega)
      simp [Try.f320, t0, t4, ldVar, stVar, lossC, c, w1, w2, spl, evHist, ObsOk, ObOk]
      simp [lossR, c]
    · simp [Try.f320, t0, t4, ldVar, stVar, lossC, c, evHist, ObsOk, ObOk]
      simp [lossR, c]
  · have c : ¬ ((lossR S).window ≤ (lossR S).rest) := by unfold lossR; rw [if_pos h2]; simp only; omega
    simp [Try.f320, t0, t4, ldVar, stVar, lossC, c, evHist, ObsOk, ObOk]
theorem ackLossI_ev {H : AH} {q : Nat} {S : Cc} {n : Nat} (hg : H.get q = some (.cells 252 false (lossC S))) (hq : q < H.next) (hok : S.ok 1 n) {op : CcOpP} (ho : opGood op) (f : Int) (m : Nat) (hm : 5 ≤ m) :
    ∃ H', ev Try.prog m 320 [.ptr q 0, .agg (opC op), .int .i64 f] H = some (U, H') ∧ H'.get q = some (.cells 252 false (lossC (ackLossP S op))) ∧ KoS [q] H H' := by
  obtain ⟨m, rfl⟩ : ∃ k, m = k + 1 := ⟨m - 1, by omega⟩
  have hqn : ¬ (q = H.next) := by omega
  have hnq : ¬ (H.next = q) := by omega
  have hg0 := hg
  have hw := hok.win
  have hr := hok.rest
  have hr2 := hok.rest2.1 rfl
  have hb := ho.b
  have w1 := wrap_i64 (n := S.window + op.b) (by omega) (by omega)
  have w2 := wrap_i64 (n := S.rest + op.b) (by omega) (by omega)
  simp only [lossC] at hg
  rw [ev_eq Try.func320 ok320 m _ H (by simp [Try.f320])]
  unfold ackLossP
  by_cases c1 : op.s ≤ S.mark
  · rw [if_pos c1]
    refine ⟨H.push (.cells 40 false (opC op)), ?_, by rw [AH.push_get, if_neg hqn]; exact hg0, ⟨by simp, fun b hb _ => by rw [AH.push_get, if_neg (by omega)]⟩⟩
    simp [Try.f320, opC, ldVar, stVar, hg, hqn, c1, U, evHist, ObsOk, ObOk]
  · rw [if_neg c1]
    by_cases c2 : S.window < S.threshold
    · rw [if_pos c2]
      refine ⟨(H.push (.cells 40 false (opC op))).set q (.cells 252 false (lossC { S with state := 0, window := miI (S.window + op.b) 100000000 })), ?_, AH.set_getS _ _ _, koS_push_set _ _⟩
      simp [Try.f320, opC, lossC, ldVar, stVar, hg, hqn, hnq, c1, c2, w1, spl, miI, U, evHist, ObsOk, ObOk]
      try (split <;> rfl)
    · rw [if_neg c2]
      have hfin : (if S.rest + op.b ≥ S.window then { S with state := 1, rest := S.rest + op.b - S.window, window := miI (S.window + 1200) 100000000 } else { S with state := 1, rest := S.rest + op.b, window := miI S.window 100000000 }) =
          { lossR { S with state := 1, rest := S.rest + op.b } with window := miI (lossR { S with state := 1, rest := S.rest + op.b }).window 100000000 } := by
        unfold lossR; split <;> rfl
      rw [hfin]
      refine ⟨(H.push (.cells 40 false (opC op))).set q (.cells 252 false (lossC { lossR { S with state := 1, rest := S.rest + op.b } with window := miI (lossR { S with state := 1, rest := S.rest + op.b }).window 100000000 })), ?_, AH.set_getS _ _ _, koS_push_set _ _⟩
      simp [Try.f320, opC, ldVar, stVar, hg, hqn, hnq, c1, c2, w2, spl, evHist, ObsOk, ObOk]
      generalize hLo : evLoop _ _ _ _ _ _ = R
      obtain ⟨e, τ', H1, rfl, rfl, t0, t4, rfl⟩ := loop_at hLo (restLoopI (S := { S with state := 1, rest := S.rest + op.b }) (AH.set_getS _ _ _) hw ⟨by simp; omega, by simp; omega⟩ m (by omega) _ _ (by simp) (by simp; rfl))
      generalize lossR { S with state := 1, rest := S.rest + op.b } = L
      simp [lossC, t0, t4, ldVar, stVar, spl, miI, U]
      try (split <;> rfl)
theorem lostI_ev {H : AH} {q : Nat} {S : Cc} {n : Nat} (hg : H.get q = some (.cells 252 false (lossC S))) (hq : q < H.next) (hok : S.ok 1 n) {op : CcOpP} (m : Nat) (hm : 1 ≤ m) :
    ∃ H', ev Try.prog m 321 [.ptr q 0, .agg (opC op)] H = some (U, H') ∧ H'.get q = some (.cells 252 false (lossC (lostP S op))) ∧ KoS [q] H H' := by
  obtain ⟨m, rfl⟩ : ∃ k, m = k + 1 := ⟨m - 1, by omega⟩
  have hqn : ¬ (q = H.next) := by omega
  have hnq : ¬ (H.next = q) := by omega
  have hg0 := hg
  simp only [lossC] at hg
  have hw := hok.win
  have hd := tdiv_le_self (a := S.window) (b := 2) (by omega) (by omega)
  have w1 := wrap_i64 (n := S.window.tdiv 2) (by omega) (by omega)
  rw [ev_eq Try.func321 ok321 m _ H (by simp [Try.f321])]
  unfold lostP
  by_cases c1 : op.s ≤ S.mark
  · rw [if_pos c1]
    refine ⟨H.push (.cells 40 false (opC op)), ?_, by rw [AH.push_get, if_neg hqn]; exact hg0, ⟨by simp, fun b hb _ => by rw [AH.push_get, if_neg (by omega)]⟩⟩
    simp [Try.f321, opC, ldVar, stVar, hg, hqn, c1, U, evHist, ObsOk, ObOk]
  · rw [if_neg c1]
    refine ⟨(H.push (.cells 40 false (opC op))).set q (.cells 252 false (lossC { S with mark := op.t, window := mxI (S.window.tdiv 2) 2400, threshold := mxI (S.window.tdiv 2) 2400, state := 1, rest := 0 })), ?_, AH.set_getS _ _ _, koS_push_set _ _⟩
    simp [Try.f321, opC, lossC, ldVar, stVar, hg, hqn, hnq, c1, w1, spl, mxI, U, evHist, ObsOk, ObOk]
/-- a row of numbers that owns its block, from some place of it on -/
def OwnI (H : AH) (v : AV) (l : List Int) (bs : List Nat) : Prop :=
  (v = .nilSlice ∧ l = [] ∧ bs = []) ∨ ∃ b o xs, v = .slice b o l.length ∧ bs = [b] ∧ b < H.next ∧ H.get b = some (.cells 3 false xs) ∧ o + l.length ≤ xs.length ∧ (xs.drop o).take l.length = l.map (.int .i64)
theorem OwnI.one {H : AH} {v : AV} {l : List Int} {bs : List Nat} (h : OwnI H v l bs) : v.one = true := by
  rcases h with ⟨rfl, _⟩ | ⟨b, o, xs, rfl, _⟩ <;> rfl
theorem OwnI.mem {H : AH} {v : AV} {l : List Int} {bs : List Nat} (h : OwnI H v l bs) : ∀ b ∈ bs, b < H.next := by
  rcases h with ⟨_, _, rfl⟩ | ⟨b, o, xs, _, rfl, hb, _⟩
  · simp
  · simpa using hb
theorem OwnI.stay {H H' : AH} (hn : H.next ≤ H'.next) {v : AV} {l : List Int} {bs : List Nat} (h : OwnI H v l bs) (hg : ∀ b ∈ bs, H'.get b = H.get b) : OwnI H' v l bs := by
  rcases h with h | ⟨b, o, xs, h1, h2, h3, h4, h5⟩
  · exact .inl h
  · exact .inr ⟨b, o, xs, h1, h2, by omega, by rw [hg b (by simp [h2])]; exact h4, h5⟩
theorem OwnI.koS {H H' : AH} {v : AV} {l : List Int} {bs bs' : List Nat} (h : OwnI H v l bs) (hK : KoS bs' H H') (hd : ∀ b ∈ bs, b ∉ bs') : OwnI H' v l bs :=
  h.stay hK.next fun b hb => hK.get b (h.mem b hb) (hd b hb)
theorem OwnI.kp {H H' : AH} {v : AV} {l : List Int} {bs : List Nat} (h : OwnI H v l bs) (hK : Kp H H') : OwnI H' v l bs :=
  h.stay hK.next fun b hb => hK.get b (h.mem b hb)
theorem OwnI.nd {H : AH} {v : AV} {l : List Int} {bs : List Nat} (h : OwnI H v l bs) : bs.Nodup := by
  rcases h with ⟨_, _, rfl⟩ | ⟨b, o, xs, _, rfl, _⟩ <;> simp
theorem OwnI.len {H : AH} {v : AV} {l : List Int} {bs : List Nat} (h : OwnI H v l bs) (h' : AH) : lenA Try.prog 60 v h' = some (.int .i64 l.length) := by
  rcases h with ⟨rfl, rfl, rfl⟩ | ⟨b, o, xs, rfl, _⟩ <;> simp
theorem OwnI.at_ {H : AH} {v : AV} {l : List Int} {bs : List Nat} (h : OwnI H v l bs) {k : Nat} (hk : k < l.length) :
    ∃ b o e ro xs, idxA Try.prog 60 v (.int .i64 k) = some (.ptr b o) ∧ H.get b = some (.cells e ro xs) ∧ xs[o]? = some (.int .i64 l[k]) := by
  rcases h with ⟨rfl, rfl, rfl⟩ | ⟨b, o, xs, rfl, _, _, h4, h5, h6⟩
  · simp at hk
  · refine ⟨b, o + k, _, _, xs, by simp [idxA, hk], h4, ?_⟩
    have := congrArg (fun z : List AV => z[k]?) h6
    simp only [List.getElem?_take, List.getElem?_drop, List.getElem?_map, hk, if_true, List.getElem?_eq_getElem hk] at this
    exact this
theorem OwnI.app {X : AH} {v : AV} {l : List Int} {bs : List Nat} (x : Int) (h : OwnI X v l bs) (hl : l.length ≤ 1000000) :
    ∃ v' X' bs', appA Try.prog 60 60 v (.slice X.next 0 1) (X.push (.cells 3 false [.int .i64 x])) = some (v', X') ∧ OwnI X' v' (l ++ [x]) bs' ∧ (∀ b ∈ bs', X.next ≤ b) ∧ KoS bs X X' := by
  rcases h with ⟨rfl, rfl, rfl⟩ | ⟨b, o, xs, rfl, rfl, h3, h4, h5, h6⟩
  · refine ⟨.slice (X.next + 1) 0 1, (X.push (.cells 3 false [.int .i64 x])).push (.cells 3 false [.int .i64 x]), [X.next + 1], ?_, .inr ⟨X.next + 1, 0, [.int .i64 x], rfl, rfl, by simp, by simp, by simp, by simp⟩, by simp, ⟨by simp; omega, fun c hc _ => ?_⟩⟩
    · simp [appA, newsA, rowOf]
    · rw [AH.push_get, if_neg (by simp; omega), AH.push_get, if_neg (by omega)]
  · have hne : ¬ (b = X.next) := by omega
    refine ⟨.slice (X.next + 1) 0 (l.length + 1), ((X.push (.cells 3 false [.int .i64 x])).kill b).push (.cells 3 false (l.map (.int .i64) ++ [.int .i64 x])), [X.next + 1], ?_, .inr ⟨X.next + 1, 0, l.map (.int .i64) ++ [.int .i64 x], by simp, rfl, by simp, by simp, by simp, by simp; rw [List.take_of_length_le (by simp)]⟩, by simp, ⟨by simp; omega, fun c hc hcb => ?_⟩⟩
    · have e1 : l.length + 1 ≤ 70368744177664 := by omega
      have e2 : (l.length + 1) * 8 ≤ 70368744177664 := by omega
      simp [appA, newsA, rowOf, h4, hne, h5, h6, e1, e2]
    · rw [AH.push_get, if_neg (by simp; omega), AH.kill_get, if_neg (by simpa using hcb), AH.push_get, if_neg (by omega)]
/-- without the first -/
theorem OwnI.tail {H : AH} {v : AV} {x : Int} {l : List Int} {bs : List Nat} (h : OwnI H v (x :: l) bs) :
    ∃ v', cutA Try.prog 60 v (some (some (.int .i64 1))) (some none) H = some v' ∧ OwnI H v' l bs := by
  rcases h with ⟨_, h, _⟩ | ⟨b, o, xs, rfl, rfl, h3, h4, h5, h6⟩
  · simp at h
  · refine ⟨.slice b (o + 1) l.length, ?_, .inr ⟨b, o + 1, xs, rfl, rfl, h3, h4, by simp at h5; omega, ?_⟩⟩
    · simp [cutA, h4]; omega
    · have := congrArg (List.drop 1) h6
      simp only [List.drop_take, List.drop_drop, List.map_cons, List.drop_succ_cons, List.drop_zero, List.length_cons, Nat.add_sub_cancel] at this
      exact this
end Go.Ev
