/- Lemmas of an evaluator of the given code and of what the functions answer; no condition of its own. -/
import Derived.Test.YtnoacfilglgbgaaEv9
/- Congestion in plain: the state, one operation, a run. -/
namespace Go.Ev
open Go Go.Proofs
set_option linter.unusedSimpArgs false
set_option linter.unusedVariables false

structure Cc where
  window : Int
  rate : Int
  state : Int
  flight : Int
  threshold : Int
  mark : Int
  rest : Int
  samples : List Int
  times : List Int
  bytes : List Int
  floor : Int
  best : Int
  count : Int
  phase : Int
  turn : Int
/-- kind, time, bytes, sent, trip -/
structure CcOpP where
  k : Int
  t : Int
  b : Int
  s : Int
  p : Int
def CcOpP.of (d : tT40.D) : CcOpP := ⟨d.1, d.2.1, d.2.2.1, d.2.2.2.1, d.2.2.2.2⟩
def Cc0 : Cc := ⟨12000, 0, 0, 0, 100000000, -1, 0, [], [], [], 0, 0, 0, 0, 0⟩
def mxI (a b : Int) : Int := if b > a then b else a
def miI (a b : Int) : Int := if b < a then b else a
def bwP (l : List Int) : Int := (l.drop (l.length - 8)).foldl mxI 0
def prodP (b f : Int) : Int := miI (b * f / 1000000) 100000000
/-- what came behind a moment -/
def allP (s : Int) : List Int → List Int → Int → Int
  | t :: ts, b :: bs, a => allP s ts bs (if t > s then a + b else a)
  | _, _, a => a
def badP (op : CcOpP) : Prop := op.k < 1 ∨ op.k > 4 ∨ ¬ (0 ≤ op.t ∧ op.t ≤ 1000000000000) ∨ ¬ (0 ≤ op.s ∧ op.s ≤ 1000000000000) ∨ (op.k = 2 ∧ (op.p < 1 ∨ op.p > 1000000000000)) ∨ op.b < 0 ∨ op.b > 2000
instance (op : CcOpP) : Decidable (badP op) := by unfold badP; infer_instance
def ackLossP (S : Cc) (op : CcOpP) : Cc :=
  if op.s ≤ S.mark then S
  else if S.window < S.threshold then { S with state := 0, window := miI (S.window + op.b) 100000000 }
  else if S.rest + op.b ≥ S.window then { S with state := 1, rest := S.rest + op.b - S.window, window := miI (S.window + 1200) 100000000 }
  else { S with state := 1, rest := S.rest + op.b, window := miI S.window 100000000 }
def lostP (S : Cc) (op : CcOpP) : Cc :=
  if op.s ≤ S.mark then S
  else { S with mark := op.t, window := mxI (S.window.tdiv 2) 2400, threshold := mxI (S.window.tdiv 2) 2400, state := 1, rest := 0 }
/-- the sample is in -/
def ack1P (S : Cc) (op : CcOpP) : Cc :=
  { S with times := S.times ++ [op.t], bytes := S.bytes ++ [op.b], samples := S.samples ++ [miI ((allP op.s S.times S.bytes op.b * 1000000).tdiv (mxI 1 (op.t - op.s))) 1000000000000],
           floor := if S.floor = 0 ∨ op.p < S.floor then op.p else S.floor }
def ack2P (S : Cc) (op : CcOpP) (b p : Int) : Cc :=
  if S.state = 0 then
    if 4 * b ≥ 5 * S.best then { S with best := b, count := 0 }
    else if S.count + 1 = 3 then { S with count := S.count + 1, state := 2 } else { S with count := S.count + 1 }
  else if S.state = 2 then
    if S.flight ≤ p then { S with state := 3, phase := 0, turn := op.t } else S
  else if op.t - S.turn ≥ S.floor then { S with phase := (S.phase + 1).tmod 8, turn := op.t } else S
def gainP (S : Cc) : Int := if S.state = 3 then (if S.phase = 1 then 6 else if S.phase = 0 then 10 else 8) else if S.state = 2 then 3 else 23
def ack3P (S : Cc) (b p : Int) : Cc :=
  { S with window := miI (mxI (if S.state = 3 then 2 * p else (p * 23).tdiv 8) 4800) 100000000, rate := miI ((b * gainP S).tdiv 8) 1000000000000 }
def ackModelP (S : Cc) (op : CcOpP) : Cc :=
  ack3P (ack2P (ack1P S op) op (bwP (ack1P S op).samples) (prodP (bwP (ack1P S op).samples) (ack1P S op).floor)) (bwP (ack1P S op).samples) (prodP (bwP (ack1P S op).samples) (ack1P S op).floor)
/-- one operation: the state, May, the code -/
def ccDo (kind : Int) (S : Cc) (op : CcOpP) : Cc × Bool × Int :=
  if badP op then (S, false, 1)
  else if (op.k = 2 ∨ op.k = 3) ∧ S.flight < op.b then (S, false, 7)
  else if op.k = 1 then ({ S with flight := S.flight + op.b }, false, 0)
  else if op.k = 2 then (if kind = 1 then ackLossP { S with flight := S.flight - op.b } op else ackModelP { S with flight := S.flight - op.b } op, false, 0)
  else if op.k = 3 then (if kind = 1 then lostP { S with flight := S.flight - op.b } op else { S with flight := S.flight - op.b }, false, 0)
  else (S, decide (S.flight + op.b ≤ S.window), 0)
/-- Code, Window, Rate, State, Flight, May -/
def ccObs (r : Cc × Bool × Int) : tT38.D := (r.2.2, r.1.window, r.1.rate, r.1.state, r.1.flight, r.2.1)
def ccRun (kind : Int) : Cc → List tT40.D → List tT38.D
  | _, [] => []
  | S, op :: l => ccObs (ccDo kind S (.of op)) :: ccRun kind (ccDo kind S (.of op)).1 l
def CcRunP (kind : Int) (ops : List tT40.D) : List tT38.D × Int :=
  if 600 < ops.length then ([], 4) else if kind ≠ 1 ∧ kind ≠ 2 then ([], 1) else (ccRun kind Cc0 ops, 0)

/-- what holds behind n operations -/
structure Cc.ok (kind : Int) (n : Nat) (S : Cc) : Prop where
  le : n ≤ 600
  win : 2400 ≤ S.window ∧ S.window ≤ 100000000
  rate : 0 ≤ S.rate ∧ S.rate ≤ 1000000000000
  state : 0 ≤ S.state ∧ S.state ≤ 3
  flight : 0 ≤ S.flight ∧ S.flight ≤ 2000 * n
  thr : 0 ≤ S.threshold ∧ S.threshold ≤ 100000000
  mark : -1 ≤ S.mark ∧ S.mark ≤ 1000000000000
  rest : 0 ≤ S.rest ∧ S.rest < 100000000
  rest2 : (kind = 1 → S.rest < S.window) ∧ (kind ≠ 1 → S.rest = 0)
  tl : S.times.length = S.samples.length ∧ S.bytes.length = S.samples.length ∧ S.samples.length ≤ n
  times : ∀ x ∈ S.times, 0 ≤ x ∧ x ≤ 1000000000000
  bytes : ∀ x ∈ S.bytes, 0 ≤ x ∧ x ≤ 2000
  samples : ∀ x ∈ S.samples, 0 ≤ x ∧ x ≤ 1000000000000
  floor : 0 ≤ S.floor ∧ S.floor ≤ 1000000000000
  best : 0 ≤ S.best ∧ S.best ≤ 1000000000000
  count : 0 ≤ S.count ∧ S.count ≤ n
  phase : 0 ≤ S.phase ∧ S.phase ≤ 7
  turn : 0 ≤ S.turn ∧ S.turn ≤ 1000000000000
  stm : kind ≠ 1 → S.state ≠ 1
  rt1 : kind = 1 → S.rate = 0
theorem Cc0_ok (kind : Int) : Cc0.ok kind 0 := by
  refine ⟨by omega, ?_, ?_, ?_, ?_, ?_, ?_, ?_, ?_, ?_, ?_, ?_, ?_, ?_, ?_, ?_, ?_, ?_, ?_, ?_⟩ <;> simp [Cc0]
theorem Cc.ok.mono {kind : Int} {n : Nat} {S : Cc} (h : S.ok kind n) (hn : n + 1 ≤ 600) : S.ok kind (n + 1) := by
  obtain ⟨h1, h2, h3, h4, h5, h6, h7, h8, h8', h9, h10, h11, h12, h13, h14, h15, h16, h17, h18, h19⟩ := h
  exact ⟨by omega, h2, h3, h4, by push_cast; omega, h6, h7, h8, h8', by omega, h10, h11, h12, h13, h14, by push_cast; omega, h16, h17, h18, h19⟩
structure opGood (op : CcOpP) : Prop where
  k : 1 ≤ op.k ∧ op.k ≤ 4
  t : 0 ≤ op.t ∧ op.t ≤ 1000000000000
  s : 0 ≤ op.s ∧ op.s ≤ 1000000000000
  b : 0 ≤ op.b ∧ op.b ≤ 2000
  p : op.k = 2 → 1 ≤ op.p ∧ op.p ≤ 1000000000000
theorem opGood.of {op : CcOpP} (h : ¬ badP op) : opGood op := by
  unfold badP at h
  exact ⟨by omega, by omega, by omega, by omega, by omega⟩
theorem foldl_mx {B : Int} : ∀ (l : List Int) (a : Int), 0 ≤ a → a ≤ B → (∀ x ∈ l, 0 ≤ x ∧ x ≤ B) → 0 ≤ l.foldl mxI a ∧ l.foldl mxI a ≤ B
  | [], a, h0, h1, _ => ⟨h0, h1⟩
  | x :: l, a, h0, h1, h => by
    have hx := h x (by simp)
    exact foldl_mx l (mxI a x) (by unfold mxI; split <;> omega) (by unfold mxI; split <;> omega) fun y hy => h y (by simp [hy])
theorem bwP_in {l : List Int} (h : ∀ x ∈ l, 0 ≤ x ∧ x ≤ 1000000000000) : 0 ≤ bwP l ∧ bwP l ≤ 1000000000000 :=
  foldl_mx _ 0 (by omega) (by omega) fun x hx => h x (List.mem_of_mem_drop hx)
theorem prodP_in {b f : Int} (hb : 0 ≤ b) (hf : 0 ≤ f) : 0 ≤ prodP b f ∧ prodP b f ≤ 100000000 := by
  have h : 0 ≤ b * f / 1000000 := Int.ediv_nonneg (Int.mul_nonneg hb hf) (by omega)
  unfold prodP miI; split <;> omega
theorem allP_in (s : Int) : ∀ (ts bs : List Int) (a : Int) (B : Int), 0 ≤ a → a ≤ B → (∀ x ∈ bs, 0 ≤ x ∧ x ≤ 2000) → 0 ≤ allP s ts bs a ∧ allP s ts bs a ≤ B + 2000 * bs.length
  | [], bs, a, B, h0, h1, _ => by simp only [allP]; omega
  | _ :: _, [], a, B, h0, h1, _ => by simp only [allP, List.length_nil]; omega
  | t :: ts, b :: bs, a, B, h0, h1, h => by
    have hb := h b (by simp)
    have := allP_in s ts bs (if t > s then a + b else a) (B + 2000) (by split <;> omega) (by split <;> omega) fun x hx => h x (by simp [hx])
    simp only [allP, List.length_cons]; push_cast; omega
theorem allP_ok {kind : Int} {n : Nat} {S : Cc} {op : CcOpP} (h : S.ok kind n) (ho : opGood op) : 0 ≤ allP op.s S.times S.bytes op.b ∧ allP op.s S.times S.bytes op.b ≤ 1202000 := by
  have := allP_in op.s S.times S.bytes op.b 2000 ho.b.1 ho.b.2 h.bytes
  have := h.tl; have := h.le; omega
theorem tdiv_le_self {a b : Int} (ha : 0 ≤ a) (hb : 1 ≤ b) : 0 ≤ a.tdiv b ∧ a.tdiv b ≤ a := by
  rw [Int.tdiv_eq_ediv_of_nonneg ha]
  exact ⟨Int.ediv_nonneg ha (by omega), Int.ediv_le_self b ha⟩
theorem ack1P_ok {kind : Int} {n : Nat} {S : Cc} {op : CcOpP} (h : S.ok kind n) (ho : opGood op) (hn : n + 1 ≤ 600) (hk : op.k = 2) : (ack1P S op).ok kind (n + 1) := by
  have h1 := h.mono hn
  obtain ⟨p1, p2⟩ := ho.p hk
  have ha := allP_ok h ho
  have hm : 1 ≤ mxI 1 (op.t - op.s) := by unfold mxI; split <;> omega
  have hd := tdiv_le_self (a := allP op.s S.times S.bytes op.b * 1000000) (by omega) hm
  have htl := h.tl
  refine ⟨h1.le, h1.win, h1.rate, h1.state, h1.flight, h1.thr, h1.mark, h1.rest, h1.rest2, ?_, ?_, ?_, ?_, ?_, h1.best, h1.count, h1.phase, h1.turn, h1.stm, h1.rt1⟩
  · simp [ack1P]; omega
  · intro x hx
    simp only [ack1P, List.mem_append, List.mem_singleton] at hx
    rcases hx with hx | rfl
    · exact h.times x hx
    · exact ho.t
  · intro x hx
    simp only [ack1P, List.mem_append, List.mem_singleton] at hx
    rcases hx with hx | rfl
    · exact h.bytes x hx
    · exact ho.b
  · intro x hx
    simp only [ack1P, List.mem_append, List.mem_singleton] at hx
    rcases hx with hx | rfl
    · exact h.samples x hx
    · unfold miI; split <;> omega
  · simp only [ack1P]
    split
    · omega
    · exact h.floor
theorem ack2P_ok {kind : Int} {n : Nat} {S : Cc} {op : CcOpP} {b p : Int} (h : S.ok kind (n + 1)) (hcn : S.count ≤ n) (ho : opGood op) (hb : 0 ≤ b ∧ b ≤ 1000000000000) : (ack2P S op b p).ok kind (n + 1) := by
  have h1 := h
  have hc := h.count
  have ht := ho.t
  unfold ack2P
  split
  · split
    · exact ⟨h1.le, h1.win, h1.rate, h1.state, h1.flight, h1.thr, h1.mark, h1.rest, h1.rest2, h1.tl, h1.times, h1.bytes, h1.samples, h1.floor, hb, by simp; omega, h1.phase, h1.turn, h1.stm, h1.rt1⟩
    · split
      · exact ⟨h1.le, h1.win, h1.rate, (by simp), h1.flight, h1.thr, h1.mark, h1.rest, h1.rest2, h1.tl, h1.times, h1.bytes, h1.samples, h1.floor, h1.best, by simp; omega, h1.phase, h1.turn, fun _ => by simp, h1.rt1⟩
      · exact ⟨h1.le, h1.win, h1.rate, h1.state, h1.flight, h1.thr, h1.mark, h1.rest, h1.rest2, h1.tl, h1.times, h1.bytes, h1.samples, h1.floor, h1.best, by simp; omega, h1.phase, h1.turn, h1.stm, h1.rt1⟩
  · split
    · split
      · exact ⟨h1.le, h1.win, h1.rate, (by simp), h1.flight, h1.thr, h1.mark, h1.rest, h1.rest2, h1.tl, h1.times, h1.bytes, h1.samples, h1.floor, h1.best, h1.count, by simp, ht, fun _ => by simp, h1.rt1⟩
      · exact h1
    · split
      · have hp := h.phase
        refine ⟨h1.le, h1.win, h1.rate, h1.state, h1.flight, h1.thr, h1.mark, h1.rest, h1.rest2, h1.tl, h1.times, h1.bytes, h1.samples, h1.floor, h1.best, h1.count, ?_, ht, h1.stm, h1.rt1⟩
        simp only
        rw [Int.tmod_eq_emod_of_nonneg (by omega)]; omega
      · exact h1
theorem gainP_in (S : Cc) : 3 ≤ gainP S ∧ gainP S ≤ 23 := by unfold gainP; split <;> (try split) <;> (try split) <;> omega
theorem ack3P_ok {kind : Int} {n : Nat} {S : Cc} {b p : Int} (hk : kind ≠ 1) (h : S.ok kind n) (hb : 0 ≤ b ∧ b ≤ 1000000000000) (hp : 0 ≤ p ∧ p ≤ 100000000) : (ack3P S b p).ok kind n := by
  have hg := gainP_in S
  have hm : 0 ≤ b * gainP S := Int.mul_nonneg hb.1 (by omega)
  have hd := tdiv_le_self (b := 8) hm (by omega)
  have hr := h.rest
  have hr2 := h.rest2
  have hw := h.win
  refine ⟨h.le, ?_, ?_, h.state, h.flight, h.thr, h.mark, h.rest, ?_, h.tl, h.times, h.bytes, h.samples, h.floor, h.best, h.count, h.phase, h.turn, h.stm, fun e => (hk e).elim⟩
  · simp only [ack3P]; unfold miI mxI; split <;> split <;> omega
  · simp only [ack3P]; unfold miI; split <;> omega
  · exact ⟨fun e => (hk e).elim, fun e => hr2.2 e⟩
theorem ackModelP_ok {kind : Int} {n : Nat} {S : Cc} {op : CcOpP} (hk : kind ≠ 1) (h : S.ok kind n) (ho : opGood op) (hn : n + 1 ≤ 600) (h2 : op.k = 2) : (ack1P S op).ok kind (n + 1) ∧ 0 ≤ bwP (ack1P S op).samples ∧ bwP (ack1P S op).samples ≤ 1000000000000 ∧
    0 ≤ prodP (bwP (ack1P S op).samples) (ack1P S op).floor ∧ prodP (bwP (ack1P S op).samples) (ack1P S op).floor ≤ 100000000 := by
  have h1 := ack1P_ok h ho hn h2
  have hb := bwP_in h1.samples
  have hp := prodP_in hb.1 h1.floor.1
  exact ⟨h1, hb.1, hb.2, hp.1, hp.2⟩
theorem ackLossP_ok {n : Nat} {S : Cc} {op : CcOpP} (h : S.ok 1 n) (ho : opGood op) (hn : n + 1 ≤ 600) : (ackLossP S op).ok 1 (n + 1) := by
  have h1 := h.mono hn
  have hw := h.win
  have hr := h.rest
  have hr2 := h.rest2.1 rfl
  have hb := ho.b
  have ht := h.thr
  unfold ackLossP
  split
  · exact h1
  · split
    · refine ⟨h1.le, ?_, h1.rate, by simp, h1.flight, h1.thr, h1.mark, h1.rest, ⟨fun _ => ?_, fun e => (e rfl).elim⟩, h1.tl, h1.times, h1.bytes, h1.samples, h1.floor, h1.best, h1.count, h1.phase, h1.turn, fun e => (e rfl).elim, h1.rt1⟩ <;> (simp only; unfold miI; split <;> omega)
    · split
      · refine ⟨h1.le, ?_, h1.rate, by simp, h1.flight, h1.thr, h1.mark, ?_, ⟨fun _ => ?_, fun e => (e rfl).elim⟩, h1.tl, h1.times, h1.bytes, h1.samples, h1.floor, h1.best, h1.count, h1.phase, h1.turn, fun e => (e rfl).elim, h1.rt1⟩ <;> (simp only; try unfold miI) <;> (try split) <;> omega
      · refine ⟨h1.le, ?_, h1.rate, by simp, h1.flight, h1.thr, h1.mark, ?_, ⟨fun _ => ?_, fun e => (e rfl).elim⟩, h1.tl, h1.times, h1.bytes, h1.samples, h1.floor, h1.best, h1.count, h1.phase, h1.turn, fun e => (e rfl).elim, h1.rt1⟩ <;> (simp only; try unfold miI) <;> (try split) <;> omega
theorem lostP_ok {n : Nat} {S : Cc} {op : CcOpP} (h : S.ok 1 n) (ho : opGood op) (hn : n + 1 ≤ 600) : (lostP S op).ok 1 (n + 1) := by
  have h1 := h.mono hn
  have hw := h.win
  have ht := ho.t
  have hd := tdiv_le_self (a := S.window) (b := 2) (by omega) (by omega)
  unfold lostP
  split
  · exact h1
  · refine ⟨h1.le, ?_, h1.rate, by simp, h1.flight, ?_, ⟨by simp; omega, ht.2⟩, by simp, ⟨fun _ => ?_, fun e => (e rfl).elim⟩, h1.tl, h1.times, h1.bytes, h1.samples, h1.floor, h1.best, h1.count, h1.phase, h1.turn, fun e => (e rfl).elim, h1.rt1⟩ <;> (simp only; unfold mxI; split <;> omega)
theorem flight_ok {kind : Int} {n : Nat} {S : Cc} {f : Int} (h : S.ok kind n) (h0 : 0 ≤ f) (h1 : f ≤ 2000 * n) : ({ S with flight := f } : Cc).ok kind n :=
  ⟨h.le, h.win, h.rate, h.state, ⟨h0, h1⟩, h.thr, h.mark, h.rest, h.rest2, h.tl, h.times, h.bytes, h.samples, h.floor, h.best, h.count, h.phase, h.turn, h.stm, h.rt1⟩
theorem ccDo_ok {kind : Int} {n : Nat} {S : Cc} {op : CcOpP} (hkd : kind = 1 ∨ kind = 2) (h : S.ok kind n) (hn : n + 1 ≤ 600) : (ccDo kind S op).1.ok kind (n + 1) := by
  have h1 := h.mono hn
  have hf := h.flight
  unfold ccDo
  split
  · exact h1
  · rename_i hg
    have ho := opGood.of hg
    have hb := ho.b
    split
    · exact h1
    · rename_i hs
      split
      · exact flight_ok h1 (by omega) (by push_cast; omega)
      · split
        · rename_i hk2
          have hfl := flight_ok (f := S.flight - op.b) h (by omega) (by omega)
          split
          · rename_i hk; subst hk; exact ackLossP_ok hfl ho hn
          · rename_i hk
            have ⟨a1, a2, a3, a4, a5⟩ := ackModelP_ok hk hfl ho hn hk2
            unfold ackModelP
            exact ack3P_ok hk (ack2P_ok a1 hfl.count.2 ho ⟨a2, a3⟩) ⟨a2, a3⟩ ⟨a4, a5⟩
        · split
          · have hfl := flight_ok (f := S.flight - op.b) h (by omega) (by omega)
            split
            · rename_i hk; subst hk; exact lostP_ok hfl ho hn
            · exact hfl.mono hn
          · exact h1
end Go.Ev

/- Congestion: the specification's functions that read or write numbers alone. -/
namespace Go.Ev
open Go Go.Proofs
set_option linter.unusedSimpArgs false
set_option linter.unusedVariables false

abbrev tI : Ty := .sl 3 (.int .i64)
theorem tI_at {H : AH} {v : AV} {l : List Int} {bs : List Nat} {rw : Bool} (h : tI.R rw H [v] l bs) {k : Nat} (hk : k < l.length) :
    ∃ b o e ro xs, idxA Try.prog 60 v (.int .i64 k) = some (.ptr b o) ∧ H.get b = some (.cells e ro xs) ∧ xs[o]? = some (.int .i64 l[k]) ∧ b ∈ bs ∧ b < H.next := by
  obtain ⟨b, o, ro, x1, c, x2, bk, u1, u2, u3, u4, u5, u6, u7, u8⟩ := Ty.R.at_ h (P := Try.prog) (T := 60) (by simp) (by simp [Ty.n]) (k := k) hk
  obtain ⟨rfl, _⟩ := u5
  exact ⟨b, o, _, ro, _, u1, u3, by rw [List.append_assoc, List.getElem?_append_right (by omega)]; simp [u4], u7, u2⟩
theorem tI_in {H : AH} {v : AV} {l : List Int} {bs : List Nat} {rw : Bool} (h : tI.R rw H [v] l bs) : ∀ x ∈ l, InK .i64 x := by
  intro x hx
  obtain ⟨k, hk, rfl⟩ := List.getElem_of_mem hx
  obtain ⟨b, o, ro, x1, c, x2, bk, u1, u2, u3, u4, u5, u6, u7, u8⟩ := Ty.R.at_ h (P := Try.prog) (T := 60) (by simp) (by simp [Ty.n]) (k := k) hk
  exact ⟨u5.2.1, u5.2.2.1⟩

def ccC (k : Int) (S : Cc) (vs vt vb : AV) : List AV := [.int .i64 k, .int .i64 S.window, .int .i64 S.rate, .int .i64 S.state, .int .i64 S.flight, .int .i64 S.threshold, .int .i64 S.mark, .int .i64 S.rest, vs, vt, vb, .int .i64 S.floor, .int .i64 S.best, .int .i64 S.count, .int .i64 S.phase, .int .i64 S.turn]
structure CcS (H : AH) (q : Nat) (k : Int) (S : Cc) (vs vt vb : AV) (bs bt bb : List Nat) : Prop where
  get : H.get q = some (.cells 141 false (ccC k S vs vt vb))
  rs : tI.R true H [vs] S.samples bs
  rt : tI.R true H [vt] S.times bt
  rb : tI.R true H [vb] S.bytes bb
  nd : (q :: (bs ++ (bt ++ bb))).Nodup
  lt : q < H.next
def opC (op : CcOpP) : List AV := [.int .i64 op.k, .int .i64 op.t, .int .i64 op.b, .int .i64 op.s, .int .i64 op.p]
/-- numbers of the object are written -/
theorem CcS.step {H H' : AH} {q : Nat} {k : Int} {S S' : Cc} {vs vt vb : AV} {bs bt bb : List Nat} (h : CcS H q k S vs vt vb bs bt bb) (hK : KoS [q] H H') (hg : H'.get q = some (.cells 141 false (ccC k S' vs vt vb)))
    (h1 : S'.samples = S.samples) (h2 : S'.times = S.times) (h3 : S'.bytes = S.bytes) : CcS H' q k S' vs vt vb bs bt bb := by
  have hn := h.nd
  rw [List.nodup_cons] at hn
  refine ⟨hg, ?_, ?_, ?_, h.nd, Nat.lt_of_lt_of_le h.lt hK.next⟩
  · rw [h1]; exact h.rs.koS hK fun b hb hq => hn.1 (by rw [List.mem_singleton] at hq; rw [← hq]; simp [hb])
  · rw [h2]; exact h.rt.koS hK fun b hb hq => hn.1 (by rw [List.mem_singleton] at hq; rw [← hq]; simp [hb])
  · rw [h3]; exact h.rb.koS hK fun b hb hq => hn.1 (by rw [List.mem_singleton] at hq; rw [← hq]; simp [hb])
theorem koS_push_set {H : AH} {q : Nat} (B C : Blk) : KoS [q] H ((H.push B).set q C) :=
  ⟨by simp, fun b hb hq => by rw [AH.set_getN _ _ (by simpa using hq), AH.push_get, if_neg (by omega)]⟩
theorem timeS_ev (x : Int) (H : AH) (m : Nat) (hm : 1 ≤ m) : ev Try.prog m 192 [.int .i64 x] H = some (.bool (decide (0 ≤ x ∧ x ≤ 1000000000000)), H) := by
  obtain ⟨m, rfl⟩ : ∃ k, m = k + 1 := ⟨m - 1, by omega⟩
  rw [ev_eq Try.func192 ok192 m _ H (by simp [Try.f192])]
  by_cases h1 : 0 ≤ x
  · by_cases h2 : x ≤ 1000000000000
    · simp [Try.f192, h1, h2]
    · simp [Try.f192, h1, h2]
  · simp [Try.f192, h1]
theorem newS_ev (k : Int) (H : AH) (m : Nat) (hm : 1 ≤ m) : ev Try.prog m 92 [.int .i64 k] H = some (.ptr H.next 0, H.push (.cells 141 false (ccC k Cc0 .nilSlice .nilSlice .nilSlice))) := by
  obtain ⟨m, rfl⟩ : ∃ k, m = k + 1 := ⟨m - 1, by omega⟩
  rw [ev_eq Try.func92 ok92 m _ H (by simp [Try.f92])]
  simp [Try.f92, fillA, spl, ccC, Cc0]
/-- at most one more packet, as acknowledged bytes are few -/
def lossR (S : Cc) : Cc := if S.rest ≥ S.window then { S with rest := S.rest - S.window, window := S.window + 1200 } else S
theorem restLoopS {H : AH} {q : Nat} {k : Int} {S : Cc} {vs vt vb T3 : AV} (hg : H.get q = some (.cells 141 false (ccC k S vs vt vb))) (hw : 2400 ≤ S.window ∧ S.window ≤ 100000000) (hr : 0 ≤ S.rest ∧ S.rest < S.window + 2400) (m : Nat) (hm : 3 ≤ m) (call : CallF) (τ : Tm) (t0 : τ 0 = .ptr q 0) (t3 : τ 3 = T3) :
    ∃ e τ' H', evLoop Try.prog call m (lp Try.prog 193 478) τ H = some (e, τ', H') ∧ e = .exit 0 ∧ τ' 0 = .ptr q 0 ∧ τ' 3 = T3 ∧ H' = H.set q (.cells 141 false (ccC k (lossR S) vs vt vb)) := by
  refine loop_rule (d := 1) (fun d τ h => τ 0 = .ptr q 0 ∧ τ 3 = T3 ∧ ∃ S', h = H.set q (.cells 141 false (ccC k S' vs vt vb)) ∧ ((d = 1 ∧ S' = S) ∨ (d = 0 ∧ S' = lossR S ∧ S.rest ≥ S.window)))
    (fun e τ h => e = .exit 0 ∧ τ 0 = .ptr q 0 ∧ τ 3 = T3 ∧ h = H.set q (.cells 141 false (ccC k (lossR S) vs vt vb))) ?_ ⟨t0, t3, S, (AH.set_same _ _ _ hg).symm, .inl ⟨rfl, rfl⟩⟩ (by omega)
  intro d τ h hI
  obtain ⟨t0, t3, S', rfl, h1⟩ := hI
  rewrite [lp193_478]
  rcases h1 with ⟨rfl, rfl⟩ | ⟨rfl, rfl, h2⟩
  · by_cases c : S'.window ≤ S'.rest
    · have w1 := wrap_i64 (n := S'.rest - S'.window) (by omega) (by omega)
      have w2 := wrap_i64 (n := S'.window + 1200) (by omega) (by omega)
      simp [Try.f193, t0, t3, ldVar, stVar, ccC, c, w1, w2, spl, evHist, ObsOk, ObOk]
      simp [lossR, c]
    · simp [Try.f193, t0, t3, ldVar, stVar, ccC, c, evHist, ObsOk, ObOk]
      simp [lossR, c]
  · have c : ¬ ((lossR S).window ≤ (lossR S).rest) := by unfold lossR; rw [if_pos h2]; simp only; omega
    simp [Try.f193, t0, t3, ldVar, stVar, ccC, c, evHist, ObsOk, ObOk]
/-- the loss rule's acknowledgement -/
theorem ackLossS_ev {H : AH} {q : Nat} {k : Int} {S : Cc} {vs vt vb : AV} {bs bt bb : List Nat} {n : Nat} (h : CcS H q k S vs vt vb bs bt bb) (hok : S.ok 1 n) {op : CcOpP} (ho : opGood op) (m : Nat) (hm : 5 ≤ m) :
    ∃ H', ev Try.prog m 193 [.ptr q 0, .agg (opC op)] H = some (U, H') ∧ CcS H' q k (ackLossP S op) vs vt vb bs bt bb ∧ KoS [q] H H' := by
  obtain ⟨m, rfl⟩ : ∃ k, m = k + 1 := ⟨m - 1, by omega⟩
  have hg := h.get
  have hq := h.lt
  have hqn : ¬ (q = H.next) := by omega
  have hnq : ¬ (H.next = q) := by omega
  have hw := hok.win
  have hr := hok.rest
  have hr2 := hok.rest2.1 rfl
  have hb := ho.b
  have w1 := wrap_i64 (n := S.window + op.b) (by omega) (by omega)
  have w2 := wrap_i64 (n := S.rest + op.b) (by omega) (by omega)
  simp only [ccC] at hg
  rw [ev_eq Try.func193 ok193 m _ H (by simp [Try.f193])]
  unfold ackLossP
  by_cases c1 : op.s ≤ S.mark
  · rw [if_pos c1]
    refine ⟨H.push (.cells 40 false (opC op)), ?_, h.step ⟨by simp, fun b hb _ => by rw [AH.push_get, if_neg (by omega)]⟩ (by rw [AH.push_get, if_neg hqn]; exact h.get) rfl rfl rfl, ⟨by simp, fun b hb _ => by rw [AH.push_get, if_neg (by omega)]⟩⟩
    simp [Try.f193, opC, ldVar, stVar, hg, hqn, c1, U, evHist, ObsOk, ObOk]
  · rw [if_neg c1]
    by_cases c2 : S.window < S.threshold
    · rw [if_pos c2]
      refine ⟨(H.push (.cells 40 false (opC op))).set q (.cells 141 false (ccC k { S with state := 0, window := miI (S.window + op.b) 100000000 } vs vt vb)), ?_, h.step (koS_push_set _ _) (AH.set_getS _ _ _) rfl rfl rfl, koS_push_set _ _⟩
      simp [Try.f193, opC, ccC, ldVar, stVar, hg, hqn, hnq, c1, c2, w1, spl, miI, U, evHist, ObsOk, ObOk]
      try (split <;> rfl)
    · rw [if_neg c2]
      have hfin : (if S.rest + op.b ≥ S.window then { S with state := 1, rest := S.rest + op.b - S.window, window := miI (S.window + 1200) 100000000 } else { S with state := 1, rest := S.rest + op.b, window := miI S.window 100000000 }) =
          { lossR { S with state := 1, rest := S.rest + op.b } with window := miI (lossR { S with state := 1, rest := S.rest + op.b }).window 100000000 } := by
        unfold lossR; split <;> rfl
      rw [hfin]
      refine ⟨(H.push (.cells 40 false (opC op))).set q (.cells 141 false (ccC k { lossR { S with state := 1, rest := S.rest + op.b } with window := miI (lossR { S with state := 1, rest := S.rest + op.b }).window 100000000 } vs vt vb)), ?_, h.step (koS_push_set _ _) (AH.set_getS _ _ _) (by unfold lossR; split <;> rfl) (by unfold lossR; split <;> rfl) (by unfold lossR; split <;> rfl), koS_push_set _ _⟩
      simp [Try.f193, opC, ldVar, stVar, hg, hqn, hnq, c1, c2, w2, spl, evHist, ObsOk, ObOk]
      generalize hLo : evLoop _ _ _ _ _ _ = R
      obtain ⟨e, τ', H1, rfl, rfl, t0, t3, rfl⟩ := loop_at hLo (restLoopS (S := { S with state := 1, rest := S.rest + op.b }) (AH.set_getS _ _ _) hw ⟨by simp; omega, by simp; omega⟩ m (by omega) _ _ (by simp) (by simp; rfl))
      generalize lossR { S with state := 1, rest := S.rest + op.b } = L
      simp [ccC, t0, t3, ldVar, stVar, spl, miI, U]
      try (split <;> rfl)
theorem lostS_ev {H : AH} {q : Nat} {k : Int} {S : Cc} {vs vt vb : AV} {bs bt bb : List Nat} {n : Nat} (h : CcS H q k S vs vt vb bs bt bb) (hok : S.ok k n) {op : CcOpP} (m : Nat) (hm : 1 ≤ m) :
    ∃ H', ev Try.prog m 195 [.ptr q 0, .agg (opC op)] H = some (U, H') ∧ CcS H' q k (if k = 1 then lostP S op else S) vs vt vb bs bt bb ∧ KoS [q] H H' := by
  obtain ⟨m, rfl⟩ : ∃ k, m = k + 1 := ⟨m - 1, by omega⟩
  have hg := h.get
  have hq := h.lt
  have hqn : ¬ (q = H.next) := by omega
  have hnq : ¬ (H.next = q) := by omega
  simp only [ccC] at hg
  have hw := hok.win
  have hd := tdiv_le_self (a := S.window) (b := 2) (by omega) (by omega)
  have w1 := wrap_i64 (n := S.window.tdiv 2) (by omega) (by omega)
  have same : ∀ S', S' = S → KoS [q] H (H.push (.cells 40 false (opC op))) ∧ CcS (H.push (.cells 40 false (opC op))) q k S' vs vt vb bs bt bb := fun S' e => by
    have hK : KoS [q] H (H.push (.cells 40 false (opC op))) := ⟨by simp, fun b hb _ => by rw [AH.push_get, if_neg (by omega)]⟩
    subst e
    exact ⟨hK, h.step hK (by rw [AH.push_get, if_neg hqn]; exact h.get) rfl rfl rfl⟩
  rw [ev_eq Try.func195 ok195 m _ H (by simp [Try.f195])]
  by_cases c0 : k = 1
  · subst c0
    rw [if_pos rfl]
    unfold lostP
    by_cases c1 : op.s ≤ S.mark
    · rw [if_pos c1]
      refine ⟨_, ?_, (same S rfl).2, (same S rfl).1⟩
      simp [Try.f195, opC, ldVar, stVar, hg, hqn, c1, U, evHist, ObsOk, ObOk]
    · rw [if_neg c1]
      refine ⟨(H.push (.cells 40 false (opC op))).set q (.cells 141 false (ccC 1 { S with mark := op.t, window := mxI (S.window.tdiv 2) 2400, threshold := mxI (S.window.tdiv 2) 2400, state := 1, rest := 0 } vs vt vb)), ?_, h.step (koS_push_set _ _) (AH.set_getS _ _ _) rfl rfl rfl, koS_push_set _ _⟩
      simp [Try.f195, opC, ccC, ldVar, stVar, hg, hqn, hnq, c1, w1, spl, mxI, U, evHist, ObsOk, ObOk]
  · rw [if_neg c0]
    refine ⟨_, ?_, (same S rfl).2, (same S rfl).1⟩
    simp [Try.f195, opC, ldVar, stVar, hg, hqn, c0, U, evHist, ObsOk, ObOk]
/-- the greatest of the last eight samples -/
theorem bwS_ev {H : AH} {q : Nat} {k : Int} {S : Cc} {vs vt vb : AV} {bs bt bb : List Nat} (h : CcS H q k S vs vt vb bs bt bb) (hl : S.samples.length ≤ 600) (m : Nat) (hm : 700 ≤ m) : ev Try.prog m 260 [.ptr q 0] H = some (.int .i64 (bwP S.samples), H) := by
  obtain ⟨m, rfl⟩ : ∃ k, m = k + 1 := ⟨m - 1, by omega⟩
  have hg := h.get
  simp only [ccC] at hg
  have hL := Ty.R.lenA h.rs (P := Try.prog) (T := 60) (by simp)
  rw [ev_eq Try.func260 ok260 m _ H (by simp [Try.f260])]
  simp [Try.f260]
  generalize hLo : evLoop _ _ _ _ _ _ = R
  obtain ⟨e, τ', H1, rfl, rfl, t3, rfl⟩ := loop_at hLo (loop_rule (d := S.samples.length)
    (fun d τ h => ∃ i : Nat, i + d = S.samples.length ∧ τ 0 = .ptr q 0 ∧ τ 4 = .int .i64 i ∧ τ 3 = .int .i64 (((S.samples.take i).drop (S.samples.length - 8)).foldl mxI 0) ∧ h = H)
    (fun e τ h => e = .exit 0 ∧ τ 3 = .int .i64 (bwP S.samples) ∧ h = H)
    (by
      rintro d τ h1 ⟨i, hi, t0, t4, t3, rfl⟩
      rewrite [lp260_58]
      by_cases hd0 : d = 0
      · have hil : i = S.samples.length := by omega
        rw [hil, List.take_length] at t3
        have c : (i : Int) = S.samples.length := by omega
        simp [Try.f260, t0, t4, t3, ldVar, hg, hL, c, bwP]
      · have hlt : i < S.samples.length := by omega
        obtain ⟨b, o, e, ro, xs, u1, u2, u3, _, _⟩ := tI_at h.rs hlt
        have w1 := wrap_i64 (n := (i : Int) + 1) (by omega) (by omega)
        have w2 := wrap_i64 (n := (S.samples.length : Int) - i) (by omega) (by omega)
        have hts : S.samples.take (i + 1) = S.samples.take i ++ [S.samples[i]] := by rw [List.take_add_one, List.getElem?_eq_getElem hlt]; rfl
        by_cases c : (S.samples.length : Int) - i ≤ 8
        · simp [Try.f260, t0, t4, t3, ldVar, hg, hL, hlt, w1, w2, c, u1, u2, u3]
          refine ⟨d - 1, by omega, i + 1, by omega, ?_, ?_⟩
          · push_cast; rfl
          · rw [hts, List.drop_append_of_le_length (by rw [List.length_take]; omega), List.foldl_append]
            simp [mxI]
        · simp [Try.f260, t0, t4, t3, ldVar, hg, hL, hlt, w1, w2, c]
          refine ⟨d - 1, by omega, i + 1, by omega, ?_, ?_⟩
          · push_cast; rfl
          · rw [List.drop_eq_nil_of_le (by rw [List.length_take]; omega), List.drop_eq_nil_of_le (by rw [List.length_take]; omega)])
    ⟨0, by simp, by simp, by simp, by simp, rfl⟩ (by omega))
  simp [t3]
theorem prodS_ev {H : AH} {q : Nat} {k : Int} {S : Cc} {vs vt vb : AV} {bs bt bb : List Nat} (h : CcS H q k S vs vt vb bs bt bb) (hl : S.samples.length ≤ 600) (hs : ∀ x ∈ S.samples, 0 ≤ x ∧ x ≤ 1000000000000) (hf : 0 ≤ S.floor ∧ S.floor ≤ 1000000000000) (m : Nat) (hm : 710 ≤ m) :
    ev Try.prog m 261 [.ptr q 0] H = some (.int .i64 (prodP (bwP S.samples) S.floor), H) := by
  obtain ⟨m, rfl⟩ : ∃ k, m = k + 1 := ⟨m - 1, by omega⟩
  have hg := h.get
  simp only [ccC] at hg
  have hb := bwP_in hs
  have hbw := bwS_ev h hl m (by omega)
  generalize bwP S.samples = b at *
  rw [ev_eq Try.func261 ok261 m _ H (by simp [Try.f261])]
  have hb0 : b ≠ 0 → ¬ (b = 0) := id
  by_cases c0 : 0 < b
  · have hz : ¬ (b = 0) := by omega
    have hd := tdiv_le_self (a := 9000000000000000000) (b := b) (by omega) (by omega)
    have w1 := wrap_i64 (n := (9000000000000000000 : Int).tdiv b) (by omega) (by omega)
    have hte : (9000000000000000000 : Int).tdiv b = 9000000000000000000 / b := Int.tdiv_eq_ediv_of_nonneg (by omega)
    by_cases c1 : (9000000000000000000 : Int).tdiv b < S.floor
    · have hbig : prodP b S.floor = 100000000 := by
        have h1 : 9000000000000000000 < b * S.floor := by
          rw [hte] at c1
          have := Int.lt_mul_of_ediv_lt c0 c1
          rw [Int.mul_comm] at this; exact this
        unfold prodP miI; rw [if_pos (by omega)]
      rw [hbig]
      simp [Try.f261, hbw, ldVar, hg, c0, c1, hz, w1, evHist, ObsOk, ObOk]
    · have h1 : b * S.floor ≤ 9000000000000000000 := by
        rw [hte] at c1
        have h2 : S.floor ≤ 9000000000000000000 / b := by omega
        have h3 := Int.mul_le_mul_of_nonneg_left h2 (Int.le_of_lt c0)
        have h4 : b * (9000000000000000000 / b) ≤ 9000000000000000000 := Int.mul_ediv_self_le hz
        omega
      have h0 : 0 ≤ b * S.floor := Int.mul_nonneg hb.1 hf.1
      have w2 := wrap_i64 (n := b * S.floor) (by omega) (by omega)
      have h5 : (b * S.floor).tdiv 1000000 = b * S.floor / 1000000 := Int.tdiv_eq_ediv_of_nonneg h0
      have w3 := wrap_i64 (n := b * S.floor / 1000000) (by omega) (by omega)
      simp [Try.f261, hbw, ldVar, hg, c0, c1, hz, w1, w2, w3, h5, prodP, miI, evHist, ObsOk, ObOk]
  · have hz : b = 0 := by omega
    subst hz
    have w0 : IntKind.i64.wrap 0 = 0 := by decide
    simp [Try.f261, hbw, ldVar, hg, w0, prodP, miI, evHist, ObsOk, ObOk]
end Go.Ev
