/- Lemmas of an evaluator of the given code and of what the functions answer; no condition of its own. -/
import Derived.Test.YtnoacfilglgbgaaEv7
import Derived.Test.YtnoacfilglgbgaaEv8
/- The laws' helpers of this seat: written by a program of this session (helpgen.py). -/
namespace Go.Ev
open Go Go.Proofs
set_option linter.unusedSimpArgs false
set_option linter.unusedVariables false
/-! toCcOp -/
abbrev tT143 : Ty := .pair (Ty.int .i64) (.pair (Ty.int .i64) (.pair (Ty.int .i64) (.pair (Ty.int .i64) (Ty.int .i64))))
theorem o143 {rw : Bool} {H : AH} {c : List AV} {x_0 : Int} {x_1 : Int} {x_2 : Int} {x_3 : Int} {x_4 : Int} {bs : List Nat} (h : tT143.R rw H c (x_0, x_1, x_2, x_3, x_4) bs) : c = [.int .i64 x_0, .int .i64 x_1, .int .i64 x_2, .int .i64 x_3, .int .i64 x_4] ∧ ([] : List Nat) = bs ∧ InK .i64 x_0 ∧ InK .i64 x_1 ∧ InK .i64 x_2 ∧ InK .i64 x_3 ∧ InK .i64 x_4 := by
  obtain ⟨c1, d1, e1, f1, rfl, rfl, ⟨rfl, rx_0, sx_0, rfl⟩, ⟨c2, d2, e2, f2, rfl, rfl, ⟨rfl, rx_1, sx_1, rfl⟩, ⟨c3, d3, e3, f3, rfl, rfl, ⟨rfl, rx_2, sx_2, rfl⟩, ⟨c4, d4, e4, f4, rfl, rfl, ⟨rfl, rx_3, sx_3, rfl⟩, ⟨rfl, rx_4, sx_4, rfl⟩⟩⟩⟩⟩ := h
  exact ⟨by simp, by simp, ⟨rx_0, sx_0⟩, ⟨rx_1, sx_1⟩, ⟨rx_2, sx_2⟩, ⟨rx_3, sx_3⟩, ⟨rx_4, sx_4⟩⟩
theorem i143 {rw : Bool} {H : AH} {x_0 : Int} {x_1 : Int} {x_2 : Int} {x_3 : Int} {x_4 : Int}  (ix_0 : InK .i64 x_0) (ix_1 : InK .i64 x_1) (ix_2 : InK .i64 x_2) (ix_3 : InK .i64 x_3) (ix_4 : InK .i64 x_4) : tT143.R rw H [.int .i64 x_0, .int .i64 x_1, .int .i64 x_2, .int .i64 x_3, .int .i64 x_4] (x_0, x_1, x_2, x_3, x_4) ([] : List Nat) := by
  have h : tT143.R rw H ([.int .i64 x_0] ++ ([.int .i64 x_1] ++ ([.int .i64 x_2] ++ ([.int .i64 x_3] ++ [.int .i64 x_4])))) (x_0, x_1, x_2, x_3, x_4) ([] ++ ([] ++ ([] ++ ([] ++ [])))) := (Ty.R.pair (Ty.R.int ix_0) (Ty.R.pair (Ty.R.int ix_1) (Ty.R.pair (Ty.R.int ix_2) (Ty.R.pair (Ty.R.int ix_3) (Ty.R.int ix_4)))))
  simpa using h
abbrev tT40 : Ty := .pair (Ty.int .i64) (.pair (Ty.int .i64) (.pair (Ty.int .i64) (.pair (Ty.int .i64) (Ty.int .i64))))
theorem o40 {rw : Bool} {H : AH} {c : List AV} {x_0 : Int} {x_1 : Int} {x_2 : Int} {x_3 : Int} {x_4 : Int} {bs : List Nat} (h : tT40.R rw H c (x_0, x_1, x_2, x_3, x_4) bs) : c = [.int .i64 x_0, .int .i64 x_1, .int .i64 x_2, .int .i64 x_3, .int .i64 x_4] ∧ ([] : List Nat) = bs ∧ InK .i64 x_0 ∧ InK .i64 x_1 ∧ InK .i64 x_2 ∧ InK .i64 x_3 ∧ InK .i64 x_4 := by
  obtain ⟨c1, d1, e1, f1, rfl, rfl, ⟨rfl, rx_0, sx_0, rfl⟩, ⟨c2, d2, e2, f2, rfl, rfl, ⟨rfl, rx_1, sx_1, rfl⟩, ⟨c3, d3, e3, f3, rfl, rfl, ⟨rfl, rx_2, sx_2, rfl⟩, ⟨c4, d4, e4, f4, rfl, rfl, ⟨rfl, rx_3, sx_3, rfl⟩, ⟨rfl, rx_4, sx_4, rfl⟩⟩⟩⟩⟩ := h
  exact ⟨by simp, by simp, ⟨rx_0, sx_0⟩, ⟨rx_1, sx_1⟩, ⟨rx_2, sx_2⟩, ⟨rx_3, sx_3⟩, ⟨rx_4, sx_4⟩⟩
theorem i40 {rw : Bool} {H : AH} {x_0 : Int} {x_1 : Int} {x_2 : Int} {x_3 : Int} {x_4 : Int}  (ix_0 : InK .i64 x_0) (ix_1 : InK .i64 x_1) (ix_2 : InK .i64 x_2) (ix_3 : InK .i64 x_3) (ix_4 : InK .i64 x_4) : tT40.R rw H [.int .i64 x_0, .int .i64 x_1, .int .i64 x_2, .int .i64 x_3, .int .i64 x_4] (x_0, x_1, x_2, x_3, x_4) ([] : List Nat) := by
  have h : tT40.R rw H ([.int .i64 x_0] ++ ([.int .i64 x_1] ++ ([.int .i64 x_2] ++ ([.int .i64 x_3] ++ [.int .i64 x_4])))) (x_0, x_1, x_2, x_3, x_4) ([] ++ ([] ++ ([] ++ ([] ++ [])))) := (Ty.R.pair (Ty.R.int ix_0) (Ty.R.pair (Ty.R.int ix_1) (Ty.R.pair (Ty.R.int ix_2) (Ty.R.pair (Ty.R.int ix_3) (Ty.R.int ix_4)))))
  simpa using h
set_option maxHeartbeats 4000000 in
theorem toCcOp_h {Hb H : AH} {c : List AV} {d : tT143.D} {bs : List Nat} {rw : Bool} (hd : tT143.R rw Hb c d bs) (hK : Kp Hb H) (hb : tT143.bd 1048576 d) (m : Nat) (hm : 1048720 ≤ m) :
    ∃ c' H' bs', ev Try.prog m 94 [.agg c] H = some (.agg c', H') ∧ Kp H H' ∧ tT40.R true H' c' d bs' ∧ bs'.Nodup ∧ ∀ b ∈ bs', H.next ≤ b := by
  obtain ⟨m, rfl⟩ : ∃ k, m = k + 1 := ⟨m - 1, by omega⟩
  obtain ⟨x_0, x_1, x_2, x_3, x_4⟩ := d
  obtain ⟨hbx_0, hbx_1, hbx_2, hbx_3, hbx_4⟩ := hb
  obtain ⟨rfl, rfl, ix_0, ix_1, ix_2, ix_3, ix_4⟩ := o143 hd
  have nA : ¬ (H.next + 1 = H.next) := by omega
  have nn0 : ¬ (H.next + 1 = H.next) := by omega
  have nn1 : ¬ (H.next + 1 + 1 = H.next) := by omega
  have nn2 : ¬ (H.next = H.next + 1) := by omega
  have nn3 : ¬ (H.next = H.next + 1 + 1) := by omega
  have nn4 : ¬ (H.next + 1 = H.next + 1 + 1) := by omega
  have nn5 : ¬ (H.next + 1 + 1 = H.next + 1) := by omega
  refine ⟨[.int .i64 x_0, .int .i64 x_1, .int .i64 x_2, .int .i64 x_3, .int .i64 x_4], _, [], ?_, ((((Kp.refl H).push (.cells 143 false [.int .i64 x_0, .int .i64 x_1, .int .i64 x_2, .int .i64 x_3, .int .i64 x_4])).push (.cells 40 false [.int .i64 0, .int .i64 0, .int .i64 0, .int .i64 0, .int .i64 0])).push (.cells 40 false [.int .i64 x_0, .int .i64 x_1, .int .i64 x_2, .int .i64 x_3, .int .i64 x_4])).set (b := H.next + 1) (by omega) (.cells 40 false [.int .i64 x_0, .int .i64 x_1, .int .i64 x_2, .int .i64 x_3, .int .i64 x_4]), i40 ix_0 ix_1 ix_2 ix_3 ix_4, by simp, by simp⟩
  rw [ev_eq Try.func94 ok94 m _ H (by simp [Try.f94])]
  simp [Try.f94, ldVar, stVar, spl, push_set2, push_set3, nn0, nn1, nn2, nn3, nn4, nn5]
/-! toCcOpS -/
def ItoCcOpS_h (ds : List tT143.D) (s : AV) (H : AH) (d : Nat) (τ : Tm) (h : AH) : Prop :=
  ∃ k x1 bs, k + d = ds.length ∧ τ 0 = s ∧ τ 3 = .slice H.next 0 ds.length ∧ τ 4 = .int .i64 k ∧ Kp H h ∧ H.next < h.next ∧ h.get H.next = some (.cells 40 false (x1 ++ zerosA [.int .i64 0, .int .i64 0, .int .i64 0, .int .i64 0, .int .i64 0] d)) ∧ Rows (tT40.R true h) 5 x1 (ds.take k) bs ∧ bs.Nodup ∧ ∀ b ∈ bs, H.next < b
set_option maxHeartbeats 4000000 in
theorem toCcOpS_h {Hb H : AH} {s : AV} {ds : List tT143.D} {bs : List Nat} {rw : Bool} (hd : (Ty.sl 143 tT143).R rw Hb [s] ds bs) (hK : Kp Hb H) (hb : (Ty.sl 143 tT143).bd 1048576 ds) (m : Nat) (hm : 1048740 ≤ m) :
    ∃ r H' bs', ev Try.prog m 17 [s] H = some (r, H') ∧ Kp H H' ∧ (Ty.sl 40 tT40).R true H' [r] ds bs' ∧ bs'.Nodup ∧ ∀ b ∈ bs', H.next ≤ b := by
  obtain ⟨m, rfl⟩ : ∃ k, m = k + 1 := ⟨m - 1, by omega⟩
  obtain ⟨hl, hl2⟩ := hb
  have hL := Ty.R.lenA hd (P := Try.prog) (T := 22) (by simp)
  rw [ev_eq Try.func17 ok17 m _ H (by simp [Try.f17])]
  have hb1 : (40 : Int) * (ds.length : Int) ≤ 281474976710656 := by omega
  have hb2 : (ds.length : Int) ≤ 281474976710656 := by omega
  simp [Try.f17, hL, hb1, hb2]
  generalize hLo : evLoop _ _ _ _ _ _ = R
  obtain ⟨e, τ', H', rfl, rfl, g⟩ := loop_at hLo (loop_rule (d := ds.length) (ItoCcOpS_h ds s H)
    (fun e τ h => e = .exit 0 ∧ ItoCcOpS_h ds s H 0 τ h)
    (by
      rintro d τ h ⟨k, x1, bs1, hk, t0, t3, t4, hKh, hnx, hg, hR, hnd, hlo⟩
      by_cases hd0 : d = 0
      · subst hd0
        have hkl : (k : Int) = ds.length := by omega
        rewrite [lp17_58]
        simp [Try.f17, t0, t4, hL, hkl]
        exact ⟨k, x1, bs1, hk, t0, t3, t4, hKh, hnx, hg, hR, hnd, hlo⟩
      · obtain ⟨d, rfl⟩ : ∃ q, d = q + 1 := ⟨d - 1, by omega⟩
        have hlt : k < ds.length := by omega
        have hx1 := hR.len
        rw [List.length_take, Nat.min_eq_left (Nat.le_of_lt hlt)] at hx1
        obtain ⟨b, o, ro, y1, c, y2, bk, u1, u2, u3, u4, u5, u6, u7, u8⟩ := Ty.R.at_ (hd.kp (hK.trans hKh)) (P := Try.prog) (T := 22) (by simp) (by simp [Ty.n]) (k := k) hlt
        have hld := ld_midA0 (P := Try.prog) (T := 143) (n := 5) u3 u4 (by simp) (by simp) (by simpa [Ty.n] using u5.len)
        obtain ⟨c', h2, b2, v1, v2, v3, v4, v5⟩ := toCcOp_h u5 (Kp.refl h) (hl2 _ (List.getElem_mem hlt)) m (by omega)
        have hc5 : c'.length = 5 := by simpa [Ty.n] using v3.len
        have hg2 : h2.get H.next = some (.cells 40 false (x1 ++ [.int .i64 0, .int .i64 0, .int .i64 0, .int .i64 0, .int .i64 0] ++ zerosA [.int .i64 0, .int .i64 0, .int .i64 0, .int .i64 0, .int .i64 0] d)) := by rw [v2.get _ hnx, hg, zerosA, List.append_assoc]
        have hst := st_midA (P := Try.prog) (T := 40) (o := k * 5) hg2 (by omega) (by simp [hc5]) (by simp [hc5]) v3.one
        have hidx : idxA Try.prog 27 (.slice H.next 0 ds.length) (.int .i64 k) = some (.ptr H.next (k * 5)) := by simp [idxA, hlt]
        rewrite [lp17_58]
        simp [Try.f17, t0, t3, t4, hL, hlt, u1, hld, v1, hidx, hst, wrap_i64 (n := (k : Int) + 1) (by omega) (by omega)]
        have hn2 := v2.next
        have hset : ∀ y, ∀ x, x ≠ H.next → (h2.set H.next y).get x = h2.get x := fun y x hx => by rw [AH.set_get, if_neg hx]
        refine ⟨d, by omega, k + 1, x1 ++ c', bs1 ++ b2, by omega, by simp [t0], by simp [t3], by simp, (hKh.trans v2).set (Nat.le_refl _) _, by simp; omega, by simp, ?_, ?_, ?_⟩
        · rw [List.take_add_one, List.getElem?_eq_getElem hlt]
          exact Rows.app (hR.imp fun c d b3 _ hb hh => (hh.kp v2).stay (by simp) fun x hx => hset _ x (by have := hlo x (hb x hx); omega)) (Rows.one (v3.stay (by simp) fun x hx => hset _ x (by have := v5 x hx; omega)) hc5)
        · refine List.nodup_append.2 ⟨hnd, v4, fun x hx y hy e => ?_⟩
          have h1 := Rows.mem (fun c d bs h => Ty.R.mem h) hR x hx
          have h2 := v5 y hy
          omega
        · intro x hx
          rcases List.mem_append.1 hx with hx | hx
          · exact hlo x hx
          · have := v5 x hx; omega)
    ⟨0, [], [], by simp, by simp, by simp, by simp, (Kp.refl H).push _, by simp, by simp, ⟨rfl, rfl⟩, by simp, by simp⟩ (by omega))
  obtain ⟨k, x1, bs1, hk, t0, t3, t4, hKh, hnx, hg, hR, hnd, hlo⟩ := g
  have hkl : k = ds.length := by omega
  subst hkl
  rw [List.take_length] at hR
  have hx1 := hR.len
  simp [t3]
  refine ⟨_, _, ⟨rfl, rfl⟩, hKh, H.next :: bs1, .inr ⟨H.next, 0, false, x1, bs1, rfl, rfl, hnx, by simpa using hg, fun _ => ⟨rfl, rfl, by simpa [Ty.n] using hx1⟩, by simp [Ty.n, hx1], ?_⟩, ?_, ?_⟩
  · have : (x1.drop 0).take (ds.length * tT40.n) = x1 := by rw [List.drop_zero, List.take_of_length_le (by simp [Ty.n, hx1])]
    rw [this]; exact hR
  · rw [List.nodup_cons]; exact ⟨fun hx => by have := hlo _ hx; omega, hnd⟩
  · intro x hx
    rcases List.mem_cons.1 hx with rfl | hx
    · exact Nat.le_refl _
    · have := hlo x hx; omega
/-! szCcOpS -/
set_option maxHeartbeats 4000000 in
theorem szCcOpS_h {Hb H : AH} {s : AV} {ds : List tT143.D} {bs : List Nat} {rw : Bool} (hd : (Ty.sl 143 tT143).R rw Hb [s] ds bs) (hK : Kp Hb H) {left : Int} (h0 : 0 ≤ left) (h1 : left ≤ 1048576) (hb : (Ty.sl 143 tT143).bd 9223372036854775807 ds) (m : Nat) (hm : 1048740 ≤ m) :
    ∃ H', ev Try.prog m 15 [s, .int .i64 left] H = some (.int .i64 (szR left ((Ty.sl 143 tT143).sz ds)), H') ∧ Kp H H' := by
  obtain ⟨m, rfl⟩ : ∃ k, m = k + 1 := ⟨m - 1, by omega⟩
  obtain ⟨hl, hl2⟩ := hb
  have hL := Ty.R.lenA hd (P := Try.prog) (T := 22) (by simp)
  rw [ev_eq Try.func15 ok15 m _ H (by simp [Try.f15])]
  have w := wrap_i64 (n := left - ds.length) (by omega) (by omega)
  have hsz : (Ty.sl 143 tT143).sz ds = ds.length + cntL tT143.sz ds := rfl
  rw [hsz]
  have hz : cntL tT143.sz ds = 0 := by
    have := cntL_le tT143.sz 0 ds (fun d _ => by simp [Ty.sz])
    omega
  rw [hz, Nat.add_zero]
  refine ⟨H, ?_, Kp.refl H⟩
  by_cases hlt : left < ds.length
  · have h2 : left - (ds.length : Int) < 0 := by omega
    rw [szR_lt hlt]
    simp [Try.f15, hL, w, h2]
  · have h2 : ¬ (left - (ds.length : Int) < 0) := by omega
    rw [szR_ge (by omega)]
    simp [Try.f15, hL, w, h2]
/-! eqCcObs -/
abbrev tT38 : Ty := .pair (Ty.int .i64) (.pair (Ty.int .i64) (.pair (Ty.int .i64) (.pair (Ty.int .i64) (.pair (Ty.int .i64) Ty.bool))))
theorem o38 {rw : Bool} {H : AH} {c : List AV} {x_0 : Int} {x_1 : Int} {x_2 : Int} {x_3 : Int} {x_4 : Int} {x_5 : Bool} {bs : List Nat} (h : tT38.R rw H c (x_0, x_1, x_2, x_3, x_4, x_5) bs) : c = [.int .i64 x_0, .int .i64 x_1, .int .i64 x_2, .int .i64 x_3, .int .i64 x_4, .bool x_5] ∧ ([] : List Nat) = bs ∧ InK .i64 x_0 ∧ InK .i64 x_1 ∧ InK .i64 x_2 ∧ InK .i64 x_3 ∧ InK .i64 x_4 := by
  obtain ⟨c1, d1, e1, f1, rfl, rfl, ⟨rfl, rx_0, sx_0, rfl⟩, ⟨c2, d2, e2, f2, rfl, rfl, ⟨rfl, rx_1, sx_1, rfl⟩, ⟨c3, d3, e3, f3, rfl, rfl, ⟨rfl, rx_2, sx_2, rfl⟩, ⟨c4, d4, e4, f4, rfl, rfl, ⟨rfl, rx_3, sx_3, rfl⟩, ⟨c5, d5, e5, f5, rfl, rfl, ⟨rfl, rx_4, sx_4, rfl⟩, ⟨rfl, rfl⟩⟩⟩⟩⟩⟩ := h
  exact ⟨by simp, by simp, ⟨rx_0, sx_0⟩, ⟨rx_1, sx_1⟩, ⟨rx_2, sx_2⟩, ⟨rx_3, sx_3⟩, ⟨rx_4, sx_4⟩⟩
theorem i38 {rw : Bool} {H : AH} {x_0 : Int} {x_1 : Int} {x_2 : Int} {x_3 : Int} {x_4 : Int} {x_5 : Bool}  (ix_0 : InK .i64 x_0) (ix_1 : InK .i64 x_1) (ix_2 : InK .i64 x_2) (ix_3 : InK .i64 x_3) (ix_4 : InK .i64 x_4) : tT38.R rw H [.int .i64 x_0, .int .i64 x_1, .int .i64 x_2, .int .i64 x_3, .int .i64 x_4, .bool x_5] (x_0, x_1, x_2, x_3, x_4, x_5) ([] : List Nat) := by
  have h : tT38.R rw H ([.int .i64 x_0] ++ ([.int .i64 x_1] ++ ([.int .i64 x_2] ++ ([.int .i64 x_3] ++ ([.int .i64 x_4] ++ [.bool x_5]))))) (x_0, x_1, x_2, x_3, x_4, x_5) ([] ++ ([] ++ ([] ++ ([] ++ ([] ++ []))))) := (Ty.R.pair (Ty.R.int ix_0) (Ty.R.pair (Ty.R.int ix_1) (Ty.R.pair (Ty.R.int ix_2) (Ty.R.pair (Ty.R.int ix_3) (Ty.R.pair (Ty.R.int ix_4) (Ty.R.bool x_5))))))
  simpa using h
set_option maxHeartbeats 4000000 in
theorem eqCcObs_h {H h : AH} {c1 c2 : List AV} {d : tT38.D} {b1 b2 : List Nat} {r1 r2 : Bool} (h1 : tT38.R r1 H c1 d b1) (h2 : tT38.R r2 H c2 d b2) (hK : Kp H h) (hb : tT38.bd 1048576 d) (m : Nat) (hm : 1048720 ≤ m) :
    ∃ h', ev Try.prog m 97 [.agg c1, .agg c2] h = some (.bool true, h') ∧ Kp h h' := by
  obtain ⟨m, rfl⟩ : ∃ k, m = k + 1 := ⟨m - 1, by omega⟩
  obtain ⟨x_0, x_1, x_2, x_3, x_4, x_5⟩ := d
  obtain ⟨hbx_0, hbx_1, hbx_2, hbx_3, hbx_4, hbx_5⟩ := hb
  obtain ⟨rfl, rfl, ix_0, ix_1, ix_2, ix_3, ix_4⟩ := o38 h1
  obtain ⟨rfl, rfl, jx_0, jx_1, jx_2, jx_3, jx_4⟩ := o38 h2
  let A0 : AH := (h.push (.cells 38 false [.int .i64 x_0, .int .i64 x_1, .int .i64 x_2, .int .i64 x_3, .int .i64 x_4, .bool x_5])).push (.cells 38 false [.int .i64 x_0, .int .i64 x_1, .int .i64 x_2, .int .i64 x_3, .int .i64 x_4, .bool x_5])
  have K0 : Kp h A0 := ((Kp.refl h).push _).push _
  have g0 : A0.get h.next = some (.cells 38 false [.int .i64 x_0, .int .i64 x_1, .int .i64 x_2, .int .i64 x_3, .int .i64 x_4, .bool x_5]) := by simp [A0]
  have f0 : A0.get (h.next + 1) = some (.cells 38 false [.int .i64 x_0, .int .i64 x_1, .int .i64 x_2, .int .i64 x_3, .int .i64 x_4, .bool x_5]) := by simp [A0]
  have n0 : h.next + 2 ≤ A0.next := by simp [A0]
  refine ⟨A0, ?_, K0⟩
  have nn1 : ¬ (h.next = h.next + 1) := by omega
  rw [ev_eq Try.func97 ok97 m _ h (by simp [Try.f97])]
  simp [Try.f97, ldVar, nn1, evHist, ObsOk, ObOk, ba_refl, A0]
/-! eqCcObsS -/
def IeqCcObsS_h (n : Nat) (s1 s2 : AV) (H : AH) (d : Nat) (τ : Tm) (h : AH) : Prop := ∃ k : Nat, k + d = n ∧ τ 0 = s1 ∧ τ 1 = s2 ∧ τ 5 = .int .i64 k ∧ Kp H h
set_option maxHeartbeats 4000000 in
theorem eqCcObsS_h {H h : AH} {s1 s2 : AV} {ds : List tT38.D} {b1 b2 : List Nat} {r1 r2 : Bool} (h1 : (Ty.sl 38 tT38).R r1 H [s1] ds b1) (h2 : (Ty.sl 38 tT38).R r2 H [s2] ds b2) (hK : Kp H h) (hb : (Ty.sl 38 tT38).bd 1048576 ds) (m : Nat) (hm : 1048740 ≤ m) :
    ∃ h', ev Try.prog m 19 [s1, s2] h = some (.bool true, h') ∧ Kp h h' := by
  obtain ⟨m, rfl⟩ : ∃ k, m = k + 1 := ⟨m - 1, by omega⟩
  obtain ⟨hl, hl2⟩ := hb
  have e1 := Ty.R.lenA h1 (P := Try.prog) (T := 24) (by simp)
  have e2 := Ty.R.lenA h2 (P := Try.prog) (T := 24) (by simp)
  rw [ev_eq Try.func19 ok19 m _ h (by simp [Try.f19])]
  simp [Try.f19, e1, e2]
  generalize hLo : evLoop _ _ _ _ _ _ = R
  obtain ⟨e, τ', H', rfl, rfl, g⟩ := loop_at hLo (loop_rule (d := ds.length) (fun d τ h' => IeqCcObsS_h ds.length s1 s2 h d τ h')
    (fun e τ h' => e = .exit 0 ∧ Kp h h')
    (by
      rintro d τ h' ⟨k, hk, t0, t1, t5, hKh⟩
      by_cases hd0 : d = 0
      · subst hd0
        have hkl : (k : Int) = ds.length := by omega
        rewrite [lp19_58]
        simp [Try.f19, t0, t1, t5, e1, hkl]
        exact hKh
      · have hlt : k < ds.length := by omega
        have hKK := hK.trans hKh
        obtain ⟨b, o, ro, x1, c, x2, bk, u1, u2, u3, u4, u5, u6, u7, u8⟩ := Ty.R.at_ (h1.kp hKK) (P := Try.prog) (T := 24) (by simp) (by simp [Ty.n]) (k := k) hlt
        obtain ⟨b', o', ro', y1, c', y2, bk', w1, w2, w3, w4, w5, w6, w7, w8⟩ := Ty.R.at_ (h2.kp hKK) (P := Try.prog) (T := 24) (by simp) (by simp [Ty.n]) (k := k) hlt
        have hld := ld_midA0 (P := Try.prog) (T := 38) (n := 6) u3 u4 (by simp) (by simp) (by simpa [Ty.n] using u5.len)
        have hld' := ld_midA0 (P := Try.prog) (T := 38) (n := 6) w3 w4 (by simp) (by simp) (by simpa [Ty.n] using w5.len)
        obtain ⟨h3, v1, v2⟩ := eqCcObs_h u5 w5 (Kp.refl h') (hl2 _ (List.getElem_mem hlt)) m (by omega)
        rewrite [lp19_58]
        simp [Try.f19, t0, t1, t5, e1, hlt, u1, w1, hld, hld', v1, evHist, ObsOk, ObOk, wrap_i64 (n := (k : Int) + 1) (by omega) (by omega)]
        exact ⟨d - 1, by omega, k + 1, by omega, by simp [t0], by simp [t1], by simp, hKh.trans v2⟩)
    ⟨0, by simp, by simp, by simp, by simp, Kp.refl h⟩ (by omega))
  simp
  exact g
/-! eqCcOp -/
set_option maxHeartbeats 4000000 in
theorem eqCcOp_h {H h : AH} {c1 c2 : List AV} {d : tT40.D} {b1 b2 : List Nat} {r1 r2 : Bool} (h1 : tT40.R r1 H c1 d b1) (h2 : tT40.R r2 H c2 d b2) (hK : Kp H h) (hb : tT40.bd 1048576 d) (m : Nat) (hm : 1048720 ≤ m) :
    ∃ h', ev Try.prog m 98 [.agg c1, .agg c2] h = some (.bool true, h') ∧ Kp h h' := by
  obtain ⟨m, rfl⟩ : ∃ k, m = k + 1 := ⟨m - 1, by omega⟩
  obtain ⟨x_0, x_1, x_2, x_3, x_4⟩ := d
  obtain ⟨hbx_0, hbx_1, hbx_2, hbx_3, hbx_4⟩ := hb
  obtain ⟨rfl, rfl, ix_0, ix_1, ix_2, ix_3, ix_4⟩ := o40 h1
  obtain ⟨rfl, rfl, jx_0, jx_1, jx_2, jx_3, jx_4⟩ := o40 h2
  let A0 : AH := (h.push (.cells 40 false [.int .i64 x_0, .int .i64 x_1, .int .i64 x_2, .int .i64 x_3, .int .i64 x_4])).push (.cells 40 false [.int .i64 x_0, .int .i64 x_1, .int .i64 x_2, .int .i64 x_3, .int .i64 x_4])
  have K0 : Kp h A0 := ((Kp.refl h).push _).push _
  have g0 : A0.get h.next = some (.cells 40 false [.int .i64 x_0, .int .i64 x_1, .int .i64 x_2, .int .i64 x_3, .int .i64 x_4]) := by simp [A0]
  have f0 : A0.get (h.next + 1) = some (.cells 40 false [.int .i64 x_0, .int .i64 x_1, .int .i64 x_2, .int .i64 x_3, .int .i64 x_4]) := by simp [A0]
  have n0 : h.next + 2 ≤ A0.next := by simp [A0]
  refine ⟨A0, ?_, K0⟩
  have nn1 : ¬ (h.next = h.next + 1) := by omega
  rw [ev_eq Try.func98 ok98 m _ h (by simp [Try.f98])]
  simp [Try.f98, ldVar, nn1, evHist, ObsOk, ObOk, ba_refl, A0]
/-! eqCcOpS -/
def IeqCcOpS_h (n : Nat) (s1 s2 : AV) (H : AH) (d : Nat) (τ : Tm) (h : AH) : Prop := ∃ k : Nat, k + d = n ∧ τ 0 = s1 ∧ τ 1 = s2 ∧ τ 5 = .int .i64 k ∧ Kp H h
set_option maxHeartbeats 4000000 in
theorem eqCcOpS_h {H h : AH} {s1 s2 : AV} {ds : List tT40.D} {b1 b2 : List Nat} {r1 r2 : Bool} (h1 : (Ty.sl 40 tT40).R r1 H [s1] ds b1) (h2 : (Ty.sl 40 tT40).R r2 H [s2] ds b2) (hK : Kp H h) (hb : (Ty.sl 40 tT40).bd 1048576 ds) (m : Nat) (hm : 1048740 ≤ m) :
    ∃ h', ev Try.prog m 20 [s1, s2] h = some (.bool true, h') ∧ Kp h h' := by
  obtain ⟨m, rfl⟩ : ∃ k, m = k + 1 := ⟨m - 1, by omega⟩
  obtain ⟨hl, hl2⟩ := hb
  have e1 := Ty.R.lenA h1 (P := Try.prog) (T := 27) (by simp)
  have e2 := Ty.R.lenA h2 (P := Try.prog) (T := 27) (by simp)
  rw [ev_eq Try.func20 ok20 m _ h (by simp [Try.f20])]
  simp [Try.f20, e1, e2]
  generalize hLo : evLoop _ _ _ _ _ _ = R
  obtain ⟨e, τ', H', rfl, rfl, g⟩ := loop_at hLo (loop_rule (d := ds.length) (fun d τ h' => IeqCcOpS_h ds.length s1 s2 h d τ h')
    (fun e τ h' => e = .exit 0 ∧ Kp h h')
    (by
      rintro d τ h' ⟨k, hk, t0, t1, t5, hKh⟩
      by_cases hd0 : d = 0
      · subst hd0
        have hkl : (k : Int) = ds.length := by omega
        rewrite [lp20_58]
        simp [Try.f20, t0, t1, t5, e1, hkl]
        exact hKh
      · have hlt : k < ds.length := by omega
        have hKK := hK.trans hKh
        obtain ⟨b, o, ro, x1, c, x2, bk, u1, u2, u3, u4, u5, u6, u7, u8⟩ := Ty.R.at_ (h1.kp hKK) (P := Try.prog) (T := 27) (by simp) (by simp [Ty.n]) (k := k) hlt
        obtain ⟨b', o', ro', y1, c', y2, bk', w1, w2, w3, w4, w5, w6, w7, w8⟩ := Ty.R.at_ (h2.kp hKK) (P := Try.prog) (T := 27) (by simp) (by simp [Ty.n]) (k := k) hlt
        have hld := ld_midA0 (P := Try.prog) (T := 40) (n := 5) u3 u4 (by simp) (by simp) (by simpa [Ty.n] using u5.len)
        have hld' := ld_midA0 (P := Try.prog) (T := 40) (n := 5) w3 w4 (by simp) (by simp) (by simpa [Ty.n] using w5.len)
        obtain ⟨h3, v1, v2⟩ := eqCcOp_h u5 w5 (Kp.refl h') (hl2 _ (List.getElem_mem hlt)) m (by omega)
        rewrite [lp20_58]
        simp [Try.f20, t0, t1, t5, e1, hlt, u1, w1, hld, hld', v1, evHist, ObsOk, ObOk, wrap_i64 (n := (k : Int) + 1) (by omega) (by omega)]
        exact ⟨d - 1, by omega, k + 1, by omega, by simp [t0], by simp [t1], by simp, hKh.trans v2⟩)
    ⟨0, by simp, by simp, by simp, by simp, Kp.refl h⟩ (by omega))
  simp
  exact g
/-! markCcOpS -/
def ImarkCcOpS_h (ds : List tT40.D) (s : AV) (k0 : Int) (bs : List Nat) (H : AH) (d : Nat) (τ : Tm) (h : AH) : Prop :=
  ∃ k : Nat, k + d = ds.length ∧ τ 0 = s ∧ τ 1 = .int .i64 (k0 + (cntL (tT40.cnt true) (ds.take k) : Nat)) ∧ τ 5 = .int .i64 k ∧ KoL bs H h ∧ (Ty.sl 40 tT40).R true h [s] (mkRow (tT40.mk true) (tT40.cnt true) k0 (ds.take k) ++ ds.drop k) bs
set_option maxHeartbeats 4000000 in
theorem markCcOpS_h {H : AH} {s : AV} {ds : List tT40.D} {bs : List Nat} (hd : (Ty.sl 40 tT40).R true H [s] ds bs) (hnd : bs.Nodup) (hb : (Ty.sl 40 tT40).bd 1048576 ds) {k0 : Int} (hk0 : 0 ≤ k0) (hk1 : k0 + ((Ty.sl 40 tT40).cnt true ds : Nat) ≤ 2147483648) (m : Nat) (hm : 1048740 ≤ m) :
    ∃ H', ev Try.prog m 21 [s, .int .i64 k0] H = some (.int .i64 (k0 + ((Ty.sl 40 tT40).cnt true ds : Nat)), H') ∧ KoL bs H H' ∧ (Ty.sl 40 tT40).R true H' [s] ((Ty.sl 40 tT40).mk true k0 ds) bs := by
  obtain ⟨m, rfl⟩ : ∃ k, m = k + 1 := ⟨m - 1, by omega⟩
  obtain ⟨hl, hl2⟩ := hb
  rw [cnt_sl] at hk1 ⊢
  rw [mk_sl]
  rw [ev_eq Try.func21 ok21 m _ H (by simp [Try.f21])]
  simp [Try.f21]
  generalize hLo : evLoop _ _ _ _ _ _ = R
  obtain ⟨e, τ', H', rfl, rfl, g1, g2, g3⟩ := loop_at hLo (loop_rule (d := ds.length) (ImarkCcOpS_h ds s k0 bs H)
    (fun e τ h => e = .exit 0 ∧ τ 1 = .int .i64 (k0 + (cntL (tT40.cnt true) ds : Nat)) ∧ KoL bs H h ∧ (Ty.sl 40 tT40).R true h [s] (mkRow (tT40.mk true) (tT40.cnt true) k0 ds) bs)
    (by
      rintro d τ h ⟨k, hk, t0, t1, t5, hK, hR⟩
      have hlen' : (mkRow (tT40.mk true) (tT40.cnt true) k0 (ds.take k) ++ ds.drop k).length = ds.length := by simp [mkRow_len]; omega
      have hL := Ty.R.lenA hR (P := Try.prog) (T := 27) (by simp)
      rw [hlen'] at hL
      by_cases hd0 : d = 0
      · subst hd0
        have : k = ds.length := by omega
        subst this
        rw [List.take_length] at t1
        rewrite [lp21_26]
        simp [Try.f21, t0, t1, t5, hL]
        exact ⟨hK, by simpa using hR⟩
      · have hlt : k < ds.length := by omega
        obtain ⟨b, o, x1, c, x2, bk, u1, u2, u3, u4, u5, u6, u7, u8, u9, u10⟩ := Ty.R.upd hR hnd (P := Try.prog) (T := 27) (by simp) (by simp [Ty.n]) (k := k) (by omega)
        have hat := mkRow_atH (tT40.mk true) (tT40.cnt true) k0 ds k hlt (by rw [hlen']; exact hlt)
        rw [hat] at u5
        have hbd := hl2 _ (List.getElem_mem hlt)
        have hct := cntL_take_succ' (tT40.cnt true) ds k hlt
        have hcl := cntL_take_le' (tT40.cnt true) ds (k + 1)
        have hms := mkRow_setH (tT40.mk true) (tT40.cnt true) k0 ds k hlt
        generalize hK0 : k0 + (cntL (tT40.cnt true) (ds.take k) : Nat) = K0 at *
        have hKb : 0 ≤ K0 ∧ K0 ≤ 2147483648 := by omega
        generalize hdk : ds[k] = dk at *
        obtain ⟨x_0, x_1, x_2, x_3, x_4⟩ := dk
        obtain ⟨hbx_0, hbx_1, hbx_2, hbx_3, hbx_4⟩ := hbd
        obtain ⟨rfl, rfl, ix_0, ix_1, ix_2, ix_3, ix_4⟩ := o40 u5
        obtain ⟨K1, hK1⟩ : ∃ z, z = K0 + (((Ty.int .i64).cnt true x_0 : Nat) : Int) := ⟨_, rfl⟩
        obtain ⟨K2, hK2⟩ : ∃ z, z = K1 + (((Ty.int .i64).cnt true x_1 : Nat) : Int) := ⟨_, rfl⟩
        obtain ⟨K3, hK3⟩ : ∃ z, z = K2 + (((Ty.int .i64).cnt true x_2 : Nat) : Int) := ⟨_, rfl⟩
        obtain ⟨K4, hK4⟩ : ∃ z, z = K3 + (((Ty.int .i64).cnt true x_3 : Nat) : Int) := ⟨_, rfl⟩
        obtain ⟨K5, hK5⟩ : ∃ z, z = K4 + (((Ty.int .i64).cnt true x_4 : Nat) : Int) := ⟨_, rfl⟩
        have htot : tT40.cnt true (x_0, x_1, x_2, x_3, x_4) = (Ty.int .i64).cnt true x_0 + ((Ty.int .i64).cnt true x_1 + ((Ty.int .i64).cnt true x_2 + ((Ty.int .i64).cnt true x_3 + ((Ty.int .i64).cnt true x_4)))) := rfl
        rw [htot] at hct
        have hKl : K5 = k0 + (cntL (tT40.cnt true) (ds.take (k + 1)) : Nat) := by rw [hct]; push_cast; omega
        have u5' : K5 ≤ 2147483648 := by omega
        have u4' := dn_step hK5 u5'
        have u3' := dn_step hK4 u4'
        have u2' := dn_step hK3 u3'
        have u1' := dn_step hK2 u2'
        have u0' := dn_step hK1 u1'
        have p0' : 0 ≤ K0 := hKb.1
        have p1' := up_step hK1 p0'
        have p2' := up_step hK2 p1'
        have p3' := up_step hK3 p2'
        have p4' := up_step hK4 p3'
        have p5' := up_step hK5 p4'
        have w0 := wrap_step hK1 rfl p0' u1'
        have w1 := wrap_step hK2 rfl p1' u2'
        have w2 := wrap_step hK3 rfl p2' u3'
        have w3 := wrap_step hK4 rfl p3' u4'
        have w4 := wrap_step hK5 rfl p4' u5'
        have hmk : tT40.mk true K0 (x_0, x_1, x_2, x_3, x_4) = (K0, K1, K2, K3, K4) := by rw [mk_pair, ← hK1, mk_pair, ← hK2, mk_pair, ← hK3, mk_pair, ← hK4, mk_int31 p0' u0', mk_int31 p1' u1', mk_int31 p2' u2', mk_int31 p3' u3', mk_int31 p4' u4']
        have h0 : h = h := rfl
        have G0 : h.get b = some (.cells 40 false (x1 ++ [.int .i64 x_0, .int .i64 x_1, .int .i64 x_2, .int .i64 x_3, .int .i64 x_4] ++ x2)) := u3
        have N0 : h.next = h.next := rfl
        have E0 : ∀ y, y < h.next → y ≠ b → y ∉ ([] : List Nat) → h.get y = h.get y := fun _ _ _ _ => rfl
        obtain ⟨B0, hB0⟩ : ∃ B, B = Blk.cells 40 false (x1 ++ [.int .i64 K0, .int .i64 x_1, .int .i64 x_2, .int .i64 x_3, .int .i64 x_4] ++ x2) := ⟨_, rfl⟩
        have s0 : stVar Try.prog 3 b o (.int .i64 K0) h = some (h.set b B0) := by rw [hB0]; exact stf0 G0 u4 (by simp) rfl (by simp) rfl
        obtain ⟨h1, eh1⟩ : ∃ z, h.set b B0 = z := ⟨_, rfl⟩
        have G1 : h1.get b = some (.cells 40 false (x1 ++ [.int .i64 K0, .int .i64 x_1, .int .i64 x_2, .int .i64 x_3, .int .i64 x_4] ++ x2)) := by rw [← eh1, AH.set_getS, hB0]
        have N1 : h1.next = h.next := by rw [← eh1, AH.set_next]
        have E1 : ∀ y, y < h.next → y ≠ b → y ∉ ([] : List Nat) → h1.get y = h.get y := fun y hy h1 h2 => by rw [← eh1]; exact (AH.set_getN _ _ h1).trans (E0 y hy h1 h2)
        rw [eh1] at s0
        obtain ⟨B1, hB1⟩ : ∃ B, B = Blk.cells 40 false (x1 ++ [.int .i64 K0, .int .i64 K1, .int .i64 x_2, .int .i64 x_3, .int .i64 x_4] ++ x2) := ⟨_, rfl⟩
        have s1 : stVar Try.prog 3 b (o + 1) (.int .i64 K1) h1 = some (h1.set b B1) := by rw [hB1]; exact stf G1 u4 (by simp) rfl (by simp) rfl
        obtain ⟨h2, eh2⟩ : ∃ z, h1.set b B1 = z := ⟨_, rfl⟩
        have G2 : h2.get b = some (.cells 40 false (x1 ++ [.int .i64 K0, .int .i64 K1, .int .i64 x_2, .int .i64 x_3, .int .i64 x_4] ++ x2)) := by rw [← eh2, AH.set_getS, hB1]
        have N2 : h2.next = h.next := by rw [← eh2, AH.set_next, N1]
        have E2 : ∀ y, y < h.next → y ≠ b → y ∉ ([] : List Nat) → h2.get y = h.get y := fun y hy h1 h2 => by rw [← eh2]; exact (AH.set_getN _ _ h1).trans (E1 y hy h1 h2)
        rw [eh2] at s1
        obtain ⟨B2, hB2⟩ : ∃ B, B = Blk.cells 40 false (x1 ++ [.int .i64 K0, .int .i64 K1, .int .i64 K2, .int .i64 x_3, .int .i64 x_4] ++ x2) := ⟨_, rfl⟩
        have s2 : stVar Try.prog 3 b (o + 2) (.int .i64 K2) h2 = some (h2.set b B2) := by rw [hB2]; exact stf G2 u4 (by simp) rfl (by simp) rfl
        obtain ⟨h3, eh3⟩ : ∃ z, h2.set b B2 = z := ⟨_, rfl⟩
        have G3 : h3.get b = some (.cells 40 false (x1 ++ [.int .i64 K0, .int .i64 K1, .int .i64 K2, .int .i64 x_3, .int .i64 x_4] ++ x2)) := by rw [← eh3, AH.set_getS, hB2]
        have N3 : h3.next = h.next := by rw [← eh3, AH.set_next, N2]
        have E3 : ∀ y, y < h.next → y ≠ b → y ∉ ([] : List Nat) → h3.get y = h.get y := fun y hy h1 h2 => by rw [← eh3]; exact (AH.set_getN _ _ h1).trans (E2 y hy h1 h2)
        rw [eh3] at s2
        obtain ⟨B3, hB3⟩ : ∃ B, B = Blk.cells 40 false (x1 ++ [.int .i64 K0, .int .i64 K1, .int .i64 K2, .int .i64 K3, .int .i64 x_4] ++ x2) := ⟨_, rfl⟩
        have s3 : stVar Try.prog 3 b (o + 3) (.int .i64 K3) h3 = some (h3.set b B3) := by rw [hB3]; exact stf G3 u4 (by simp) rfl (by simp) rfl
        obtain ⟨h4, eh4⟩ : ∃ z, h3.set b B3 = z := ⟨_, rfl⟩
        have G4 : h4.get b = some (.cells 40 false (x1 ++ [.int .i64 K0, .int .i64 K1, .int .i64 K2, .int .i64 K3, .int .i64 x_4] ++ x2)) := by rw [← eh4, AH.set_getS, hB3]
        have N4 : h4.next = h.next := by rw [← eh4, AH.set_next, N3]
        have E4 : ∀ y, y < h.next → y ≠ b → y ∉ ([] : List Nat) → h4.get y = h.get y := fun y hy h1 h2 => by rw [← eh4]; exact (AH.set_getN _ _ h1).trans (E3 y hy h1 h2)
        rw [eh4] at s3
        obtain ⟨B4, hB4⟩ : ∃ B, B = Blk.cells 40 false (x1 ++ [.int .i64 K0, .int .i64 K1, .int .i64 K2, .int .i64 K3, .int .i64 K4] ++ x2) := ⟨_, rfl⟩
        have s4 : stVar Try.prog 3 b (o + 4) (.int .i64 K4) h4 = some (h4.set b B4) := by rw [hB4]; exact stf G4 u4 (by simp) rfl (by simp) rfl
        obtain ⟨h5, eh5⟩ : ∃ z, h4.set b B4 = z := ⟨_, rfl⟩
        have G5 : h5.get b = some (.cells 40 false (x1 ++ [.int .i64 K0, .int .i64 K1, .int .i64 K2, .int .i64 K3, .int .i64 K4] ++ x2)) := by rw [← eh5, AH.set_getS, hB4]
        have N5 : h5.next = h.next := by rw [← eh5, AH.set_next, N4]
        have E5 : ∀ y, y < h.next → y ≠ b → y ∉ ([] : List Nat) → h5.get y = h.get y := fun y hy h1 h2 => by rw [← eh5]; exact (AH.set_getN _ _ h1).trans (E4 y hy h1 h2)
        rw [eh5] at s4
        have KLf : KoL bs h h5 := ⟨N5, fun y hy hyb => E5 y hy (fun e => hyb (by rw [e]; exact u7)) (fun e => hyb (u6 y e))⟩
        have hRf : tT40.R true h5 [.int .i64 K0, .int .i64 K1, .int .i64 K2, .int .i64 K3, .int .i64 K4] (K0, K1, K2, K3, K4) ([] : List Nat) := i40  (InK.k31 p0' u0') (InK.k31 p1' u1') (InK.k31 p2' u2') (InK.k31 p3' u3') (InK.k31 p4' u4')
        rw [hmk] at hms
        have hR6 := u10 h5 _ _ (by rw [N5]; exact Nat.le_refl _) (fun y hy h1 h2 => E5 y (hR.mem y hy) h1 h2) G5 hRf
        rw [hms] at hR6
        rewrite [lp21_26]
        simp [Try.f21, t0, t1, t5, hL, hlt, u1, w0, w1, w2, w3, w4, s0, s1, s2, s3, s4, wrap_i64 (n := (k : Int) + 1) (by omega) (by omega)]
        exact ⟨d - 1, by omega, k + 1, by omega, by simp [t0], by simp; omega, by simp, hK.trans KLf, hR6⟩)
    ⟨0, by simp, by simp, by simp [cntL], by simp, KoL.refl _ _, by simpa [mkRow] using hd⟩ (by omega))
  simp [g1]
  exact ⟨g2, g3⟩
/-! markCcObsS -/
def ImarkCcObsS_h (ds : List tT38.D) (s : AV) (k0 : Int) (bs : List Nat) (H : AH) (d : Nat) (τ : Tm) (h : AH) : Prop :=
  ∃ k : Nat, k + d = ds.length ∧ τ 0 = s ∧ τ 1 = .int .i64 (k0 + (cntL (tT38.cnt true) (ds.take k) : Nat)) ∧ τ 5 = .int .i64 k ∧ KoL bs H h ∧ (Ty.sl 38 tT38).R true h [s] (mkRow (tT38.mk true) (tT38.cnt true) k0 (ds.take k) ++ ds.drop k) bs
set_option maxHeartbeats 4000000 in
theorem markCcObsS_h {H : AH} {s : AV} {ds : List tT38.D} {bs : List Nat} (hd : (Ty.sl 38 tT38).R true H [s] ds bs) (hnd : bs.Nodup) (hb : (Ty.sl 38 tT38).bd 1048576 ds) {k0 : Int} (hk0 : 0 ≤ k0) (hk1 : k0 + ((Ty.sl 38 tT38).cnt true ds : Nat) ≤ 2147483648) (m : Nat) (hm : 1048740 ≤ m) :
    ∃ H', ev Try.prog m 22 [s, .int .i64 k0] H = some (.int .i64 (k0 + ((Ty.sl 38 tT38).cnt true ds : Nat)), H') ∧ KoL bs H H' ∧ (Ty.sl 38 tT38).R true H' [s] ((Ty.sl 38 tT38).mk true k0 ds) bs := by
  obtain ⟨m, rfl⟩ : ∃ k, m = k + 1 := ⟨m - 1, by omega⟩
  obtain ⟨hl, hl2⟩ := hb
  rw [cnt_sl] at hk1 ⊢
  rw [mk_sl]
  rw [ev_eq Try.func22 ok22 m _ H (by simp [Try.f22])]
  simp [Try.f22]
  generalize hLo : evLoop _ _ _ _ _ _ = R
  obtain ⟨e, τ', H', rfl, rfl, g1, g2, g3⟩ := loop_at hLo (loop_rule (d := ds.length) (ImarkCcObsS_h ds s k0 bs H)
    (fun e τ h => e = .exit 0 ∧ τ 1 = .int .i64 (k0 + (cntL (tT38.cnt true) ds : Nat)) ∧ KoL bs H h ∧ (Ty.sl 38 tT38).R true h [s] (mkRow (tT38.mk true) (tT38.cnt true) k0 ds) bs)
    (by
      rintro d τ h ⟨k, hk, t0, t1, t5, hK, hR⟩
      have hlen' : (mkRow (tT38.mk true) (tT38.cnt true) k0 (ds.take k) ++ ds.drop k).length = ds.length := by simp [mkRow_len]; omega
      have hL := Ty.R.lenA hR (P := Try.prog) (T := 24) (by simp)
      rw [hlen'] at hL
      by_cases hd0 : d = 0
      · subst hd0
        have : k = ds.length := by omega
        subst this
        rw [List.take_length] at t1
        rewrite [lp22_26]
        simp [Try.f22, t0, t1, t5, hL]
        exact ⟨hK, by simpa using hR⟩
      · have hlt : k < ds.length := by omega
        obtain ⟨b, o, x1, c, x2, bk, u1, u2, u3, u4, u5, u6, u7, u8, u9, u10⟩ := Ty.R.upd hR hnd (P := Try.prog) (T := 24) (by simp) (by simp [Ty.n]) (k := k) (by omega)
        have hat := mkRow_atH (tT38.mk true) (tT38.cnt true) k0 ds k hlt (by rw [hlen']; exact hlt)
        rw [hat] at u5
        have hbd := hl2 _ (List.getElem_mem hlt)
        have hct := cntL_take_succ' (tT38.cnt true) ds k hlt
        have hcl := cntL_take_le' (tT38.cnt true) ds (k + 1)
        have hms := mkRow_setH (tT38.mk true) (tT38.cnt true) k0 ds k hlt
        generalize hK0 : k0 + (cntL (tT38.cnt true) (ds.take k) : Nat) = K0 at *
        have hKb : 0 ≤ K0 ∧ K0 ≤ 2147483648 := by omega
        generalize hdk : ds[k] = dk at *
        obtain ⟨x_0, x_1, x_2, x_3, x_4, x_5⟩ := dk
        obtain ⟨hbx_0, hbx_1, hbx_2, hbx_3, hbx_4, hbx_5⟩ := hbd
        obtain ⟨rfl, rfl, ix_0, ix_1, ix_2, ix_3, ix_4⟩ := o38 u5
        obtain ⟨K1, hK1⟩ : ∃ z, z = K0 + (((Ty.int .i64).cnt true x_0 : Nat) : Int) := ⟨_, rfl⟩
        obtain ⟨K2, hK2⟩ : ∃ z, z = K1 + (((Ty.int .i64).cnt true x_1 : Nat) : Int) := ⟨_, rfl⟩
        obtain ⟨K3, hK3⟩ : ∃ z, z = K2 + (((Ty.int .i64).cnt true x_2 : Nat) : Int) := ⟨_, rfl⟩
        obtain ⟨K4, hK4⟩ : ∃ z, z = K3 + (((Ty.int .i64).cnt true x_3 : Nat) : Int) := ⟨_, rfl⟩
        obtain ⟨K5, hK5⟩ : ∃ z, z = K4 + (((Ty.int .i64).cnt true x_4 : Nat) : Int) := ⟨_, rfl⟩
        obtain ⟨K6, hK6⟩ : ∃ z, z = K5 + ((Ty.bool.cnt true x_5 : Nat) : Int) := ⟨_, rfl⟩
        have htot : tT38.cnt true (x_0, x_1, x_2, x_3, x_4, x_5) = (Ty.int .i64).cnt true x_0 + ((Ty.int .i64).cnt true x_1 + ((Ty.int .i64).cnt true x_2 + ((Ty.int .i64).cnt true x_3 + ((Ty.int .i64).cnt true x_4 + (Ty.bool.cnt true x_5))))) := rfl
        rw [htot] at hct
        have hKl : K6 = k0 + (cntL (tT38.cnt true) (ds.take (k + 1)) : Nat) := by rw [hct]; push_cast; omega
        have u6' : K6 ≤ 2147483648 := by omega
        have u5' := dn_step hK6 u6'
        have u4' := dn_step hK5 u5'
        have u3' := dn_step hK4 u4'
        have u2' := dn_step hK3 u3'
        have u1' := dn_step hK2 u2'
        have u0' := dn_step hK1 u1'
        have p0' : 0 ≤ K0 := hKb.1
        have p1' := up_step hK1 p0'
        have p2' := up_step hK2 p1'
        have p3' := up_step hK3 p2'
        have p4' := up_step hK4 p3'
        have p5' := up_step hK5 p4'
        have p6' := up_step hK6 p5'
        have w0 := wrap_step hK1 rfl p0' u1'
        have w1 := wrap_step hK2 rfl p1' u2'
        have w2 := wrap_step hK3 rfl p2' u3'
        have w3 := wrap_step hK4 rfl p3' u4'
        have w4 := wrap_step hK5 rfl p4' u5'
        have w5 := wrap_step hK6 rfl p5' u6'
        obtain ⟨q5, hq5⟩ : ∃ q, decide (K5 % 3 = 0) = q := ⟨_, rfl⟩
        have m5 := mod3 p5' hq5
        have hmk : tT38.mk true K0 (x_0, x_1, x_2, x_3, x_4, x_5) = (K0, K1, K2, K3, K4, q5) := by rw [mk_pair, ← hK1, mk_pair, ← hK2, mk_pair, ← hK3, mk_pair, ← hK4, mk_pair, ← hK5, mk_int31 p0' u0', mk_int31 p1' u1', mk_int31 p2' u2', mk_int31 p3' u3', mk_int31 p4' u4', mk_bool1, hq5]
        have h0 : h = h := rfl
        have G0 : h.get b = some (.cells 38 false (x1 ++ [.int .i64 x_0, .int .i64 x_1, .int .i64 x_2, .int .i64 x_3, .int .i64 x_4, .bool x_5] ++ x2)) := u3
        have N0 : h.next = h.next := rfl
        have E0 : ∀ y, y < h.next → y ≠ b → y ∉ ([] : List Nat) → h.get y = h.get y := fun _ _ _ _ => rfl
        obtain ⟨B0, hB0⟩ : ∃ B, B = Blk.cells 38 false (x1 ++ [.int .i64 K0, .int .i64 x_1, .int .i64 x_2, .int .i64 x_3, .int .i64 x_4, .bool x_5] ++ x2) := ⟨_, rfl⟩
        have s0 : stVar Try.prog 3 b o (.int .i64 K0) h = some (h.set b B0) := by rw [hB0]; exact stf0 G0 u4 (by simp) rfl (by simp) rfl
        obtain ⟨h1, eh1⟩ : ∃ z, h.set b B0 = z := ⟨_, rfl⟩
        have G1 : h1.get b = some (.cells 38 false (x1 ++ [.int .i64 K0, .int .i64 x_1, .int .i64 x_2, .int .i64 x_3, .int .i64 x_4, .bool x_5] ++ x2)) := by rw [← eh1, AH.set_getS, hB0]
        have N1 : h1.next = h.next := by rw [← eh1, AH.set_next]
        have E1 : ∀ y, y < h.next → y ≠ b → y ∉ ([] : List Nat) → h1.get y = h.get y := fun y hy h1 h2 => by rw [← eh1]; exact (AH.set_getN _ _ h1).trans (E0 y hy h1 h2)
        rw [eh1] at s0
        obtain ⟨B1, hB1⟩ : ∃ B, B = Blk.cells 38 false (x1 ++ [.int .i64 K0, .int .i64 K1, .int .i64 x_2, .int .i64 x_3, .int .i64 x_4, .bool x_5] ++ x2) := ⟨_, rfl⟩
        have s1 : stVar Try.prog 3 b (o + 1) (.int .i64 K1) h1 = some (h1.set b B1) := by rw [hB1]; exact stf G1 u4 (by simp) rfl (by simp) rfl
        obtain ⟨h2, eh2⟩ : ∃ z, h1.set b B1 = z := ⟨_, rfl⟩
        have G2 : h2.get b = some (.cells 38 false (x1 ++ [.int .i64 K0, .int .i64 K1, .int .i64 x_2, .int .i64 x_3, .int .i64 x_4, .bool x_5] ++ x2)) := by rw [← eh2, AH.set_getS, hB1]
        have N2 : h2.next = h.next := by rw [← eh2, AH.set_next, N1]
        have E2 : ∀ y, y < h.next → y ≠ b → y ∉ ([] : List Nat) → h2.get y = h.get y := fun y hy h1 h2 => by rw [← eh2]; exact (AH.set_getN _ _ h1).trans (E1 y hy h1 h2)
        rw [eh2] at s1
        obtain ⟨B2, hB2⟩ : ∃ B, B = Blk.cells 38 false (x1 ++ [.int .i64 K0, .int .i64 K1, .int .i64 K2, .int .i64 x_3, .int .i64 x_4, .bool x_5] ++ x2) := ⟨_, rfl⟩
        have s2 : stVar Try.prog 3 b (o + 2) (.int .i64 K2) h2 = some (h2.set b B2) := by rw [hB2]; exact stf G2 u4 (by simp) rfl (by simp) rfl
        obtain ⟨h3, eh3⟩ : ∃ z, h2.set b B2 = z := ⟨_, rfl⟩
        have G3 : h3.get b = some (.cells 38 false (x1 ++ [.int .i64 K0, .int .i64 K1, .int .i64 K2, .int .i64 x_3, .int .i64 x_4, .bool x_5] ++ x2)) := by rw [← eh3, AH.set_getS, hB2]
        have N3 : h3.next = h.next := by rw [← eh3, AH.set_next, N2]
        have E3 : ∀ y, y < h.next → y ≠ b → y ∉ ([] : List Nat) → h3.get y = h.get y := fun y hy h1 h2 => by rw [← eh3]; exact (AH.set_getN _ _ h1).trans (E2 y hy h1 h2)
        rw [eh3] at s2
        obtain ⟨B3, hB3⟩ : ∃ B, B = Blk.cells 38 false (x1 ++ [.int .i64 K0, .int .i64 K1, .int .i64 K2, .int .i64 K3, .int .i64 x_4, .bool x_5] ++ x2) := ⟨_, rfl⟩
        have s3 : stVar Try.prog 3 b (o + 3) (.int .i64 K3) h3 = some (h3.set b B3) := by rw [hB3]; exact stf G3 u4 (by simp) rfl (by simp) rfl
        obtain ⟨h4, eh4⟩ : ∃ z, h3.set b B3 = z := ⟨_, rfl⟩
        have G4 : h4.get b = some (.cells 38 false (x1 ++ [.int .i64 K0, .int .i64 K1, .int .i64 K2, .int .i64 K3, .int .i64 x_4, .bool x_5] ++ x2)) := by rw [← eh4, AH.set_getS, hB3]
        have N4 : h4.next = h.next := by rw [← eh4, AH.set_next, N3]
        have E4 : ∀ y, y < h.next → y ≠ b → y ∉ ([] : List Nat) → h4.get y = h.get y := fun y hy h1 h2 => by rw [← eh4]; exact (AH.set_getN _ _ h1).trans (E3 y hy h1 h2)
        rw [eh4] at s3
        obtain ⟨B4, hB4⟩ : ∃ B, B = Blk.cells 38 false (x1 ++ [.int .i64 K0, .int .i64 K1, .int .i64 K2, .int .i64 K3, .int .i64 K4, .bool x_5] ++ x2) := ⟨_, rfl⟩
        have s4 : stVar Try.prog 3 b (o + 4) (.int .i64 K4) h4 = some (h4.set b B4) := by rw [hB4]; exact stf G4 u4 (by simp) rfl (by simp) rfl
        obtain ⟨h5, eh5⟩ : ∃ z, h4.set b B4 = z := ⟨_, rfl⟩
        have G5 : h5.get b = some (.cells 38 false (x1 ++ [.int .i64 K0, .int .i64 K1, .int .i64 K2, .int .i64 K3, .int .i64 K4, .bool x_5] ++ x2)) := by rw [← eh5, AH.set_getS, hB4]
        have N5 : h5.next = h.next := by rw [← eh5, AH.set_next, N4]
        have E5 : ∀ y, y < h.next → y ≠ b → y ∉ ([] : List Nat) → h5.get y = h.get y := fun y hy h1 h2 => by rw [← eh5]; exact (AH.set_getN _ _ h1).trans (E4 y hy h1 h2)
        rw [eh5] at s4
        obtain ⟨B5, hB5⟩ : ∃ B, B = Blk.cells 38 false (x1 ++ [.int .i64 K0, .int .i64 K1, .int .i64 K2, .int .i64 K3, .int .i64 K4, .bool q5] ++ x2) := ⟨_, rfl⟩
        have s5 : stVar Try.prog 4 b (o + 5) (.bool q5) h5 = some (h5.set b B5) := by rw [hB5]; exact stf G5 u4 (by simp) rfl (by simp) rfl
        obtain ⟨h6, eh6⟩ : ∃ z, h5.set b B5 = z := ⟨_, rfl⟩
        have G6 : h6.get b = some (.cells 38 false (x1 ++ [.int .i64 K0, .int .i64 K1, .int .i64 K2, .int .i64 K3, .int .i64 K4, .bool q5] ++ x2)) := by rw [← eh6, AH.set_getS, hB5]
        have N6 : h6.next = h.next := by rw [← eh6, AH.set_next, N5]
        have E6 : ∀ y, y < h.next → y ≠ b → y ∉ ([] : List Nat) → h6.get y = h.get y := fun y hy h1 h2 => by rw [← eh6]; exact (AH.set_getN _ _ h1).trans (E5 y hy h1 h2)
        rw [eh6] at s5
        have KLf : KoL bs h h6 := ⟨N6, fun y hy hyb => E6 y hy (fun e => hyb (by rw [e]; exact u7)) (fun e => hyb (u6 y e))⟩
        have hRf : tT38.R true h6 [.int .i64 K0, .int .i64 K1, .int .i64 K2, .int .i64 K3, .int .i64 K4, .bool q5] (K0, K1, K2, K3, K4, q5) ([] : List Nat) := i38  (InK.k31 p0' u0') (InK.k31 p1' u1') (InK.k31 p2' u2') (InK.k31 p3' u3') (InK.k31 p4' u4')
        rw [hmk] at hms
        have hR6 := u10 h6 _ _ (by rw [N6]; exact Nat.le_refl _) (fun y hy h1 h2 => E6 y (hR.mem y hy) h1 h2) G6 hRf
        rw [hms] at hR6
        rewrite [lp22_26]
        simp [Try.f22, t0, t1, t5, hL, hlt, u1, w0, w1, w2, w3, w4, w5, m5, s0, s1, s2, s3, s4, s5, wrap_i64 (n := (k : Int) + 1) (by omega) (by omega)]
        exact ⟨d - 1, by omega, k + 1, by omega, by simp [t0], by simp; omega, by simp, hK.trans KLf, hR6⟩)
    ⟨0, by simp, by simp, by simp [cntL], by simp, KoL.refl _ _, by simpa [mkRow] using hd⟩ (by omega))
  simp [g1]
  exact ⟨g2, g3⟩
/-! heldCcObsS -/
def IheldCcObsS_h (ds : List tT38.D) (s : AV) (k0 : Int) (H : AH) (d : Nat) (τ : Tm) (h : AH) : Prop :=
  ∃ k : Nat, k + d = ds.length ∧ τ 0 = s ∧ τ 1 = .int .i64 (k0 + (cntL (tT38.cnt true) (ds.take k) : Nat)) ∧ τ 5 = .int .i64 k ∧ h = H
set_option maxHeartbeats 4000000 in
theorem heldCcObsS_h {H : AH} {s : AV} {ds : List tT38.D} {bs : List Nat} {rw : Bool} {k0 : Int} (hd : (Ty.sl 38 tT38).R rw H [s] ((Ty.sl 38 tT38).mk true k0 ds) bs) (hb : (Ty.sl 38 tT38).bd 1048576 ds) (hk0 : 0 ≤ k0) (hk1 : k0 + ((Ty.sl 38 tT38).cnt true ds : Nat) ≤ 2147483648) (m : Nat) (hm : 1048740 ≤ m) :
    ev Try.prog m 23 [s, .int .i64 k0] H = some (.int .i64 (k0 + ((Ty.sl 38 tT38).cnt true ds : Nat)), H) := by
  obtain ⟨m, rfl⟩ : ∃ k, m = k + 1 := ⟨m - 1, by omega⟩
  obtain ⟨hl, hl2⟩ := hb
  rw [cnt_sl] at hk1 ⊢
  rw [mk_sl] at hd
  have hL := Ty.R.lenA hd (P := Try.prog) (T := 24) (by simp)
  rw [mkRow_len] at hL
  rw [ev_eq Try.func23 ok23 m _ H (by simp [Try.f23])]
  simp [Try.f23]
  generalize hLo : evLoop _ _ _ _ _ _ = R
  obtain ⟨e, τ', H', rfl, rfl, g1, rfl⟩ := loop_at hLo (loop_rule (d := ds.length) (IheldCcObsS_h ds s k0 H)
    (fun e τ h => e = .exit 0 ∧ τ 1 = .int .i64 (k0 + (cntL (tT38.cnt true) ds : Nat)) ∧ h = H)
    (by
      rintro d τ h ⟨k, hk, t0, t1, t5, rfl⟩
      by_cases hd0 : d = 0
      · subst hd0
        have : k = ds.length := by omega
        subst this
        rw [List.take_length] at t1
        rewrite [lp23_26]
        simp [Try.f23, t0, t1, t5, hL]
      · have hlt : k < ds.length := by omega
        obtain ⟨b, o, ro, x1, c, x2, bk, u1, u2, u3, u4, u5, u6, u7, u8⟩ := Ty.R.at_ hd (P := Try.prog) (T := 24) (by simp) (by simp [Ty.n]) (k := k) (by rw [mkRow_len]; exact hlt)
        rw [mkRow_getH _ _ _ _ _ hlt] at u5
        have hbd := hl2 _ (List.getElem_mem hlt)
        have hct := cntL_take_succ' (tT38.cnt true) ds k hlt
        have hcl := cntL_take_le' (tT38.cnt true) ds (k + 1)
        generalize hK0 : k0 + (cntL (tT38.cnt true) (ds.take k) : Nat) = K0 at *
        have hKb : 0 ≤ K0 ∧ K0 ≤ 2147483648 := by omega
        generalize hdk : ds[k] = dk at *
        obtain ⟨x_0, x_1, x_2, x_3, x_4, x_5⟩ := dk
        obtain ⟨hbx_0, hbx_1, hbx_2, hbx_3, hbx_4, hbx_5⟩ := hbd
        obtain ⟨K1, hK1⟩ : ∃ z, z = K0 + (((Ty.int .i64).cnt true x_0 : Nat) : Int) := ⟨_, rfl⟩
        obtain ⟨K2, hK2⟩ : ∃ z, z = K1 + (((Ty.int .i64).cnt true x_1 : Nat) : Int) := ⟨_, rfl⟩
        obtain ⟨K3, hK3⟩ : ∃ z, z = K2 + (((Ty.int .i64).cnt true x_2 : Nat) : Int) := ⟨_, rfl⟩
        obtain ⟨K4, hK4⟩ : ∃ z, z = K3 + (((Ty.int .i64).cnt true x_3 : Nat) : Int) := ⟨_, rfl⟩
        obtain ⟨K5, hK5⟩ : ∃ z, z = K4 + (((Ty.int .i64).cnt true x_4 : Nat) : Int) := ⟨_, rfl⟩
        obtain ⟨K6, hK6⟩ : ∃ z, z = K5 + ((Ty.bool.cnt true x_5 : Nat) : Int) := ⟨_, rfl⟩
        have htot : tT38.cnt true (x_0, x_1, x_2, x_3, x_4, x_5) = (Ty.int .i64).cnt true x_0 + ((Ty.int .i64).cnt true x_1 + ((Ty.int .i64).cnt true x_2 + ((Ty.int .i64).cnt true x_3 + ((Ty.int .i64).cnt true x_4 + (Ty.bool.cnt true x_5))))) := rfl
        rw [htot] at hct
        have hKl : K6 = k0 + (cntL (tT38.cnt true) (ds.take (k + 1)) : Nat) := by rw [hct]; push_cast; omega
        have u6' : K6 ≤ 2147483648 := by omega
        have u5' := dn_step hK6 u6'
        have u4' := dn_step hK5 u5'
        have u3' := dn_step hK4 u4'
        have u2' := dn_step hK3 u3'
        have u1' := dn_step hK2 u2'
        have u0' := dn_step hK1 u1'
        have p0' : 0 ≤ K0 := hKb.1
        have p1' := up_step hK1 p0'
        have p2' := up_step hK2 p1'
        have p3' := up_step hK3 p2'
        have p4' := up_step hK4 p3'
        have p5' := up_step hK5 p4'
        have p6' := up_step hK6 p5'
        have w0 := wrap_step hK1 rfl p0' u1'
        have w1 := wrap_step hK2 rfl p1' u2'
        have w2 := wrap_step hK3 rfl p2' u3'
        have w3 := wrap_step hK4 rfl p3' u4'
        have w4 := wrap_step hK5 rfl p4' u5'
        have w5 := wrap_step hK6 rfl p5' u6'
        obtain ⟨q5, hq5⟩ : ∃ q, decide (K5 % 3 = 0) = q := ⟨_, rfl⟩
        have m5 := mod3 p5' hq5
        have hmk : tT38.mk true K0 (x_0, x_1, x_2, x_3, x_4, x_5) = (K0, K1, K2, K3, K4, q5) := by rw [mk_pair, ← hK1, mk_pair, ← hK2, mk_pair, ← hK3, mk_pair, ← hK4, mk_pair, ← hK5, mk_int31 p0' u0', mk_int31 p1' u1', mk_int31 p2' u2', mk_int31 p3' u3', mk_int31 p4' u4', mk_bool1, hq5]
        rw [hmk] at u5
        obtain ⟨rfl, rfl, ix_0, ix_1, ix_2, ix_3, ix_4⟩ := o38 u5
        have l0 : ldVar Try.prog 3 b o h = some (.int .i64 K0) := ldf0 u3 u4 (by simp) rfl
        have l1 : ldVar Try.prog 3 b (o + 1) h = some (.int .i64 K1) := ldf u3 u4 (by simp) rfl
        have l2 : ldVar Try.prog 3 b (o + 2) h = some (.int .i64 K2) := ldf u3 u4 (by simp) rfl
        have l3 : ldVar Try.prog 3 b (o + 3) h = some (.int .i64 K3) := ldf u3 u4 (by simp) rfl
        have l4 : ldVar Try.prog 3 b (o + 4) h = some (.int .i64 K4) := ldf u3 u4 (by simp) rfl
        have l5 : ldVar Try.prog 4 b (o + 5) h = some (.bool q5) := ldf u3 u4 (by simp) rfl
        rewrite [lp23_26]
        simp [Try.f23, t0, t1, t5, hL, hlt, u1, w0, w1, w2, w3, w4, w5, m5, l0, l1, l2, l3, l4, l5, evHist, ObsOk, ObOk, wrap_i64 (n := (k : Int) + 1) (by omega) (by omega)]
        exact ⟨d - 1, by omega, k + 1, by omega, by simp [t0], by simp; omega, by simp⟩)
    ⟨0, by simp, by simp, by simp [cntL], by simp, rfl⟩ (by omega))
  simp [g1]
end Go.Ev
