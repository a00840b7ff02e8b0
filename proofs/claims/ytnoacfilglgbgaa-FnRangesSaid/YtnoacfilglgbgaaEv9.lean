/- Lemmas of an evaluator of the given code and of what the functions answer; no condition of its own. -/
import Derived.Test.YtnoacfilglgbgaaEv7
import Derived.Test.YtnoacfilglgbgaaEv8
import Derived.Test.YtnoacfilglgbgaaEv6
import Derived.Laws.Bits64b
/- The laws' helpers of this seat: written by a program of this session (helpgen.py). -/
namespace Go.Ev
open Go Go.Proofs
set_option linter.unusedSimpArgs false
set_option linter.unusedVariables false
/-! toByteS -/
def ItoByteS_h (ds : List (Ty.int .u8).D) (s : AV) (H : AH) (d : Nat) (τ : Tm) (h : AH) : Prop :=
  ∃ k x1 bs, k + d = ds.length ∧ τ 0 = s ∧ τ 3 = .slice H.next 0 ds.length ∧ τ 4 = .int .i64 k ∧ Kp H h ∧ H.next < h.next ∧ h.get H.next = some (.cells 5 false (x1 ++ zerosA [.int .u8 0] d)) ∧ Rows ((Ty.int .u8).R true h) 1 x1 (ds.take k) bs ∧ bs.Nodup ∧ ∀ b ∈ bs, H.next < b
set_option maxHeartbeats 4000000 in
theorem toByteS_h {Hb H : AH} {s : AV} {ds : List (Ty.int .u8).D} {bs : List Nat} {rw : Bool} (hd : (Ty.sl 5 (Ty.int .u8)).R rw Hb [s] ds bs) (hK : Kp Hb H) (hb : (Ty.sl 5 (Ty.int .u8)).bd 1048576 ds) (m : Nat) (hm : 1048720 ≤ m) :
    ∃ r H' bs', ev Try.prog m 40 [s] H = some (r, H') ∧ Kp H H' ∧ (Ty.sl 5 (Ty.int .u8)).R true H' [r] ds bs' ∧ bs'.Nodup ∧ ∀ b ∈ bs', H.next ≤ b := by
  obtain ⟨m, rfl⟩ : ∃ k, m = k + 1 := ⟨m - 1, by omega⟩
  obtain ⟨hl, hl2⟩ := hb
  have hL := Ty.R.lenA hd (P := Try.prog) (T := 34) (by simp)
  rw [ev_eq Try.func40 ok40 m _ H (by simp [Try.f40])]
  have hb1 : (1 : Int) * (ds.length : Int) ≤ 281474976710656 := by omega
  have hb2 : (ds.length : Int) ≤ 281474976710656 := by omega
  simp [Try.f40, hL, hb1, hb2]
  generalize hLo : evLoop _ _ _ _ _ _ = R
  obtain ⟨e, τ', H', rfl, rfl, g⟩ := loop_at hLo (loop_rule (d := ds.length) (ItoByteS_h ds s H)
    (fun e τ h => e = .exit 0 ∧ ItoByteS_h ds s H 0 τ h)
    (by
      rintro d τ h ⟨k, x1, bs1, hk, t0, t3, t4, hKh, hnx, hg, hR, hnd, hlo⟩
      by_cases hd0 : d = 0
      · subst hd0
        have hkl : (k : Int) = ds.length := by omega
        rewrite [lp40_58]
        simp [Try.f40, t0, t4, hL, hkl]
        exact ⟨k, x1, bs1, hk, t0, t3, t4, hKh, hnx, hg, hR, hnd, hlo⟩
      · obtain ⟨d, rfl⟩ : ∃ q, d = q + 1 := ⟨d - 1, by omega⟩
        have hlt : k < ds.length := by omega
        have hx1 := hR.len
        rw [List.length_take, Nat.min_eq_left (Nat.le_of_lt hlt)] at hx1
        obtain ⟨b, o, ro, y1, c, y2, bk, u1, u2, u3, u4, u5, u6, u7, u8⟩ := Ty.R.at_ (hd.kp (hK.trans hKh)) (P := Try.prog) (T := 34) (by simp) (by simp [Ty.n]) (k := k) hlt
        obtain ⟨a, rfl⟩ := List.length_eq_one_iff.1 u5.len
        have hld := ld_mid0 (P := Try.prog) (T := 5) u3 u4 (by simp)
        obtain ⟨h2, hh2⟩ : ∃ x, x = h := ⟨_, rfl⟩
        obtain ⟨c', hc'⟩ : ∃ c', c' = [a] := ⟨_, rfl⟩
        have v2 : Kp h h2 := by rw [hh2]; exact Kp.refl h
        have hro : a.one = true := by have := u5.one; simpa using this
        have v3 : (Ty.int .u8).R true h2 c' ds[k] [] := by rw [hc', hh2]; exact ⟨u5.1, u5.2.1, u5.2.2.1, rfl⟩
        obtain ⟨b2, hb2'⟩ : ∃ x : List Nat, x = [] := ⟨_, rfl⟩
        have v4 : b2.Nodup := by rw [hb2']; simp
        have v5 : ∀ b ∈ b2, h.next ≤ b := by rw [hb2']; simp
        rw [← hb2'] at v3
        have hc5 : c'.length = 1 := by simpa [Ty.n] using v3.len
        have hg2 : h2.get H.next = some (.cells 5 false (x1 ++ [.int .u8 0] ++ zerosA [.int .u8 0] d)) := by rw [v2.get _ hnx, hg, zerosA, List.append_assoc]
        have hst : stVar Try.prog 5 H.next k a h2 = some (h2.set H.next (.cells 5 false (x1 ++ c' ++ zerosA [.int .u8 0] d))) := by
          rw [hc']; exact stf0 hg2 (by omega) (by simp) hro (by simp) rfl
        rw [hh2] at hst
        have hidx : idxA Try.prog 34 (.slice H.next 0 ds.length) (.int .i64 k) = some (.ptr H.next k) := by simp [idxA, hlt]
        rewrite [lp40_58]
        simp [Try.f40, t0, t3, t4, hL, hlt, u1, hld, hro, cells_one hro, hidx, hst, wrap_i64 (n := (k : Int) + 1) (by omega) (by omega)]
        have hn2 := v2.next
        rw [← hh2]
        have hset : ∀ y, ∀ x, x ≠ H.next → (h2.set H.next y).get x = h2.get x := fun y x hx => by rw [AH.set_get, if_neg hx]
        refine ⟨d, by omega, k + 1, x1 ++ c', bs1 ++ b2, by omega, by simp [t0], by simp [t3], by simp, (hKh.trans v2).set (Nat.le_refl _) _, by simp; omega, by simp, ?_, ?_, ?_⟩
        · rw [List.take_add_one, List.getElem?_eq_getElem hlt]
          exact Rows.app (hR.imp fun c d b3 _ hb hh => (hh.kp v2).stay (by simp) fun x hx => hset _ x (by have := hlo x (hb x hx); omega)) (Rows.one (v3.stay (by simp) fun x hx => hset _ x (by have := v5 x hx; omega)) hc5)
        · refine List.nodup_append.2 ⟨hnd, v4, fun x hx y hy e => ?_⟩
          have h1 := Rows.mem (fun c d bs h => Ty.R.mem h) hR x hx
          have h2 := v5 y hy
          omega
        · intro x hx
          rcases List.mem_append.1 hx with hx | hx
          · exact hlo x hx
          · have := v5 x hx; omega)
    ⟨0, [], [], by simp, by simp, by simp, by simp, (Kp.refl H).push _, by simp, by simp, ⟨rfl, rfl⟩, by simp, by simp⟩ (by omega))
  obtain ⟨k, x1, bs1, hk, t0, t3, t4, hKh, hnx, hg, hR, hnd, hlo⟩ := g
  have hkl : k = ds.length := by omega
  subst hkl
  rw [List.take_length] at hR
  have hx1 := hR.len
  simp [t3]
  refine ⟨_, _, ⟨rfl, rfl⟩, hKh, H.next :: bs1, .inr ⟨H.next, 0, false, x1, bs1, rfl, rfl, hnx, by simpa using hg, fun _ => ⟨rfl, rfl, by simpa [Ty.n] using hx1⟩, by simp [Ty.n, hx1], ?_⟩, ?_, ?_⟩
  · have : (x1.drop 0).take (ds.length * (Ty.int .u8).n) = x1 := by rw [List.drop_zero, List.take_of_length_le (by simp [Ty.n, hx1])]
    rw [this]; exact hR
  · rw [List.nodup_cons]; exact ⟨fun hx => by have := hlo _ hx; omega, hnd⟩
  · intro x hx
    rcases List.mem_cons.1 hx with rfl | hx
    · exact Nat.le_refl _
    · have := hlo x hx; omega
/-! eqByteS -/
def IeqByteS_h (n : Nat) (s1 s2 : AV) (H : AH) (d : Nat) (τ : Tm) (h : AH) : Prop := ∃ k : Nat, k + d = n ∧ τ 0 = s1 ∧ τ 1 = s2 ∧ τ 5 = .int .i64 k ∧ Kp H h
set_option maxHeartbeats 4000000 in
theorem eqByteS_h {H h : AH} {s1 s2 : AV} {ds : List (Ty.int .u8).D} {b1 b2 : List Nat} {r1 r2 : Bool} (h1 : (Ty.sl 5 (Ty.int .u8)).R r1 H [s1] ds b1) (h2 : (Ty.sl 5 (Ty.int .u8)).R r2 H [s2] ds b2) (hK : Kp H h) (hb : (Ty.sl 5 (Ty.int .u8)).bd 1048576 ds) (m : Nat) (hm : 1048720 ≤ m) :
    ∃ h', ev Try.prog m 43 [s1, s2] h = some (.bool true, h') ∧ Kp h h' := by
  obtain ⟨m, rfl⟩ : ∃ k, m = k + 1 := ⟨m - 1, by omega⟩
  obtain ⟨hl, hl2⟩ := hb
  have e1 := Ty.R.lenA h1 (P := Try.prog) (T := 34) (by simp)
  have e2 := Ty.R.lenA h2 (P := Try.prog) (T := 34) (by simp)
  rw [ev_eq Try.func43 ok43 m _ h (by simp [Try.f43])]
  simp [Try.f43, e1, e2]
  generalize hLo : evLoop _ _ _ _ _ _ = R
  obtain ⟨e, τ', H', rfl, rfl, g⟩ := loop_at hLo (loop_rule (d := ds.length) (fun d τ h' => IeqByteS_h ds.length s1 s2 h d τ h')
    (fun e τ h' => e = .exit 0 ∧ Kp h h')
    (by
      rintro d τ h' ⟨k, hk, t0, t1, t5, hKh⟩
      by_cases hd0 : d = 0
      · subst hd0
        have hkl : (k : Int) = ds.length := by omega
        rewrite [lp43_58]
        simp [Try.f43, t0, t1, t5, e1, hkl]
        exact hKh
      · have hlt : k < ds.length := by omega
        have hKK := hK.trans hKh
        obtain ⟨b, o, ro, x1, c, x2, bk, u1, u2, u3, u4, u5, u6, u7, u8⟩ := Ty.R.at_ (h1.kp hKK) (P := Try.prog) (T := 34) (by simp) (by simp [Ty.n]) (k := k) hlt
        obtain ⟨b', o', ro', y1, c', y2, bk', w1, w2, w3, w4, w5, w6, w7, w8⟩ := Ty.R.at_ (h2.kp hKK) (P := Try.prog) (T := 34) (by simp) (by simp [Ty.n]) (k := k) hlt
        obtain ⟨a, rfl⟩ := List.length_eq_one_iff.1 u5.len
        have hld := ld_mid0 (P := Try.prog) (T := 5) u3 u4 (by simp)
        obtain ⟨a', rfl⟩ := List.length_eq_one_iff.1 w5.len
        have hld' := ld_mid0 (P := Try.prog) (T := 5) w3 w4 (by simp)
        have v1 : a = a' := by have q1 := u5.1; have q2 := w5.1; simp at q1 q2; rw [q1, q2]
        have q1 := u5.1
        simp only [List.cons.injEq, and_true] at q1
        subst v1
        rw [q1] at hld hld'
        obtain ⟨h3, hh3⟩ : ∃ x, x = h' := ⟨_, rfl⟩
        have v2 : Kp h' h3 := by rw [hh3]; exact Kp.refl h'
        rewrite [lp43_58]
        simp [Try.f43, t0, t1, t5, e1, hlt, u1, w1, hld, hld', ba_refl, evHist, ObsOk, ObOk, wrap_i64 (n := (k : Int) + 1) (by omega) (by omega)]
        rw [← hh3]
        exact ⟨d - 1, by omega, k + 1, by omega, by simp [t0], by simp [t1], by simp, hKh.trans v2⟩)
    ⟨0, by simp, by simp, by simp, by simp, Kp.refl h⟩ (by omega))
  simp
  exact g
/-! eqRange -/
abbrev tT94 : Ty := .pair (Ty.int .i64) (Ty.int .i64)
theorem o94 {rw : Bool} {H : AH} {c : List AV} {x_0 : Int} {x_1 : Int} {bs : List Nat} (h : tT94.R rw H c (x_0, x_1) bs) : c = [.int .i64 x_0, .int .i64 x_1] ∧ ([] : List Nat) = bs ∧ InK .i64 x_0 ∧ InK .i64 x_1 := by
  obtain ⟨c1, d1, e1, f1, rfl, rfl, ⟨rfl, rx_0, sx_0, rfl⟩, ⟨rfl, rx_1, sx_1, rfl⟩⟩ := h
  exact ⟨by simp, by simp, ⟨rx_0, sx_0⟩, ⟨rx_1, sx_1⟩⟩
theorem i94 {rw : Bool} {H : AH} {x_0 : Int} {x_1 : Int}  (ix_0 : InK .i64 x_0) (ix_1 : InK .i64 x_1) : tT94.R rw H [.int .i64 x_0, .int .i64 x_1] (x_0, x_1) ([] : List Nat) := by
  have h : tT94.R rw H ([.int .i64 x_0] ++ [.int .i64 x_1]) (x_0, x_1) ([] ++ []) := (Ty.R.pair (Ty.R.int ix_0) (Ty.R.int ix_1))
  simpa using h
set_option maxHeartbeats 4000000 in
theorem eqRange_h {H h : AH} {c1 c2 : List AV} {d : tT94.D} {b1 b2 : List Nat} {r1 r2 : Bool} (h1 : tT94.R r1 H c1 d b1) (h2 : tT94.R r2 H c2 d b2) (hK : Kp H h) (hb : tT94.bd 1048576 d) (m : Nat) (hm : 1048720 ≤ m) :
    ∃ h', ev Try.prog m 221 [.agg c1, .agg c2] h = some (.bool true, h') ∧ Kp h h' := by
  obtain ⟨m, rfl⟩ : ∃ k, m = k + 1 := ⟨m - 1, by omega⟩
  obtain ⟨x_0, x_1⟩ := d
  obtain ⟨hbx_0, hbx_1⟩ := hb
  obtain ⟨rfl, rfl, ix_0, ix_1⟩ := o94 h1
  obtain ⟨rfl, rfl, jx_0, jx_1⟩ := o94 h2
  let A0 : AH := (h.push (.cells 94 false [.int .i64 x_0, .int .i64 x_1])).push (.cells 94 false [.int .i64 x_0, .int .i64 x_1])
  have K0 : Kp h A0 := ((Kp.refl h).push _).push _
  have g0 : A0.get h.next = some (.cells 94 false [.int .i64 x_0, .int .i64 x_1]) := by simp [A0]
  have f0 : A0.get (h.next + 1) = some (.cells 94 false [.int .i64 x_0, .int .i64 x_1]) := by simp [A0]
  have n0 : h.next + 2 ≤ A0.next := by simp [A0]
  refine ⟨A0, ?_, K0⟩
  have nn1 : ¬ (h.next = h.next + 1) := by omega
  rw [ev_eq Try.func221 ok221 m _ h (by simp [Try.f221])]
  simp [Try.f221, ldVar, nn1, evHist, ObsOk, ObOk, ba_refl, A0]
/-! eqRangeS -/
def IeqRangeS_h (n : Nat) (s1 s2 : AV) (H : AH) (d : Nat) (τ : Tm) (h : AH) : Prop := ∃ k : Nat, k + d = n ∧ τ 0 = s1 ∧ τ 1 = s2 ∧ τ 5 = .int .i64 k ∧ Kp H h
set_option maxHeartbeats 4000000 in
theorem eqRangeS_h {H h : AH} {s1 s2 : AV} {ds : List tT94.D} {b1 b2 : List Nat} {r1 r2 : Bool} (h1 : (Ty.sl 94 tT94).R r1 H [s1] ds b1) (h2 : (Ty.sl 94 tT94).R r2 H [s2] ds b2) (hK : Kp H h) (hb : (Ty.sl 94 tT94).bd 1048576 ds) (m : Nat) (hm : 1048740 ≤ m) :
    ∃ h', ev Try.prog m 127 [s1, s2] h = some (.bool true, h') ∧ Kp h h' := by
  obtain ⟨m, rfl⟩ : ∃ k, m = k + 1 := ⟨m - 1, by omega⟩
  obtain ⟨hl, hl2⟩ := hb
  have e1 := Ty.R.lenA h1 (P := Try.prog) (T := 70) (by simp)
  have e2 := Ty.R.lenA h2 (P := Try.prog) (T := 70) (by simp)
  rw [ev_eq Try.func127 ok127 m _ h (by simp [Try.f127])]
  simp [Try.f127, e1, e2]
  generalize hLo : evLoop _ _ _ _ _ _ = R
  obtain ⟨e, τ', H', rfl, rfl, g⟩ := loop_at hLo (loop_rule (d := ds.length) (fun d τ h' => IeqRangeS_h ds.length s1 s2 h d τ h')
    (fun e τ h' => e = .exit 0 ∧ Kp h h')
    (by
      rintro d τ h' ⟨k, hk, t0, t1, t5, hKh⟩
      by_cases hd0 : d = 0
      · subst hd0
        have hkl : (k : Int) = ds.length := by omega
        rewrite [lp127_58]
        simp [Try.f127, t0, t1, t5, e1, hkl]
        exact hKh
      · have hlt : k < ds.length := by omega
        have hKK := hK.trans hKh
        obtain ⟨b, o, ro, x1, c, x2, bk, u1, u2, u3, u4, u5, u6, u7, u8⟩ := Ty.R.at_ (h1.kp hKK) (P := Try.prog) (T := 70) (by simp) (by simp [Ty.n]) (k := k) hlt
        obtain ⟨b', o', ro', y1, c', y2, bk', w1, w2, w3, w4, w5, w6, w7, w8⟩ := Ty.R.at_ (h2.kp hKK) (P := Try.prog) (T := 70) (by simp) (by simp [Ty.n]) (k := k) hlt
        have hld := ld_midA0 (P := Try.prog) (T := 94) (n := 2) u3 u4 (by simp) (by simp) (by simpa [Ty.n] using u5.len)
        have hld' := ld_midA0 (P := Try.prog) (T := 94) (n := 2) w3 w4 (by simp) (by simp) (by simpa [Ty.n] using w5.len)
        obtain ⟨h3, v1, v2⟩ := eqRange_h u5 w5 (Kp.refl h') (hl2 _ (List.getElem_mem hlt)) m (by omega)
        rewrite [lp127_58]
        simp [Try.f127, t0, t1, t5, e1, hlt, u1, w1, hld, hld', v1, evHist, ObsOk, ObOk, wrap_i64 (n := (k : Int) + 1) (by omega) (by omega)]
        exact ⟨d - 1, by omega, k + 1, by omega, by simp [t0], by simp [t1], by simp, hKh.trans v2⟩)
    ⟨0, by simp, by simp, by simp, by simp, Kp.refl h⟩ (by omega))
  simp
  exact g
/-! eqFrame -/
abbrev tT72 : Ty := .pair (Ty.int .i64) (.pair (Ty.int .i64) (.pair (Ty.int .i64) (.pair (Ty.int .i64) (.pair Ty.bool (.pair (Ty.sl 5 (Ty.int .u8)) (.pair (Ty.sl 5 (Ty.int .u8)) (Ty.sl 94 tT94)))))))
theorem o72 {rw : Bool} {H : AH} {c : List AV} {x_0 : Int} {x_1 : Int} {x_2 : Int} {x_3 : Int} {x_4 : Bool} {x_5 : List (Ty.int .u8).D} {x_6 : List (Ty.int .u8).D} {x_7 : List tT94.D} {bs : List Nat} (h : tT72.R rw H c (x_0, x_1, x_2, x_3, x_4, x_5, x_6, x_7) bs) : ∃ vx_5 vx_6 vx_7 bx_5 bx_6 bx_7, c = [.int .i64 x_0, .int .i64 x_1, .int .i64 x_2, .int .i64 x_3, .bool x_4, vx_5, vx_6, vx_7] ∧ (bx_5 ++ (bx_6 ++ bx_7)) = bs ∧ (Ty.sl 5 (Ty.int .u8)).R rw H [vx_5] x_5 bx_5 ∧ (Ty.sl 5 (Ty.int .u8)).R rw H [vx_6] x_6 bx_6 ∧ (Ty.sl 94 tT94).R rw H [vx_7] x_7 bx_7 ∧ InK .i64 x_0 ∧ InK .i64 x_1 ∧ InK .i64 x_2 ∧ InK .i64 x_3 := by
  obtain ⟨c1, d1, e1, f1, rfl, rfl, ⟨rfl, rx_0, sx_0, rfl⟩, ⟨c2, d2, e2, f2, rfl, rfl, ⟨rfl, rx_1, sx_1, rfl⟩, ⟨c3, d3, e3, f3, rfl, rfl, ⟨rfl, rx_2, sx_2, rfl⟩, ⟨c4, d4, e4, f4, rfl, rfl, ⟨rfl, rx_3, sx_3, rfl⟩, ⟨c5, d5, e5, f5, rfl, rfl, ⟨rfl, rfl⟩, ⟨c6, d6, e6, f6, rfl, rfl, hx_5, ⟨c7, d7, e7, f7, rfl, rfl, hx_6, hx_7⟩⟩⟩⟩⟩⟩⟩ := h
  obtain ⟨vx_5, rfl⟩ := hx_5.sl_cell
  obtain ⟨vx_6, rfl⟩ := hx_6.sl_cell
  obtain ⟨vx_7, rfl⟩ := hx_7.sl_cell
  exact ⟨vx_5, vx_6, vx_7, _, _, _, by simp, by simp, hx_5, hx_6, hx_7, ⟨rx_0, sx_0⟩, ⟨rx_1, sx_1⟩, ⟨rx_2, sx_2⟩, ⟨rx_3, sx_3⟩⟩
theorem i72 {rw : Bool} {H : AH} {x_0 : Int} {x_1 : Int} {x_2 : Int} {x_3 : Int} {x_4 : Bool} {x_5 : List (Ty.int .u8).D} {x_6 : List (Ty.int .u8).D} {x_7 : List tT94.D} {vx_5 vx_6 vx_7 : AV} {bx_5 bx_6 bx_7 : List Nat} (hx_5 : (Ty.sl 5 (Ty.int .u8)).R rw H [vx_5] x_5 bx_5) (hx_6 : (Ty.sl 5 (Ty.int .u8)).R rw H [vx_6] x_6 bx_6) (hx_7 : (Ty.sl 94 tT94).R rw H [vx_7] x_7 bx_7) (ix_0 : InK .i64 x_0) (ix_1 : InK .i64 x_1) (ix_2 : InK .i64 x_2) (ix_3 : InK .i64 x_3) : tT72.R rw H [.int .i64 x_0, .int .i64 x_1, .int .i64 x_2, .int .i64 x_3, .bool x_4, vx_5, vx_6, vx_7] (x_0, x_1, x_2, x_3, x_4, x_5, x_6, x_7) (bx_5 ++ (bx_6 ++ bx_7)) := by
  have h : tT72.R rw H ([.int .i64 x_0] ++ ([.int .i64 x_1] ++ ([.int .i64 x_2] ++ ([.int .i64 x_3] ++ ([.bool x_4] ++ ([vx_5] ++ ([vx_6] ++ [vx_7]))))))) (x_0, x_1, x_2, x_3, x_4, x_5, x_6, x_7) ([] ++ ([] ++ ([] ++ ([] ++ ([] ++ (bx_5 ++ (bx_6 ++ bx_7))))))) := (Ty.R.pair (Ty.R.int ix_0) (Ty.R.pair (Ty.R.int ix_1) (Ty.R.pair (Ty.R.int ix_2) (Ty.R.pair (Ty.R.int ix_3) (Ty.R.pair (Ty.R.bool x_4) (Ty.R.pair hx_5 (Ty.R.pair hx_6 hx_7)))))))
  simpa using h
set_option maxHeartbeats 4000000 in
theorem eqFrame_h {H h : AH} {c1 c2 : List AV} {d : tT72.D} {b1 b2 : List Nat} {r1 r2 : Bool} (h1 : tT72.R r1 H c1 d b1) (h2 : tT72.R r2 H c2 d b2) (hK : Kp H h) (hb : tT72.bd 1048576 d) (m : Nat) (hm : 1048760 ≤ m) :
    ∃ h', ev Try.prog m 42 [.agg c1, .agg c2] h = some (.bool true, h') ∧ Kp h h' := by
  obtain ⟨m, rfl⟩ : ∃ k, m = k + 1 := ⟨m - 1, by omega⟩
  obtain ⟨x_0, x_1, x_2, x_3, x_4, x_5, x_6, x_7⟩ := d
  obtain ⟨hbx_0, hbx_1, hbx_2, hbx_3, hbx_4, hbx_5, hbx_6, hbx_7⟩ := hb
  obtain ⟨vx_5, vx_6, vx_7, bx_5, bx_6, bx_7, rfl, rfl, hx_5, hx_6, hx_7, ix_0, ix_1, ix_2, ix_3⟩ := o72 h1
  obtain ⟨wx_5, wx_6, wx_7, ex_5, ex_6, ex_7, rfl, rfl, kx_5, kx_6, kx_7, jx_0, jx_1, jx_2, jx_3⟩ := o72 h2
  have ox_5 := hx_5.sl_one
  have px_5 := kx_5.sl_one
  have ox_6 := hx_6.sl_one
  have px_6 := kx_6.sl_one
  have ox_7 := hx_7.sl_one
  have px_7 := kx_7.sl_one
  let A0 : AH := (h.push (.cells 72 false [.int .i64 x_0, .int .i64 x_1, .int .i64 x_2, .int .i64 x_3, .bool x_4, vx_5, vx_6, vx_7])).push (.cells 72 false [.int .i64 x_0, .int .i64 x_1, .int .i64 x_2, .int .i64 x_3, .bool x_4, wx_5, wx_6, wx_7])
  have K0 : Kp h A0 := ((Kp.refl h).push _).push _
  have g0 : A0.get h.next = some (.cells 72 false [.int .i64 x_0, .int .i64 x_1, .int .i64 x_2, .int .i64 x_3, .bool x_4, vx_5, vx_6, vx_7]) := by simp [A0]
  have f0 : A0.get (h.next + 1) = some (.cells 72 false [.int .i64 x_0, .int .i64 x_1, .int .i64 x_2, .int .i64 x_3, .bool x_4, wx_5, wx_6, wx_7]) := by simp [A0]
  have n0 : h.next + 2 ≤ A0.next := by simp [A0]
  obtain ⟨A1, a1, Q1⟩ := eqByteS_h hx_5 kx_5 (hK.trans K0) hbx_5 m (by omega)
  have K1 : Kp h A1 := K0.trans Q1
  have g1 : A1.get h.next = _ := (Q1.get _ (by omega)).trans g0
  have f1 : A1.get (h.next + 1) = _ := (Q1.get _ (by omega)).trans f0
  have n1 : h.next + 2 ≤ A1.next := by have := Q1.next; omega
  obtain ⟨A2, a2, Q2⟩ := eqByteS_h hx_6 kx_6 (hK.trans K1) hbx_6 m (by omega)
  have K2 : Kp h A2 := K1.trans Q2
  have g2 : A2.get h.next = _ := (Q2.get _ (by omega)).trans g1
  have f2 : A2.get (h.next + 1) = _ := (Q2.get _ (by omega)).trans f1
  have n2 : h.next + 2 ≤ A2.next := by have := Q2.next; omega
  obtain ⟨A3, a3, Q3⟩ := eqRangeS_h hx_7 kx_7 (hK.trans K2) hbx_7 m (by omega)
  have K3 : Kp h A3 := K2.trans Q3
  have g3 : A3.get h.next = _ := (Q3.get _ (by omega)).trans g2
  have f3 : A3.get (h.next + 1) = _ := (Q3.get _ (by omega)).trans f2
  have n3 : h.next + 2 ≤ A3.next := by have := Q3.next; omega
  refine ⟨A3, ?_, K3⟩
  have nn1 : ¬ (h.next = h.next + 1) := by omega
  rw [ev_eq Try.func42 ok42 m _ h (by simp [Try.f42])]
  simp only [A0] at a1 g0 f0
  simp [Try.f42, ldVar, nn1, evHist, ObsOk, ObOk, ba_refl, ox_5, ox_6, ox_7, px_5, px_6, px_7, a1, g1, f1, a2, g2, f2, a3, g3, f3]
/-! markByteS -/
def ImarkByteS_h (ds : List (Ty.int .u8).D) (s : AV) (k0 : Int) (bs : List Nat) (H : AH) (d : Nat) (τ : Tm) (h : AH) : Prop :=
  ∃ k : Nat, k + d = ds.length ∧ τ 0 = s ∧ τ 1 = .int .i64 (k0 + (cntL ((Ty.int .u8).cnt true) (ds.take k) : Nat)) ∧ τ 5 = .int .i64 k ∧ KoL bs H h ∧ (Ty.sl 5 (Ty.int .u8)).R true h [s] (mkRow ((Ty.int .u8).mk true) ((Ty.int .u8).cnt true) k0 (ds.take k) ++ ds.drop k) bs
set_option maxHeartbeats 4000000 in
theorem markByteS_h {H : AH} {s : AV} {ds : List (Ty.int .u8).D} {bs : List Nat} (hd : (Ty.sl 5 (Ty.int .u8)).R true H [s] ds bs) (hnd : bs.Nodup) (hb : (Ty.sl 5 (Ty.int .u8)).bd 1048576 ds) {k0 : Int} (hk0 : 0 ≤ k0) (hk1 : k0 + ((Ty.sl 5 (Ty.int .u8)).cnt true ds : Nat) ≤ 2147483648) (m : Nat) (hm : 1048720 ≤ m) :
    ∃ H', ev Try.prog m 44 [s, .int .i64 k0] H = some (.int .i64 (k0 + ((Ty.sl 5 (Ty.int .u8)).cnt true ds : Nat)), H') ∧ KoL bs H H' ∧ (Ty.sl 5 (Ty.int .u8)).R true H' [s] ((Ty.sl 5 (Ty.int .u8)).mk true k0 ds) bs := by
  obtain ⟨m, rfl⟩ : ∃ k, m = k + 1 := ⟨m - 1, by omega⟩
  obtain ⟨hl, hl2⟩ := hb
  rw [cnt_sl] at hk1 ⊢
  rw [mk_sl]
  rw [ev_eq Try.func44 ok44 m _ H (by simp [Try.f44])]
  simp [Try.f44]
  generalize hLo : evLoop _ _ _ _ _ _ = R
  obtain ⟨e, τ', H', rfl, rfl, g1, g2, g3⟩ := loop_at hLo (loop_rule (d := ds.length) (ImarkByteS_h ds s k0 bs H)
    (fun e τ h => e = .exit 0 ∧ τ 1 = .int .i64 (k0 + (cntL ((Ty.int .u8).cnt true) ds : Nat)) ∧ KoL bs H h ∧ (Ty.sl 5 (Ty.int .u8)).R true h [s] (mkRow ((Ty.int .u8).mk true) ((Ty.int .u8).cnt true) k0 ds) bs)
    (by
      rintro d τ h ⟨k, hk, t0, t1, t5, hK, hR⟩
      have hlen' : (mkRow ((Ty.int .u8).mk true) ((Ty.int .u8).cnt true) k0 (ds.take k) ++ ds.drop k).length = ds.length := by simp [mkRow_len]; omega
      have hL := Ty.R.lenA hR (P := Try.prog) (T := 34) (by simp)
      rw [hlen'] at hL
      by_cases hd0 : d = 0
      · subst hd0
        have : k = ds.length := by omega
        subst this
        rw [List.take_length] at t1
        rewrite [lp44_26]
        simp [Try.f44, t0, t1, t5, hL]
        exact ⟨hK, by simpa using hR⟩
      · have hlt : k < ds.length := by omega
        obtain ⟨b, o, x1, c, x2, bk, u1, u2, u3, u4, u5, u6, u7, u8, u9, u10⟩ := Ty.R.upd hR hnd (P := Try.prog) (T := 34) (by simp) (by simp [Ty.n]) (k := k) (by omega)
        have hat := mkRow_atH ((Ty.int .u8).mk true) ((Ty.int .u8).cnt true) k0 ds k hlt (by rw [hlen']; exact hlt)
        rw [hat] at u5
        have hbd := hl2 _ (List.getElem_mem hlt)
        have hct := cntL_take_succ' ((Ty.int .u8).cnt true) ds k hlt
        have hcl := cntL_take_le' ((Ty.int .u8).cnt true) ds (k + 1)
        have hms := mkRow_setH ((Ty.int .u8).mk true) ((Ty.int .u8).cnt true) k0 ds k hlt
        generalize hK0 : k0 + (cntL ((Ty.int .u8).cnt true) (ds.take k) : Nat) = K0 at *
        have hKb : 0 ≤ K0 ∧ K0 ≤ 2147483648 := by omega
        generalize hdk : ds[k] = dk at *
        obtain ⟨x, hx0⟩ : ∃ x, x = dk := ⟨_, rfl⟩
        subst hx0
        obtain ⟨rfl, r1, r2, rfl⟩ := u5
        obtain ⟨K1, hK1⟩ : ∃ z, z = K0 + (((Ty.int .u8).cnt true x : Nat) : Int) := ⟨_, rfl⟩
        have htot : (Ty.int .u8).cnt true x = (Ty.int .u8).cnt true x := rfl
        rw [htot] at hct
        have hKl : K1 = k0 + (cntL ((Ty.int .u8).cnt true) (ds.take (k + 1)) : Nat) := by rw [hct]; push_cast; omega
        have u1' : K1 ≤ 2147483648 := by omega
        have u0' := dn_step hK1 u1'
        have p0' : 0 ≤ K0 := hKb.1
        have p1' := up_step hK1 p0'
        have w0 := wrap_step hK1 rfl p0' u1'
        obtain ⟨z0, hz0⟩ : ∃ z, IntKind.u8.wrap K0 = z := ⟨_, rfl⟩
        have cv0 : ∀ h', convA Try.prog 3 5 (.int .i64 K0) h' = some (.int .u8 z0, h') := fun h' => (conv_int (ds := .int .i64) (k := .u8) (by simp) (by simp)).trans (by rw [hz0])
        have hmk : (Ty.int .u8).mk true K0 x = z0 := by rw [mk_intw, hz0]
        have h0 : h = h := rfl
        have G0 : h.get b = some (.cells 5 false (x1 ++ [.int .u8 x] ++ x2)) := u3
        have N0 : h.next = h.next := rfl
        have E0 : ∀ y, y < h.next → y ≠ b → y ∉ ([] : List Nat) → h.get y = h.get y := fun _ _ _ _ => rfl
        obtain ⟨B0, hB0⟩ : ∃ B, B = Blk.cells 5 false (x1 ++ [.int .u8 z0] ++ x2) := ⟨_, rfl⟩
        have s0 : stVar Try.prog 5 b o (.int .u8 z0) h = some (h.set b B0) := by rw [hB0]; exact stf0 G0 u4 (by simp) rfl (by simp) rfl
        obtain ⟨h1, eh1⟩ : ∃ z, h.set b B0 = z := ⟨_, rfl⟩
        have G1 : h1.get b = some (.cells 5 false (x1 ++ [.int .u8 z0] ++ x2)) := by rw [← eh1, AH.set_getS, hB0]
        have N1 : h1.next = h.next := by rw [← eh1, AH.set_next]
        have E1 : ∀ y, y < h.next → y ≠ b → y ∉ ([] : List Nat) → h1.get y = h.get y := fun y hy h1 h2 => by rw [← eh1]; exact (AH.set_getN _ _ h1).trans (E0 y hy h1 h2)
        rw [eh1] at s0
        have KLf : KoL bs h h1 := ⟨N1, fun y hy hyb => E1 y hy (fun e => hyb (by rw [e]; exact u7)) (fun e => hyb (u6 y e))⟩
        have hRf : (Ty.int .u8).R true h1 [.int .u8 z0] z0 ([] : List Nat) := Ty.R.int (hz0 ▸ InK.wrap _ _)
        rw [hmk] at hms
        have hR6 := u10 h1 _ _ (by rw [N1]; exact Nat.le_refl _) (fun y hy h1 h2 => E1 y (hR.mem y hy) h1 h2) G1 hRf
        rw [hms] at hR6
        rewrite [lp44_26]
        simp [Try.f44, t0, t1, t5, hL, hlt, u1, w0, cv0, s0, wrap_i64 (n := (k : Int) + 1) (by omega) (by omega)]
        exact ⟨d - 1, by omega, k + 1, by omega, by simp [t0], by simp; omega, by simp, hK.trans KLf, hR6⟩)
    ⟨0, by simp, by simp, by simp [cntL], by simp, KoL.refl _ _, by simpa [mkRow] using hd⟩ (by omega))
  simp [g1]
  exact ⟨g2, g3⟩
/-! markRangeS -/
def ImarkRangeS_h (ds : List tT94.D) (s : AV) (k0 : Int) (bs : List Nat) (H : AH) (d : Nat) (τ : Tm) (h : AH) : Prop :=
  ∃ k : Nat, k + d = ds.length ∧ τ 0 = s ∧ τ 1 = .int .i64 (k0 + (cntL (tT94.cnt true) (ds.take k) : Nat)) ∧ τ 5 = .int .i64 k ∧ KoL bs H h ∧ (Ty.sl 94 tT94).R true h [s] (mkRow (tT94.mk true) (tT94.cnt true) k0 (ds.take k) ++ ds.drop k) bs
set_option maxHeartbeats 4000000 in
theorem markRangeS_h {H : AH} {s : AV} {ds : List tT94.D} {bs : List Nat} (hd : (Ty.sl 94 tT94).R true H [s] ds bs) (hnd : bs.Nodup) (hb : (Ty.sl 94 tT94).bd 1048576 ds) {k0 : Int} (hk0 : 0 ≤ k0) (hk1 : k0 + ((Ty.sl 94 tT94).cnt true ds : Nat) ≤ 2147483648) (m : Nat) (hm : 1048740 ≤ m) :
    ∃ H', ev Try.prog m 128 [s, .int .i64 k0] H = some (.int .i64 (k0 + ((Ty.sl 94 tT94).cnt true ds : Nat)), H') ∧ KoL bs H H' ∧ (Ty.sl 94 tT94).R true H' [s] ((Ty.sl 94 tT94).mk true k0 ds) bs := by
  obtain ⟨m, rfl⟩ : ∃ k, m = k + 1 := ⟨m - 1, by omega⟩
  obtain ⟨hl, hl2⟩ := hb
  rw [cnt_sl] at hk1 ⊢
  rw [mk_sl]
  rw [ev_eq Try.func128 ok128 m _ H (by simp [Try.f128])]
  simp [Try.f128]
  generalize hLo : evLoop _ _ _ _ _ _ = R
  obtain ⟨e, τ', H', rfl, rfl, g1, g2, g3⟩ := loop_at hLo (loop_rule (d := ds.length) (ImarkRangeS_h ds s k0 bs H)
    (fun e τ h => e = .exit 0 ∧ τ 1 = .int .i64 (k0 + (cntL (tT94.cnt true) ds : Nat)) ∧ KoL bs H h ∧ (Ty.sl 94 tT94).R true h [s] (mkRow (tT94.mk true) (tT94.cnt true) k0 ds) bs)
    (by
      rintro d τ h ⟨k, hk, t0, t1, t5, hK, hR⟩
      have hlen' : (mkRow (tT94.mk true) (tT94.cnt true) k0 (ds.take k) ++ ds.drop k).length = ds.length := by simp [mkRow_len]; omega
      have hL := Ty.R.lenA hR (P := Try.prog) (T := 70) (by simp)
      rw [hlen'] at hL
      by_cases hd0 : d = 0
      · subst hd0
        have : k = ds.length := by omega
        subst this
        rw [List.take_length] at t1
        rewrite [lp128_26]
        simp [Try.f128, t0, t1, t5, hL]
        exact ⟨hK, by simpa using hR⟩
      · have hlt : k < ds.length := by omega
        obtain ⟨b, o, x1, c, x2, bk, u1, u2, u3, u4, u5, u6, u7, u8, u9, u10⟩ := Ty.R.upd hR hnd (P := Try.prog) (T := 70) (by simp) (by simp [Ty.n]) (k := k) (by omega)
        have hat := mkRow_atH (tT94.mk true) (tT94.cnt true) k0 ds k hlt (by rw [hlen']; exact hlt)
        rw [hat] at u5
        have hbd := hl2 _ (List.getElem_mem hlt)
        have hct := cntL_take_succ' (tT94.cnt true) ds k hlt
        have hcl := cntL_take_le' (tT94.cnt true) ds (k + 1)
        have hms := mkRow_setH (tT94.mk true) (tT94.cnt true) k0 ds k hlt
        generalize hK0 : k0 + (cntL (tT94.cnt true) (ds.take k) : Nat) = K0 at *
        have hKb : 0 ≤ K0 ∧ K0 ≤ 2147483648 := by omega
        generalize hdk : ds[k] = dk at *
        obtain ⟨x_0, x_1⟩ := dk
        obtain ⟨hbx_0, hbx_1⟩ := hbd
        obtain ⟨rfl, rfl, ix_0, ix_1⟩ := o94 u5
        obtain ⟨K1, hK1⟩ : ∃ z, z = K0 + (((Ty.int .i64).cnt true x_0 : Nat) : Int) := ⟨_, rfl⟩
        obtain ⟨K2, hK2⟩ : ∃ z, z = K1 + (((Ty.int .i64).cnt true x_1 : Nat) : Int) := ⟨_, rfl⟩
        have htot : tT94.cnt true (x_0, x_1) = (Ty.int .i64).cnt true x_0 + ((Ty.int .i64).cnt true x_1) := rfl
        rw [htot] at hct
        have hKl : K2 = k0 + (cntL (tT94.cnt true) (ds.take (k + 1)) : Nat) := by rw [hct]; push_cast; omega
        have u2' : K2 ≤ 2147483648 := by omega
        have u1' := dn_step hK2 u2'
        have u0' := dn_step hK1 u1'
        have p0' : 0 ≤ K0 := hKb.1
        have p1' := up_step hK1 p0'
        have p2' := up_step hK2 p1'
        have w0 := wrap_step hK1 rfl p0' u1'
        have w1 := wrap_step hK2 rfl p1' u2'
        have hmk : tT94.mk true K0 (x_0, x_1) = (K0, K1) := by rw [mk_pair, ← hK1, mk_int31 p0' u0', mk_int31 p1' u1']
        have h0 : h = h := rfl
        have G0 : h.get b = some (.cells 94 false (x1 ++ [.int .i64 x_0, .int .i64 x_1] ++ x2)) := u3
        have N0 : h.next = h.next := rfl
        have E0 : ∀ y, y < h.next → y ≠ b → y ∉ ([] : List Nat) → h.get y = h.get y := fun _ _ _ _ => rfl
        obtain ⟨B0, hB0⟩ : ∃ B, B = Blk.cells 94 false (x1 ++ [.int .i64 K0, .int .i64 x_1] ++ x2) := ⟨_, rfl⟩
        have s0 : stVar Try.prog 3 b o (.int .i64 K0) h = some (h.set b B0) := by rw [hB0]; exact stf0 G0 u4 (by simp) rfl (by simp) rfl
        obtain ⟨h1, eh1⟩ : ∃ z, h.set b B0 = z := ⟨_, rfl⟩
        have G1 : h1.get b = some (.cells 94 false (x1 ++ [.int .i64 K0, .int .i64 x_1] ++ x2)) := by rw [← eh1, AH.set_getS, hB0]
        have N1 : h1.next = h.next := by rw [← eh1, AH.set_next]
        have E1 : ∀ y, y < h.next → y ≠ b → y ∉ ([] : List Nat) → h1.get y = h.get y := fun y hy h1 h2 => by rw [← eh1]; exact (AH.set_getN _ _ h1).trans (E0 y hy h1 h2)
        rw [eh1] at s0
        obtain ⟨B1, hB1⟩ : ∃ B, B = Blk.cells 94 false (x1 ++ [.int .i64 K0, .int .i64 K1] ++ x2) := ⟨_, rfl⟩
        have s1 : stVar Try.prog 3 b (o + 1) (.int .i64 K1) h1 = some (h1.set b B1) := by rw [hB1]; exact stf G1 u4 (by simp) rfl (by simp) rfl
        obtain ⟨h2, eh2⟩ : ∃ z, h1.set b B1 = z := ⟨_, rfl⟩
        have G2 : h2.get b = some (.cells 94 false (x1 ++ [.int .i64 K0, .int .i64 K1] ++ x2)) := by rw [← eh2, AH.set_getS, hB1]
        have N2 : h2.next = h.next := by rw [← eh2, AH.set_next, N1]
        have E2 : ∀ y, y < h.next → y ≠ b → y ∉ ([] : List Nat) → h2.get y = h.get y := fun y hy h1 h2 => by rw [← eh2]; exact (AH.set_getN _ _ h1).trans (E1 y hy h1 h2)
        rw [eh2] at s1
        have KLf : KoL bs h h2 := ⟨N2, fun y hy hyb => E2 y hy (fun e => hyb (by rw [e]; exact u7)) (fun e => hyb (u6 y e))⟩
        have hRf : tT94.R true h2 [.int .i64 K0, .int .i64 K1] (K0, K1) ([] : List Nat) := i94  (InK.k31 p0' u0') (InK.k31 p1' u1')
        rw [hmk] at hms
        have hR6 := u10 h2 _ _ (by rw [N2]; exact Nat.le_refl _) (fun y hy h1 h2 => E2 y (hR.mem y hy) h1 h2) G2 hRf
        rw [hms] at hR6
        rewrite [lp128_26]
        simp [Try.f128, t0, t1, t5, hL, hlt, u1, w0, w1, s0, s1, wrap_i64 (n := (k : Int) + 1) (by omega) (by omega)]
        exact ⟨d - 1, by omega, k + 1, by omega, by simp [t0], by simp; omega, by simp, hK.trans KLf, hR6⟩)
    ⟨0, by simp, by simp, by simp [cntL], by simp, KoL.refl _ _, by simpa [mkRow] using hd⟩ (by omega))
  simp [g1]
  exact ⟨g2, g3⟩
/-! markFrame -/
set_option maxHeartbeats 4000000 in
theorem markFrame_h {Hb H : AH} {c : List AV} {d : tT72.D} {bs : List Nat} (hd : tT72.R true Hb c d bs) (hnd : bs.Nodup) (hK : Kp Hb H) (hb : tT72.bd 1048576 d) {k0 : Int} (hk0 : 0 ≤ k0) (hk1 : k0 + (tT72.cnt false d : Nat) ≤ 2147483648) (m : Nat) (hm : 1048760 ≤ m) :
    ∃ H', ev Try.prog m 45 [.agg c, .int .i64 k0] H = some (.int .i64 (k0 + (tT72.cnt false d : Nat)), H') ∧ KoS bs H H' ∧ tT72.R true H' c (tT72.mk false k0 d) bs := by
  obtain ⟨m, rfl⟩ : ∃ k, m = k + 1 := ⟨m - 1, by omega⟩
  obtain ⟨x_0, x_1, x_2, x_3, x_4, x_5, x_6, x_7⟩ := d
  obtain ⟨hbx_0, hbx_1, hbx_2, hbx_3, hbx_4, hbx_5, hbx_6, hbx_7⟩ := hb
  obtain ⟨K0, hK0⟩ : ∃ z, z = k0 := ⟨_, rfl⟩
  subst hK0
  obtain ⟨K1, hK1⟩ : ∃ z, z = K0 + (((Ty.int .i64).cnt false x_0 : Nat) : Int) := ⟨_, rfl⟩
  have hc0 : (Ty.int .i64).cnt false x_0 = 0 := rfl
  have hk10 : K1 = K0 := by omega
  obtain ⟨K2, hK2⟩ : ∃ z, z = K1 + (((Ty.int .i64).cnt false x_1 : Nat) : Int) := ⟨_, rfl⟩
  have hc1 : (Ty.int .i64).cnt false x_1 = 0 := rfl
  have hk11 : K2 = K1 := by omega
  obtain ⟨K3, hK3⟩ : ∃ z, z = K2 + (((Ty.int .i64).cnt false x_2 : Nat) : Int) := ⟨_, rfl⟩
  have hc2 : (Ty.int .i64).cnt false x_2 = 0 := rfl
  have hk12 : K3 = K2 := by omega
  obtain ⟨K4, hK4⟩ : ∃ z, z = K3 + (((Ty.int .i64).cnt false x_3 : Nat) : Int) := ⟨_, rfl⟩
  have hc3 : (Ty.int .i64).cnt false x_3 = 0 := rfl
  have hk13 : K4 = K3 := by omega
  obtain ⟨K5, hK5⟩ : ∃ z, z = K4 + ((Ty.bool.cnt false x_4 : Nat) : Int) := ⟨_, rfl⟩
  have hc4 : Ty.bool.cnt false x_4 = 0 := rfl
  have hk14 : K5 = K4 := by omega
  obtain ⟨K6, hK6⟩ : ∃ z, z = K5 + (((Ty.sl 5 (Ty.int .u8)).cnt false x_5 : Nat) : Int) := ⟨_, rfl⟩
  obtain ⟨K7, hK7⟩ : ∃ z, z = K6 + (((Ty.sl 5 (Ty.int .u8)).cnt false x_6 : Nat) : Int) := ⟨_, rfl⟩
  obtain ⟨K8, hK8⟩ : ∃ z, z = K7 + (((Ty.sl 94 tT94).cnt false x_7 : Nat) : Int) := ⟨_, rfl⟩
  have htot : tT72.cnt false (x_0, x_1, x_2, x_3, x_4, x_5, x_6, x_7) = (Ty.int .i64).cnt false x_0 + ((Ty.int .i64).cnt false x_1 + ((Ty.int .i64).cnt false x_2 + ((Ty.int .i64).cnt false x_3 + (Ty.bool.cnt false x_4 + ((Ty.sl 5 (Ty.int .u8)).cnt false x_5 + ((Ty.sl 5 (Ty.int .u8)).cnt false x_6 + ((Ty.sl 94 tT94).cnt false x_7))))))) := rfl
  rw [htot] at hk1 ⊢
  have hKl : K0 + (((Ty.int .i64).cnt false x_0 + ((Ty.int .i64).cnt false x_1 + ((Ty.int .i64).cnt false x_2 + ((Ty.int .i64).cnt false x_3 + (Ty.bool.cnt false x_4 + ((Ty.sl 5 (Ty.int .u8)).cnt false x_5 + ((Ty.sl 5 (Ty.int .u8)).cnt false x_6 + ((Ty.sl 94 tT94).cnt false x_7))))))) : Nat) : Int) = K8 := by push_cast; omega
  rw [hKl] at hk1 ⊢
  have u7' : K7 ≤ 2147483648 := dn_step hK8 hk1
  have u6' : K6 ≤ 2147483648 := dn_step hK7 u7'
  have u5' : K5 ≤ 2147483648 := dn_step hK6 u6'
  have u4' : K4 ≤ 2147483648 := dn_step hK5 u5'
  have u3' : K3 ≤ 2147483648 := dn_step hK4 u4'
  have u2' : K2 ≤ 2147483648 := dn_step hK3 u3'
  have u1' : K1 ≤ 2147483648 := dn_step hK2 u2'
  have u0' : K0 ≤ 2147483648 := dn_step hK1 u1'
  have u8' := hk1
  have p0' : 0 ≤ K0 := hk0
  have p1' := up_step hK1 p0'
  have p2' := up_step hK2 p1'
  have p3' := up_step hK3 p2'
  have p4' := up_step hK4 p3'
  have p5' := up_step hK5 p4'
  have p6' := up_step hK6 p5'
  have p7' := up_step hK7 p6'
  have p8' := up_step hK8 p7'
  have hmk : tT72.mk false K0 (x_0, x_1, x_2, x_3, x_4, x_5, x_6, x_7) = (x_0, x_1, x_2, x_3, x_4, ((Ty.sl 5 (Ty.int .u8)).mk false K5 x_5), ((Ty.sl 5 (Ty.int .u8)).mk false K6 x_6), ((Ty.sl 94 tT94).mk false K7 x_7)) := by rw [mk_pair, ← hK1, mk_pair, ← hK2, mk_pair, ← hK3, mk_pair, ← hK4, mk_pair, ← hK5, mk_pair, ← hK6, mk_pair, ← hK7]; rfl
  rw [hmk]
  obtain ⟨vx_5, vx_6, vx_7, bx_5, bx_6, bx_7, rfl, rfl, hx_5, hx_6, hx_7, ix_0, ix_1, ix_2, ix_3⟩ := o72 hd
  have ox_5 := hx_5.sl_one
  have ox_6 := hx_6.sl_one
  have ox_7 := hx_7.sl_one
  let A0 : AH := H.push (.cells 72 false [.int .i64 x_0, .int .i64 x_1, .int .i64 x_2, .int .i64 x_3, .bool x_4, vx_5, vx_6, vx_7])
  have P0 : Kp H A0 := (Kp.refl H).push _
  have g0 : A0.get H.next = some (.cells 72 false [.int .i64 x_0, .int .i64 x_1, .int .i64 x_2, .int .i64 x_3, .bool x_4, vx_5, vx_6, vx_7]) := by simp [A0]
  have nx : A0.next = H.next + 1 := rfl
  have kx_5 := hx_5.kp (hK.trans P0)
  have b_x_5 : ∀ z ∈ bx_5, z < H.next := fun z hz => (hx_5.kp hK).mem z hz
  have kx_6 := hx_6.kp (hK.trans P0)
  have b_x_6 : ∀ z ∈ bx_6, z < H.next := fun z hz => (hx_6.kp hK).mem z hz
  have kx_7 := hx_7.kp (hK.trans P0)
  have b_x_7 : ∀ z ∈ bx_7, z < H.next := fun z hz => (hx_7.kp hK).mem z hz
  have KS0 : KoS (bx_5 ++ (bx_6 ++ bx_7)) H A0 := P0.koS _
  have nd1 : bx_5.Nodup := by simp only [List.nodup_append] at hnd; grind
  obtain ⟨A1, s1, L1, R1⟩ := markByteS_h kx_5 nd1 hbx_5 (k0 := K5) p5' (le_of_eq_of_le hK6.symm u6') m (by omega)
  have e1 : K5 + (((Ty.sl 5 (Ty.int .u8)).cnt true x_5 : Nat) : Int) = K6 := hK6.symm
  rw [e1] at s1
  have n1 : A1.next = H.next + 1 := by rw [L1.next]; rfl
  have g1 : A1.get H.next = _ := (L1.get _ (by rw [nx]; omega) (fun e => by have := b_x_5 _ e; omega)).trans g0
  have KS1 : KoS (bx_5 ++ (bx_6 ++ bx_7)) H A1 := KS0.trans (L1.koS) (fun b hb => .inl (by simp [hb]))
  have M1x_6 := kx_6.koL L1 (fun y hy hx => by simp only [List.nodup_append] at hnd; grind)
  have M1x_7 := kx_7.koL L1 (fun y hy hx => by simp only [List.nodup_append] at hnd; grind)
  have nd2 : bx_6.Nodup := by simp only [List.nodup_append] at hnd; grind
  obtain ⟨A2, s2, L2, R2⟩ := markByteS_h M1x_6 nd2 hbx_6 (k0 := K6) p6' (le_of_eq_of_le hK7.symm u7') m (by omega)
  have e2 : K6 + (((Ty.sl 5 (Ty.int .u8)).cnt true x_6 : Nat) : Int) = K7 := hK7.symm
  rw [e2] at s2
  have n2 : A2.next = H.next + 1 := by rw [L2.next]; exact n1
  have g2 : A2.get H.next = _ := (L2.get _ (by rw [n1]; omega) (fun e => by have := b_x_6 _ e; omega)).trans g1
  have KS2 : KoS (bx_5 ++ (bx_6 ++ bx_7)) H A2 := KS1.trans (L2.koS) (fun b hb => .inl (by simp [hb]))
  have M2x_5 := R1.koL L2 (fun y hy hx => by simp only [List.nodup_append] at hnd; grind)
  have M2x_7 := M1x_7.koL L2 (fun y hy hx => by simp only [List.nodup_append] at hnd; grind)
  have nd3 : bx_7.Nodup := by simp only [List.nodup_append] at hnd; grind
  obtain ⟨A3, s3, L3, R3⟩ := markRangeS_h M2x_7 nd3 hbx_7 (k0 := K7) p7' (le_of_eq_of_le hK8.symm u8') m (by omega)
  have e3 : K7 + (((Ty.sl 94 tT94).cnt true x_7 : Nat) : Int) = K8 := hK8.symm
  rw [e3] at s3
  have n3 : A3.next = H.next + 1 := by rw [L3.next]; exact n2
  have g3 : A3.get H.next = _ := (L3.get _ (by rw [n2]; omega) (fun e => by have := b_x_7 _ e; omega)).trans g2
  have KS3 : KoS (bx_5 ++ (bx_6 ++ bx_7)) H A3 := KS2.trans (L3.koS) (fun b hb => .inl (by simp [hb]))
  have M3x_5 := M2x_5.koL L3 (fun y hy hx => by simp only [List.nodup_append] at hnd; grind)
  have M3x_6 := R2.koL L3 (fun y hy hx => by simp only [List.nodup_append] at hnd; grind)
  refine ⟨A3, ?_, KS3, i72 M3x_5 M3x_6 R3 ix_0 ix_1 ix_2 ix_3⟩
  rw [ev_eq Try.func45 ok45 m _ H (by simp [Try.f45])]
  simp only [A0] at *
  simp only [hk10, hk11, hk12, hk13, hk14] at *
  simp [Try.f45, ldVar, evHist, ObsOk, ObOk, g0, ox_5, ox_6, ox_7, s1, g1, s2, g2, s3, g3]
/-! heldByteS -/
def IheldByteS_h (ds : List (Ty.int .u8).D) (s : AV) (k0 : Int) (H : AH) (d : Nat) (τ : Tm) (h : AH) : Prop :=
  ∃ k : Nat, k + d = ds.length ∧ τ 0 = s ∧ τ 1 = .int .i64 (k0 + (cntL ((Ty.int .u8).cnt true) (ds.take k) : Nat)) ∧ τ 5 = .int .i64 k ∧ h = H
set_option maxHeartbeats 4000000 in
theorem heldByteS_h {H : AH} {s : AV} {ds : List (Ty.int .u8).D} {bs : List Nat} {rw : Bool} {k0 : Int} (hd : (Ty.sl 5 (Ty.int .u8)).R rw H [s] ((Ty.sl 5 (Ty.int .u8)).mk true k0 ds) bs) (hb : (Ty.sl 5 (Ty.int .u8)).bd 1048576 ds) (hk0 : 0 ≤ k0) (hk1 : k0 + ((Ty.sl 5 (Ty.int .u8)).cnt true ds : Nat) ≤ 2147483648) (m : Nat) (hm : 1048720 ≤ m) :
    ev Try.prog m 129 [s, .int .i64 k0] H = some (.int .i64 (k0 + ((Ty.sl 5 (Ty.int .u8)).cnt true ds : Nat)), H) := by
  obtain ⟨m, rfl⟩ : ∃ k, m = k + 1 := ⟨m - 1, by omega⟩
  obtain ⟨hl, hl2⟩ := hb
  rw [cnt_sl] at hk1 ⊢
  rw [mk_sl] at hd
  have hL := Ty.R.lenA hd (P := Try.prog) (T := 34) (by simp)
  rw [mkRow_len] at hL
  rw [ev_eq Try.func129 ok129 m _ H (by simp [Try.f129])]
  simp [Try.f129]
  generalize hLo : evLoop _ _ _ _ _ _ = R
  obtain ⟨e, τ', H', rfl, rfl, g1, rfl⟩ := loop_at hLo (loop_rule (d := ds.length) (IheldByteS_h ds s k0 H)
    (fun e τ h => e = .exit 0 ∧ τ 1 = .int .i64 (k0 + (cntL ((Ty.int .u8).cnt true) ds : Nat)) ∧ h = H)
    (by
      rintro d τ h ⟨k, hk, t0, t1, t5, rfl⟩
      by_cases hd0 : d = 0
      · subst hd0
        have : k = ds.length := by omega
        subst this
        rw [List.take_length] at t1
        rewrite [lp129_26]
        simp [Try.f129, t0, t1, t5, hL]
      · have hlt : k < ds.length := by omega
        obtain ⟨b, o, ro, x1, c, x2, bk, u1, u2, u3, u4, u5, u6, u7, u8⟩ := Ty.R.at_ hd (P := Try.prog) (T := 34) (by simp) (by simp [Ty.n]) (k := k) (by rw [mkRow_len]; exact hlt)
        rw [mkRow_getH _ _ _ _ _ hlt] at u5
        have hbd := hl2 _ (List.getElem_mem hlt)
        have hct := cntL_take_succ' ((Ty.int .u8).cnt true) ds k hlt
        have hcl := cntL_take_le' ((Ty.int .u8).cnt true) ds (k + 1)
        generalize hK0 : k0 + (cntL ((Ty.int .u8).cnt true) (ds.take k) : Nat) = K0 at *
        have hKb : 0 ≤ K0 ∧ K0 ≤ 2147483648 := by omega
        generalize hdk : ds[k] = dk at *
        obtain ⟨x, hx0⟩ : ∃ x, x = dk := ⟨_, rfl⟩
        subst hx0
        have hbx := hbd
        obtain ⟨K1, hK1⟩ : ∃ z, z = K0 + (((Ty.int .u8).cnt true x : Nat) : Int) := ⟨_, rfl⟩
        have htot : (Ty.int .u8).cnt true x = (Ty.int .u8).cnt true x := rfl
        rw [htot] at hct
        have hKl : K1 = k0 + (cntL ((Ty.int .u8).cnt true) (ds.take (k + 1)) : Nat) := by rw [hct]; push_cast; omega
        have u1' : K1 ≤ 2147483648 := by omega
        have u0' := dn_step hK1 u1'
        have p0' : 0 ≤ K0 := hKb.1
        have p1' := up_step hK1 p0'
        have w0 := wrap_step hK1 rfl p0' u1'
        obtain ⟨z0, hz0⟩ : ∃ z, IntKind.u8.wrap K0 = z := ⟨_, rfl⟩
        have cv0 : ∀ h', convA Try.prog 3 5 (.int .i64 K0) h' = some (.int .u8 z0, h') := fun h' => (conv_int (ds := .int .i64) (k := .u8) (by simp) (by simp)).trans (by rw [hz0])
        have hmk : (Ty.int .u8).mk true K0 x = z0 := by rw [mk_intw, hz0]
        rw [hmk] at u5
        obtain ⟨rfl, r1, r2, rfl⟩ := u5
        have l0 : ldVar Try.prog 5 b o h = some (.int .u8 z0) := ldf0 u3 u4 (by simp) rfl
        rewrite [lp129_26]
        simp [Try.f129, t0, t1, t5, hL, hlt, u1, w0, cv0, l0, evHist, ObsOk, ObOk, wrap_i64 (n := (k : Int) + 1) (by omega) (by omega)]
        exact ⟨d - 1, by omega, k + 1, by omega, by simp [t0], by simp; omega, by simp⟩)
    ⟨0, by simp, by simp, by simp [cntL], by simp, rfl⟩ (by omega))
  simp [g1]
/-! heldRangeS -/
def IheldRangeS_h (ds : List tT94.D) (s : AV) (k0 : Int) (H : AH) (d : Nat) (τ : Tm) (h : AH) : Prop :=
  ∃ k : Nat, k + d = ds.length ∧ τ 0 = s ∧ τ 1 = .int .i64 (k0 + (cntL (tT94.cnt true) (ds.take k) : Nat)) ∧ τ 5 = .int .i64 k ∧ h = H
set_option maxHeartbeats 4000000 in
theorem heldRangeS_h {H : AH} {s : AV} {ds : List tT94.D} {bs : List Nat} {rw : Bool} {k0 : Int} (hd : (Ty.sl 94 tT94).R rw H [s] ((Ty.sl 94 tT94).mk true k0 ds) bs) (hb : (Ty.sl 94 tT94).bd 1048576 ds) (hk0 : 0 ≤ k0) (hk1 : k0 + ((Ty.sl 94 tT94).cnt true ds : Nat) ≤ 2147483648) (m : Nat) (hm : 1048740 ≤ m) :
    ev Try.prog m 130 [s, .int .i64 k0] H = some (.int .i64 (k0 + ((Ty.sl 94 tT94).cnt true ds : Nat)), H) := by
  obtain ⟨m, rfl⟩ : ∃ k, m = k + 1 := ⟨m - 1, by omega⟩
  obtain ⟨hl, hl2⟩ := hb
  rw [cnt_sl] at hk1 ⊢
  rw [mk_sl] at hd
  have hL := Ty.R.lenA hd (P := Try.prog) (T := 70) (by simp)
  rw [mkRow_len] at hL
  rw [ev_eq Try.func130 ok130 m _ H (by simp [Try.f130])]
  simp [Try.f130]
  generalize hLo : evLoop _ _ _ _ _ _ = R
  obtain ⟨e, τ', H', rfl, rfl, g1, rfl⟩ := loop_at hLo (loop_rule (d := ds.length) (IheldRangeS_h ds s k0 H)
    (fun e τ h => e = .exit 0 ∧ τ 1 = .int .i64 (k0 + (cntL (tT94.cnt true) ds : Nat)) ∧ h = H)
    (by
      rintro d τ h ⟨k, hk, t0, t1, t5, rfl⟩
      by_cases hd0 : d = 0
      · subst hd0
        have : k = ds.length := by omega
        subst this
        rw [List.take_length] at t1
        rewrite [lp130_26]
        simp [Try.f130, t0, t1, t5, hL]
      · have hlt : k < ds.length := by omega
        obtain ⟨b, o, ro, x1, c, x2, bk, u1, u2, u3, u4, u5, u6, u7, u8⟩ := Ty.R.at_ hd (P := Try.prog) (T := 70) (by simp) (by simp [Ty.n]) (k := k) (by rw [mkRow_len]; exact hlt)
        rw [mkRow_getH _ _ _ _ _ hlt] at u5
        have hbd := hl2 _ (List.getElem_mem hlt)
        have hct := cntL_take_succ' (tT94.cnt true) ds k hlt
        have hcl := cntL_take_le' (tT94.cnt true) ds (k + 1)
        generalize hK0 : k0 + (cntL (tT94.cnt true) (ds.take k) : Nat) = K0 at *
        have hKb : 0 ≤ K0 ∧ K0 ≤ 2147483648 := by omega
        generalize hdk : ds[k] = dk at *
        obtain ⟨x_0, x_1⟩ := dk
        obtain ⟨hbx_0, hbx_1⟩ := hbd
        obtain ⟨K1, hK1⟩ : ∃ z, z = K0 + (((Ty.int .i64).cnt true x_0 : Nat) : Int) := ⟨_, rfl⟩
        obtain ⟨K2, hK2⟩ : ∃ z, z = K1 + (((Ty.int .i64).cnt true x_1 : Nat) : Int) := ⟨_, rfl⟩
        have htot : tT94.cnt true (x_0, x_1) = (Ty.int .i64).cnt true x_0 + ((Ty.int .i64).cnt true x_1) := rfl
        rw [htot] at hct
        have hKl : K2 = k0 + (cntL (tT94.cnt true) (ds.take (k + 1)) : Nat) := by rw [hct]; push_cast; omega
        have u2' : K2 ≤ 2147483648 := by omega
        have u1' := dn_step hK2 u2'
        have u0' := dn_step hK1 u1'
        have p0' : 0 ≤ K0 := hKb.1
        have p1' := up_step hK1 p0'
        have p2' := up_step hK2 p1'
        have w0 := wrap_step hK1 rfl p0' u1'
        have w1 := wrap_step hK2 rfl p1' u2'
        have hmk : tT94.mk true K0 (x_0, x_1) = (K0, K1) := by rw [mk_pair, ← hK1, mk_int31 p0' u0', mk_int31 p1' u1']
        rw [hmk] at u5
        obtain ⟨rfl, rfl, ix_0, ix_1⟩ := o94 u5
        have l0 : ldVar Try.prog 3 b o h = some (.int .i64 K0) := ldf0 u3 u4 (by simp) rfl
        have l1 : ldVar Try.prog 3 b (o + 1) h = some (.int .i64 K1) := ldf u3 u4 (by simp) rfl
        rewrite [lp130_26]
        simp [Try.f130, t0, t1, t5, hL, hlt, u1, w0, w1, l0, l1, evHist, ObsOk, ObOk, wrap_i64 (n := (k : Int) + 1) (by omega) (by omega)]
        exact ⟨d - 1, by omega, k + 1, by omega, by simp [t0], by simp; omega, by simp⟩)
    ⟨0, by simp, by simp, by simp [cntL], by simp, rfl⟩ (by omega))
  simp [g1]
/-! heldFrame -/
set_option maxHeartbeats 4000000 in
theorem heldFrame_h {Hb H : AH} {c : List AV} {d : tT72.D} {bs : List Nat} {rw : Bool} {k0 : Int} (hd : tT72.R rw Hb c (tT72.mk false k0 d) bs) (hK : Kp Hb H) (hb : tT72.bd 1048576 d) (hk0 : 0 ≤ k0) (hk1 : k0 + (tT72.cnt false d : Nat) ≤ 2147483648) (m : Nat) (hm : 1048760 ≤ m) :
    ∃ H', ev Try.prog m 46 [.agg c, .int .i64 k0] H = some (.int .i64 (k0 + (tT72.cnt false d : Nat)), H') ∧ Kp H H' := by
  obtain ⟨m, rfl⟩ : ∃ k, m = k + 1 := ⟨m - 1, by omega⟩
  obtain ⟨x_0, x_1, x_2, x_3, x_4, x_5, x_6, x_7⟩ := d
  obtain ⟨hbx_0, hbx_1, hbx_2, hbx_3, hbx_4, hbx_5, hbx_6, hbx_7⟩ := hb
  obtain ⟨K0, hK0⟩ : ∃ z, z = k0 := ⟨_, rfl⟩
  subst hK0
  obtain ⟨K1, hK1⟩ : ∃ z, z = K0 + (((Ty.int .i64).cnt false x_0 : Nat) : Int) := ⟨_, rfl⟩
  have hc0 : (Ty.int .i64).cnt false x_0 = 0 := rfl
  have hk10 : K1 = K0 := by omega
  obtain ⟨K2, hK2⟩ : ∃ z, z = K1 + (((Ty.int .i64).cnt false x_1 : Nat) : Int) := ⟨_, rfl⟩
  have hc1 : (Ty.int .i64).cnt false x_1 = 0 := rfl
  have hk11 : K2 = K1 := by omega
  obtain ⟨K3, hK3⟩ : ∃ z, z = K2 + (((Ty.int .i64).cnt false x_2 : Nat) : Int) := ⟨_, rfl⟩
  have hc2 : (Ty.int .i64).cnt false x_2 = 0 := rfl
  have hk12 : K3 = K2 := by omega
  obtain ⟨K4, hK4⟩ : ∃ z, z = K3 + (((Ty.int .i64).cnt false x_3 : Nat) : Int) := ⟨_, rfl⟩
  have hc3 : (Ty.int .i64).cnt false x_3 = 0 := rfl
  have hk13 : K4 = K3 := by omega
  obtain ⟨K5, hK5⟩ : ∃ z, z = K4 + ((Ty.bool.cnt false x_4 : Nat) : Int) := ⟨_, rfl⟩
  have hc4 : Ty.bool.cnt false x_4 = 0 := rfl
  have hk14 : K5 = K4 := by omega
  obtain ⟨K6, hK6⟩ : ∃ z, z = K5 + (((Ty.sl 5 (Ty.int .u8)).cnt false x_5 : Nat) : Int) := ⟨_, rfl⟩
  obtain ⟨K7, hK7⟩ : ∃ z, z = K6 + (((Ty.sl 5 (Ty.int .u8)).cnt false x_6 : Nat) : Int) := ⟨_, rfl⟩
  obtain ⟨K8, hK8⟩ : ∃ z, z = K7 + (((Ty.sl 94 tT94).cnt false x_7 : Nat) : Int) := ⟨_, rfl⟩
  have htot : tT72.cnt false (x_0, x_1, x_2, x_3, x_4, x_5, x_6, x_7) = (Ty.int .i64).cnt false x_0 + ((Ty.int .i64).cnt false x_1 + ((Ty.int .i64).cnt false x_2 + ((Ty.int .i64).cnt false x_3 + (Ty.bool.cnt false x_4 + ((Ty.sl 5 (Ty.int .u8)).cnt false x_5 + ((Ty.sl 5 (Ty.int .u8)).cnt false x_6 + ((Ty.sl 94 tT94).cnt false x_7))))))) := rfl
  rw [htot] at hk1 ⊢
  have hKl : K0 + (((Ty.int .i64).cnt false x_0 + ((Ty.int .i64).cnt false x_1 + ((Ty.int .i64).cnt false x_2 + ((Ty.int .i64).cnt false x_3 + (Ty.bool.cnt false x_4 + ((Ty.sl 5 (Ty.int .u8)).cnt false x_5 + ((Ty.sl 5 (Ty.int .u8)).cnt false x_6 + ((Ty.sl 94 tT94).cnt false x_7))))))) : Nat) : Int) = K8 := by push_cast; omega
  rw [hKl] at hk1 ⊢
  have u7' : K7 ≤ 2147483648 := dn_step hK8 hk1
  have u6' : K6 ≤ 2147483648 := dn_step hK7 u7'
  have u5' : K5 ≤ 2147483648 := dn_step hK6 u6'
  have u4' : K4 ≤ 2147483648 := dn_step hK5 u5'
  have u3' : K3 ≤ 2147483648 := dn_step hK4 u4'
  have u2' : K2 ≤ 2147483648 := dn_step hK3 u3'
  have u1' : K1 ≤ 2147483648 := dn_step hK2 u2'
  have u0' : K0 ≤ 2147483648 := dn_step hK1 u1'
  have u8' := hk1
  have p0' : 0 ≤ K0 := hk0
  have p1' := up_step hK1 p0'
  have p2' := up_step hK2 p1'
  have p3' := up_step hK3 p2'
  have p4' := up_step hK4 p3'
  have p5' := up_step hK5 p4'
  have p6' := up_step hK6 p5'
  have p7' := up_step hK7 p6'
  have p8' := up_step hK8 p7'
  have hmk : tT72.mk false K0 (x_0, x_1, x_2, x_3, x_4, x_5, x_6, x_7) = (x_0, x_1, x_2, x_3, x_4, ((Ty.sl 5 (Ty.int .u8)).mk false K5 x_5), ((Ty.sl 5 (Ty.int .u8)).mk false K6 x_6), ((Ty.sl 94 tT94).mk false K7 x_7)) := by rw [mk_pair, ← hK1, mk_pair, ← hK2, mk_pair, ← hK3, mk_pair, ← hK4, mk_pair, ← hK5, mk_pair, ← hK6, mk_pair, ← hK7]; rfl
  rw [hmk] at hd
  obtain ⟨vx_5, vx_6, vx_7, bx_5, bx_6, bx_7, rfl, rfl, hx_5, hx_6, hx_7, ix_0, ix_1, ix_2, ix_3⟩ := o72 hd
  have ox_5 := hx_5.sl_one
  have ox_6 := hx_6.sl_one
  have ox_7 := hx_7.sl_one
  let A0 : AH := H.push (.cells 72 false [.int .i64 x_0, .int .i64 x_1, .int .i64 x_2, .int .i64 x_3, .bool x_4, vx_5, vx_6, vx_7])
  have P0 : Kp H A0 := (Kp.refl H).push _
  have g0 : A0.get H.next = some (.cells 72 false [.int .i64 x_0, .int .i64 x_1, .int .i64 x_2, .int .i64 x_3, .bool x_4, vx_5, vx_6, vx_7]) := by simp [A0]
  have nx : A0.next = H.next + 1 := rfl
  have s5 := heldByteS_h (hx_5.kp (hK.trans P0)) hbx_5 p5' (le_of_eq_of_le hK6.symm u6') m (by omega)
  have e5 : K5 + (((Ty.sl 5 (Ty.int .u8)).cnt true x_5 : Nat) : Int) = K6 := hK6.symm
  rw [e5] at s5
  have p5 : ¬ (K6 < 0) := Int.not_lt.2 p6'
  have s6 := heldByteS_h (hx_6.kp (hK.trans P0)) hbx_6 p6' (le_of_eq_of_le hK7.symm u7') m (by omega)
  have e6 : K6 + (((Ty.sl 5 (Ty.int .u8)).cnt true x_6 : Nat) : Int) = K7 := hK7.symm
  rw [e6] at s6
  have p6 : ¬ (K7 < 0) := Int.not_lt.2 p7'
  have s7 := heldRangeS_h (hx_7.kp (hK.trans P0)) hbx_7 p7' (le_of_eq_of_le hK8.symm u8') m (by omega)
  have e7 : K7 + (((Ty.sl 94 tT94).cnt true x_7 : Nat) : Int) = K8 := hK8.symm
  rw [e7] at s7
  have p7 : ¬ (K8 < 0) := Int.not_lt.2 p8'
  refine ⟨A0, ?_, P0⟩
  rw [ev_eq Try.func46 ok46 m _ H (by simp [Try.f46])]
  simp only [A0] at *
  simp only [hk10, hk11, hk12, hk13, hk14] at *
  simp [Try.f46, ldVar, evHist, ObsOk, ObOk, g0, ox_5, ox_6, ox_7, s5, p5, s6, p6, s7, p7]
end Go.Ev

/- Bytes: the laws' helpers. -/
namespace Go.Ev
open Go Go.Proofs
set_option linter.unusedSimpArgs false
set_option linter.unusedVariables false

/-- s shows the bytes l -/
abbrev Bs (H : AH) (s : AV) (l : List Int) : Prop := Sl Try.prog 34 5 H s (u8L l)
theorem Bs.len {H : AH} {s : AV} {l : List Int} (h : Bs H s l) (h' : AH) : lenA Try.prog 34 s h' = some (.int .i64 l.length) := by
  have := Sl.len h h'
  simpa [u8L] using this
theorem Bs.at_ {H : AH} {s : AV} {l : List Int} (h : Bs H s l) : ∃ b o, (0 < l.length → b < H.next) ∧ (∀ i : Nat, i < l.length → idxA Try.prog 34 s (.int .i64 i) = some (.ptr b (o + i))) ∧
    ∀ h' : AH, h'.get b = H.get b → ∀ i (hi : i < l.length), ldVar Try.prog 5 b (o + i) h' = some (.int .u8 l[i]) := by
  obtain ⟨b, o, h1, h2, h3⟩ := Sl.at_ h
  have hl : (u8L l).length = l.length := by simp [u8L]
  refine ⟨b, o, by rw [hl] at h1; exact h1, fun i hi => h2 i (by rw [hl]; exact hi), fun h' hh i hi => ?_⟩
  rw [h3 h' hh i (by rw [hl]; exact hi)]
  simp [u8L]
theorem Bs.mk' {H : AH} {b : Nat} {ro : Bool} {l : List Int} (hb : H.get b = some (.cells 5 ro (u8L l))) (hn : b < H.next) : Bs H (.slice b 0 l.length) l := by
  have := Sl.whole (P := Try.prog) (t := 34) (e := 5) (by simp) (by simp) (by simp) hb hn
  rw [u8L_len] at this; exact this

/-! toByteS -/
theorem toByteS_loop {s : AV} {l : List Int} {H : AH} (hs : Bs H s l) (hl : l.length ≤ 70368744177664) (call : CallF) (m : Nat) (hm : l.length + 1 ≤ m) (τ : Tm) (h : AH)
    (t0 : τ 0 = s) (t3 : τ 3 = .slice H.next 0 l.length) (t4 : τ 4 = .int .i64 0) (hK : Kp H h) (hN : h.next = H.next + 1) (hg : h.get H.next = some (.cells 5 false (List.replicate l.length (.int .u8 0)))) :
    ∃ e τ' H', evLoop Try.prog call m (lp Try.prog 40 58) τ h = some (e, τ', H') ∧ e = .exit 0 ∧ τ' 3 = .slice H.next 0 l.length ∧ Kp H H' ∧ H'.next = H.next + 1 ∧ H'.get H.next = some (.cells 5 false (u8L l)) := by
  refine loop_rule
    (fun d τ h => ∃ k : Nat, k + d = l.length ∧ τ 0 = s ∧ τ 3 = .slice H.next 0 l.length ∧ τ 4 = .int .i64 k ∧ Kp H h ∧ h.next = H.next + 1 ∧ h.get H.next = some (.cells 5 false (u8L (l.take k) ++ List.replicate d (.int .u8 0))))
    (fun e τ h => e = .exit 0 ∧ τ 3 = .slice H.next 0 l.length ∧ Kp H h ∧ h.next = H.next + 1 ∧ h.get H.next = some (.cells 5 false (u8L l)))
    ?_ (d := l.length) ⟨0, Nat.zero_add _, t0, t3, t4, hK, hN, by simpa [u8L] using hg⟩ (by omega)
  rintro d τ h ⟨k, hk, t0, t3, t4, hK, hN, hg⟩
  obtain ⟨b, o, a1, a2, a3⟩ := hs.at_
  by_cases hd : d = 0
  · subst hd
    have : k = l.length := by omega
    subst this
    rewrite [lp40_58]
    simp [Try.f40, t0, t3, t4, hs.len]
    exact ⟨hK, hN, by simpa using hg⟩
  · have hlt : k < l.length := by omega
    have hbn := a1 (by omega)
    have hbk := hK.get b hbn
    have hd0 : 1 ≤ d := by omega
    have hix : idxA Try.prog 34 (.slice H.next 0 l.length) (.int .i64 k) = some (.ptr H.next k) := by simp [idxA, hlt]
    have hst := st_one (P := Try.prog) (t := 5) (o := k) (v := .int .u8 l[k]) hg (by simp) rfl (by simp [u8L]; omega)
    rewrite [lp40_58]
    simp [Try.f40, t0, t3, t4, hs.len, hlt, a2 k hlt, a3 h hbk k hlt, hix, hst, wrap_i64 (n := (k : Int) + 1) (by omega) (by omega)]
    refine ⟨d - 1, by omega, k + 1, by omega, by simp, hK.set (Nat.le_refl _) _, hN, ?_⟩
    obtain ⟨q, rfl⟩ : ∃ q, d = q + 1 := ⟨d - 1, by omega⟩
    rw [List.set_append_right _ _ (by simp [u8L]; omega)]
    have hmin : min k l.length = k := by omega
    simp [u8L, List.replicate_succ, hmin]
    rw [List.take_add_one]
    simp [hlt]
theorem toByteS_ev {s : AV} {l : List Int} {H : AH} (hs : Bs H s l) (hl : l.length ≤ 70368744177664) (m : Nat) (hm : l.length + 1 ≤ m) :
    ∃ H', ev Try.prog (m + 1) 40 [s] H = some (.slice H.next 0 l.length, H') ∧ Kp H H' ∧ H'.next = H.next + 1 ∧ H'.get H.next = some (.cells 5 false (u8L l)) := by
  rw [ev_eq Try.func40 ok40 m _ H (by simp [Try.f40])]
  have h1 : 0 ≤ (l.length : Int) ∧ (l.length : Int) ≤ 281474976710656 := by omega
  simp [Try.f40, h1, hs.len]
  generalize hL : evLoop _ _ _ _ _ _ = R
  obtain ⟨e, τ', H', rfl, rfl, g3, g4, g5, g6⟩ := loop_at hL (toByteS_loop hs hl _ m hm _ _ (by simp) (by simp) (by simp) ((Kp.refl H).push _) rfl (by simp [zerosA_one_eq]))
  simp [g3]
  exact ⟨g4, g5, g6⟩

/-! eqByteS -/
theorem eqByteS_loop {s1 s2 : AV} {l1 l2 : List Int} {H : AH} (h1 : Bs H s1 l1) (h2 : Bs H s2 l2) (hlen : l1.length = l2.length) (hl : l1.length ≤ 70368744177664) (call : CallF) (m : Nat) (hm : l1.length + 1 ≤ m) (τ : Tm)
    (t0 : τ 0 = s1) (t1 : τ 1 = s2) (t5 : τ 5 = .int .i64 0) :
    ∃ e τ' H', evLoop Try.prog call m (lp Try.prog 43 58) τ H = some (e, τ', H') ∧ H' = H ∧ ((e = .exit 0 ∧ l1 = l2) ∨ (e = .ret ∧ τ' 4 = .bool false ∧ l1 ≠ l2)) := by
  refine loop_rule
    (fun d τ h => h = H ∧ ∃ k : Nat, k + d = l1.length ∧ τ 0 = s1 ∧ τ 1 = s2 ∧ τ 5 = .int .i64 k ∧ l1.take k = l2.take k)
    (fun e τ h => h = H ∧ ((e = .exit 0 ∧ l1 = l2) ∨ (e = .ret ∧ τ 4 = .bool false ∧ l1 ≠ l2)))
    ?_ (d := l1.length) ⟨rfl, 0, Nat.zero_add _, t0, t1, t5, by simp⟩ (by omega)
  rintro d τ h ⟨rfl, k, hk, t0, t1, t5, hg⟩
  obtain ⟨b, o, a1, a2, a3⟩ := h1.at_
  obtain ⟨b', o', c1, c2, c3⟩ := h2.at_
  by_cases hd : d = 0
  · subst hd
    have : k = l1.length := by omega
    subst this
    rewrite [lp43_58]
    simp [Try.f43, t0, t1, t5, h1.len, h2.len]
    rw [List.take_length, hlen, List.take_length] at hg; exact hg
  · have hlt : k < l1.length := by omega
    have hlt2 : k < l2.length := by omega
    by_cases he : l1[k] = l2[k]
    · rewrite [lp43_58]
      simp [Try.f43, t0, t1, t5, h1.len, h2.len, hlt, a2 k hlt, a3 h rfl k hlt, c2 k hlt2, c3 h rfl k hlt2, he, wrap_i64 (n := (k : Int) + 1) (by omega) (by omega)]
      refine ⟨d - 1, by omega, k + 1, by omega, by simp, ?_⟩
      rw [List.take_add_one, List.take_add_one, hg]; simp [hlt, hlt2, he]
    · rewrite [lp43_58]
      simp [Try.f43, t0, t1, t5, h1.len, h2.len, hlt, a2 k hlt, a3 h rfl k hlt, c2 k hlt2, c3 h rfl k hlt2, he]
      intro h; apply he; subst h; rfl
theorem eqByteS_ev {s1 s2 : AV} {l1 l2 : List Int} {H : AH} (h1 : Bs H s1 l1) (h2 : Bs H s2 l2) (hl : l1.length ≤ 70368744177664) (m : Nat) (hm : l1.length + 2 ≤ m) :
    ev Try.prog m 43 [s1, s2] H = some (.bool (decide (l1 = l2)), H) := by
  obtain ⟨m, rfl⟩ : ∃ k, m = k + 1 := ⟨m - 1, by omega⟩
  rw [ev_eq Try.func43 ok43 m _ H (by simp [Try.f43])]
  by_cases hlen : l1.length = l2.length
  · simp [Try.f43, h1.len, h2.len, hlen]
    generalize hL : evLoop _ _ _ _ _ _ = R
    obtain ⟨e, τ', H', rfl, rfl, ⟨rfl, g⟩ | ⟨rfl, g, g2⟩⟩ := loop_at hL (eqByteS_loop h1 h2 hlen hl _ m (by omega) _ (by simp) (by simp) (by simp))
    · simp [g]
    · simp [g, g2]
  · have hne : l1 ≠ l2 := fun h => hlen (by rw [h])
    have hlen' : ¬ ((l1.length : Int) = l2.length) := by omega
    simp [Try.f43, h1.len, h2.len, hlen', hne]

/-! markByteS, heldByteS -/
/-- what mark writes -/
def marks (k : Int) (n : Nat) : List Int := (List.range n).map fun (i : Nat) => (k + (i : Int)) % 256
theorem marks_len (k : Int) (n : Nat) : (marks k n).length = n := by simp [marks]
theorem marks_get (k : Int) (n i : Nat) (h : i < n) : (marks k n)[i]'(by simp [marks_len, h]) = (k + i) % 256 := by simp [marks]
theorem marks_succ (k : Int) (n : Nat) : marks k (n + 1) = marks k n ++ [(k + n) % 256] := by simp [marks, List.range_succ]
/-- s is a block of its own, in the span lo .. hi -/
def Ow (lo hi : Nat) (H : AH) (s : AV) (l : List Int) : Prop :=
  (s = .nilSlice ∧ l = []) ∨ ∃ b, lo ≤ b ∧ b < hi ∧ hi ≤ H.next ∧ s = .slice b 0 l.length ∧ H.get b = some (.cells 5 false (u8L l))
theorem Ow.bs {lo hi : Nat} {H : AH} {s : AV} {l : List Int} (h : Ow lo hi H s l) : Bs H s l := by
  rcases h with ⟨rfl, rfl⟩ | ⟨b, h1, h2, h3, rfl, h4⟩
  · exact ⟨by simp, by simp, by simp, .inl ⟨rfl, rfl⟩⟩
  · exact Bs.mk' h4 (by omega)
/-- nothing but the blocks of the span has turned -/
structure Ko (lo hi : Nat) (H H' : AH) : Prop where
  next : H.next ≤ H'.next
  get : ∀ b, b < H.next → (b < lo ∨ hi ≤ b) → H'.get b = H.get b
theorem wrap_u8 (n : Int) : IntKind.u8.wrap n = n % 256 := by rw [IntKind.wrap_u8]
theorem Ow.mark_loop {lo hi b : Nat} {l : List Int} {H : AH} (hb : H.get b = some (.cells 5 false (u8L l))) (hn : b < H.next) (hlo : lo ≤ b) (hhi : b < hi) (hl : l.length ≤ 70368744177664) (k0 : Int) (hk0 : 0 ≤ k0) (hk1 : k0 ≤ 70368744177664)
    (call : CallF) (m : Nat) (hm : l.length + 1 ≤ m) (τ : Tm) (t0 : τ 0 = .slice b 0 l.length) (t1 : τ 1 = .int .i64 k0) (t3 : τ 5 = .int .i64 0) :
    ∃ e τ' H', evLoop Try.prog call m (lp Try.prog 44 26) τ H = some (e, τ', H') ∧ e = .exit 0 ∧ τ' 1 = .int .i64 (k0 + l.length) ∧ Ko lo hi H H' ∧ H'.next = H.next ∧ H'.get b = some (.cells 5 false (u8L (marks k0 l.length))) := by
  refine loop_rule
    (fun d τ h => ∃ k : Nat, k + d = l.length ∧ τ 0 = .slice b 0 l.length ∧ τ 1 = .int .i64 (k0 + k) ∧ τ 5 = .int .i64 k ∧ Ko lo hi H h ∧ h.next = H.next ∧ h.get b = some (.cells 5 false (u8L (marks k0 k ++ l.drop k))))
    (fun e τ h => e = .exit 0 ∧ τ 1 = .int .i64 (k0 + l.length) ∧ Ko lo hi H h ∧ h.next = H.next ∧ h.get b = some (.cells 5 false (u8L (marks k0 l.length))))
    ?_ (d := l.length) ⟨0, Nat.zero_add _, t0, by simp [t1], t3, ⟨Nat.le_refl _, fun _ _ _ => rfl⟩, rfl, by simpa [marks] using hb⟩ (by omega)
  rintro d τ h ⟨k, hk, t0, t1, t3, hK, hN, hg⟩
  by_cases hd : d = 0
  · subst hd
    have : k = l.length := by omega
    subst this
    rewrite [lp44_26]
    simp [Try.f44, t0, t1, t3]
    exact ⟨hK, hN, by simpa using hg⟩
  · have hlt : k < l.length := by omega
    have hd0 : 1 ≤ d := by omega
    have hix : idxA Try.prog 34 (.slice b 0 l.length) (.int .i64 k) = some (.ptr b k) := by simp [idxA, hlt]
    have hst := st_one (P := Try.prog) (t := 5) (o := k) (v := .int .u8 ((k0 + k) % 256)) hg (by simp) rfl (by simp [u8L, marks_len]; omega)
    rewrite [lp44_26]
    simp [Try.f44, t0, t1, t3, hlt, hix, hst, convA, wrap_u8, wrap_i64 (n := (k : Int) + 1) (by omega) (by omega), wrap_i64 (n := k0 + (k : Int) + 1) (by omega) (by omega)]
    refine ⟨d - 1, by omega, k + 1, by omega, by simp; omega, by simp, ⟨hK.next, fun c hc hcc => ?_⟩, hN, ?_⟩
    · rw [AH.set_get, if_neg (by omega)]; exact hK.get c hc hcc
    · obtain ⟨q, rfl⟩ : ∃ q, d = q + 1 := ⟨d - 1, by omega⟩
      rw [marks_succ]
      have hml : (marks k0 k).length = k := marks_len _ _
      simp [u8L, List.set_append_right, hml]
      rw [List.drop_eq_getElem_cons (by simpa using hlt)]
      simp
theorem markByteS_ev {lo hi : Nat} {s : AV} {l : List Int} {H : AH} (h : Ow lo hi H s l) (hl : l.length ≤ 70368744177664) (k0 : Int) (hk0 : 0 ≤ k0) (hk1 : k0 ≤ 70368744177664) (m : Nat) (hm : l.length + 2 ≤ m) :
    ∃ H', ev Try.prog m 44 [s, .int .i64 k0] H = some (.int .i64 (k0 + l.length), H') ∧ Ko lo hi H H' ∧ H'.next = H.next ∧ Ow lo hi H' s (marks k0 l.length) := by
  obtain ⟨m, rfl⟩ : ∃ k, m = k + 1 := ⟨m - 1, by omega⟩
  rcases h with ⟨rfl, rfl⟩ | ⟨b, h1, h2, h3, rfl, h4⟩
  · refine ⟨H, ?_, ⟨Nat.le_refl _, fun _ _ _ => rfl⟩, rfl, .inl ⟨rfl, rfl⟩⟩
    rw [ev_eq Try.func44 ok44 m _ H (by simp [Try.f44])]
    simp [Try.f44]
    generalize hL : evLoop _ _ _ _ _ _ = R
    obtain ⟨e, τ', H', rfl, rfl, rfl, g⟩ := loop_at hL (loop_rule (d := 0) (fun d τ h => h = H ∧ τ 0 = .nilSlice ∧ τ 1 = .int .i64 k0 ∧ τ 5 = .int .i64 0) (fun e τ h => e = .exit 0 ∧ h = H ∧ τ 1 = .int .i64 k0)
      (by
        rintro d τ h ⟨rfl, t0, t1, t5⟩
        rewrite [lp44_26]
        simp [Try.f44, t0, t1, t5]) ⟨rfl, by simp, by simp, by simp⟩ (by simp at hm; omega))
    simp [g]
  · rw [ev_eq Try.func44 ok44 m _ H (by simp [Try.f44])]
    simp [Try.f44]
    generalize hL : evLoop _ _ _ _ _ _ = R
    obtain ⟨e, τ', H', rfl, rfl, g1, g2, g3, g4⟩ := loop_at hL (Ow.mark_loop h4 (by omega) h1 h2 hl k0 hk0 hk1 _ m (by omega) _ (by simp) (by simp) (by simp))
    simp [g1]
    exact ⟨g2, g3, .inr ⟨b, h1, h2, by omega, by simp [marks_len], g4⟩⟩
theorem heldByteS_ev {s : AV} {H : AH} (k0 : Int) (n : Nat) (h : Bs H s (marks k0 n)) (hl : n ≤ 70368744177664) (hk0 : 0 ≤ k0) (hk1 : k0 ≤ 70368744177664) (m : Nat) (hm : n + 2 ≤ m) :
    ev Try.prog m 129 [s, .int .i64 k0] H = some (.int .i64 (k0 + n), H) := by
  obtain ⟨m, rfl⟩ : ∃ k, m = k + 1 := ⟨m - 1, by omega⟩
  rw [ev_eq Try.func129 ok129 m _ H (by simp [Try.f129])]
  simp [Try.f129]
  generalize hL : evLoop _ _ _ _ _ _ = R
  obtain ⟨e, τ', H', rfl, rfl, rfl, g⟩ := loop_at hL (loop_rule (d := n) (fun d τ h => h = H ∧ ∃ k : Nat, k + d = n ∧ τ 0 = s ∧ τ 1 = .int .i64 (k0 + k) ∧ τ 5 = .int .i64 k) (fun e τ h => e = .exit 0 ∧ h = H ∧ τ 1 = .int .i64 (k0 + n))
    (by
      rintro d τ h' ⟨rfl, k, hk, t0, t1, t5⟩
      obtain ⟨b, o, a1, a2, a3⟩ := h.at_
      simp only [marks_len] at a1 a2 a3
      by_cases hd : d = 0
      · subst hd
        have : k = n := by omega
        subst this
        rewrite [lp129_26]
        simp [Try.f129, t0, t1, t5, h.len, marks_len]
      · have hlt : k < n := by omega
        have hd0 : 1 ≤ d := by omega
        rewrite [lp129_26]
        simp [Try.f129, t0, t1, t5, h.len, marks_len, hlt, a2 k hlt, a3 h' rfl k hlt, marks_get, convA, wrap_u8, wrap_i64 (n := (k : Int) + 1) (by omega) (by omega), wrap_i64 (n := k0 + (k : Int) + 1) (by omega) (by omega)]
        exact ⟨d - 1, by omega, k + 1, by omega, by simp; omega, by simp⟩) ⟨rfl, 0, by simp, by simp, by simp, by simp⟩ (by omega))
  simp [g]

theorem Bs.kp {H H' : AH} {s : AV} {l : List Int} (h : Bs H s l) (hK : Kp H H') : Bs H' s l := Sl.kp h hK
theorem Bs.nil (H : AH) : Bs H .nilSlice [] := ⟨by simp, by simp, by simp, .inl ⟨rfl, rfl⟩⟩
theorem Ow.kp {lo hi : Nat} {H H' : AH} {s : AV} {l : List Int} (h : Ow lo hi H s l) (hK : Kp H H') : Ow lo hi H' s l := by
  rcases h with h | ⟨b, h1, h2, h3, h4, h5⟩
  · exact .inl h
  · exact .inr ⟨b, h1, h2, Nat.le_trans h3 hK.next, h4, by rw [hK.get b (by omega)]; exact h5⟩
theorem Ow.ko {lo hi lo' hi' : Nat} {H H' : AH} {s : AV} {l : List Int} (h : Ow lo hi H s l) (hK : Ko lo' hi' H H') (hd : hi ≤ lo' ∨ hi' ≤ lo) : Ow lo hi H' s l := by
  rcases h with h | ⟨b, h1, h2, h3, h4, h5⟩
  · exact .inl h
  · exact .inr ⟨b, h1, h2, Nat.le_trans h3 hK.next, h4, by rw [hK.get b (by omega) (by omega)]; exact h5⟩
theorem Ow.wide {lo hi lo' hi' : Nat} {H : AH} {s : AV} {l : List Int} (h : Ow lo hi H s l) (h1 : lo' ≤ lo) (h2 : hi ≤ hi') (h3 : hi' ≤ H.next) : Ow lo' hi' H s l := by
  rcases h with h | ⟨b, g1, g2, g3, g4, g5⟩
  · exact .inl h
  · exact .inr ⟨b, by omega, by omega, h3, g4, g5⟩
theorem Ko.kp {lo hi : Nat} {A H H' : AH} (h : Kp A H) (k : Ko lo hi H H') (hlo : A.next ≤ lo) : Kp A H' :=
  ⟨Nat.le_trans h.next k.next, fun b hb => by rw [k.get b (by have := h.next; omega) (by omega)]; exact h.get b hb⟩

theorem appBytes {H : AH} {s : AV} {l : List Int} (hs : Bs H s l) (hl : l.length ≤ 70368744177664) {h : AH} (hK : Kp H h) :
    ∃ r H', appA Try.prog 34 34 (.slice h.next 0 0) s (h.push (.cells 5 false [])) = some (r, H') ∧ Kp h H' ∧ Ow h.next H'.next H' r l := by
  have hs' : Bs (h.push (.cells 5 false [])) s l := hs.kp (hK.push _)
  have hn := hs'.news
  rw [u8L_len] at hn
  unfold appA
  simp only [tyE34, tyS5, tyB5, tyZ5, hn]
  by_cases h0 : l.length = 0
  · have : l = [] := List.eq_nil_of_length_eq_zero h0
    subst this
    refine ⟨_, _, rfl, (Kp.refl h).push _, .inr ⟨h.next, Nat.le_refl _, by simp, Nat.le_refl _, rfl, by simp [u8L]⟩⟩
  · simp [h0, hl]
    refine ⟨_, _, ⟨rfl, rfl⟩, ?_, .inr ⟨h.next + 1, by omega, by simp, by simp, rfl, by simp⟩⟩
    exact (((Kp.refl h).push _).kill (Nat.le_refl _)).push _
theorem copied_ev {Hb H : AH} {s : AV} {l : List Int} (hs : Bs Hb s l) (hK : Kp Hb H) (hl : l.length ≤ 70368744177664) (m : Nat) (hm : 1 ≤ m) :
    ∃ r H', ev Try.prog m 163 [s] H = some (r, H') ∧ Kp H H' ∧ Ow H.next H'.next H' r l := by
  obtain ⟨m, rfl⟩ : ∃ k, m = k + 1 := ⟨m - 1, by omega⟩
  obtain ⟨r, H', h1, h2, h3⟩ := appBytes hs hl hK
  refine ⟨r, H', ?_, h2, h3⟩
  rw [ev_eq Try.func163 ok163 m _ H (by simp [Try.f163])]
  simp [Try.f163, h1]
theorem l03Copy_ev {Hb H : AH} {s : AV} {l : List Int} (hs : Bs Hb s l) (hK : Kp Hb H) (hl : l.length ≤ 70368744177664) (m : Nat) (hm : 1 ≤ m) :
    ∃ r H', ev Try.prog m 153 [s] H = some (r, H') ∧ Kp H H' ∧ Ow H.next H'.next H' r l := by
  obtain ⟨m, rfl⟩ : ∃ k, m = k + 1 := ⟨m - 1, by omega⟩
  obtain ⟨r, H', h1, h2, h3⟩ := appBytes hs hl hK
  refine ⟨r, H', ?_, h2, h3⟩
  rw [ev_eq Try.func153 ok153 m _ H (by simp [Try.f153])]
  simp [Try.f153, h1]
theorem tooLong_ev {H : AH} {s : AV} {l : List Int} (hs : Bs H s l) (h : AH) (m : Nat) (hm : 1 ≤ m) :
    ev Try.prog m 125 [s] h = some (.bool (decide (65536 < (l.length : Int))), h) := by
  obtain ⟨m, rfl⟩ : ∃ k, m = k + 1 := ⟨m - 1, by omega⟩
  rw [ev_eq Try.func125 ok125 m _ h (by simp [Try.f125])]
  simp [Try.f125, hs.len]


/-- the number of some bytes, the highest first -/
def valP (l : List Int) : Int := l.foldl (fun v x => v * 256 + x) 0
def By (l : List Int) : Prop := ∀ x ∈ l, 0 ≤ x ∧ x < 256
theorem valP_snoc (l : List Int) (x : Int) : valP (l ++ [x]) = valP l * 256 + x := by simp [valP]
theorem valF_lt : ∀ (l : List Int) (v : Int), By l → 0 ≤ v → 0 ≤ l.foldl (fun v x => v * 256 + x) v ∧ l.foldl (fun v x => v * 256 + x) v < (v + 1) * 256 ^ l.length
  | [], v, _, hv => by simp; omega
  | x :: l, v, h, hv => by
    have h2 := h x (by simp)
    have h1 := valF_lt l (v * 256 + x) (fun y hy => h y (by simp [hy])) (by omega)
    refine ⟨h1.1, Int.lt_of_lt_of_le h1.2 ?_⟩
    rw [List.length_cons, Int.pow_succ]
    have h3 : (0 : Int) ≤ 256 ^ l.length := Int.pow_nonneg (by decide)
    have h4 : (v * 256 + x + 1) * 256 ^ l.length ≤ ((v + 1) * 256) * 256 ^ l.length := Int.mul_le_mul_of_nonneg_right (by omega) h3
    have h5 : (v + 1) * (256 ^ l.length * 256) = ((v + 1) * 256) * 256 ^ l.length := by rw [Int.mul_comm (256 ^ l.length) 256, Int.mul_assoc]
    rw [h5]; exact h4
theorem valP_lt (l : List Int) (h : By l) : 0 ≤ valP l ∧ valP l < 256 ^ l.length := by
  have := valF_lt l 0 h (by omega)
  unfold valP
  simpa using this
theorem By.take {l : List Int} (h : By l) (k : Nat) : By (l.take k) := fun x hx => h x (List.mem_of_mem_take hx)
theorem By.drop {l : List Int} (h : By l) (k : Nat) : By (l.drop k) := fun x hx => h x (List.mem_of_mem_drop hx)
theorem By.at_ {l : List Int} (h : By l) (k : Nat) (hk : k < l.length) : 0 ≤ l[k] ∧ l[k] < 256 := h _ (List.getElem_mem hk)
theorem valP_take_lt {l : List Int} (h : By l) (k n : Nat) (hk : k ≤ n) : 0 ≤ valP (l.take k) ∧ valP (l.take k) < 256 ^ n := by
  have h1 := valP_lt _ (h.take k)
  refine ⟨h1.1, Int.lt_of_lt_of_le h1.2 ?_⟩
  have : (256 : Nat) ^ (l.take k).length ≤ 256 ^ n := Nat.pow_le_pow_right (by omega) (by simp; omega)
  have h3 := Int.ofNat_le.mpr this
  rw [Int.natCast_pow, Int.natCast_pow] at h3
  exact h3
theorem valP_take_succ {l : List Int} (k : Nat) (hk : k < l.length) : valP (l.take (k + 1)) = valP (l.take k) * 256 + l[k] := by
  rw [List.take_add_one, List.getElem?_eq_getElem hk]; exact valP_snoc _ _


abbrev tB : Ty := .sl 5 (.int .u8)
theorem u8_mm : IntKind.min .u8 = 0 ∧ IntKind.max .u8 = 255 := by decide
theorem By.iff (l : List Int) : By l ↔ ∀ d ∈ l, IntKind.min .u8 ≤ d ∧ d ≤ IntKind.max .u8 := by
  rw [u8_mm.1, u8_mm.2]
  constructor
  · intro h d hd; have := h d hd; omega
  · intro h d hd; have := h d hd; omega
theorem tB_bs {H : AH} {s : AV} {l : List Int} {rw : Bool} {bs : List Nat} (h : tB.R rw H [s] l bs) : Bs H s l ∧ By l := by
  rcases h with ⟨h1, h2, h3⟩ | ⟨b, o, ro, xs, b', h1, h2, h3, h4, h5, h6, h7⟩
  · simp only [List.cons.injEq, and_true] at h1; subst h1 h2
    exact ⟨Bs.nil _, by simp [By]⟩
  · simp only [List.cons.injEq, and_true] at h1; subst h1
    simp only [Ty.n, Nat.mul_one] at h6 h7
    obtain ⟨g1, g2, g3⟩ := rows_int.1 h7
    refine ⟨⟨by simp, by simp, by simp, .inr ⟨b, o, ro, xs, by simp [u8L], h3, h4, by simpa [u8L] using h6, by simpa [u8L] using g1⟩⟩, (By.iff l).2 g3⟩
theorem bs_tB {H : AH} {s : AV} {l : List Int} (h : Bs H s l) (hb : By l) : ∃ bs, tB.R false H [s] l bs := by
  rcases h.lie with ⟨rfl, h2⟩ | ⟨b, o, ro, xs, rfl, hn, hb', hl, hx⟩
  · have : l = [] := by simpa [u8L] using h2
    subst this
    exact ⟨[], .inl ⟨rfl, rfl, rfl⟩⟩
  · simp only [u8L_len] at *
    refine ⟨[b], .inr ⟨b, o, ro, xs, [], rfl, rfl, hn, hb', by simp, by simpa [Ty.n] using hl, ?_⟩⟩
    simp only [Ty.n, Nat.mul_one]
    exact rows_int.2 ⟨hx, rfl, (By.iff l).1 hb⟩
theorem tB_one {H : AH} {s : AV} {l : List Int} {bs : List Nat} (h : tB.R true H [s] l bs) : (s = .nilSlice ∧ l = [] ∧ bs = []) ∨ ∃ b, bs = [b] ∧ s = .slice b 0 l.length ∧ b < H.next ∧ H.get b = some (.cells 5 false (u8L l)) := by
  rcases h with ⟨h1, h2, h3⟩ | ⟨b, o, ro, xs, b', h1, h2, h3, h4, h5, h6, h7⟩
  · simp only [List.cons.injEq, and_true] at h1; subst h1 h2 h3
    exact .inl ⟨rfl, rfl, rfl⟩
  · simp only [List.cons.injEq, and_true] at h1; subst h1
    obtain ⟨rfl, rfl, hw⟩ := h5 rfl
    simp only [Ty.n, Nat.mul_one] at h6 h7 hw
    obtain ⟨g1, g2, g3⟩ := rows_int.1 h7
    rw [List.drop_zero, ← hw, List.take_length] at g1
    subst g1 g2
    exact .inr ⟨b, by rw [h2], rfl, h3, h4⟩
theorem one_tB {H : AH} {l : List Int} {b : Nat} (hn : b < H.next) (hg : H.get b = some (.cells 5 false (u8L l))) (hb : By l) : tB.R true H [.slice b 0 l.length] l [b] := by
  refine .inr ⟨b, 0, false, u8L l, [], rfl, rfl, hn, hg, fun _ => ⟨rfl, rfl, by simp [u8L, Ty.n]⟩, by simp [u8L, Ty.n], ?_⟩
  simp only [Ty.n, Nat.mul_one, List.drop_zero]
  have : (u8L l).take l.length = u8L l := by rw [← u8L_len, List.take_length]
  rw [this]
  exact rows_int.2 ⟨rfl, rfl, (By.iff l).1 hb⟩
theorem ow_tB {lo hi : Nat} {H : AH} {s : AV} {l : List Int} (h : Ow lo hi H s l) (hb : By l) : ∃ bs, tB.R true H [s] l bs ∧ bs.Nodup ∧ ∀ b ∈ bs, lo ≤ b ∧ b < hi := by
  rcases h with ⟨rfl, rfl⟩ | ⟨b, h1, h2, h3, rfl, h4⟩
  · exact ⟨[], .inl ⟨rfl, rfl, rfl⟩, by simp, by simp⟩
  · exact ⟨[b], one_tB (by omega) h4 hb, by simp, by simp; omega⟩
theorem marks_by (k : Int) (n : Nat) : By (marks k n) := by
  intro x hx
  simp only [marks, List.mem_map] at hx
  obtain ⟨i, _, rfl⟩ := hx
  omega
theorem mk_tB : ∀ (l : List Int) (k : Int), tB.mk false k l = marks k l.length
  | [], k => rfl
  | d :: l, k => by
    have h := mk_tB l (k + 1)
    have e : tB.mk false k (d :: l) = (k % 256) :: tB.mk false (k + 1) l := by
      show mkRow _ _ _ _ = _
      simp only [mkRow, Ty.mk, Ty.cnt]
      simp [IntKind.wrap_u8]
    rw [e, h, List.length_cons, marks, marks, List.range_succ_eq_map]
    simp
    intro a _; congr 1; omega
theorem cnt_tB (l : List Int) : tB.cnt false l = l.length := cnt_int _ l
/-- markByteS -/
theorem markB {H : AH} {s : AV} {l : List Int} {bs : List Nat} (h : tB.R true H [s] l bs) (hl : l.length ≤ 70368744177664) (k : Int) (hk0 : 0 ≤ k) (hk1 : k ≤ 70368744177664) (m : Nat) (hm : l.length + 2 ≤ m) :
    ∃ H', ev Try.prog m 44 [s, .int .i64 k] H = some (.int .i64 (k + (tB.cnt false l : Nat)), H') ∧ KoL bs H H' ∧ tB.R true H' [s] (tB.mk false k l) bs := by
  rw [mk_tB, cnt_tB]
  rcases tB_one h with ⟨rfl, rfl, rfl⟩ | ⟨b, rfl, rfl, hn, hg⟩
  · obtain ⟨H', g1, g2, g3, g4⟩ := markByteS_ev (lo := H.next) (hi := H.next) (H := H) (s := .nilSlice) (l := []) (.inl ⟨rfl, rfl⟩) (by simp) k hk0 hk1 m hm
    exact ⟨H', g1, ⟨g3, fun b hb _ => g2.get b hb (by omega)⟩, .inl ⟨rfl, rfl, rfl⟩⟩
  · obtain ⟨H', g1, g2, g3, g4⟩ := markByteS_ev (lo := b) (hi := b + 1) (.inr ⟨b, Nat.le_refl _, by omega, by omega, rfl, hg⟩) hl k hk0 hk1 m hm
    refine ⟨H', g1, ⟨g3, fun c hc hcb => g2.get c hc (by simp at hcb; omega)⟩, ?_⟩
    rcases g4 with ⟨e1, e2⟩ | ⟨b', q1, q2, q3, q4, q5⟩
    · simp at e1
    · have : b' = b := by omega
      subst this
      have := one_tB (by omega) q5 (marks_by _ _)
      rw [marks_len] at this
      exact this
/-- heldByteS -/
theorem heldB {H : AH} {s : AV} {l : List Int} {bs : List Nat} {rw : Bool} {k : Int} (h : tB.R rw H [s] (tB.mk false k l) bs) (hl : l.length ≤ 70368744177664) (hk0 : 0 ≤ k) (hk1 : k ≤ 70368744177664) (m : Nat) (hm : l.length + 2 ≤ m) :
    ev Try.prog m 129 [s, .int .i64 k] H = some (.int .i64 (k + (tB.cnt false l : Nat)), H) := by
  rw [mk_tB] at h
  rw [cnt_tB]
  exact heldByteS_ev k l.length (tB_bs h).1 hl hk0 hk1 m hm
theorem eqB {H : AH} {s1 s2 : AV} {l1 l2 : List Int} {b1 b2 : List Nat} {r1 r2 : Bool} (h1 : tB.R r1 H [s1] l1 b1) (h2 : tB.R r2 H [s2] l2 b2) (hl : l1.length ≤ 70368744177664) (m : Nat) (hm : l1.length + 2 ≤ m) :
    ev Try.prog m 43 [s1, s2] H = some (.bool (decide (l1 = l2)), H) := eqByteS_ev (tB_bs h1).1 (tB_bs h2).1 hl m hm
theorem toByteS_evm {s : AV} {l : List Int} {Hb H : AH} (hs : Bs Hb s l) (hK : Kp Hb H) (hl : l.length ≤ 1048576) (m : Nat) (hm : l.length + 2 ≤ m) :
    ∃ r H', ev Try.prog m 40 [s] H = some (r, H') ∧ Kp H H' ∧ Ow H.next H'.next H' r l := by
  obtain ⟨m, rfl⟩ : ∃ k, m = k + 1 := ⟨m - 1, by omega⟩
  obtain ⟨H', h1, h2, h3, h4⟩ := toByteS_ev (hs.kp hK) (by omega) m (by omega)
  exact ⟨_, H', h1, h2, .inr ⟨H.next, Nat.le_refl _, by omega, Nat.le_refl _, rfl, h4⟩⟩
/-- toByteS, by kinds -/
theorem toB {s : AV} {l : List Int} {Hb H : AH} (hs : Bs Hb s l) (hb : By l) (hK : Kp Hb H) (hl : l.length ≤ 1048576) (m : Nat) (hm : l.length + 2 ≤ m) :
    ∃ r H' bs, ev Try.prog m 40 [s] H = some (r, H') ∧ Kp H H' ∧ tB.R true H' [r] l bs ∧ bs.Nodup ∧ ∀ b ∈ bs, H.next ≤ b := by
  obtain ⟨r, H', h1, h2, h3⟩ := toByteS_evm hs hK hl m hm
  obtain ⟨bs, g1, g2, g3⟩ := ow_tB h3 hb
  exact ⟨r, H', bs, h1, h2, g1, g2, fun b hb => (g3 b hb).1⟩
theorem cntL_take_succ {α : Type} (c : α → Nat) (l : List α) (k : Nat) (hk : k < l.length) : cntL c (l.take (k + 1)) = cntL c (l.take k) + c l[k] := by
  rw [List.take_add_one, List.getElem?_eq_getElem hk, cntL_app]; simp [cntL]
theorem cntL_take_le {α : Type} (c : α → Nat) (l : List α) (k : Nat) : cntL c (l.take k) ≤ cntL c l := by
  conv => rhs; rw [← List.take_append_drop k l]
  rw [cntL_app]; omega
theorem mkRow_set {α : Type} (f : Int → α → α) (c : α → Nat) (k0 : Int) (l : List α) (k : Nat) (hk : k < l.length) :
    (mkRow f c k0 (l.take k) ++ l.drop k).set k (f (k0 + (cntL c (l.take k) : Nat)) l[k]) = mkRow f c k0 (l.take (k + 1)) ++ l.drop (k + 1) := by
  have hl : (mkRow f c k0 (l.take k)).length = k := by rw [mkRow_len]; simp; omega
  rw [List.set_append_right _ _ (by omega), hl, Nat.sub_self, List.drop_eq_getElem_cons hk, List.set_cons_zero, List.take_add_one, List.getElem?_eq_getElem hk, mkRow_app]
  simp [mkRow]
theorem mkRow_at {α : Type} (f : Int → α → α) (c : α → Nat) (k0 : Int) (l : List α) (k : Nat) (hk : k < l.length) (hk' : k < (mkRow f c k0 (l.take k) ++ l.drop k).length) : (mkRow f c k0 (l.take k) ++ l.drop k)[k] = l[k] := by
  have hl : (mkRow f c k0 (l.take k)).length = k := by rw [mkRow_len]; simp; omega
  rw [List.getElem_append_right (by omega)]
  simp [hl]
theorem mkRow_get {α : Type} (f : Int → α → α) (c : α → Nat) : ∀ (l : List α) (k0 : Int) (k : Nat) (hk : k < l.length) (hk' : k < (mkRow f c k0 l).length), (mkRow f c k0 l)[k] = f (k0 + (cntL c (l.take k) : Nat)) l[k]
  | d :: l, k0, 0, hk, hk' => by simp [mkRow, cntL]
  | d :: l, k0, k + 1, hk, hk' => by
    simp only [mkRow, List.getElem_cons_succ]
    rw [mkRow_get f c l (k0 + c d) k (by simpa using hk)]
    simp only [List.take_succ_cons, cntL]
    congr 1; push_cast; omega

end Go.Ev

/- Bits: some laws of whole numbers. -/
namespace Go.Ev
open Go Go.RowKit
theorem or_byte {u x : Int} (hu : 0 ≤ u) (hu2 : u < 72057594037927936) (hx : 0 ≤ x) (hx2 : x < 256) : bits .or .u64 (u * 256) x = u * 256 + x := by
  obtain ⟨a, rfl⟩ := Int.eq_ofNat_of_zero_le hu
  obtain ⟨b, rfl⟩ := Int.eq_ofNat_of_zero_le hx
  have h := bits_or_u64_nat (2 ^ 8 * a) b (by omega) (by omega)
  rw [← Nat.two_pow_add_eq_or_of_lt (by omega : b < 2 ^ 8)] at h
  have e1 : ((2 ^ 8 * a : Nat) : Int) = (a : Int) * 256 := by omega
  rw [e1] at h
  rw [h]; omega
theorem and_mask {v : Int} (k : Nat) (hk : k ≤ 62) : bits .and .i64 v (2 ^ k - 1) = v % 2 ^ k := by
  have hm : ((2 : Int) ^ k - 1) = ((2 ^ k - 1 : Nat) : Int) := by
    have : 1 ≤ 2 ^ k := Nat.one_le_two_pow
    rw [Int.ofNat_sub this]; simp
  show IntKind.i64.wrap ((BitVec.ofInt 64 v &&& BitVec.ofInt 64 (2 ^ k - 1)).toNat : Int) = _
  have h2 : (BitVec.ofInt 64 (2 ^ k - 1)).toNat = 2 ^ k - 1 := by
    rw [hm, BitVec.ofInt_natCast, BitVec.toNat_ofNat]
    refine Nat.mod_eq_of_lt ?_
    have : 2 ^ k ≤ 2 ^ 62 := Nat.pow_le_pow_right (by omega) hk
    omega
  rw [BitVec.toNat_and, h2, Nat.and_two_pow_sub_one_eq_mod]
  have h3 : ((BitVec.ofInt 64 v).toNat : Int) = v % 18446744073709551616 := by
    rw [BitVec.toNat_ofInt]
    have := Int.emod_nonneg v (by decide : (18446744073709551616 : Int) ≠ 0)
    simp
    omega
  have hp : (2 : Int) ^ k ≤ 2 ^ 62 := by
    have : 2 ^ k ≤ 2 ^ 62 := Nat.pow_le_pow_right (by omega) hk
    exact_mod_cast this
  have hp0 : (0 : Int) < 2 ^ k := by
    have : 0 < 2 ^ k := Nat.two_pow_pos k
    exact_mod_cast this
  have h4 : ((((BitVec.ofInt 64 v).toNat % 2 ^ k : Nat)) : Int) = v % 2 ^ k := by
    rw [Int.natCast_emod, h3]
    have hd : (2 : Int) ^ k ∣ 18446744073709551616 := by
      have : (18446744073709551616 : Int) = 2 ^ k * 2 ^ (64 - k) := by
        rw [← Int.pow_add, show k + (64 - k) = 64 by omega]; rfl
      exact ⟨_, this⟩
    have hc : ((2 ^ k : Nat) : Int) = (2 : Int) ^ k := by norm_cast
    rw [hc]
    exact Int.emod_emod_of_dvd _ hd
  rw [h4, IntKind.wrap_i64]
  have h5 := Int.emod_nonneg v (Int.ne_of_gt hp0)
  have h6 := Int.emod_lt_of_pos v hp0
  have h7 : (2 : Int) ^ 62 = 4611686018427387904 := by decide
  omega
theorem and_m6 (v : Int) : bits .and .i64 (IntKind.i64.wrap v) 63 = v % 64 := by
  rw [show (63 : Int) = 2 ^ 6 - 1 by decide, and_mask 6 (by decide), IntKind.wrap_i64]; omega
theorem and_m14 (v : Int) : bits .and .i64 (IntKind.i64.wrap v) 16383 = v % 16384 := by
  rw [show (16383 : Int) = 2 ^ 14 - 1 by decide, and_mask 14 (by decide), IntKind.wrap_i64]; omega
theorem and_m30 (v : Int) : bits .and .i64 (IntKind.i64.wrap v) 1073741823 = v % 1073741824 := by
  rw [show (1073741823 : Int) = 2 ^ 30 - 1 by decide, and_mask 30 (by decide), IntKind.wrap_i64]; omega
theorem and_m62 (v : Int) : bits .and .i64 (IntKind.i64.wrap v) 4611686018427387903 = v % 4611686018427387904 := by
  rw [show (4611686018427387903 : Int) = 2 ^ 62 - 1 by decide, and_mask 62 (by decide), IntKind.wrap_i64]; omega
end Go.Ev

/- Numbers of bytes: seat a's text with this seat's numbers (port.py). -/
namespace Go.Ev
open Go Go.Proofs
set_option linter.unusedSimpArgs false
set_option linter.unusedVariables false
theorem unfixed_ev {Hb H : AH} {s : AV} {l : List Int} (hs : Bs Hb s l) (hK : Kp Hb H) (hb : By l) (hl : l.length ≤ 8) (m : Nat) (hm : 10 ≤ m) :
    ev Try.prog m 162 [s] H = some (.int .i64 (IntKind.i64.wrap (valP l)), H) := by
  obtain ⟨m, rfl⟩ : ∃ k, m = k + 1 := ⟨m - 1, by omega⟩
  have hs := hs.kp hK
  rw [ev_eq Try.func162 ok162 m _ H (by simp [Try.f162])]
  simp [Try.f162, hs.len]
  generalize hL : evLoop _ _ _ _ _ _ = R
  obtain ⟨e, τ', H', rfl, rfl, rfl, g⟩ := loop_at hL (loop_rule (d := l.length) (fun d τ h => h = H ∧ ∃ k : Nat, k + d = l.length ∧ τ 6 = s ∧ τ 7 = .int .i64 l.length ∧ τ 8 = .int .i64 k ∧ τ 3 = .int .u64 (valP (l.take k))) (fun e τ h => e = .exit 0 ∧ h = H ∧ τ 3 = .int .u64 (valP l))
    (by
      rintro d τ h' ⟨rfl, k, hk, t6, t7, t8, t3⟩
      obtain ⟨b, o, a1, a2, a3⟩ := hs.at_
      by_cases hd : d = 0
      · subst hd
        have : k = l.length := by omega
        subst this
        rewrite [lp162_58]
        simp [Try.f162, t6, t7, t8, t3]
      · have hlt : k < l.length := by omega
        have hd0 : 1 ≤ d := by omega
        have hv := valP_take_lt hb k 7 (by omega)
        have hx := hb.at_ k hlt
        have w1 : IntKind.u64.wrap (valP (l.take k) * 256) = valP (l.take k) * 256 := by rw [IntKind.wrap_u64]; omega
        have w2 : IntKind.u64.wrap l[k] = l[k] := by rw [IntKind.wrap_u64]; omega
        have w3 := or_byte (u := valP (l.take k)) (x := l[k]) hv.1 (by simpa using hv.2) hx.1 hx.2
        rewrite [lp162_58]
        simp [Try.f162, t6, t7, t8, t3, hlt, a2 k hlt, a3 h' rfl k hlt, convA, IntKind.bits, w1, w2, w3, wrap_i64 (n := (k : Int) + 1) (by omega) (by omega)]
        exact ⟨d - 1, by omega, k + 1, by omega, by simp, by rw [valP_take_succ k hlt]⟩) ⟨rfl, 0, by simp, by simp, by simp, by simp, by simp [valP]⟩ (by omega))
  simp [g, convA]
theorem l01Value_ev {Hb H : AH} {s : AV} {l : List Int} (hs : Bs Hb s l) (hK : Kp Hb H) (hb : By l) (hl : l.length ≤ 4) (m : Nat) (hm : 10 ≤ m) :
    ev Try.prog m 214 [s] H = some (.int .i64 (valP l), H) := by
  obtain ⟨m, rfl⟩ : ∃ k, m = k + 1 := ⟨m - 1, by omega⟩
  have hs := hs.kp hK
  rw [ev_eq Try.func214 ok214 m _ H (by simp [Try.f214])]
  simp [Try.f214]
  generalize hL : evLoop _ _ _ _ _ _ = R
  obtain ⟨e, τ', H', rfl, rfl, rfl, g⟩ := loop_at hL (loop_rule (d := l.length) (fun d τ h => h = H ∧ ∃ k : Nat, k + d = l.length ∧ τ 0 = s ∧ τ 4 = .int .i64 k ∧ τ 3 = .int .i64 (valP (l.take k))) (fun e τ h => e = .exit 0 ∧ h = H ∧ τ 3 = .int .i64 (valP l))
    (by
      rintro d τ h' ⟨rfl, k, hk, t0, t4, t3⟩
      obtain ⟨b, o, a1, a2, a3⟩ := hs.at_
      by_cases hd : d = 0
      · subst hd
        have : k = l.length := by omega
        subst this
        rewrite [lp214_58]
        simp [Try.f214, t0, t4, t3, hs.len]
      · have hlt : k < l.length := by omega
        have hd0 : 1 ≤ d := by omega
        have hv := valP_take_lt hb k 3 (by omega)
        have hx := hb.at_ k hlt
        rewrite [lp214_58]
        simp [Try.f214, t0, t4, t3, hs.len, hlt, a2 k hlt, a3 h' rfl k hlt, convA, wrap_i64 (n := valP (l.take k) * 256) (by omega) (by omega), wrap_i64 (n := l[k]) (by omega) (by omega), wrap_i64 (n := valP (l.take k) * 256 + l[k]) (by omega) (by omega), wrap_i64 (n := (k : Int) + 1) (by omega) (by omega)]
        exact ⟨d - 1, by omega, k + 1, by omega, by simp, by rw [valP_take_succ k hlt]⟩) ⟨rfl, 0, by simp, by simp, by simp, by simp [valP]⟩ (by omega))
  simp [g]
end Go.Ev

/- The program's GetVar: seat a's text with this seat's numbers (port.py). -/
namespace Go.Ev
open Go Go.Proofs
set_option linter.unusedSimpArgs false
set_option linter.unusedVariables false

def gvN (x : Int) : Nat := 2 ^ (x / 64).toNat
/-- value, end, code -/
def getVarP (l : List Int) (at_ : Nat) : Int × Int × Int :=
  if at_ = l.length then (0, 0, 2)
  else if (l.length : Int) - at_ < gvN (l.getD at_ 0) then (0, 0, 2)
  else (valP ((l.drop at_).take (gvN (l.getD at_ 0))) % 2 ^ (8 * gvN (l.getD at_ 0) - 2), at_ + gvN (l.getD at_ 0), 0)

theorem valF_eq : ∀ (l : List Int) (v : Int), l.foldl (fun v x => v * 256 + x) v = v * 256 ^ l.length + valP l
  | [], v => by simp [valP]
  | x :: l, v => by
    have h1 := valF_eq l (v * 256 + x)
    have h2 := valF_eq l x
    have h3 : valP (x :: l) = l.foldl (fun v x => v * 256 + x) x := by simp [valP]
    rw [h3, h2, List.foldl_cons, h1, List.length_cons, Int.pow_succ, Int.add_mul, Int.mul_comm (256 ^ l.length) 256, ← Int.mul_assoc]
    omega
theorem valP_cons (x : Int) (l : List Int) : valP (x :: l) = x * 256 ^ l.length + valP l := by
  have h3 : valP (x :: l) = l.foldl (fun v x => v * 256 + x) x := by simp [valP]
  rw [h3, valF_eq]

theorem GetVarI_ev {Hb H : AH} {s : AV} {l : List Int} (hs : Bs Hb s l) (hK : Kp Hb H) (hb : By l) (hl : l.length ≤ 65536) (a : Nat) (ha : a ≤ l.length) (m : Nat) (hm : 20 ≤ m) :
    ev Try.prog m 187 [s, .int .i64 a] H = some (.tuple [.int .i64 (getVarP l a).1, .int .i64 (getVarP l a).2.1, .int .i64 (getVarP l a).2.2], H) := by
  obtain ⟨m, rfl⟩ : ∃ k, m = k + 1 := ⟨m - 1, by omega⟩
  have hs := hs.kp hK
  have c1 := tooLong_ev hs H m (by omega)
  have n1 : ¬ (65536 < (l.length : Int)) := by omega
  have n2 : ¬ ((a : Int) < 0) := by omega
  have n3 : ¬ ((l.length : Int) < a) := by omega
  simp only [n1, decide_false] at c1
  rw [ev_eq Try.func187 ok187 m _ H (by simp [Try.f187])]
  by_cases he : a = l.length
  · subst he
    simp [Try.f187, hs.len, c1, getVarP]
  · have hlt : a < l.length := by omega
    have he' : ¬ ((a : Int) = l.length) := by omega
    have hx := hb.at_ a hlt
    have hD : l.getD a 0 = l[a] := by simp [List.getD_eq_getElem?_getD, hlt]
    obtain ⟨b, o, a1, a2, a3⟩ := hs.at_
    obtain ⟨Q, hQ⟩ : ∃ Q : Nat, l[a] / 64 = Q := ⟨(l[a] / 64).toNat, by omega⟩
    have hf : l[a].fdiv 64 = Q := by rw [Int.fdiv_eq_ediv_of_nonneg _ (by decide)]; exact hQ
    have hN : gvN l[a] = 2 ^ Q := by unfold gvN; rw [hQ]; rfl
    have w0 : IntKind.i64.wrap ((l.length : Int) - a) = l.length - a := wrap_i64 (by omega) (by omega)
    have main : ∀ (n : Nat) (N : Int), N = n → (n = 1 ∨ n = 2 ∨ n = 4 ∨ n = 8) → ¬ ((l.length : Int) - a < N) → ∃ s', cutA Try.prog 34 s (some (some (.int .i64 a))) (some (some (.int .i64 (a + N)))) H = some s' ∧ ev Try.prog m 162 [s'] H = some (.int .i64 (IntKind.i64.wrap (valP ((l.drop a).take n))), H) := by
      intro n N hN hn hle
      subst hN
      obtain ⟨s', k1, k2⟩ := hs.cut a (a + n) (by omega) (by rw [u8L_len]; omega) (lo := some (some (.int .i64 a))) (hi := some (some (.int .i64 (a + n)))) (by simp) (by simp)
      refine ⟨s', k1, ?_⟩
      have k3 : Bs H s' ((l.drop a).take n) := by
        have : (List.take (a + n) (u8L l)).drop a = u8L ((l.drop a).take n) := by
          simp [u8L, List.drop_take]
        rw [this] at k2; exact k2
      exact unfixed_ev k3 (Kp.refl H) ((hb.drop a).take n) (by simp; omega) m (by omega)
    have hQ4 : Q = 0 ∨ Q = 1 ∨ Q = 2 ∨ Q = 3 := by omega
    simp only [getVarP, hD, hN, he]
    rcases hQ4 with rfl | rfl | rfl | rfl
    · by_cases hle : (l.length : Int) - a < 1
      · simp [Try.f187, hs.len, c1, n2, n3, he', hlt, a2 a hlt, a3 H rfl a hlt, hf, IntKind.bits, w0, hle, wrap_i64 (n := 1) (by omega) (by omega)]
      · obtain ⟨s', k1, k2⟩ := main 1 1 rfl (by omega) hle
        have w1 : IntKind.i64.wrap ((a : Int) + 1) = a + 1 := wrap_i64 (by omega) (by omega)
        simp [Try.f187, hs.len, c1, n2, n3, he', hlt, a2 a hlt, a3 H rfl a hlt, hf, IntKind.bits, w0, hle, wrap_i64 (n := 1) (by omega) (by omega), evHist, ObsOk, ObOk, w1, k1, k2, wrap_i64 (n := 8) (by omega) (by omega), wrap_i64 (n := 6) (by omega) (by omega), wrap_i64 (n := 64) (by omega) (by omega), wrap_i64 (n := 63) (by omega) (by omega), and_m6]
    · by_cases hle : (l.length : Int) - a < 2
      · simp [Try.f187, hs.len, c1, n2, n3, he', hlt, a2 a hlt, a3 H rfl a hlt, hf, IntKind.bits, w0, hle, wrap_i64 (n := 2) (by omega) (by omega)]
      · obtain ⟨s', k1, k2⟩ := main 2 2 rfl (by omega) hle
        have w1 : IntKind.i64.wrap ((a : Int) + 2) = a + 2 := wrap_i64 (by omega) (by omega)
        simp [Try.f187, hs.len, c1, n2, n3, he', hlt, a2 a hlt, a3 H rfl a hlt, hf, IntKind.bits, w0, hle, wrap_i64 (n := 2) (by omega) (by omega), evHist, ObsOk, ObOk, w1, k1, k2, wrap_i64 (n := 16) (by omega) (by omega), wrap_i64 (n := 14) (by omega) (by omega), wrap_i64 (n := 16384) (by omega) (by omega), wrap_i64 (n := 16383) (by omega) (by omega), and_m14]
    · by_cases hle : (l.length : Int) - a < 4
      · simp [Try.f187, hs.len, c1, n2, n3, he', hlt, a2 a hlt, a3 H rfl a hlt, hf, IntKind.bits, w0, hle, wrap_i64 (n := 4) (by omega) (by omega)]
      · obtain ⟨s', k1, k2⟩ := main 4 4 rfl (by omega) hle
        have w1 : IntKind.i64.wrap ((a : Int) + 4) = a + 4 := wrap_i64 (by omega) (by omega)
        simp [Try.f187, hs.len, c1, n2, n3, he', hlt, a2 a hlt, a3 H rfl a hlt, hf, IntKind.bits, w0, hle, wrap_i64 (n := 4) (by omega) (by omega), evHist, ObsOk, ObOk, w1, k1, k2, wrap_i64 (n := 32) (by omega) (by omega), wrap_i64 (n := 30) (by omega) (by omega), wrap_i64 (n := 1073741824) (by omega) (by omega), wrap_i64 (n := 1073741823) (by omega) (by omega), and_m30]
    · by_cases hle : (l.length : Int) - a < 8
      · simp [Try.f187, hs.len, c1, n2, n3, he', hlt, a2 a hlt, a3 H rfl a hlt, hf, IntKind.bits, w0, hle, wrap_i64 (n := 8) (by omega) (by omega)]
      · obtain ⟨s', k1, k2⟩ := main 8 8 rfl (by omega) hle
        have w1 : IntKind.i64.wrap ((a : Int) + 8) = a + 8 := wrap_i64 (by omega) (by omega)
        simp [Try.f187, hs.len, c1, n2, n3, he', hlt, a2 a hlt, a3 H rfl a hlt, hf, IntKind.bits, w0, hle, wrap_i64 (n := 8) (by omega) (by omega), evHist, ObsOk, ObOk, w1, k1, k2, wrap_i64 (n := 64) (by omega) (by omega), wrap_i64 (n := 62) (by omega) (by omega), wrap_i64 (n := 4611686018427387904) (by omega) (by omega), wrap_i64 (n := 4611686018427387903) (by omega) (by omega), and_m62]
end Go.Ev

/- The specification's GetVar: seat a's text with this seat's numbers (port.py). -/
namespace Go.Ev
open Go Go.Proofs
set_option linter.unusedSimpArgs false
set_option linter.unusedVariables false

theorem gv_loop1 (Q : Nat) (hQ : Q ≤ 3) (call : CallF) (m : Nat) (hm : 10 ≤ m) (τ : Tm) (H : AH) (t8 : τ 8 = .int .i64 Q) (t7 : τ 7 = .int .i64 1) (s a : AV) (t0 : τ 0 = s) (t1 : τ 1 = a) :
    ∃ e τ' H', evLoop Try.prog call m (lp Try.prog 271 506) τ H = some (e, τ', H') ∧ e = .exit 0 ∧ H' = H ∧ τ' 7 = .int .i64 (2 ^ Q : Nat) ∧ τ' 0 = s ∧ τ' 1 = a := by
  refine loop_rule (d := Q) (fun d τ h => h = H ∧ d ≤ Q ∧ τ 8 = .int .i64 d ∧ τ 7 = .int .i64 (2 ^ (Q - d) : Nat) ∧ τ 0 = s ∧ τ 1 = a) (fun e τ h => e = .exit 0 ∧ h = H ∧ τ 7 = .int .i64 (2 ^ Q : Nat) ∧ τ 0 = s ∧ τ 1 = a)
    ?_ ⟨rfl, Nat.le_refl _, t8, by simp [t7], t0, t1⟩ (by omega)
  rintro d τ h' ⟨rfl, hd, t8, t7, t0, t1⟩
  by_cases h0 : d = 0
  · subst h0
    rewrite [lp271_506]
    simp [Try.f271, t7, t8, t0, t1]
  · have h1 : 0 < d := by omega
    have hp : ((2 ^ (Q - (d - 1)) : Nat) : Int) = 2 * (2 ^ (Q - d) : Nat) := by
      rw [show Q - (d - 1) = (Q - d) + 1 by omega, Nat.pow_succ]; omega
    have hb : (2 ^ (Q - d) : Nat) ≤ 8 := by
      have : 2 ^ (Q - d) ≤ 2 ^ 3 := Nat.pow_le_pow_right (by omega) (by omega)
      omega
    have w2 : IntKind.i64.wrap ((d : Int) - 1) = (d - 1 : Nat) := by rw [wrap_i64 (by omega) (by omega)]; omega
    generalize hX : (2 ^ (Q - d) : Nat) = X at *
    generalize hY : (2 ^ (Q - (d - 1)) : Nat) = Y at *
    have w1 : IntKind.i64.wrap (2 * (X : Int)) = (Y : Int) := by rw [hp, wrap_i64 (by omega) (by omega)]
    rewrite [lp271_506]
    simp [Try.f271, t7, t8, t0, t1, h1, w1, w2]
    exact ⟨d - 1, by omega, by omega, rfl, by rw [← hY]; simp⟩
theorem gv_loop2 {s : AV} {l : List Int} {H : AH} (hs : Bs H s l) (hb : By l) (hl : l.length ≤ 65536) (a : Nat) (n : Nat) (hn1 : 1 ≤ n) (hn : n ≤ 8) (ha : a + n ≤ l.length) (x : Int) (hx0 : 0 ≤ x) (hx1 : x < 64) (call : CallF) (m : Nat) (hm : 10 ≤ m) (τ : Tm)
    (t0 : τ 0 = s) (t1 : τ 1 = .int .i64 a) (t7 : τ 7 = .int .i64 n) (t9 : τ 9 = .int .i64 x) (t10 : τ 10 = .int .i64 1) :
    ∃ e τ' H', evLoop Try.prog call m (lp Try.prog 271 4090) τ H = some (e, τ', H') ∧ e = .exit 2 ∧ H' = H ∧ τ' 9 = .int .i64 (((l.drop (a + 1)).take (n - 1)).foldl (fun v x => v * 256 + x) x) ∧ τ' 1 = .int .i64 a ∧ τ' 7 = .int .i64 n := by
  refine loop_rule (d := n - 1) (fun d τ h => h = H ∧ ∃ k : Nat, k + d = n - 1 ∧ τ 0 = s ∧ τ 1 = .int .i64 a ∧ τ 7 = .int .i64 n ∧ τ 10 = .int .i64 (k + 1 : Nat) ∧ τ 9 = .int .i64 (((l.drop (a + 1)).take k).foldl (fun v x => v * 256 + x) x))
    (fun e τ h => e = .exit 2 ∧ h = H ∧ τ 9 = .int .i64 (((l.drop (a + 1)).take (n - 1)).foldl (fun v x => v * 256 + x) x) ∧ τ 1 = .int .i64 a ∧ τ 7 = .int .i64 n)
    ?_ ⟨rfl, 0, by omega, t0, t1, t7, by simp [t10], by simp [t9]⟩ (by omega)
  rintro d τ h' ⟨rfl, k, hk, t0, t1, t7, t10, t9⟩
  obtain ⟨b, o, a1, a2, a3⟩ := hs.at_
  by_cases h0 : d = 0
  · subst h0
    have hkn : k = n - 1 := by omega
    subst hkn
    rw [show n - 1 + 1 = n by omega] at t10
    rewrite [lp271_4090]
    simp [Try.f271, t7, t9, t0, t1, t10]
  · have hd0 : 1 ≤ d := by omega
    have hlt : a + (k + 1) < l.length := by omega
    have hv := valF_lt ((l.drop (a + 1)).take k) x ((hb.drop _).take _) hx0
    have hpk : (256 : Int) ^ ((l.drop (a + 1)).take k).length ≤ 256 ^ 6 := by
      have : (256 : Nat) ^ ((l.drop (a + 1)).take k).length ≤ 256 ^ 6 := Nat.pow_le_pow_right (by omega) (by simp; omega)
      have h3 := Int.ofNat_le.mpr this
      rw [Int.natCast_pow, Int.natCast_pow] at h3
      exact h3
    have hvb : ((l.drop (a + 1)).take k).foldl (fun v x => v * 256 + x) x < 64 * 256 ^ 6 := by
      refine Int.lt_of_lt_of_le hv.2 ?_
      refine Int.le_trans (Int.mul_le_mul_of_nonneg_left hpk (by omega)) ?_
      have : (x + 1) * 256 ^ 6 ≤ 64 * 256 ^ 6 := Int.mul_le_mul_of_nonneg_right (by omega) (by decide)
      exact this
    have hvb' : ((l.drop (a + 1)).take k).foldl (fun v x => v * 256 + x) x < 18014398509481984 := hvb
    have hg : ((l.drop (a + 1)).take (k + 1)).foldl (fun v x => v * 256 + x) x = ((l.drop (a + 1)).take k).foldl (fun v x => v * 256 + x) x * 256 + l[a + (k + 1)] := by
      rw [List.take_add_one, List.getElem?_drop, List.getElem?_eq_getElem (by omega)]
      simp only [Option.toList_some, List.foldl_append, List.foldl_cons, List.foldl_nil]
      congr 2; omega
    have hy := hb.at_ _ hlt
    generalize hV : ((l.drop (a + 1)).take k).foldl (fun v x => v * 256 + x) x = V at *
    have hc : ((k + 1 : Nat) : Int) < (n : Int) := by omega
    have w1 : IntKind.i64.wrap ((a : Int) + ((k + 1 : Nat) : Int)) = (a + (k + 1) : Nat) := by rw [wrap_i64 (by omega) (by omega)]; omega
    have w2 : IntKind.i64.wrap (V * 256) = V * 256 := wrap_i64 (by omega) (by omega)
    have w3 : IntKind.i64.wrap (l[a + (k + 1)]) = l[a + (k + 1)] := wrap_i64 (by omega) (by omega)
    have w4 : IntKind.i64.wrap (V * 256 + l[a + (k + 1)]) = V * 256 + l[a + (k + 1)] := wrap_i64 (by omega) (by omega)
    have w5 : IntKind.i64.wrap (((k + 1 : Nat) : Int) + 1) = (k + 1 + 1 : Nat) := by rw [wrap_i64 (by omega) (by omega)]; omega
    have i1 := a2 _ hlt
    have i2 := a3 h' rfl _ hlt
    generalize hX : (k + 1 : Nat) = X at *
    rw [Int.natCast_add] at i1 w1
    rewrite [lp271_4090]
    simp [Try.f271, t7, t9, t0, t1, t10, hc, w1, i1, i2, w2, w3, w4, w5, convA]
    exact ⟨d - 1, by omega, X, by omega, by omega, by rw [hg]⟩
theorem gv_val {l : List Int} (hb : By l) (a n : Nat) (hn : n = 1 ∨ n = 2 ∨ n = 4 ∨ n = 8) (ha : a + n ≤ l.length) (h : a < l.length) :
    ((l.drop (a + 1)).take (n - 1)).foldl (fun v x => v * 256 + x) (l[a] % 64) = valP ((l.drop a).take n) % 2 ^ (8 * n - 2) := by
  have h1 : (l.drop a).take n = l[a] :: (l.drop (a + 1)).take (n - 1) := by
    obtain ⟨k, rfl⟩ : ∃ k, n = k + 1 := ⟨n - 1, by omega⟩
    rw [List.drop_eq_getElem_cons h, List.take_succ_cons]
    rfl
  have hx := hb.at_ a h
  have hr := valP_lt _ ((hb.drop (a + 1)).take (n - 1))
  have hlen : ((l.drop (a + 1)).take (n - 1)).length = n - 1 := by simp; omega
  rw [h1, valP_cons, valF_eq]
  rw [hlen] at hr ⊢
  generalize valP ((l.drop (a + 1)).take (n - 1)) = V at *
  generalize l[a] = x at *
  rcases hn with rfl | rfl | rfl | rfl
  · simp at hr ⊢; omega
  · simp at hr ⊢; omega
  · simp at hr ⊢; omega
  · simp at hr ⊢; omega
theorem GetVarS_ev {Hb H : AH} {s : AV} {l : List Int} (hs : Bs Hb s l) (hK : Kp Hb H) (hb : By l) (hl : l.length ≤ 65536) (a : Nat) (ha : a ≤ l.length) (m : Nat) (hm : 20 ≤ m) :
    ev Try.prog m 271 [s, .int .i64 a] H = some (.tuple [.int .i64 (getVarP l a).1, .int .i64 (getVarP l a).2.1, .int .i64 (getVarP l a).2.2], H) := by
  obtain ⟨m, rfl⟩ : ∃ k, m = k + 1 := ⟨m - 1, by omega⟩
  have hs := hs.kp hK
  have n1 : ¬ (65536 < (l.length : Int)) := by omega
  have n3 : ¬ ((l.length : Int) < a) := by omega
  rw [ev_eq Try.func271 ok271 m _ H (by simp [Try.f271])]
  by_cases he : a = l.length
  · subst he
    simp [Try.f271, hs.len, n1, getVarP]
  · have hlt : a < l.length := by omega
    have he' : ¬ ((a : Int) = l.length) := by omega
    have hx := hb.at_ a hlt
    have hD : l.getD a 0 = l[a] := by simp [List.getD_eq_getElem?_getD, hlt]
    obtain ⟨b, o, a1, a2, a3⟩ := hs.at_
    obtain ⟨Q, hQ⟩ : ∃ Q : Nat, l[a] / 64 = Q := ⟨(l[a] / 64).toNat, by omega⟩
    have hQ3 : Q ≤ 3 := by omega
    have hf : IntKind.i64.wrap (l[a].tdiv 64) = Q := by rw [Int.tdiv_eq_ediv_of_nonneg hx.1, hQ, wrap_i64 (by omega) (by omega)]
    have hr : IntKind.i64.wrap (l[a].tmod 64) = l[a] % 64 := by rw [Int.tmod_eq_emod_of_nonneg hx.1, wrap_i64 (by omega) (by omega)]
    have hr' : l[a].tmod 64 = l[a] % 64 := by rw [Int.tmod_eq_emod_of_nonneg hx.1]
    have hw : IntKind.i64.wrap l[a] = l[a] := wrap_i64 (by omega) (by omega)
    have hN : gvN l[a] = 2 ^ Q := by unfold gvN; rw [hQ]; rfl
    have hN4 : 2 ^ Q = 1 ∨ 2 ^ Q = 2 ∨ 2 ^ Q = 4 ∨ 2 ^ Q = 8 := by
      have : Q = 0 ∨ Q = 1 ∨ Q = 2 ∨ Q = 3 := by omega
      rcases this with rfl | rfl | rfl | rfl <;> simp
    have w0 : IntKind.i64.wrap ((l.length : Int) - a) = l.length - a := wrap_i64 (by omega) (by omega)
    have hgv := getVarP
    simp [Try.f271, hs.len, n1, n3, he', hlt, a2 a hlt, a3 H rfl a hlt, hf, hw, convA]
    generalize hL : evLoop _ _ _ _ _ _ = R
    obtain ⟨e, τ', H', rfl, rfl, rfl, g7, g0, g1⟩ := loop_at hL (gv_loop1 Q hQ3 _ m (by omega) _ _ (by simp) (by simp) s (.int .i64 a) (by simp) (by simp))
    clear hL
    simp only [getVarP, hD, hN, he]
    generalize hn : 2 ^ Q = n at *
    by_cases hle : (l.length : Int) - a < n
    · simp [g7, g0, g1, hs.len, w0, hle]
    · simp [g7, g0, g1, hs.len, w0, hle, hlt, a2 a hlt, a3 H' rfl a hlt, hw, hr, hr']
      generalize hL : evLoop _ _ _ _ _ _ = R
      obtain ⟨e, τ'', H', rfl, rfl, rfl, k9, k1, k7⟩ := loop_at hL (gv_loop2 hs hb hl a n (by omega) (by omega) (by omega) (l[a] % 64) (by omega) (by omega) _ m (by omega) _ (by simp [g0]) (by simp [g1]) (by simp [g7]) (by simp) (by simp))
      clear hL
      have w3 : IntKind.i64.wrap ((a : Int) + n) = a + n := wrap_i64 (by omega) (by omega)
      simp [k9, k1, k7, w3]
      exact gv_val hb a n hN4 (by omega) hlt
end Go.Ev

/- The scanner: seat a's text with this seat's numbers (port.py). -/
namespace Go.Ev
open Go Go.Proofs
set_option linter.unusedSimpArgs false
set_option linter.unusedVariables false

/-- all that was there is as it was, but for q -/
structure Kx (q : Nat) (H H' : AH) : Prop where
  next : H.next ≤ H'.next
  get : ∀ b, b < H.next → b ≠ q → H'.get b = H.get b
theorem Kx.refl (q : Nat) (H : AH) : Kx q H H := ⟨Nat.le_refl _, fun _ _ _ => rfl⟩
theorem Kx.trans {q : Nat} {A B C : AH} (h : Kx q A B) (k : Kx q B C) : Kx q A C := ⟨Nat.le_trans h.next k.next, fun b hb hq => (k.get b (Nat.lt_of_lt_of_le hb h.next) hq).trans (h.get b hb hq)⟩
theorem Kx.of {q : Nat} {A B : AH} (h : Kp A B) : Kx q A B := ⟨h.next, fun b hb _ => h.get b hb⟩
theorem Kx.set {A B : AH} {q : Nat} (h : Kx q A B) (x : Blk) : Kx q A (B.set q x) := ⟨h.next, fun c hc hq => by
  rw [AH.set_get, if_neg hq]; exact h.get c hc hq⟩
theorem Kx.kp {A H H' : AH} {q : Nat} (h : Kp A H) (k : Kx q H H') (hq : A.next ≤ q) : Kp A H' :=
  ⟨Nat.le_trans h.next k.next, fun b hb => by rw [k.get b (Nat.lt_of_lt_of_le hb h.next) (by omega)]; exact h.get b hb⟩
theorem Ow.kx {lo hi q : Nat} {H H' : AH} {s : AV} {l : List Int} (h : Ow lo hi H s l) (hK : Kx q H H') (hd : q < lo ∨ hi ≤ q) : Ow lo hi H' s l := by
  rcases h with h | ⟨b, h1, h2, h3, h4, h5⟩
  · exact .inl h
  · exact .inr ⟨b, h1, h2, Nat.le_trans h3 hK.next, h4, by rw [hK.get b (by omega) (by omega)]; exact h5⟩

/-! the scanner -/
def scB (s : AV) (a : Nat) (c : Int) : Blk := .cells 188 false [s, .int .i64 a, .int .i64 c]
/-- the bytes, the place, the code -/
def takeI (l : List Int) (a : Nat) (c : Int) (n : Int) : List Int × Nat × Int :=
  if c ≠ 0 then ([], a, c) else if n < 0 ∨ (l.length : Int) - a < n then ([], a, 2) else ((l.drop a).take n.toNat, a + n.toNat, 0)
theorem fail_ev {H : AH} {q a : Nat} {s : AV} {c e : Int} (hq : H.get q = some (scB s a c)) (m : Nat) (hm : 1 ≤ m) :
    ev Try.prog m 220 [.ptr q 0, .int .i64 e] H = some (U, if c = 0 then H.set q (scB s a e) else H) := by
  obtain ⟨m, rfl⟩ : ∃ k, m = k + 1 := ⟨m - 1, by omega⟩
  unfold scB at *
  rw [ev_eq Try.func220 ok220 m _ H (by simp [Try.f220])]
  by_cases hc : c = 0
  · simp [Try.f220, ldVar, stVar, hq, hc, U]
  · simp [Try.f220, ldVar, stVar, hq, hc, U]
theorem cutBs {Hb : AH} {s : AV} {l : List Int} (hs : Bs Hb s l) (a n : Nat) (h : a + n ≤ l.length) {A N : Int} (hA : A = a) (hN : N = a + n) :
    ∃ s', (∀ H, Kp Hb H → cutA Try.prog 34 s (some (some (.int .i64 A))) (some (some (.int .i64 N))) H = some s') ∧ Bs Hb s' ((l.drop a).take n) := by
  subst hA; subst hN
  have h1 : (List.take (a + n) (u8L l)).drop a = u8L ((l.drop a).take n) := by simp [u8L, List.drop_take]
  obtain ⟨s', k1, k2⟩ := hs.cut a (a + n) (by omega) (by rw [u8L_len]; omega) (lo := some (some (.int .i64 a))) (hi := some (some (.int .i64 (a + n)))) (by simp) (by simp)
  rw [h1] at k2
  refine ⟨s', fun H hK => ?_, k2⟩
  rcases hs.lie with ⟨rfl, _⟩ | ⟨b, o, ro, xs, rfl, hn, hg, _⟩
  · rw [← k1]; simp [cutA]
  · rw [← k1]; simp only [cutA, tyU34, tyS5, hK.get b hn]
theorem take_ev {Hb H : AH} {q a : Nat} {s : AV} {l : List Int} {c : Int} (hs : Bs Hb s l) (hK : Kp Hb H) (hqb : Hb.next ≤ q) (hq : H.get q = some (scB s a c)) (ha : a ≤ l.length) (hl : l.length ≤ 65536) (n : Int) (hn0 : -281474976710 ≤ n) (m : Nat) (hm : 2 ≤ m) :
    ∃ r H', ev Try.prog m 164 [.ptr q 0, .int .i64 n] H = some (r, H') ∧ Kx q H H' ∧ H'.next = H.next ∧ Bs Hb r (takeI l a c n).1 ∧ H'.get q = some (scB s (takeI l a c n).2.1 (takeI l a c n).2.2) ∧ (takeI l a c n).2.1 ≤ l.length := by
  obtain ⟨m, rfl⟩ : ∃ k, m = k + 1 := ⟨m - 1, by omega⟩
  have hf := fail_ev (e := (2)) hq m (by omega)
  have hs' := hs.kp hK
  have hq0 := hq
  unfold scB at hq
  rw [ev_eq Try.func164 ok164 m _ H (by simp [Try.f164])]
  by_cases hc : c = 0
  · subst hc
    have w0 : IntKind.i64.wrap ((l.length : Int) - a) = l.length - a := wrap_i64 (by omega) (by omega)
    by_cases h1 : n < 0
    · refine ⟨.nilSlice, H.set q (scB s a 2), ?_, (Kx.refl q H).set _, rfl, ?_⟩
      · simp [Try.f164, ldVar, hq, h1, hf]
      · simp [takeI, h1, ha, Bs.nil]
    · by_cases h2 : (l.length : Int) - a < n
      · refine ⟨.nilSlice, H.set q (scB s a 2), ?_, (Kx.refl q H).set _, rfl, ?_⟩
        · simp [Try.f164, ldVar, hq, h1, hf, hs'.len, w0, h2]
        · simp [takeI, h1, h2, ha, Bs.nil]
      · obtain ⟨N, rfl⟩ := Int.eq_ofNat_of_zero_le (by omega : 0 ≤ n)
        have w1 : IntKind.i64.wrap ((a : Int) + N) = a + N := wrap_i64 (by omega) (by omega)
        obtain ⟨s', k1, k2⟩ := cutBs hs a N (by omega) rfl rfl
        refine ⟨s', H.set q (scB s (a + N) 0), ?_, (Kx.refl q H).set _, rfl, ?_⟩
        · simp [Try.f164, ldVar, stVar, hq, h1, hs'.len, w0, h2, w1, k1 H hK, scB, evHist, ObsOk, ObOk, hs.one]
        · simp [takeI, h1, h2]
          exact ⟨k2, by omega⟩
  · refine ⟨.nilSlice, H, ?_, Kx.refl q H, rfl, ?_⟩
    · simp [Try.f164, ldVar, hq, hc]
    · simp [takeI, hc, ha, Bs.nil, hq0]

def octV : List Int → Int
  | [x] => x
  | _ => 0
def octetI (l : List Int) (a : Nat) (c : Int) : Int × Nat × Int := (octV (takeI l a c 1).1, (takeI l a c 1).2)
theorem takeI_by {l : List Int} (hb : By l) (a : Nat) (c n : Int) : By (takeI l a c n).1 := by
  unfold takeI; split
  · intro x hx; simp at hx
  · split
    · intro x hx; simp at hx
    · exact (hb.drop _).take _
theorem takeI_len (l : List Int) (a : Nat) (c n : Int) : (takeI l a c n).1.length ≤ n.toNat ∧ (takeI l a c n).1.length ≤ l.length := by
  unfold takeI; split
  · simp
  · split
    · simp
    · simp; omega
theorem octV_by {l : List Int} (hb : By l) : 0 ≤ octV l ∧ octV l < 256 := by
  unfold octV; split
  · exact hb _ (by simp)
  · omega
theorem octet_ev {Hb H : AH} {q a : Nat} {s : AV} {l : List Int} {c : Int} (hs : Bs Hb s l) (hb : By l) (hK : Kp Hb H) (hqb : Hb.next ≤ q) (hq : H.get q = some (scB s a c)) (ha : a ≤ l.length) (hl : l.length ≤ 65536) (m : Nat) (hm : 3 ≤ m) :
    ∃ H', ev Try.prog m 165 [.ptr q 0] H = some (.int .i64 (octetI l a c).1, H') ∧ Kx q H H' ∧ H'.next = H.next ∧ H'.get q = some (scB s (octetI l a c).2.1 (octetI l a c).2.2) ∧ (octetI l a c).2.1 ≤ l.length := by
  obtain ⟨m, rfl⟩ : ∃ k, m = k + 1 := ⟨m - 1, by omega⟩
  obtain ⟨r, H', k1, k2, k3, k4, k5, k6⟩ := take_ev hs hK hqb hq ha hl 1 (by omega) m (by omega)
  refine ⟨H', ?_, k2, k3, k5, k6⟩
  have hby := takeI_by hb a c 1
  have hln := (takeI_len l a c 1).1
  rw [ev_eq Try.func165 ok165 m _ H (by simp [Try.f165])]
  have k4' := k4.kp (k2.kp hK hqb)
  unfold octetI
  generalize (takeI l a c 1).1 = t at *
  obtain ⟨b, o, a1, a2, a3⟩ := k4'.at_
  match t, hln with
  | [], _ => simp [Try.f165, k1, k4'.len, octV]
  | [x], _ =>
    have i1 := a2 0 (by simp)
    have i2 := a3 H' rfl 0 (by simp)
    have hx := hby x (by simp)
    simp at i1 i2
    simp [Try.f165, k1, k4'.len, octV, i1, i2, convA, wrap_i64 (n := x) (by omega) (by omega)]
  | x :: y :: t, h => simp at h

def numberI (l : List Int) (a : Nat) (c : Int) : Int × Nat × Int :=
  if c ≠ 0 then (0, a, c) else if (getVarP l a).2.2 ≠ 0 then (0, a, (getVarP l a).2.2) else ((getVarP l a).1, (getVarP l a).2.1.toNat, 0)
theorem getVarP_end {l : List Int} {a : Nat} (h : (getVarP l a).2.2 = 0) : ∃ e : Nat, (getVarP l a).2.1 = e ∧ a ≤ e ∧ e ≤ l.length := by
  unfold getVarP at h ⊢
  by_cases h1 : a = l.length
  · simp [h1] at h
  · by_cases h2 : (l.length : Int) - a < gvN (l.getD a 0)
    · rw [if_neg h1, if_pos h2] at h; simp at h
    · rw [if_neg h1, if_neg h2]
      exact ⟨a + gvN (l.getD a 0), by simp, by omega, by omega⟩
theorem getVarP_code (l : List Int) (a : Nat) : (getVarP l a).2.2 = 0 ∨ (getVarP l a).2.2 = 2 := by
  unfold getVarP
  split
  · simp
  · split <;> simp
theorem number_ev {Hb H : AH} {q a : Nat} {s : AV} {l : List Int} {c : Int} (hs : Bs Hb s l) (hb : By l) (hK : Kp Hb H) (hqb : Hb.next ≤ q) (hq : H.get q = some (scB s a c)) (ha : a ≤ l.length) (hl : l.length ≤ 65536) (m : Nat) (hm : 21 ≤ m) :
    ∃ H', ev Try.prog m 186 [.ptr q 0] H = some (.int .i64 (numberI l a c).1, H') ∧ Kx q H H' ∧ H'.next = H.next ∧ H'.get q = some (scB s (numberI l a c).2.1 (numberI l a c).2.2) ∧ (numberI l a c).2.1 ≤ l.length := by
  obtain ⟨m, rfl⟩ : ∃ k, m = k + 1 := ⟨m - 1, by omega⟩
  rw [ev_eq Try.func186 ok186 m _ H (by simp [Try.f186])]
  have hq0 := hq
  unfold scB at hq
  have hg := GetVarI_ev hs hK hb hl a ha m (by omega)
  by_cases hc : c = 0
  · subst hc
    by_cases h2 : (getVarP l a).2.2 = 0
    · obtain ⟨e, h3, h4, h5⟩ := getVarP_end h2
      refine ⟨H.set q (scB s e 0), ?_, (Kx.refl q H).set _, rfl, ?_⟩
      · simp [Try.f186, ldVar, stVar, hq, hg, h2, h3, numberI, scB, hs.one]
      · simp [numberI, h2, h3, h5]
    · have hf := fail_ev (e := (getVarP l a).2.2) hq0 m (by omega)
      refine ⟨H.set q (scB s a (getVarP l a).2.2), ?_, (Kx.refl q H).set _, rfl, ?_⟩
      · simp [Try.f186, ldVar, stVar, hq, hg, h2, numberI, hf, hs.one]
      · simp [numberI, h2, ha]
  · refine ⟨H, ?_, Kx.refl q H, rfl, ?_⟩
    · simp [Try.f186, ldVar, hq, hc, numberI]
    · simp [numberI, hc, ha, hq0]

end Go.Ev

/- The specification's reader: seat a's text with this seat's numbers (port.py). -/
namespace Go.Ev
open Go Go.Proofs
set_option linter.unusedSimpArgs false
set_option linter.unusedVariables false

def rdB (s : AV) (a : Nat) (sh : Bool) : Blk := .cells 183 false [s, .int .i64 a, .bool sh]
def takeS (l : List Int) (a : Nat) (sh : Bool) (n : Int) : List Int × Nat × Bool :=
  if sh = true ∨ (l.length : Int) - a < n then ([], a, true) else ((l.drop a).take n.toNat, a + n.toNat, false)
theorem takeS_by {l : List Int} (hb : By l) (a : Nat) (sh : Bool) (n : Int) : By (takeS l a sh n).1 := by
  unfold takeS; split
  · intro x hx; simp at hx
  · exact (hb.drop _).take _
theorem takeS_len (l : List Int) (a : Nat) (sh : Bool) (n : Int) : (takeS l a sh n).1.length ≤ n.toNat ∧ (takeS l a sh n).1.length ≤ l.length := by
  unfold takeS; split
  · simp
  · simp; omega
theorem takeR_ev {Hb H : AH} {q a : Nat} {s : AV} {l : List Int} {sh : Bool} (hs : Bs Hb s l) (hK : Kp Hb H) (hqb : Hb.next ≤ q) (hqn : q < H.next) (hq : H.get q = some (rdB s a sh)) (ha : a ≤ l.length) (hl : l.length ≤ 65536) (n : Int) (hn0 : 0 ≤ n) (hn1 : n ≤ 4611686018427387904) (m : Nat) (hm : 2 ≤ m) :
    ∃ r H', ev Try.prog m 157 [.ptr q 0, .int .i64 n] H = some (r, H') ∧ Kx q H H' ∧ Ow H.next H'.next H' r (takeS l a sh n).1 ∧ H'.get q = some (rdB s (takeS l a sh n).2.1 (takeS l a sh n).2.2) ∧ (takeS l a sh n).2.1 ≤ l.length := by
  obtain ⟨m, rfl⟩ : ∃ k, m = k + 1 := ⟨m - 1, by omega⟩
  have hs' := hs.kp hK
  have hne : ¬ (q = H.next) := by omega
  unfold rdB at *
  rw [ev_eq Try.func157 ok157 m _ H (by simp [Try.f157])]
  have w0 : IntKind.i64.wrap ((l.length : Int) - a) = l.length - a := wrap_i64 (by omega) (by omega)
  have fin : Kx q H ((H.set q (rdB s a true)).push (.cells 5 false [])) := ⟨by simp, fun b hb hbq => by simp [hbq]; intro h; omega⟩
  cases sh with
  | true =>
    refine ⟨.slice H.next 0 0, (H.set q (rdB s a true)).push (.cells 5 false []), ?_, fin, .inr ⟨H.next, Nat.le_refl _, by simp, by simp, ?_, ?_⟩, ?_⟩
    · simp [Try.f157, ldVar, stVar, hq, hne, rdB, hs.one]
    · simp [takeS]
    · simp [takeS, u8L]
    · simp [takeS, hne, rdB, ha]
  | false =>
    by_cases h2 : (l.length : Int) - a < n
    · refine ⟨.slice H.next 0 0, (H.set q (rdB s a true)).push (.cells 5 false []), ?_, fin, .inr ⟨H.next, Nat.le_refl _, by simp, by simp, ?_, ?_⟩, ?_⟩
      · simp [Try.f157, ldVar, stVar, hq, hne, rdB, hs.one, hs'.len, w0, h2]
      · simp [takeS, h2]
      · simp [takeS, h2, u8L]
      · simp [takeS, h2, hne, rdB, ha]
    · obtain ⟨N, rfl⟩ := Int.eq_ofNat_of_zero_le hn0
      have w1 : IntKind.i64.wrap ((a : Int) + N) = a + N := wrap_i64 (by omega) (by omega)
      have w2 : IntKind.i64.wrap (a : Int) = a := wrap_i64 (by omega) (by omega)
      obtain ⟨s', k1, k2⟩ := cutBs hs a N (by omega) rfl rfl
      have K2 : Kp Hb (H.set q (rdB s (a + N) false)) := hK.set hqb _
      have k3 := k1 _ K2
      obtain ⟨r, H', y1, y2, y3⟩ := l03Copy_ev k2 K2 (by simp; omega) m (by omega)
      have hn := y2.next
      simp only [AH.set_next] at hn y3
      refine ⟨r, H', ?_, ⟨hn, fun b hb hbq => ?_⟩, ?_, ?_⟩
      · simp only [rdB] at *
        push_cast at y1 k3
        simp [Try.f157, ldVar, stVar, hq, hne, hs.one, hs'.len, w0, h2, w1, w2, k3, y1]
      · rw [y2.get b (by simpa using hb), AH.set_get, if_neg hbq]
      · simp [takeS, h2]; exact y3
      · simp [takeS, h2]
        exact ⟨by rw [y2.get q (by simpa using hqn)]; simp [rdB], by omega⟩
theorem fixed_ev {Hb H : AH} {q a : Nat} {s : AV} {l : List Int} {sh : Bool} (hs : Bs Hb s l) (hb : By l) (hK : Kp Hb H) (hqb : Hb.next ≤ q) (hqn : q < H.next) (hq : H.get q = some (rdB s a sh)) (ha : a ≤ l.length) (hl : l.length ≤ 65536) (n : Int) (hn0 : 0 ≤ n) (hn1 : n ≤ 4) (m : Nat) (hm : 11 ≤ m) :
    ∃ H', ev Try.prog m 122 [.ptr q 0, .int .i64 n] H = some (.int .i64 (valP (takeS l a sh n).1), H') ∧ Kx q H H' ∧ H'.get q = some (rdB s (takeS l a sh n).2.1 (takeS l a sh n).2.2) ∧ (takeS l a sh n).2.1 ≤ l.length := by
  obtain ⟨m, rfl⟩ : ∃ k, m = k + 1 := ⟨m - 1, by omega⟩
  obtain ⟨r, H', k1, k2, k3, k4, k5⟩ := takeR_ev hs hK hqb hqn hq ha hl n hn0 (by omega) m (by omega)
  have hv := l01Value_ev k3.bs (Kp.refl H') (takeS_by hb _ _ _) (by have := (takeS_len l a sh n).1; omega) m (by omega)
  refine ⟨H', ?_, k2, k4, k5⟩
  rw [ev_eq Try.func122 ok122 m _ H (by simp [Try.f122])]
  simp [Try.f122, k1, hv]
def varS (l : List Int) (a : Nat) (sh : Bool) : Int × Nat × Bool :=
  if sh = true then (0, a, true) else if (getVarP l a).2.2 ≠ 0 then (0, a, true) else ((getVarP l a).1, (getVarP l a).2.1.toNat, false)
theorem getVarP_nn {l : List Int} (a : Nat) : 0 ≤ (getVarP l a).1 := by
  simp only [getVarP]
  split
  · simp
  · split
    · simp
    · simp only
      exact Int.emod_nonneg _ (Int.pow_ne_zero (by decide))
theorem gvN_cases {l : List Int} (hb : By l) (a : Nat) : gvN (l.getD a 0) ≤ 8 := by
  have hx : 0 ≤ l.getD a 0 ∧ l.getD a 0 < 256 := by
    rw [List.getD_eq_getElem?_getD]
    cases h : l[a]? with
    | none => simp
    | some x => exact hb x (List.mem_of_getElem? h)
  unfold gvN
  have : (l.getD a 0 / 64).toNat ≤ 3 := by omega
  have h2 : 2 ^ (l.getD a 0 / 64).toNat ≤ 2 ^ 3 := Nat.pow_le_pow_right (by omega) this
  omega
theorem getVarP_lt {l : List Int} (hb : By l) (a : Nat) : (getVarP l a).1 ≤ 4611686018427387904 := by
  simp only [getVarP]
  split
  · simp
  · split
    · simp
    · simp only
      have h1 := gvN_cases hb a
      generalize gvN (l.getD a 0) = g at *
      have hp : (0 : Int) < 2 ^ (8 * g - 2) := Int.pow_pos (by decide)
      have h2 := Int.emod_lt_of_pos (valP ((l.drop a).take g)) hp
      have h3 : 2 ^ (8 * g - 2) ≤ 2 ^ 62 := Nat.pow_le_pow_right (by omega) (by omega)
      have h4 := Int.ofNat_le.mpr h3
      rw [Int.natCast_pow, Int.natCast_pow] at h4
      have h5 : ((2 : Nat) : Int) ^ 62 = 4611686018427387904 := by decide
      have h6 : ((2 : Nat) : Int) = 2 := rfl
      rw [h5, h6] at h4
      omega
theorem varS_rng {l : List Int} (hb : By l) (a : Nat) (sh : Bool) : 0 ≤ (varS l a sh).1 ∧ (varS l a sh).1 ≤ 4611686018427387904 := by
  unfold varS
  split
  · simp
  · split
    · simp
    · exact ⟨getVarP_nn a, getVarP_lt hb a⟩
theorem var_ev {Hb H : AH} {q a : Nat} {s : AV} {l : List Int} {sh : Bool} (hs : Bs Hb s l) (hb : By l) (hK : Kp Hb H) (hqb : Hb.next ≤ q) (hqn : q < H.next) (hq : H.get q = some (rdB s a sh)) (ha : a ≤ l.length) (hl : l.length ≤ 65536) (m : Nat) (hm : 21 ≤ m) :
    ∃ H', ev Try.prog m 216 [.ptr q 0] H = some (.int .i64 (varS l a sh).1, H') ∧ Kx q H H' ∧ H'.next = H.next ∧ H'.get q = some (rdB s (varS l a sh).2.1 (varS l a sh).2.2) ∧ (varS l a sh).2.1 ≤ l.length := by
  obtain ⟨m, rfl⟩ : ∃ k, m = k + 1 := ⟨m - 1, by omega⟩
  rw [ev_eq Try.func216 ok216 m _ H (by simp [Try.f216])]
  have hq0 := hq
  unfold rdB at hq
  have hg := GetVarS_ev hs hK hb hl a ha m (by omega)
  cases sh with
  | false =>
    by_cases h2 : (getVarP l a).2.2 = 0
    · obtain ⟨e, h3, h4, h5⟩ := getVarP_end h2
      refine ⟨H.set q (rdB s e false), ?_, (Kx.refl q H).set _, rfl, ?_⟩
      · simp [Try.f216, ldVar, stVar, hq, hg, h2, h3, varS, rdB, hs.one]
      · simp [varS, h2, h3, h5]
    · refine ⟨H.set q (rdB s a true), ?_, (Kx.refl q H).set _, rfl, ?_⟩
      · simp [Try.f216, ldVar, stVar, hq, hg, h2, varS, rdB, hs.one]
      · simp [varS, h2, ha]
  | true =>
    refine ⟨H, ?_, Kx.refl q H, rfl, ?_⟩
    · simp [Try.f216, ldVar, hq, varS]
    · simp [varS, ha, hq0]
end Go.Ev
