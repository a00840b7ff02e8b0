/- Lemmas of an evaluator of the given code and of what the functions answer; no condition of its own. -/
import Derived.Test.YtnoacfilglgbgaaEv8
import Derived.Test.YtnoacfilglgbgaaEv6
import Derived.Test.YtnoacfilglgbgaaEv12
import Derived.WideShapes
/- The laws' helpers of this seat: written by a program of this session (helpgen.py). -/
namespace Go.Ev
open Go Go.Proofs
set_option linter.unusedSimpArgs false
set_option linter.unusedVariables false
/-! toByteS -/
def ItoByteS_h (ds : List (Ty.int .u8).D) (s : AV) (H : AH) (d : Nat) (τ : Tm) (h : AH) : Prop :=
  ∃ k x1 bs, k + d = ds.length ∧ τ 0 = s ∧ τ 3 = .slice H.next 0 ds.length ∧ τ 4 = .int .i64 k ∧ Kp H h ∧ H.next < h.next ∧ h.get H.next = some (.cells 5 false (x1 ++ zerosA [.int .u8 0] d)) ∧ Rows ((Ty.int .u8).R true h) 1 x1 (ds.take k) bs ∧ bs.Nodup ∧ ∀ b ∈ bs, H.next < b
set_option maxHeartbeats 4000000 in
theorem toByteS_h {Hb H : AH} {s : AV} {ds : List (Ty.int .u8).D} {bs : List Nat} {rw : Bool} (hd : (Ty.sl 5 (Ty.int .u8)).R rw Hb [s] ds bs) (hK : Kp Hb H) (hb : (Ty.sl 5 (Ty.int .u8)).bd 1048576 ds) (m : Nat) (hm : 1048720 ≤ m) :
    ∃ r H' bs', ev Try.prog m 40 [s] H = some (r, H') ∧ Kp H H' ∧ (Ty.sl 5 (Ty.int .u8)).R true H' [r] ds bs' ∧ bs'.Nodup ∧ ∀ b ∈ bs', H.next ≤ b := by
  obtain ⟨m, rfl⟩ : ∃ k, m = k + 1 := ⟨m - 1, by omega⟩
  obtain ⟨hl, hl2⟩ := hb
  have hL := Ty.R.lenA hd (P := Try.prog) (T := 34) (by simp)
  rw [ev_eq Try.func40 ok40 m _ H (by simp [Try.f40])]
  have hb1 : (1 : Int) * (ds.length : Int) ≤ 281474976710656 := by omega
  have hb2 : (ds.length : Int) ≤ 281474976710656 := by omega
  simp [Try.f40, hL, hb1, hb2]
  generalize hLo : evLoop _ _ _ _ _ _ = R
  obtain ⟨e, τ', H', rfl, rfl, g⟩ := loop_at hLo (loop_rule (d := ds.length) (ItoByteS_h ds s H)
    (fun e τ h => e = .exit 0 ∧ ItoByteS_h ds s H 0 τ h)
    (by
      rintro d τ h ⟨k, x1, bs1, hk, t0, t3, t4, hKh, hnx, hg, hR, hnd, hlo⟩
      by_cases hd0 : d = 0
      · subst hd0
        have hkl : (k : Int) = ds.length := by omega
        rewrite [lp40_58]
        simp [Try.f40, t0, t4, hL, hkl]
        exact ⟨k, x1, bs1, hk, t0, t3, t4, hKh, hnx, hg, hR, hnd, hlo⟩
      · obtain ⟨d, rfl⟩ : ∃ q, d = q + 1 := ⟨d - 1, by omega⟩
        have hlt : k < ds.length := by omega
        have hx1 := hR.len
        rw [List.length_take, Nat.min_eq_left (Nat.le_of_lt hlt)] at hx1
        obtain ⟨b, o, ro, y1, c, y2, bk, u1, u2, u3, u4, u5, u6, u7, u8⟩ := Ty.R.at_ (hd.kp (hK.trans hKh)) (P := Try.prog) (T := 34) (by simp) (by simp [Ty.n]) (k := k) hlt
        obtain ⟨a, rfl⟩ := List.length_eq_one_iff.1 u5.len
        have hld := ld_mid0 (P := Try.prog) (T := 5) u3 u4 (by simp)
        obtain ⟨h2, hh2⟩ : ∃ x, x = h := ⟨_, rfl⟩
        obtain ⟨c', hc'⟩ : ∃ c', c' = [a] := ⟨_, rfl⟩
        have v2 : Kp h h2 := by rw [hh2]; exact Kp.refl h
        have hro : a.one = true := by have := u5.one; simpa using this
        have v3 : (Ty.int .u8).R true h2 c' ds[k] [] := by rw [hc', hh2]; exact ⟨u5.1, u5.2.1, u5.2.2.1, rfl⟩
        obtain ⟨b2, hb2'⟩ : ∃ x : List Nat, x = [] := ⟨_, rfl⟩
        have v4 : b2.Nodup := by rw [hb2']; simp
        have v5 : ∀ b ∈ b2, h.next ≤ b := by rw [hb2']; simp
        rw [← hb2'] at v3
        have hc5 : c'.length = 1 := by simpa [Ty.n] using v3.len
        have hg2 : h2.get H.next = some (.cells 5 false (x1 ++ [.int .u8 0] ++ zerosA [.int .u8 0] d)) := by rw [v2.get _ hnx, hg, zerosA, List.append_assoc]
        have hst : stVar Try.prog 5 H.next k a h2 = some (h2.set H.next (.cells 5 false (x1 ++ c' ++ zerosA [.int .u8 0] d))) := by
          rw [hc']; exact stf0 hg2 (by omega) (by simp) hro (by simp) rfl
        rw [hh2] at hst
        have hidx : idxA Try.prog 34 (.slice H.next 0 ds.length) (.int .i64 k) = some (.ptr H.next k) := by simp [idxA, hlt]
        rewrite [lp40_58]
        simp [Try.f40, t0, t3, t4, hL, hlt, u1, hld, hro, cells_one hro, hidx, hst, wrap_i64 (n := (k : Int) + 1) (by omega) (by omega)]
        have hn2 := v2.next
        rw [← hh2]
        have hset : ∀ y, ∀ x, x ≠ H.next → (h2.set H.next y).get x = h2.get x := fun y x hx => by rw [AH.set_get, if_neg hx]
        refine ⟨d, by omega, k + 1, x1 ++ c', bs1 ++ b2, by omega, by simp [t0], by simp [t3], by simp, (hKh.trans v2).set (Nat.le_refl _) _, by simp; omega, by simp, ?_, ?_, ?_⟩
        · rw [List.take_add_one, List.getElem?_eq_getElem hlt]
          exact Rows.app (hR.imp fun c d b3 _ hb hh => (hh.kp v2).stay (by simp) fun x hx => hset _ x (by have := hlo x (hb x hx); omega)) (Rows.one (v3.stay (by simp) fun x hx => hset _ x (by have := v5 x hx; omega)) hc5)
        · refine List.nodup_append.2 ⟨hnd, v4, fun x hx y hy e => ?_⟩
          have h1 := Rows.mem (fun c d bs h => Ty.R.mem h) hR x hx
          have h2 := v5 y hy
          omega
        · intro x hx
          rcases List.mem_append.1 hx with hx | hx
          · exact hlo x hx
          · have := v5 x hx; omega)
    ⟨0, [], [], by simp, by simp, by simp, by simp, (Kp.refl H).push _, by simp, by simp, ⟨rfl, rfl⟩, by simp, by simp⟩ (by omega))
  obtain ⟨k, x1, bs1, hk, t0, t3, t4, hKh, hnx, hg, hR, hnd, hlo⟩ := g
  have hkl : k = ds.length := by omega
  subst hkl
  rw [List.take_length] at hR
  have hx1 := hR.len
  simp [t3]
  refine ⟨_, _, ⟨rfl, rfl⟩, hKh, H.next :: bs1, .inr ⟨H.next, 0, false, x1, bs1, rfl, rfl, hnx, by simpa using hg, fun _ => ⟨rfl, rfl, by simpa [Ty.n] using hx1⟩, by simp [Ty.n, hx1], ?_⟩, ?_, ?_⟩
  · have : (x1.drop 0).take (ds.length * (Ty.int .u8).n) = x1 := by rw [List.drop_zero, List.take_of_length_le (by simp [Ty.n, hx1])]
    rw [this]; exact hR
  · rw [List.nodup_cons]; exact ⟨fun hx => by have := hlo _ hx; omega, hnd⟩
  · intro x hx
    rcases List.mem_cons.1 hx with rfl | hx
    · exact Nat.le_refl _
    · have := hlo x hx; omega
/-! eqByteS -/
def IeqByteS_h (n : Nat) (s1 s2 : AV) (H : AH) (d : Nat) (τ : Tm) (h : AH) : Prop := ∃ k : Nat, k + d = n ∧ τ 0 = s1 ∧ τ 1 = s2 ∧ τ 5 = .int .i64 k ∧ Kp H h
set_option maxHeartbeats 4000000 in
theorem eqByteS_h {H h : AH} {s1 s2 : AV} {ds : List (Ty.int .u8).D} {b1 b2 : List Nat} {r1 r2 : Bool} (h1 : (Ty.sl 5 (Ty.int .u8)).R r1 H [s1] ds b1) (h2 : (Ty.sl 5 (Ty.int .u8)).R r2 H [s2] ds b2) (hK : Kp H h) (hb : (Ty.sl 5 (Ty.int .u8)).bd 1048576 ds) (m : Nat) (hm : 1048720 ≤ m) :
    ∃ h', ev Try.prog m 43 [s1, s2] h = some (.bool true, h') ∧ Kp h h' := by
  obtain ⟨m, rfl⟩ : ∃ k, m = k + 1 := ⟨m - 1, by omega⟩
  obtain ⟨hl, hl2⟩ := hb
  have e1 := Ty.R.lenA h1 (P := Try.prog) (T := 34) (by simp)
  have e2 := Ty.R.lenA h2 (P := Try.prog) (T := 34) (by simp)
  rw [ev_eq Try.func43 ok43 m _ h (by simp [Try.f43])]
  simp [Try.f43, e1, e2]
  generalize hLo : evLoop _ _ _ _ _ _ = R
  obtain ⟨e, τ', H', rfl, rfl, g⟩ := loop_at hLo (loop_rule (d := ds.length) (fun d τ h' => IeqByteS_h ds.length s1 s2 h d τ h')
    (fun e τ h' => e = .exit 0 ∧ Kp h h')
    (by
      rintro d τ h' ⟨k, hk, t0, t1, t5, hKh⟩
      by_cases hd0 : d = 0
      · subst hd0
        have hkl : (k : Int) = ds.length := by omega
        rewrite [lp43_58]
        simp [Try.f43, t0, t1, t5, e1, hkl]
        exact hKh
      · have hlt : k < ds.length := by omega
        have hKK := hK.trans hKh
        obtain ⟨b, o, ro, x1, c, x2, bk, u1, u2, u3, u4, u5, u6, u7, u8⟩ := Ty.R.at_ (h1.kp hKK) (P := Try.prog) (T := 34) (by simp) (by simp [Ty.n]) (k := k) hlt
        obtain ⟨b', o', ro', y1, c', y2, bk', w1, w2, w3, w4, w5, w6, w7, w8⟩ := Ty.R.at_ (h2.kp hKK) (P := Try.prog) (T := 34) (by simp) (by simp [Ty.n]) (k := k) hlt
        obtain ⟨a, rfl⟩ := List.length_eq_one_iff.1 u5.len
        have hld := ld_mid0 (P := Try.prog) (T := 5) u3 u4 (by simp)
        obtain ⟨a', rfl⟩ := List.length_eq_one_iff.1 w5.len
        have hld' := ld_mid0 (P := Try.prog) (T := 5) w3 w4 (by simp)
        have v1 : a = a' := by have q1 := u5.1; have q2 := w5.1; simp at q1 q2; rw [q1, q2]
        have q1 := u5.1
        simp only [List.cons.injEq, and_true] at q1
        subst v1
        rw [q1] at hld hld'
        obtain ⟨h3, hh3⟩ : ∃ x, x = h' := ⟨_, rfl⟩
        have v2 : Kp h' h3 := by rw [hh3]; exact Kp.refl h'
        rewrite [lp43_58]
        simp [Try.f43, t0, t1, t5, e1, hlt, u1, w1, hld, hld', ba_refl, evHist, ObsOk, ObOk, wrap_i64 (n := (k : Int) + 1) (by omega) (by omega)]
        rw [← hh3]
        exact ⟨d - 1, by omega, k + 1, by omega, by simp [t0], by simp [t1], by simp, hKh.trans v2⟩)
    ⟨0, by simp, by simp, by simp, by simp, Kp.refl h⟩ (by omega))
  simp
  exact g
/-! eqIntS -/
def IeqIntS_h (n : Nat) (s1 s2 : AV) (H : AH) (d : Nat) (τ : Tm) (h : AH) : Prop := ∃ k : Nat, k + d = n ∧ τ 0 = s1 ∧ τ 1 = s2 ∧ τ 5 = .int .i64 k ∧ Kp H h
set_option maxHeartbeats 4000000 in
theorem eqIntS_h {H h : AH} {s1 s2 : AV} {ds : List (Ty.int .i64).D} {b1 b2 : List Nat} {r1 r2 : Bool} (h1 : (Ty.sl 3 (Ty.int .i64)).R r1 H [s1] ds b1) (h2 : (Ty.sl 3 (Ty.int .i64)).R r2 H [s2] ds b2) (hK : Kp H h) (hb : (Ty.sl 3 (Ty.int .i64)).bd 1048576 ds) (m : Nat) (hm : 1048720 ≤ m) :
    ∃ h', ev Try.prog m 169 [s1, s2] h = some (.bool true, h') ∧ Kp h h' := by
  obtain ⟨m, rfl⟩ : ∃ k, m = k + 1 := ⟨m - 1, by omega⟩
  obtain ⟨hl, hl2⟩ := hb
  have e1 := Ty.R.lenA h1 (P := Try.prog) (T := 60) (by simp)
  have e2 := Ty.R.lenA h2 (P := Try.prog) (T := 60) (by simp)
  rw [ev_eq Try.func169 ok169 m _ h (by simp [Try.f169])]
  simp [Try.f169, e1, e2]
  generalize hLo : evLoop _ _ _ _ _ _ = R
  obtain ⟨e, τ', H', rfl, rfl, g⟩ := loop_at hLo (loop_rule (d := ds.length) (fun d τ h' => IeqIntS_h ds.length s1 s2 h d τ h')
    (fun e τ h' => e = .exit 0 ∧ Kp h h')
    (by
      rintro d τ h' ⟨k, hk, t0, t1, t5, hKh⟩
      by_cases hd0 : d = 0
      · subst hd0
        have hkl : (k : Int) = ds.length := by omega
        rewrite [lp169_58]
        simp [Try.f169, t0, t1, t5, e1, hkl]
        exact hKh
      · have hlt : k < ds.length := by omega
        have hKK := hK.trans hKh
        obtain ⟨b, o, ro, x1, c, x2, bk, u1, u2, u3, u4, u5, u6, u7, u8⟩ := Ty.R.at_ (h1.kp hKK) (P := Try.prog) (T := 60) (by simp) (by simp [Ty.n]) (k := k) hlt
        obtain ⟨b', o', ro', y1, c', y2, bk', w1, w2, w3, w4, w5, w6, w7, w8⟩ := Ty.R.at_ (h2.kp hKK) (P := Try.prog) (T := 60) (by simp) (by simp [Ty.n]) (k := k) hlt
        obtain ⟨a, rfl⟩ := List.length_eq_one_iff.1 u5.len
        have hld := ld_mid0 (P := Try.prog) (T := 3) u3 u4 (by simp)
        obtain ⟨a', rfl⟩ := List.length_eq_one_iff.1 w5.len
        have hld' := ld_mid0 (P := Try.prog) (T := 3) w3 w4 (by simp)
        have v1 : a = a' := by have q1 := u5.1; have q2 := w5.1; simp at q1 q2; rw [q1, q2]
        have q1 := u5.1
        simp only [List.cons.injEq, and_true] at q1
        subst v1
        rw [q1] at hld hld'
        obtain ⟨h3, hh3⟩ : ∃ x, x = h' := ⟨_, rfl⟩
        have v2 : Kp h' h3 := by rw [hh3]; exact Kp.refl h'
        rewrite [lp169_58]
        simp [Try.f169, t0, t1, t5, e1, hlt, u1, w1, hld, hld', ba_refl, evHist, ObsOk, ObOk, wrap_i64 (n := (k : Int) + 1) (by omega) (by omega)]
        rw [← hh3]
        exact ⟨d - 1, by omega, k + 1, by omega, by simp [t0], by simp [t1], by simp, hKh.trans v2⟩)
    ⟨0, by simp, by simp, by simp, by simp, Kp.refl h⟩ (by omega))
  simp
  exact g
/-! eqStringS -/
def IeqStringS_h (n : Nat) (s1 s2 : AV) (H : AH) (d : Nat) (τ : Tm) (h : AH) : Prop := ∃ k : Nat, k + d = n ∧ τ 0 = s1 ∧ τ 1 = s2 ∧ τ 5 = .int .i64 k ∧ Kp H h
set_option maxHeartbeats 4000000 in
theorem eqStringS_h {H h : AH} {s1 s2 : AV} {ds : List Ty.str.D} {b1 b2 : List Nat} {r1 r2 : Bool} (h1 : (Ty.sl 9 Ty.str).R r1 H [s1] ds b1) (h2 : (Ty.sl 9 Ty.str).R r2 H [s2] ds b2) (hK : Kp H h) (hb : (Ty.sl 9 Ty.str).bd 1048576 ds) (m : Nat) (hm : 1048740 ≤ m) :
    ∃ h', ev Try.prog m 170 [s1, s2] h = some (.bool true, h') ∧ Kp h h' := by
  obtain ⟨m, rfl⟩ : ∃ k, m = k + 1 := ⟨m - 1, by omega⟩
  obtain ⟨hl, hl2⟩ := hb
  have e1 := Ty.R.lenA h1 (P := Try.prog) (T := 118) (by simp)
  have e2 := Ty.R.lenA h2 (P := Try.prog) (T := 118) (by simp)
  rw [ev_eq Try.func170 ok170 m _ h (by simp [Try.f170])]
  simp [Try.f170, e1, e2]
  generalize hLo : evLoop _ _ _ _ _ _ = R
  obtain ⟨e, τ', H', rfl, rfl, g⟩ := loop_at hLo (loop_rule (d := ds.length) (fun d τ h' => IeqStringS_h ds.length s1 s2 h d τ h')
    (fun e τ h' => e = .exit 0 ∧ Kp h h')
    (by
      rintro d τ h' ⟨k, hk, t0, t1, t5, hKh⟩
      by_cases hd0 : d = 0
      · subst hd0
        have hkl : (k : Int) = ds.length := by omega
        rewrite [lp170_58]
        simp [Try.f170, t0, t1, t5, e1, hkl]
        exact hKh
      · have hlt : k < ds.length := by omega
        have hKK := hK.trans hKh
        obtain ⟨b, o, ro, x1, c, x2, bk, u1, u2, u3, u4, u5, u6, u7, u8⟩ := Ty.R.at_ (h1.kp hKK) (P := Try.prog) (T := 118) (by simp) (by simp [Ty.n]) (k := k) hlt
        obtain ⟨b', o', ro', y1, c', y2, bk', w1, w2, w3, w4, w5, w6, w7, w8⟩ := Ty.R.at_ (h2.kp hKK) (P := Try.prog) (T := 118) (by simp) (by simp [Ty.n]) (k := k) hlt
        obtain ⟨a, rfl⟩ := List.length_eq_one_iff.1 u5.len
        have hld := ld_mid0 (P := Try.prog) (T := 9) u3 u4 (by simp)
        obtain ⟨a', rfl⟩ := List.length_eq_one_iff.1 w5.len
        have hld' := ld_mid0 (P := Try.prog) (T := 9) w3 w4 (by simp)
        have v1 : a = a' := by have q1 := u5.1; have q2 := w5.1; simp at q1 q2; rw [q1, q2]
        have q1 := u5.1
        simp only [List.cons.injEq, and_true] at q1
        subst v1
        rw [q1] at hld hld'
        obtain ⟨h3, hh3⟩ : ∃ x, x = h' := ⟨_, rfl⟩
        have v2 : Kp h' h3 := by rw [hh3]; exact Kp.refl h'
        rewrite [lp170_58]
        simp [Try.f170, t0, t1, t5, e1, hlt, u1, w1, hld, hld', ba_refl, evHist, ObsOk, ObOk, wrap_i64 (n := (k : Int) + 1) (by omega) (by omega)]
        rw [← hh3]
        exact ⟨d - 1, by omega, k + 1, by omega, by simp [t0], by simp [t1], by simp, hKh.trans v2⟩)
    ⟨0, by simp, by simp, by simp, by simp, Kp.refl h⟩ (by omega))
  simp
  exact g
/-! eqParams -/
abbrev tT120 : Ty := .pair (Ty.int .i64) (.pair (Ty.int .i64) (.pair (Ty.int .i64) (.pair (Ty.int .i64) (.pair (Ty.int .i64) (.pair (Ty.int .i64) (.pair (Ty.int .i64) (.pair (Ty.int .i64) (.pair (Ty.int .i64) (.pair Ty.bool (.pair (Ty.sl 5 (Ty.int .u8)) (.pair (Ty.sl 5 (Ty.int .u8)) (Ty.sl 5 (Ty.int .u8)))))))))))))
theorem o120 {rw : Bool} {H : AH} {c : List AV} {x_0 : Int} {x_1 : Int} {x_2 : Int} {x_3 : Int} {x_4 : Int} {x_5 : Int} {x_6 : Int} {x_7 : Int} {x_8 : Int} {x_9 : Bool} {x_10 : List (Ty.int .u8).D} {x_11 : List (Ty.int .u8).D} {x_12 : List (Ty.int .u8).D} {bs : List Nat} (h : tT120.R rw H c (x_0, x_1, x_2, x_3, x_4, x_5, x_6, x_7, x_8, x_9, x_10, x_11, x_12) bs) : ∃ vx_10 vx_11 vx_12 bx_10 bx_11 bx_12, c = [.int .i64 x_0, .int .i64 x_1, .int .i64 x_2, .int .i64 x_3, .int .i64 x_4, .int .i64 x_5, .int .i64 x_6, .int .i64 x_7, .int .i64 x_8, .bool x_9, vx_10, vx_11, vx_12] ∧ (bx_10 ++ (bx_11 ++ bx_12)) = bs ∧ (Ty.sl 5 (Ty.int .u8)).R rw H [vx_10] x_10 bx_10 ∧ (Ty.sl 5 (Ty.int .u8)).R rw H [vx_11] x_11 bx_11 ∧ (Ty.sl 5 (Ty.int .u8)).R rw H [vx_12] x_12 bx_12 ∧ InK .i64 x_0 ∧ InK .i64 x_1 ∧ InK .i64 x_2 ∧ InK .i64 x_3 ∧ InK .i64 x_4 ∧ InK .i64 x_5 ∧ InK .i64 x_6 ∧ InK .i64 x_7 ∧ InK .i64 x_8 := by
  obtain ⟨c1, d1, e1, f1, rfl, rfl, ⟨rfl, rx_0, sx_0, rfl⟩, ⟨c2, d2, e2, f2, rfl, rfl, ⟨rfl, rx_1, sx_1, rfl⟩, ⟨c3, d3, e3, f3, rfl, rfl, ⟨rfl, rx_2, sx_2, rfl⟩, ⟨c4, d4, e4, f4, rfl, rfl, ⟨rfl, rx_3, sx_3, rfl⟩, ⟨c5, d5, e5, f5, rfl, rfl, ⟨rfl, rx_4, sx_4, rfl⟩, ⟨c6, d6, e6, f6, rfl, rfl, ⟨rfl, rx_5, sx_5, rfl⟩, ⟨c7, d7, e7, f7, rfl, rfl, ⟨rfl, rx_6, sx_6, rfl⟩, ⟨c8, d8, e8, f8, rfl, rfl, ⟨rfl, rx_7, sx_7, rfl⟩, ⟨c9, d9, e9, f9, rfl, rfl, ⟨rfl, rx_8, sx_8, rfl⟩, ⟨c10, d10, e10, f10, rfl, rfl, ⟨rfl, rfl⟩, ⟨c11, d11, e11, f11, rfl, rfl, hx_10, ⟨c12, d12, e12, f12, rfl, rfl, hx_11, hx_12⟩⟩⟩⟩⟩⟩⟩⟩⟩⟩⟩⟩ := h
  obtain ⟨vx_10, rfl⟩ := hx_10.sl_cell
  obtain ⟨vx_11, rfl⟩ := hx_11.sl_cell
  obtain ⟨vx_12, rfl⟩ := hx_12.sl_cell
  exact ⟨vx_10, vx_11, vx_12, _, _, _, by simp, by simp, hx_10, hx_11, hx_12, ⟨rx_0, sx_0⟩, ⟨rx_1, sx_1⟩, ⟨rx_2, sx_2⟩, ⟨rx_3, sx_3⟩, ⟨rx_4, sx_4⟩, ⟨rx_5, sx_5⟩, ⟨rx_6, sx_6⟩, ⟨rx_7, sx_7⟩, ⟨rx_8, sx_8⟩⟩
theorem i120 {rw : Bool} {H : AH} {x_0 : Int} {x_1 : Int} {x_2 : Int} {x_3 : Int} {x_4 : Int} {x_5 : Int} {x_6 : Int} {x_7 : Int} {x_8 : Int} {x_9 : Bool} {x_10 : List (Ty.int .u8).D} {x_11 : List (Ty.int .u8).D} {x_12 : List (Ty.int .u8).D} {vx_10 vx_11 vx_12 : AV} {bx_10 bx_11 bx_12 : List Nat} (hx_10 : (Ty.sl 5 (Ty.int .u8)).R rw H [vx_10] x_10 bx_10) (hx_11 : (Ty.sl 5 (Ty.int .u8)).R rw H [vx_11] x_11 bx_11) (hx_12 : (Ty.sl 5 (Ty.int .u8)).R rw H [vx_12] x_12 bx_12) (ix_0 : InK .i64 x_0) (ix_1 : InK .i64 x_1) (ix_2 : InK .i64 x_2) (ix_3 : InK .i64 x_3) (ix_4 : InK .i64 x_4) (ix_5 : InK .i64 x_5) (ix_6 : InK .i64 x_6) (ix_7 : InK .i64 x_7) (ix_8 : InK .i64 x_8) : tT120.R rw H [.int .i64 x_0, .int .i64 x_1, .int .i64 x_2, .int .i64 x_3, .int .i64 x_4, .int .i64 x_5, .int .i64 x_6, .int .i64 x_7, .int .i64 x_8, .bool x_9, vx_10, vx_11, vx_12] (x_0, x_1, x_2, x_3, x_4, x_5, x_6, x_7, x_8, x_9, x_10, x_11, x_12) (bx_10 ++ (bx_11 ++ bx_12)) := by
  have h : tT120.R rw H ([.int .i64 x_0] ++ ([.int .i64 x_1] ++ ([.int .i64 x_2] ++ ([.int .i64 x_3] ++ ([.int .i64 x_4] ++ ([.int .i64 x_5] ++ ([.int .i64 x_6] ++ ([.int .i64 x_7] ++ ([.int .i64 x_8] ++ ([.bool x_9] ++ ([vx_10] ++ ([vx_11] ++ [vx_12])))))))))))) (x_0, x_1, x_2, x_3, x_4, x_5, x_6, x_7, x_8, x_9, x_10, x_11, x_12) ([] ++ ([] ++ ([] ++ ([] ++ ([] ++ ([] ++ ([] ++ ([] ++ ([] ++ ([] ++ (bx_10 ++ (bx_11 ++ bx_12)))))))))))) := (Ty.R.pair (Ty.R.int ix_0) (Ty.R.pair (Ty.R.int ix_1) (Ty.R.pair (Ty.R.int ix_2) (Ty.R.pair (Ty.R.int ix_3) (Ty.R.pair (Ty.R.int ix_4) (Ty.R.pair (Ty.R.int ix_5) (Ty.R.pair (Ty.R.int ix_6) (Ty.R.pair (Ty.R.int ix_7) (Ty.R.pair (Ty.R.int ix_8) (Ty.R.pair (Ty.R.bool x_9) (Ty.R.pair hx_10 (Ty.R.pair hx_11 hx_12))))))))))))
  simpa using h
set_option maxHeartbeats 4000000 in
theorem eqParams_h {H h : AH} {c1 c2 : List AV} {d : tT120.D} {b1 b2 : List Nat} {r1 r2 : Bool} (h1 : tT120.R r1 H c1 d b1) (h2 : tT120.R r2 H c2 d b2) (hK : Kp H h) (hb : tT120.bd 1048576 d) (m : Nat) (hm : 1048740 ≤ m) :
    ∃ h', ev Try.prog m 171 [.agg c1, .agg c2] h = some (.bool true, h') ∧ Kp h h' := by
  obtain ⟨m, rfl⟩ : ∃ k, m = k + 1 := ⟨m - 1, by omega⟩
  obtain ⟨x_0, x_1, x_2, x_3, x_4, x_5, x_6, x_7, x_8, x_9, x_10, x_11, x_12⟩ := d
  obtain ⟨hbx_0, hbx_1, hbx_2, hbx_3, hbx_4, hbx_5, hbx_6, hbx_7, hbx_8, hbx_9, hbx_10, hbx_11, hbx_12⟩ := hb
  obtain ⟨vx_10, vx_11, vx_12, bx_10, bx_11, bx_12, rfl, rfl, hx_10, hx_11, hx_12, ix_0, ix_1, ix_2, ix_3, ix_4, ix_5, ix_6, ix_7, ix_8⟩ := o120 h1
  obtain ⟨wx_10, wx_11, wx_12, ex_10, ex_11, ex_12, rfl, rfl, kx_10, kx_11, kx_12, jx_0, jx_1, jx_2, jx_3, jx_4, jx_5, jx_6, jx_7, jx_8⟩ := o120 h2
  have ox_10 := hx_10.sl_one
  have px_10 := kx_10.sl_one
  have ox_11 := hx_11.sl_one
  have px_11 := kx_11.sl_one
  have ox_12 := hx_12.sl_one
  have px_12 := kx_12.sl_one
  let A0 : AH := (h.push (.cells 120 false [.int .i64 x_0, .int .i64 x_1, .int .i64 x_2, .int .i64 x_3, .int .i64 x_4, .int .i64 x_5, .int .i64 x_6, .int .i64 x_7, .int .i64 x_8, .bool x_9, vx_10, vx_11, vx_12])).push (.cells 120 false [.int .i64 x_0, .int .i64 x_1, .int .i64 x_2, .int .i64 x_3, .int .i64 x_4, .int .i64 x_5, .int .i64 x_6, .int .i64 x_7, .int .i64 x_8, .bool x_9, wx_10, wx_11, wx_12])
  have K0 : Kp h A0 := ((Kp.refl h).push _).push _
  have g0 : A0.get h.next = some (.cells 120 false [.int .i64 x_0, .int .i64 x_1, .int .i64 x_2, .int .i64 x_3, .int .i64 x_4, .int .i64 x_5, .int .i64 x_6, .int .i64 x_7, .int .i64 x_8, .bool x_9, vx_10, vx_11, vx_12]) := by simp [A0]
  have f0 : A0.get (h.next + 1) = some (.cells 120 false [.int .i64 x_0, .int .i64 x_1, .int .i64 x_2, .int .i64 x_3, .int .i64 x_4, .int .i64 x_5, .int .i64 x_6, .int .i64 x_7, .int .i64 x_8, .bool x_9, wx_10, wx_11, wx_12]) := by simp [A0]
  have n0 : h.next + 2 ≤ A0.next := by simp [A0]
  obtain ⟨A1, a1, Q1⟩ := eqByteS_h hx_10 kx_10 (hK.trans K0) hbx_10 m (by omega)
  have K1 : Kp h A1 := K0.trans Q1
  have g1 : A1.get h.next = _ := (Q1.get _ (by omega)).trans g0
  have f1 : A1.get (h.next + 1) = _ := (Q1.get _ (by omega)).trans f0
  have n1 : h.next + 2 ≤ A1.next := by have := Q1.next; omega
  obtain ⟨A2, a2, Q2⟩ := eqByteS_h hx_11 kx_11 (hK.trans K1) hbx_11 m (by omega)
  have K2 : Kp h A2 := K1.trans Q2
  have g2 : A2.get h.next = _ := (Q2.get _ (by omega)).trans g1
  have f2 : A2.get (h.next + 1) = _ := (Q2.get _ (by omega)).trans f1
  have n2 : h.next + 2 ≤ A2.next := by have := Q2.next; omega
  obtain ⟨A3, a3, Q3⟩ := eqByteS_h hx_12 kx_12 (hK.trans K2) hbx_12 m (by omega)
  have K3 : Kp h A3 := K2.trans Q3
  have g3 : A3.get h.next = _ := (Q3.get _ (by omega)).trans g2
  have f3 : A3.get (h.next + 1) = _ := (Q3.get _ (by omega)).trans f2
  have n3 : h.next + 2 ≤ A3.next := by have := Q3.next; omega
  refine ⟨A3, ?_, K3⟩
  have nn1 : ¬ (h.next = h.next + 1) := by omega
  rw [ev_eq Try.func171 ok171 m _ h (by simp [Try.f171])]
  simp only [A0] at a1 g0 f0
  simp [Try.f171, ldVar, nn1, evHist, ObsOk, ObOk, ba_refl, ox_10, ox_11, ox_12, px_10, px_11, px_12, a1, g1, f1, a2, g2, f2, a3, g3, f3]
/-! eqHello -/
abbrev tT122 : Ty := .pair (Ty.int .i64) (.pair (Ty.int .i64) (.pair (Ty.sl 5 (Ty.int .u8)) (.pair (Ty.sl 3 (Ty.int .i64)) (.pair (Ty.sl 9 Ty.str) tT120))))
theorem o122 {rw : Bool} {H : AH} {c : List AV} {x_0 : Int} {x_1 : Int} {x_2 : List (Ty.int .u8).D} {x_3 : List (Ty.int .i64).D} {x_4 : List Ty.str.D} {x_5_0 : Int} {x_5_1 : Int} {x_5_2 : Int} {x_5_3 : Int} {x_5_4 : Int} {x_5_5 : Int} {x_5_6 : Int} {x_5_7 : Int} {x_5_8 : Int} {x_5_9 : Bool} {x_5_10 : List (Ty.int .u8).D} {x_5_11 : List (Ty.int .u8).D} {x_5_12 : List (Ty.int .u8).D} {bs : List Nat} (h : tT122.R rw H c (x_0, x_1, x_2, x_3, x_4, (x_5_0, x_5_1, x_5_2, x_5_3, x_5_4, x_5_5, x_5_6, x_5_7, x_5_8, x_5_9, x_5_10, x_5_11, x_5_12)) bs) : ∃ vx_2 vx_3 vx_4 vx_5_10 vx_5_11 vx_5_12 bx_2 bx_3 bx_4 bx_5_10 bx_5_11 bx_5_12, c = [.int .i64 x_0, .int .i64 x_1, vx_2, vx_3, vx_4, .int .i64 x_5_0, .int .i64 x_5_1, .int .i64 x_5_2, .int .i64 x_5_3, .int .i64 x_5_4, .int .i64 x_5_5, .int .i64 x_5_6, .int .i64 x_5_7, .int .i64 x_5_8, .bool x_5_9, vx_5_10, vx_5_11, vx_5_12] ∧ (bx_2 ++ (bx_3 ++ (bx_4 ++ (bx_5_10 ++ (bx_5_11 ++ bx_5_12))))) = bs ∧ (Ty.sl 5 (Ty.int .u8)).R rw H [vx_2] x_2 bx_2 ∧ (Ty.sl 3 (Ty.int .i64)).R rw H [vx_3] x_3 bx_3 ∧ (Ty.sl 9 Ty.str).R rw H [vx_4] x_4 bx_4 ∧ (Ty.sl 5 (Ty.int .u8)).R rw H [vx_5_10] x_5_10 bx_5_10 ∧ (Ty.sl 5 (Ty.int .u8)).R rw H [vx_5_11] x_5_11 bx_5_11 ∧ (Ty.sl 5 (Ty.int .u8)).R rw H [vx_5_12] x_5_12 bx_5_12 ∧ InK .i64 x_0 ∧ InK .i64 x_1 ∧ InK .i64 x_5_0 ∧ InK .i64 x_5_1 ∧ InK .i64 x_5_2 ∧ InK .i64 x_5_3 ∧ InK .i64 x_5_4 ∧ InK .i64 x_5_5 ∧ InK .i64 x_5_6 ∧ InK .i64 x_5_7 ∧ InK .i64 x_5_8 := by
  obtain ⟨c1, d1, e1, f1, rfl, rfl, ⟨rfl, rx_0, sx_0, rfl⟩, ⟨c2, d2, e2, f2, rfl, rfl, ⟨rfl, rx_1, sx_1, rfl⟩, ⟨c3, d3, e3, f3, rfl, rfl, hx_2, ⟨c4, d4, e4, f4, rfl, rfl, hx_3, ⟨c5, d5, e5, f5, rfl, rfl, hx_4, ⟨c6, d6, e6, f6, rfl, rfl, ⟨rfl, rx_5_0, sx_5_0, rfl⟩, ⟨c7, d7, e7, f7, rfl, rfl, ⟨rfl, rx_5_1, sx_5_1, rfl⟩, ⟨c8, d8, e8, f8, rfl, rfl, ⟨rfl, rx_5_2, sx_5_2, rfl⟩, ⟨c9, d9, e9, f9, rfl, rfl, ⟨rfl, rx_5_3, sx_5_3, rfl⟩, ⟨c10, d10, e10, f10, rfl, rfl, ⟨rfl, rx_5_4, sx_5_4, rfl⟩, ⟨c11, d11, e11, f11, rfl, rfl, ⟨rfl, rx_5_5, sx_5_5, rfl⟩, ⟨c12, d12, e12, f12, rfl, rfl, ⟨rfl, rx_5_6, sx_5_6, rfl⟩, ⟨c13, d13, e13, f13, rfl, rfl, ⟨rfl, rx_5_7, sx_5_7, rfl⟩, ⟨c14, d14, e14, f14, rfl, rfl, ⟨rfl, rx_5_8, sx_5_8, rfl⟩, ⟨c15, d15, e15, f15, rfl, rfl, ⟨rfl, rfl⟩, ⟨c16, d16, e16, f16, rfl, rfl, hx_5_10, ⟨c17, d17, e17, f17, rfl, rfl, hx_5_11, hx_5_12⟩⟩⟩⟩⟩⟩⟩⟩⟩⟩⟩⟩⟩⟩⟩⟩⟩ := h
  obtain ⟨vx_2, rfl⟩ := hx_2.sl_cell
  obtain ⟨vx_3, rfl⟩ := hx_3.sl_cell
  obtain ⟨vx_4, rfl⟩ := hx_4.sl_cell
  obtain ⟨vx_5_10, rfl⟩ := hx_5_10.sl_cell
  obtain ⟨vx_5_11, rfl⟩ := hx_5_11.sl_cell
  obtain ⟨vx_5_12, rfl⟩ := hx_5_12.sl_cell
  exact ⟨vx_2, vx_3, vx_4, vx_5_10, vx_5_11, vx_5_12, _, _, _, _, _, _, by simp, by simp, hx_2, hx_3, hx_4, hx_5_10, hx_5_11, hx_5_12, ⟨rx_0, sx_0⟩, ⟨rx_1, sx_1⟩, ⟨rx_5_0, sx_5_0⟩, ⟨rx_5_1, sx_5_1⟩, ⟨rx_5_2, sx_5_2⟩, ⟨rx_5_3, sx_5_3⟩, ⟨rx_5_4, sx_5_4⟩, ⟨rx_5_5, sx_5_5⟩, ⟨rx_5_6, sx_5_6⟩, ⟨rx_5_7, sx_5_7⟩, ⟨rx_5_8, sx_5_8⟩⟩
theorem i122 {rw : Bool} {H : AH} {x_0 : Int} {x_1 : Int} {x_2 : List (Ty.int .u8).D} {x_3 : List (Ty.int .i64).D} {x_4 : List Ty.str.D} {x_5_0 : Int} {x_5_1 : Int} {x_5_2 : Int} {x_5_3 : Int} {x_5_4 : Int} {x_5_5 : Int} {x_5_6 : Int} {x_5_7 : Int} {x_5_8 : Int} {x_5_9 : Bool} {x_5_10 : List (Ty.int .u8).D} {x_5_11 : List (Ty.int .u8).D} {x_5_12 : List (Ty.int .u8).D} {vx_2 vx_3 vx_4 vx_5_10 vx_5_11 vx_5_12 : AV} {bx_2 bx_3 bx_4 bx_5_10 bx_5_11 bx_5_12 : List Nat} (hx_2 : (Ty.sl 5 (Ty.int .u8)).R rw H [vx_2] x_2 bx_2) (hx_3 : (Ty.sl 3 (Ty.int .i64)).R rw H [vx_3] x_3 bx_3) (hx_4 : (Ty.sl 9 Ty.str).R rw H [vx_4] x_4 bx_4) (hx_5_10 : (Ty.sl 5 (Ty.int .u8)).R rw H [vx_5_10] x_5_10 bx_5_10) (hx_5_11 : (Ty.sl 5 (Ty.int .u8)).R rw H [vx_5_11] x_5_11 bx_5_11) (hx_5_12 : (Ty.sl 5 (Ty.int .u8)).R rw H [vx_5_12] x_5_12 bx_5_12) (ix_0 : InK .i64 x_0) (ix_1 : InK .i64 x_1) (ix_5_0 : InK .i64 x_5_0) (ix_5_1 : InK .i64 x_5_1) (ix_5_2 : InK .i64 x_5_2) (ix_5_3 : InK .i64 x_5_3) (ix_5_4 : InK .i64 x_5_4) (ix_5_5 : InK .i64 x_5_5) (ix_5_6 : InK .i64 x_5_6) (ix_5_7 : InK .i64 x_5_7) (ix_5_8 : InK .i64 x_5_8) : tT122.R rw H [.int .i64 x_0, .int .i64 x_1, vx_2, vx_3, vx_4, .int .i64 x_5_0, .int .i64 x_5_1, .int .i64 x_5_2, .int .i64 x_5_3, .int .i64 x_5_4, .int .i64 x_5_5, .int .i64 x_5_6, .int .i64 x_5_7, .int .i64 x_5_8, .bool x_5_9, vx_5_10, vx_5_11, vx_5_12] (x_0, x_1, x_2, x_3, x_4, (x_5_0, x_5_1, x_5_2, x_5_3, x_5_4, x_5_5, x_5_6, x_5_7, x_5_8, x_5_9, x_5_10, x_5_11, x_5_12)) (bx_2 ++ (bx_3 ++ (bx_4 ++ (bx_5_10 ++ (bx_5_11 ++ bx_5_12))))) := by
  have h : tT122.R rw H ([.int .i64 x_0] ++ ([.int .i64 x_1] ++ ([vx_2] ++ ([vx_3] ++ ([vx_4] ++ ([.int .i64 x_5_0] ++ ([.int .i64 x_5_1] ++ ([.int .i64 x_5_2] ++ ([.int .i64 x_5_3] ++ ([.int .i64 x_5_4] ++ ([.int .i64 x_5_5] ++ ([.int .i64 x_5_6] ++ ([.int .i64 x_5_7] ++ ([.int .i64 x_5_8] ++ ([.bool x_5_9] ++ ([vx_5_10] ++ ([vx_5_11] ++ [vx_5_12]))))))))))))))))) (x_0, x_1, x_2, x_3, x_4, (x_5_0, x_5_1, x_5_2, x_5_3, x_5_4, x_5_5, x_5_6, x_5_7, x_5_8, x_5_9, x_5_10, x_5_11, x_5_12)) ([] ++ ([] ++ (bx_2 ++ (bx_3 ++ (bx_4 ++ ([] ++ ([] ++ ([] ++ ([] ++ ([] ++ ([] ++ ([] ++ ([] ++ ([] ++ ([] ++ (bx_5_10 ++ (bx_5_11 ++ bx_5_12))))))))))))))))) := (Ty.R.pair (Ty.R.int ix_0) (Ty.R.pair (Ty.R.int ix_1) (Ty.R.pair hx_2 (Ty.R.pair hx_3 (Ty.R.pair hx_4 (Ty.R.pair (Ty.R.int ix_5_0) (Ty.R.pair (Ty.R.int ix_5_1) (Ty.R.pair (Ty.R.int ix_5_2) (Ty.R.pair (Ty.R.int ix_5_3) (Ty.R.pair (Ty.R.int ix_5_4) (Ty.R.pair (Ty.R.int ix_5_5) (Ty.R.pair (Ty.R.int ix_5_6) (Ty.R.pair (Ty.R.int ix_5_7) (Ty.R.pair (Ty.R.int ix_5_8) (Ty.R.pair (Ty.R.bool x_5_9) (Ty.R.pair hx_5_10 (Ty.R.pair hx_5_11 hx_5_12)))))))))))))))))
  simpa using h
set_option maxHeartbeats 4000000 in
theorem eqHello_h {H h : AH} {c1 c2 : List AV} {d : tT122.D} {b1 b2 : List Nat} {r1 r2 : Bool} (h1 : tT122.R r1 H c1 d b1) (h2 : tT122.R r2 H c2 d b2) (hK : Kp H h) (hb : tT122.bd 1048576 d) (m : Nat) (hm : 1048760 ≤ m) :
    ∃ h', ev Try.prog m 78 [.agg c1, .agg c2] h = some (.bool true, h') ∧ Kp h h' := by
  obtain ⟨m, rfl⟩ : ∃ k, m = k + 1 := ⟨m - 1, by omega⟩
  obtain ⟨x_0, x_1, x_2, x_3, x_4, ⟨x_5_0, x_5_1, x_5_2, x_5_3, x_5_4, x_5_5, x_5_6, x_5_7, x_5_8, x_5_9, x_5_10, x_5_11, x_5_12⟩⟩ := d
  obtain ⟨hbx_0, hbx_1, hbx_2, hbx_3, hbx_4, ⟨hbx_5_0, hbx_5_1, hbx_5_2, hbx_5_3, hbx_5_4, hbx_5_5, hbx_5_6, hbx_5_7, hbx_5_8, hbx_5_9, hbx_5_10, hbx_5_11, hbx_5_12⟩⟩ := hb
  obtain ⟨vx_2, vx_3, vx_4, vx_5_10, vx_5_11, vx_5_12, bx_2, bx_3, bx_4, bx_5_10, bx_5_11, bx_5_12, rfl, rfl, hx_2, hx_3, hx_4, hx_5_10, hx_5_11, hx_5_12, ix_0, ix_1, ix_5_0, ix_5_1, ix_5_2, ix_5_3, ix_5_4, ix_5_5, ix_5_6, ix_5_7, ix_5_8⟩ := o122 h1
  obtain ⟨wx_2, wx_3, wx_4, wx_5_10, wx_5_11, wx_5_12, ex_2, ex_3, ex_4, ex_5_10, ex_5_11, ex_5_12, rfl, rfl, kx_2, kx_3, kx_4, kx_5_10, kx_5_11, kx_5_12, jx_0, jx_1, jx_5_0, jx_5_1, jx_5_2, jx_5_3, jx_5_4, jx_5_5, jx_5_6, jx_5_7, jx_5_8⟩ := o122 h2
  have ox_2 := hx_2.sl_one
  have px_2 := kx_2.sl_one
  have ox_3 := hx_3.sl_one
  have px_3 := kx_3.sl_one
  have ox_4 := hx_4.sl_one
  have px_4 := kx_4.sl_one
  have ox_5_10 := hx_5_10.sl_one
  have px_5_10 := kx_5_10.sl_one
  have ox_5_11 := hx_5_11.sl_one
  have px_5_11 := kx_5_11.sl_one
  have ox_5_12 := hx_5_12.sl_one
  have px_5_12 := kx_5_12.sl_one
  let A0 : AH := (h.push (.cells 122 false [.int .i64 x_0, .int .i64 x_1, vx_2, vx_3, vx_4, .int .i64 x_5_0, .int .i64 x_5_1, .int .i64 x_5_2, .int .i64 x_5_3, .int .i64 x_5_4, .int .i64 x_5_5, .int .i64 x_5_6, .int .i64 x_5_7, .int .i64 x_5_8, .bool x_5_9, vx_5_10, vx_5_11, vx_5_12])).push (.cells 122 false [.int .i64 x_0, .int .i64 x_1, wx_2, wx_3, wx_4, .int .i64 x_5_0, .int .i64 x_5_1, .int .i64 x_5_2, .int .i64 x_5_3, .int .i64 x_5_4, .int .i64 x_5_5, .int .i64 x_5_6, .int .i64 x_5_7, .int .i64 x_5_8, .bool x_5_9, wx_5_10, wx_5_11, wx_5_12])
  have K0 : Kp h A0 := ((Kp.refl h).push _).push _
  have g0 : A0.get h.next = some (.cells 122 false [.int .i64 x_0, .int .i64 x_1, vx_2, vx_3, vx_4, .int .i64 x_5_0, .int .i64 x_5_1, .int .i64 x_5_2, .int .i64 x_5_3, .int .i64 x_5_4, .int .i64 x_5_5, .int .i64 x_5_6, .int .i64 x_5_7, .int .i64 x_5_8, .bool x_5_9, vx_5_10, vx_5_11, vx_5_12]) := by simp [A0]
  have f0 : A0.get (h.next + 1) = some (.cells 122 false [.int .i64 x_0, .int .i64 x_1, wx_2, wx_3, wx_4, .int .i64 x_5_0, .int .i64 x_5_1, .int .i64 x_5_2, .int .i64 x_5_3, .int .i64 x_5_4, .int .i64 x_5_5, .int .i64 x_5_6, .int .i64 x_5_7, .int .i64 x_5_8, .bool x_5_9, wx_5_10, wx_5_11, wx_5_12]) := by simp [A0]
  have n0 : h.next + 2 ≤ A0.next := by simp [A0]
  obtain ⟨A1, a1, Q1⟩ := eqByteS_h hx_2 kx_2 (hK.trans K0) hbx_2 m (by omega)
  have K1 : Kp h A1 := K0.trans Q1
  have g1 : A1.get h.next = _ := (Q1.get _ (by omega)).trans g0
  have f1 : A1.get (h.next + 1) = _ := (Q1.get _ (by omega)).trans f0
  have n1 : h.next + 2 ≤ A1.next := by have := Q1.next; omega
  obtain ⟨A2, a2, Q2⟩ := eqIntS_h hx_3 kx_3 (hK.trans K1) hbx_3 m (by omega)
  have K2 : Kp h A2 := K1.trans Q2
  have g2 : A2.get h.next = _ := (Q2.get _ (by omega)).trans g1
  have f2 : A2.get (h.next + 1) = _ := (Q2.get _ (by omega)).trans f1
  have n2 : h.next + 2 ≤ A2.next := by have := Q2.next; omega
  obtain ⟨A3, a3, Q3⟩ := eqStringS_h hx_4 kx_4 (hK.trans K2) hbx_4 m (by omega)
  have K3 : Kp h A3 := K2.trans Q3
  have g3 : A3.get h.next = _ := (Q3.get _ (by omega)).trans g2
  have f3 : A3.get (h.next + 1) = _ := (Q3.get _ (by omega)).trans f2
  have n3 : h.next + 2 ≤ A3.next := by have := Q3.next; omega
  have hhx_5 : tT120.R r1 H [.int .i64 x_5_0, .int .i64 x_5_1, .int .i64 x_5_2, .int .i64 x_5_3, .int .i64 x_5_4, .int .i64 x_5_5, .int .i64 x_5_6, .int .i64 x_5_7, .int .i64 x_5_8, .bool x_5_9, vx_5_10, vx_5_11, vx_5_12] (x_5_0, x_5_1, x_5_2, x_5_3, x_5_4, x_5_5, x_5_6, x_5_7, x_5_8, x_5_9, x_5_10, x_5_11, x_5_12) (bx_5_10 ++ (bx_5_11 ++ bx_5_12)) := i120 hx_5_10 hx_5_11 hx_5_12 ix_5_0 ix_5_1 ix_5_2 ix_5_3 ix_5_4 ix_5_5 ix_5_6 ix_5_7 ix_5_8
  have kkx_5 : tT120.R r2 H [.int .i64 x_5_0, .int .i64 x_5_1, .int .i64 x_5_2, .int .i64 x_5_3, .int .i64 x_5_4, .int .i64 x_5_5, .int .i64 x_5_6, .int .i64 x_5_7, .int .i64 x_5_8, .bool x_5_9, wx_5_10, wx_5_11, wx_5_12] (x_5_0, x_5_1, x_5_2, x_5_3, x_5_4, x_5_5, x_5_6, x_5_7, x_5_8, x_5_9, x_5_10, x_5_11, x_5_12) (ex_5_10 ++ (ex_5_11 ++ ex_5_12)) := i120 kx_5_10 kx_5_11 kx_5_12 jx_5_0 jx_5_1 jx_5_2 jx_5_3 jx_5_4 jx_5_5 jx_5_6 jx_5_7 jx_5_8
  obtain ⟨A4, a4, Q4⟩ := eqParams_h hhx_5 kkx_5 (hK.trans K3) ⟨hbx_5_0, hbx_5_1, hbx_5_2, hbx_5_3, hbx_5_4, hbx_5_5, hbx_5_6, hbx_5_7, hbx_5_8, hbx_5_9, hbx_5_10, hbx_5_11, hbx_5_12⟩ m (by omega)
  have K4 : Kp h A4 := K3.trans Q4
  have g4 : A4.get h.next = _ := (Q4.get _ (by omega)).trans g3
  have f4 : A4.get (h.next + 1) = _ := (Q4.get _ (by omega)).trans f3
  have n4 : h.next + 2 ≤ A4.next := by have := Q4.next; omega
  refine ⟨A4, ?_, K4⟩
  have nn1 : ¬ (h.next = h.next + 1) := by omega
  rw [ev_eq Try.func78 ok78 m _ h (by simp [Try.f78])]
  simp only [A0] at a1 g0 f0
  simp [Try.f78, ldVar, nn1, evHist, ObsOk, ObOk, ba_refl, ox_2, ox_3, ox_4, ox_5_10, ox_5_11, ox_5_12, px_2, px_3, px_4, px_5_10, px_5_11, px_5_12, a1, g1, f1, a2, g2, f2, a3, g3, f3, a4, g4, f4]
/-! markByteS -/
def ImarkByteS_h (ds : List (Ty.int .u8).D) (s : AV) (k0 : Int) (bs : List Nat) (H : AH) (d : Nat) (τ : Tm) (h : AH) : Prop :=
  ∃ k : Nat, k + d = ds.length ∧ τ 0 = s ∧ τ 1 = .int .i64 (k0 + (cntL ((Ty.int .u8).cnt true) (ds.take k) : Nat)) ∧ τ 5 = .int .i64 k ∧ KoL bs H h ∧ (Ty.sl 5 (Ty.int .u8)).R true h [s] (mkRow ((Ty.int .u8).mk true) ((Ty.int .u8).cnt true) k0 (ds.take k) ++ ds.drop k) bs
set_option maxHeartbeats 4000000 in
theorem markByteS_h {H : AH} {s : AV} {ds : List (Ty.int .u8).D} {bs : List Nat} (hd : (Ty.sl 5 (Ty.int .u8)).R true H [s] ds bs) (hnd : bs.Nodup) (hb : (Ty.sl 5 (Ty.int .u8)).bd 1048576 ds) {k0 : Int} (hk0 : 0 ≤ k0) (hk1 : k0 + ((Ty.sl 5 (Ty.int .u8)).cnt true ds : Nat) ≤ 2147483648) (m : Nat) (hm : 1048720 ≤ m) :
    ∃ H', ev Try.prog m 44 [s, .int .i64 k0] H = some (.int .i64 (k0 + ((Ty.sl 5 (Ty.int .u8)).cnt true ds : Nat)), H') ∧ KoL bs H H' ∧ (Ty.sl 5 (Ty.int .u8)).R true H' [s] ((Ty.sl 5 (Ty.int .u8)).mk true k0 ds) bs := by
  obtain ⟨m, rfl⟩ : ∃ k, m = k + 1 := ⟨m - 1, by omega⟩
  obtain ⟨hl, hl2⟩ := hb
  rw [cnt_sl] at hk1 ⊢
  rw [mk_sl]
  rw [ev_eq Try.func44 ok44 m _ H (by simp [Try.f44])]
  simp [Try.f44]
  generalize hLo : evLoop _ _ _ _ _ _ = R
  obtain ⟨e, τ', H', rfl, rfl, g1, g2, g3⟩ := loop_at hLo (loop_rule (d := ds.length) (ImarkByteS_h ds s k0 bs H)
    (fun e τ h => e = .exit 0 ∧ τ 1 = .int .i64 (k0 + (cntL ((Ty.int .u8).cnt true) ds : Nat)) ∧ KoL bs H h ∧ (Ty.sl 5 (Ty.int .u8)).R true h [s] (mkRow ((Ty.int .u8).mk true) ((Ty.int .u8).cnt true) k0 ds) bs)
    (by
      rintro d τ h ⟨k, hk, t0, t1, t5, hK, hR⟩
      have hlen' : (mkRow ((Ty.int .u8).mk true) ((Ty.int .u8).cnt true) k0 (ds.take k) ++ ds.drop k).length = ds.length := by simp [mkRow_len]; omega
      have hL := Ty.R.lenA hR (P := Try.prog) (T := 34) (by simp)
      rw [hlen'] at hL
      by_cases hd0 : d = 0
      · subst hd0
        have : k = ds.length := by omega
        subst this
        rw [List.take_length] at t1
        rewrite [lp44_26]
        simp [Try.f44, t0, t1, t5, hL]
        exact ⟨hK, by simpa using hR⟩
      · have hlt : k < ds.length := by omega
        obtain ⟨b, o, x1, c, x2, bk, u1, u2, u3, u4, u5, u6, u7, u8, u9, u10⟩ := Ty.R.upd hR hnd (P := Try.prog) (T := 34) (by simp) (by simp [Ty.n]) (k := k) (by omega)
        have hat := mkRow_atH ((Ty.int .u8).mk true) ((Ty.int .u8).cnt true) k0 ds k hlt (by rw [hlen']; exact hlt)
        rw [hat] at u5
        have hbd := hl2 _ (List.getElem_mem hlt)
        have hct := cntL_take_succ' ((Ty.int .u8).cnt true) ds k hlt
        have hcl := cntL_take_le' ((Ty.int .u8).cnt true) ds (k + 1)
        have hms := mkRow_setH ((Ty.int .u8).mk true) ((Ty.int .u8).cnt true) k0 ds k hlt
        generalize hK0 : k0 + (cntL ((Ty.int .u8).cnt true) (ds.take k) : Nat) = K0 at *
        have hKb : 0 ≤ K0 ∧ K0 ≤ 2147483648 := by omega
        generalize hdk : ds[k] = dk at *
        obtain ⟨x, hx0⟩ : ∃ x, x = dk := ⟨_, rfl⟩
        subst hx0
        obtain ⟨rfl, r1, r2, rfl⟩ := u5
        obtain ⟨K1, hK1⟩ : ∃ z, z = K0 + (((Ty.int .u8).cnt true x : Nat) : Int) := ⟨_, rfl⟩
        have htot : (Ty.int .u8).cnt true x = (Ty.int .u8).cnt true x := rfl
        rw [htot] at hct
        have hKl : K1 = k0 + (cntL ((Ty.int .u8).cnt true) (ds.take (k + 1)) : Nat) := by rw [hct]; push_cast; omega
        have u1' : K1 ≤ 2147483648 := by omega
        have u0' := dn_step hK1 u1'
        have p0' : 0 ≤ K0 := hKb.1
        have p1' := up_step hK1 p0'
        have w0 := wrap_step hK1 rfl p0' u1'
        obtain ⟨z0, hz0⟩ : ∃ z, IntKind.u8.wrap K0 = z := ⟨_, rfl⟩
        have cv0 : ∀ h', convA Try.prog 3 5 (.int .i64 K0) h' = some (.int .u8 z0, h') := fun h' => (conv_int (ds := .int .i64) (k := .u8) (by simp) (by simp)).trans (by rw [hz0])
        have hmk : (Ty.int .u8).mk true K0 x = z0 := by rw [mk_intw, hz0]
        have h0 : h = h := rfl
        have G0 : h.get b = some (.cells 5 false (x1 ++ [.int .u8 x] ++ x2)) := u3
        have N0 : h.next = h.next := rfl
        have E0 : ∀ y, y < h.next → y ≠ b → y ∉ ([] : List Nat) → h.get y = h.get y := fun _ _ _ _ => rfl
        obtain ⟨B0, hB0⟩ : ∃ B, B = Blk.cells 5 false (x1 ++ [.int .u8 z0] ++ x2) := ⟨_, rfl⟩
        have s0 : stVar Try.prog 5 b o (.int .u8 z0) h = some (h.set b B0) := by rw [hB0]; exact stf0 G0 u4 (by simp) rfl (by simp) rfl
        obtain ⟨h1, eh1⟩ : ∃ z, h.set b B0 = z := ⟨_, rfl⟩
        have G1 : h1.get b = some (.cells 5 false (x1 ++ [.int .u8 z0] ++ x2)) := by rw [← eh1, AH.set_getS, hB0]
        have N1 : h1.next = h.next := by rw [← eh1, AH.set_next]
        have E1 : ∀ y, y < h.next → y ≠ b → y ∉ ([] : List Nat) → h1.get y = h.get y := fun y hy h1 h2 => by rw [← eh1]; exact (AH.set_getN _ _ h1).trans (E0 y hy h1 h2)
        rw [eh1] at s0
        have KLf : KoL bs h h1 := ⟨N1, fun y hy hyb => E1 y hy (fun e => hyb (by rw [e]; exact u7)) (fun e => hyb (u6 y e))⟩
        have hRf : (Ty.int .u8).R true h1 [.int .u8 z0] z0 ([] : List Nat) := Ty.R.int (hz0 ▸ InK.wrap _ _)
        rw [hmk] at hms
        have hR6 := u10 h1 _ _ (by rw [N1]; exact Nat.le_refl _) (fun y hy h1 h2 => E1 y (hR.mem y hy) h1 h2) G1 hRf
        rw [hms] at hR6
        rewrite [lp44_26]
        simp [Try.f44, t0, t1, t5, hL, hlt, u1, w0, cv0, s0, wrap_i64 (n := (k : Int) + 1) (by omega) (by omega)]
        exact ⟨d - 1, by omega, k + 1, by omega, by simp [t0], by simp; omega, by simp, hK.trans KLf, hR6⟩)
    ⟨0, by simp, by simp, by simp [cntL], by simp, KoL.refl _ _, by simpa [mkRow] using hd⟩ (by omega))
  simp [g1]
  exact ⟨g2, g3⟩
/-! markIntS -/
def ImarkIntS_h (ds : List (Ty.int .i64).D) (s : AV) (k0 : Int) (bs : List Nat) (H : AH) (d : Nat) (τ : Tm) (h : AH) : Prop :=
  ∃ k : Nat, k + d = ds.length ∧ τ 0 = s ∧ τ 1 = .int .i64 (k0 + (cntL ((Ty.int .i64).cnt true) (ds.take k) : Nat)) ∧ τ 5 = .int .i64 k ∧ KoL bs H h ∧ (Ty.sl 3 (Ty.int .i64)).R true h [s] (mkRow ((Ty.int .i64).mk true) ((Ty.int .i64).cnt true) k0 (ds.take k) ++ ds.drop k) bs
set_option maxHeartbeats 4000000 in
theorem markIntS_h {H : AH} {s : AV} {ds : List (Ty.int .i64).D} {bs : List Nat} (hd : (Ty.sl 3 (Ty.int .i64)).R true H [s] ds bs) (hnd : bs.Nodup) (hb : (Ty.sl 3 (Ty.int .i64)).bd 1048576 ds) {k0 : Int} (hk0 : 0 ≤ k0) (hk1 : k0 + ((Ty.sl 3 (Ty.int .i64)).cnt true ds : Nat) ≤ 2147483648) (m : Nat) (hm : 1048720 ≤ m) :
    ∃ H', ev Try.prog m 172 [s, .int .i64 k0] H = some (.int .i64 (k0 + ((Ty.sl 3 (Ty.int .i64)).cnt true ds : Nat)), H') ∧ KoL bs H H' ∧ (Ty.sl 3 (Ty.int .i64)).R true H' [s] ((Ty.sl 3 (Ty.int .i64)).mk true k0 ds) bs := by
  obtain ⟨m, rfl⟩ : ∃ k, m = k + 1 := ⟨m - 1, by omega⟩
  obtain ⟨hl, hl2⟩ := hb
  rw [cnt_sl] at hk1 ⊢
  rw [mk_sl]
  rw [ev_eq Try.func172 ok172 m _ H (by simp [Try.f172])]
  simp [Try.f172]
  generalize hLo : evLoop _ _ _ _ _ _ = R
  obtain ⟨e, τ', H', rfl, rfl, g1, g2, g3⟩ := loop_at hLo (loop_rule (d := ds.length) (ImarkIntS_h ds s k0 bs H)
    (fun e τ h => e = .exit 0 ∧ τ 1 = .int .i64 (k0 + (cntL ((Ty.int .i64).cnt true) ds : Nat)) ∧ KoL bs H h ∧ (Ty.sl 3 (Ty.int .i64)).R true h [s] (mkRow ((Ty.int .i64).mk true) ((Ty.int .i64).cnt true) k0 ds) bs)
    (by
      rintro d τ h ⟨k, hk, t0, t1, t5, hK, hR⟩
      have hlen' : (mkRow ((Ty.int .i64).mk true) ((Ty.int .i64).cnt true) k0 (ds.take k) ++ ds.drop k).length = ds.length := by simp [mkRow_len]; omega
      have hL := Ty.R.lenA hR (P := Try.prog) (T := 60) (by simp)
      rw [hlen'] at hL
      by_cases hd0 : d = 0
      · subst hd0
        have : k = ds.length := by omega
        subst this
        rw [List.take_length] at t1
        rewrite [lp172_26]
        simp [Try.f172, t0, t1, t5, hL]
        exact ⟨hK, by simpa using hR⟩
      · have hlt : k < ds.length := by omega
        obtain ⟨b, o, x1, c, x2, bk, u1, u2, u3, u4, u5, u6, u7, u8, u9, u10⟩ := Ty.R.upd hR hnd (P := Try.prog) (T := 60) (by simp) (by simp [Ty.n]) (k := k) (by omega)
        have hat := mkRow_atH ((Ty.int .i64).mk true) ((Ty.int .i64).cnt true) k0 ds k hlt (by rw [hlen']; exact hlt)
        rw [hat] at u5
        have hbd := hl2 _ (List.getElem_mem hlt)
        have hct := cntL_take_succ' ((Ty.int .i64).cnt true) ds k hlt
        have hcl := cntL_take_le' ((Ty.int .i64).cnt true) ds (k + 1)
        have hms := mkRow_setH ((Ty.int .i64).mk true) ((Ty.int .i64).cnt true) k0 ds k hlt
        generalize hK0 : k0 + (cntL ((Ty.int .i64).cnt true) (ds.take k) : Nat) = K0 at *
        have hKb : 0 ≤ K0 ∧ K0 ≤ 2147483648 := by omega
        generalize hdk : ds[k] = dk at *
        obtain ⟨x, hx0⟩ : ∃ x, x = dk := ⟨_, rfl⟩
        subst hx0
        obtain ⟨rfl, r1, r2, rfl⟩ := u5
        obtain ⟨K1, hK1⟩ : ∃ z, z = K0 + (((Ty.int .i64).cnt true x : Nat) : Int) := ⟨_, rfl⟩
        have htot : (Ty.int .i64).cnt true x = (Ty.int .i64).cnt true x := rfl
        rw [htot] at hct
        have hKl : K1 = k0 + (cntL ((Ty.int .i64).cnt true) (ds.take (k + 1)) : Nat) := by rw [hct]; push_cast; omega
        have u1' : K1 ≤ 2147483648 := by omega
        have u0' := dn_step hK1 u1'
        have p0' : 0 ≤ K0 := hKb.1
        have p1' := up_step hK1 p0'
        have w0 := wrap_step hK1 rfl p0' u1'
        have hmk : (Ty.int .i64).mk true K0 x = K0 := by rw [mk_int31 p0' u0']
        have h0 : h = h := rfl
        have G0 : h.get b = some (.cells 3 false (x1 ++ [.int .i64 x] ++ x2)) := u3
        have N0 : h.next = h.next := rfl
        have E0 : ∀ y, y < h.next → y ≠ b → y ∉ ([] : List Nat) → h.get y = h.get y := fun _ _ _ _ => rfl
        obtain ⟨B0, hB0⟩ : ∃ B, B = Blk.cells 3 false (x1 ++ [.int .i64 K0] ++ x2) := ⟨_, rfl⟩
        have s0 : stVar Try.prog 3 b o (.int .i64 K0) h = some (h.set b B0) := by rw [hB0]; exact stf0 G0 u4 (by simp) rfl (by simp) rfl
        obtain ⟨h1, eh1⟩ : ∃ z, h.set b B0 = z := ⟨_, rfl⟩
        have G1 : h1.get b = some (.cells 3 false (x1 ++ [.int .i64 K0] ++ x2)) := by rw [← eh1, AH.set_getS, hB0]
        have N1 : h1.next = h.next := by rw [← eh1, AH.set_next]
        have E1 : ∀ y, y < h.next → y ≠ b → y ∉ ([] : List Nat) → h1.get y = h.get y := fun y hy h1 h2 => by rw [← eh1]; exact (AH.set_getN _ _ h1).trans (E0 y hy h1 h2)
        rw [eh1] at s0
        have KLf : KoL bs h h1 := ⟨N1, fun y hy hyb => E1 y hy (fun e => hyb (by rw [e]; exact u7)) (fun e => hyb (u6 y e))⟩
        have hRf : (Ty.int .i64).R true h1 [.int .i64 K0] K0 ([] : List Nat) := Ty.R.int (InK.k31 p0' u0')
        rw [hmk] at hms
        have hR6 := u10 h1 _ _ (by rw [N1]; exact Nat.le_refl _) (fun y hy h1 h2 => E1 y (hR.mem y hy) h1 h2) G1 hRf
        rw [hms] at hR6
        rewrite [lp172_26]
        simp [Try.f172, t0, t1, t5, hL, hlt, u1, w0, s0, wrap_i64 (n := (k : Int) + 1) (by omega) (by omega)]
        exact ⟨d - 1, by omega, k + 1, by omega, by simp [t0], by simp; omega, by simp, hK.trans KLf, hR6⟩)
    ⟨0, by simp, by simp, by simp [cntL], by simp, KoL.refl _ _, by simpa [mkRow] using hd⟩ (by omega))
  simp [g1]
  exact ⟨g2, g3⟩
/-! markParams -/
set_option maxHeartbeats 4000000 in
theorem markParams_h {Hb H : AH} {c : List AV} {d : tT120.D} {bs : List Nat} (hd : tT120.R true Hb c d bs) (hnd : bs.Nodup) (hK : Kp Hb H) (hb : tT120.bd 1048576 d) {k0 : Int} (hk0 : 0 ≤ k0) (hk1 : k0 + (tT120.cnt false d : Nat) ≤ 2147483648) (m : Nat) (hm : 1048740 ≤ m) :
    ∃ H', ev Try.prog m 174 [.agg c, .int .i64 k0] H = some (.int .i64 (k0 + (tT120.cnt false d : Nat)), H') ∧ KoS bs H H' ∧ tT120.R true H' c (tT120.mk false k0 d) bs := by
  obtain ⟨m, rfl⟩ : ∃ k, m = k + 1 := ⟨m - 1, by omega⟩
  obtain ⟨x_0, x_1, x_2, x_3, x_4, x_5, x_6, x_7, x_8, x_9, x_10, x_11, x_12⟩ := d
  obtain ⟨hbx_0, hbx_1, hbx_2, hbx_3, hbx_4, hbx_5, hbx_6, hbx_7, hbx_8, hbx_9, hbx_10, hbx_11, hbx_12⟩ := hb
  obtain ⟨K0, hK0⟩ : ∃ z, z = k0 := ⟨_, rfl⟩
  subst hK0
  obtain ⟨K1, hK1⟩ : ∃ z, z = K0 + (((Ty.int .i64).cnt false x_0 : Nat) : Int) := ⟨_, rfl⟩
  have hc0 : (Ty.int .i64).cnt false x_0 = 0 := rfl
  have hk10 : K1 = K0 := by omega
  obtain ⟨K2, hK2⟩ : ∃ z, z = K1 + (((Ty.int .i64).cnt false x_1 : Nat) : Int) := ⟨_, rfl⟩
  have hc1 : (Ty.int .i64).cnt false x_1 = 0 := rfl
  have hk11 : K2 = K1 := by omega
  obtain ⟨K3, hK3⟩ : ∃ z, z = K2 + (((Ty.int .i64).cnt false x_2 : Nat) : Int) := ⟨_, rfl⟩
  have hc2 : (Ty.int .i64).cnt false x_2 = 0 := rfl
  have hk12 : K3 = K2 := by omega
  obtain ⟨K4, hK4⟩ : ∃ z, z = K3 + (((Ty.int .i64).cnt false x_3 : Nat) : Int) := ⟨_, rfl⟩
  have hc3 : (Ty.int .i64).cnt false x_3 = 0 := rfl
  have hk13 : K4 = K3 := by omega
  obtain ⟨K5, hK5⟩ : ∃ z, z = K4 + (((Ty.int .i64).cnt false x_4 : Nat) : Int) := ⟨_, rfl⟩
  have hc4 : (Ty.int .i64).cnt false x_4 = 0 := rfl
  have hk14 : K5 = K4 := by omega
  obtain ⟨K6, hK6⟩ : ∃ z, z = K5 + (((Ty.int .i64).cnt false x_5 : Nat) : Int) := ⟨_, rfl⟩
  have hc5 : (Ty.int .i64).cnt false x_5 = 0 := rfl
  have hk15 : K6 = K5 := by omega
  obtain ⟨K7, hK7⟩ : ∃ z, z = K6 + (((Ty.int .i64).cnt false x_6 : Nat) : Int) := ⟨_, rfl⟩
  have hc6 : (Ty.int .i64).cnt false x_6 = 0 := rfl
  have hk16 : K7 = K6 := by omega
  obtain ⟨K8, hK8⟩ : ∃ z, z = K7 + (((Ty.int .i64).cnt false x_7 : Nat) : Int) := ⟨_, rfl⟩
  have hc7 : (Ty.int .i64).cnt false x_7 = 0 := rfl
  have hk17 : K8 = K7 := by omega
  obtain ⟨K9, hK9⟩ : ∃ z, z = K8 + (((Ty.int .i64).cnt false x_8 : Nat) : Int) := ⟨_, rfl⟩
  have hc8 : (Ty.int .i64).cnt false x_8 = 0 := rfl
  have hk18 : K9 = K8 := by omega
  obtain ⟨K10, hK10⟩ : ∃ z, z = K9 + ((Ty.bool.cnt false x_9 : Nat) : Int) := ⟨_, rfl⟩
  have hc9 : Ty.bool.cnt false x_9 = 0 := rfl
  have hk19 : K10 = K9 := by omega
  obtain ⟨K11, hK11⟩ : ∃ z, z = K10 + (((Ty.sl 5 (Ty.int .u8)).cnt false x_10 : Nat) : Int) := ⟨_, rfl⟩
  obtain ⟨K12, hK12⟩ : ∃ z, z = K11 + (((Ty.sl 5 (Ty.int .u8)).cnt false x_11 : Nat) : Int) := ⟨_, rfl⟩
  obtain ⟨K13, hK13⟩ : ∃ z, z = K12 + (((Ty.sl 5 (Ty.int .u8)).cnt false x_12 : Nat) : Int) := ⟨_, rfl⟩
  have htot : tT120.cnt false (x_0, x_1, x_2, x_3, x_4, x_5, x_6, x_7, x_8, x_9, x_10, x_11, x_12) = (Ty.int .i64).cnt false x_0 + ((Ty.int .i64).cnt false x_1 + ((Ty.int .i64).cnt false x_2 + ((Ty.int .i64).cnt false x_3 + ((Ty.int .i64).cnt false x_4 + ((Ty.int .i64).cnt false x_5 + ((Ty.int .i64).cnt false x_6 + ((Ty.int .i64).cnt false x_7 + ((Ty.int .i64).cnt false x_8 + (Ty.bool.cnt false x_9 + ((Ty.sl 5 (Ty.int .u8)).cnt false x_10 + ((Ty.sl 5 (Ty.int .u8)).cnt false x_11 + ((Ty.sl 5 (Ty.int .u8)).cnt false x_12)))))))))))) := rfl
  rw [htot] at hk1 ⊢
  have hKl : K0 + (((Ty.int .i64).cnt false x_0 + ((Ty.int .i64).cnt false x_1 + ((Ty.int .i64).cnt false x_2 + ((Ty.int .i64).cnt false x_3 + ((Ty.int .i64).cnt false x_4 + ((Ty.int .i64).cnt false x_5 + ((Ty.int .i64).cnt false x_6 + ((Ty.int .i64).cnt false x_7 + ((Ty.int .i64).cnt false x_8 + (Ty.bool.cnt false x_9 + ((Ty.sl 5 (Ty.int .u8)).cnt false x_10 + ((Ty.sl 5 (Ty.int .u8)).cnt false x_11 + ((Ty.sl 5 (Ty.int .u8)).cnt false x_12)))))))))))) : Nat) : Int) = K13 := by push_cast; omega
  rw [hKl] at hk1 ⊢
  have u12' : K12 ≤ 2147483648 := dn_step hK13 hk1
  have u11' : K11 ≤ 2147483648 := dn_step hK12 u12'
  have u10' : K10 ≤ 2147483648 := dn_step hK11 u11'
  have u9' : K9 ≤ 2147483648 := dn_step hK10 u10'
  have u8' : K8 ≤ 2147483648 := dn_step hK9 u9'
  have u7' : K7 ≤ 2147483648 := dn_step hK8 u8'
  have u6' : K6 ≤ 2147483648 := dn_step hK7 u7'
  have u5' : K5 ≤ 2147483648 := dn_step hK6 u6'
  have u4' : K4 ≤ 2147483648 := dn_step hK5 u5'
  have u3' : K3 ≤ 2147483648 := dn_step hK4 u4'
  have u2' : K2 ≤ 2147483648 := dn_step hK3 u3'
  have u1' : K1 ≤ 2147483648 := dn_step hK2 u2'
  have u0' : K0 ≤ 2147483648 := dn_step hK1 u1'
  have u13' := hk1
  have p0' : 0 ≤ K0 := hk0
  have p1' := up_step hK1 p0'
  have p2' := up_step hK2 p1'
  have p3' := up_step hK3 p2'
  have p4' := up_step hK4 p3'
  have p5' := up_step hK5 p4'
  have p6' := up_step hK6 p5'
  have p7' := up_step hK7 p6'
  have p8' := up_step hK8 p7'
  have p9' := up_step hK9 p8'
  have p10' := up_step hK10 p9'
  have p11' := up_step hK11 p10'
  have p12' := up_step hK12 p11'
  have p13' := up_step hK13 p12'
  have hmk : tT120.mk false K0 (x_0, x_1, x_2, x_3, x_4, x_5, x_6, x_7, x_8, x_9, x_10, x_11, x_12) = (x_0, x_1, x_2, x_3, x_4, x_5, x_6, x_7, x_8, x_9, ((Ty.sl 5 (Ty.int .u8)).mk false K10 x_10), ((Ty.sl 5 (Ty.int .u8)).mk false K11 x_11), ((Ty.sl 5 (Ty.int .u8)).mk false K12 x_12)) := by rw [mk_pair, ← hK1, mk_pair, ← hK2, mk_pair, ← hK3, mk_pair, ← hK4, mk_pair, ← hK5, mk_pair, ← hK6, mk_pair, ← hK7, mk_pair, ← hK8, mk_pair, ← hK9, mk_pair, ← hK10, mk_pair, ← hK11, mk_pair, ← hK12]; rfl
  rw [hmk]
  obtain ⟨vx_10, vx_11, vx_12, bx_10, bx_11, bx_12, rfl, rfl, hx_10, hx_11, hx_12, ix_0, ix_1, ix_2, ix_3, ix_4, ix_5, ix_6, ix_7, ix_8⟩ := o120 hd
  have ox_10 := hx_10.sl_one
  have ox_11 := hx_11.sl_one
  have ox_12 := hx_12.sl_one
  let A0 : AH := H.push (.cells 120 false [.int .i64 x_0, .int .i64 x_1, .int .i64 x_2, .int .i64 x_3, .int .i64 x_4, .int .i64 x_5, .int .i64 x_6, .int .i64 x_7, .int .i64 x_8, .bool x_9, vx_10, vx_11, vx_12])
  have P0 : Kp H A0 := (Kp.refl H).push _
  have g0 : A0.get H.next = some (.cells 120 false [.int .i64 x_0, .int .i64 x_1, .int .i64 x_2, .int .i64 x_3, .int .i64 x_4, .int .i64 x_5, .int .i64 x_6, .int .i64 x_7, .int .i64 x_8, .bool x_9, vx_10, vx_11, vx_12]) := by simp [A0]
  have nx : A0.next = H.next + 1 := rfl
  have kx_10 := hx_10.kp (hK.trans P0)
  have b_x_10 : ∀ z ∈ bx_10, z < H.next := fun z hz => (hx_10.kp hK).mem z hz
  have kx_11 := hx_11.kp (hK.trans P0)
  have b_x_11 : ∀ z ∈ bx_11, z < H.next := fun z hz => (hx_11.kp hK).mem z hz
  have kx_12 := hx_12.kp (hK.trans P0)
  have b_x_12 : ∀ z ∈ bx_12, z < H.next := fun z hz => (hx_12.kp hK).mem z hz
  have KS0 : KoS (bx_10 ++ (bx_11 ++ bx_12)) H A0 := P0.koS _
  have nd1 : bx_10.Nodup := by simp only [List.nodup_append] at hnd; grind
  obtain ⟨A1, s1, L1, R1⟩ := markByteS_h kx_10 nd1 hbx_10 (k0 := K10) p10' (le_of_eq_of_le hK11.symm u11') m (by omega)
  have e1 : K10 + (((Ty.sl 5 (Ty.int .u8)).cnt true x_10 : Nat) : Int) = K11 := hK11.symm
  rw [e1] at s1
  have n1 : A1.next = H.next + 1 := by rw [L1.next]; rfl
  have g1 : A1.get H.next = _ := (L1.get _ (by rw [nx]; omega) (fun e => by have := b_x_10 _ e; omega)).trans g0
  have KS1 : KoS (bx_10 ++ (bx_11 ++ bx_12)) H A1 := KS0.trans (L1.koS) (fun b hb => .inl (by simp [hb]))
  have M1x_11 := kx_11.koL L1 (fun y hy hx => by simp only [List.nodup_append] at hnd; grind)
  have M1x_12 := kx_12.koL L1 (fun y hy hx => by simp only [List.nodup_append] at hnd; grind)
  have nd2 : bx_11.Nodup := by simp only [List.nodup_append] at hnd; grind
  obtain ⟨A2, s2, L2, R2⟩ := markByteS_h M1x_11 nd2 hbx_11 (k0 := K11) p11' (le_of_eq_of_le hK12.symm u12') m (by omega)
  have e2 : K11 + (((Ty.sl 5 (Ty.int .u8)).cnt true x_11 : Nat) : Int) = K12 := hK12.symm
  rw [e2] at s2
  have n2 : A2.next = H.next + 1 := by rw [L2.next]; exact n1
  have g2 : A2.get H.next = _ := (L2.get _ (by rw [n1]; omega) (fun e => by have := b_x_11 _ e; omega)).trans g1
  have KS2 : KoS (bx_10 ++ (bx_11 ++ bx_12)) H A2 := KS1.trans (L2.koS) (fun b hb => .inl (by simp [hb]))
  have M2x_10 := R1.koL L2 (fun y hy hx => by simp only [List.nodup_append] at hnd; grind)
  have M2x_12 := M1x_12.koL L2 (fun y hy hx => by simp only [List.nodup_append] at hnd; grind)
  have nd3 : bx_12.Nodup := by simp only [List.nodup_append] at hnd; grind
  obtain ⟨A3, s3, L3, R3⟩ := markByteS_h M2x_12 nd3 hbx_12 (k0 := K12) p12' (le_of_eq_of_le hK13.symm u13') m (by omega)
  have e3 : K12 + (((Ty.sl 5 (Ty.int .u8)).cnt true x_12 : Nat) : Int) = K13 := hK13.symm
  rw [e3] at s3
  have n3 : A3.next = H.next + 1 := by rw [L3.next]; exact n2
  have g3 : A3.get H.next = _ := (L3.get _ (by rw [n2]; omega) (fun e => by have := b_x_12 _ e; omega)).trans g2
  have KS3 : KoS (bx_10 ++ (bx_11 ++ bx_12)) H A3 := KS2.trans (L3.koS) (fun b hb => .inl (by simp [hb]))
  have M3x_10 := M2x_10.koL L3 (fun y hy hx => by simp only [List.nodup_append] at hnd; grind)
  have M3x_11 := R2.koL L3 (fun y hy hx => by simp only [List.nodup_append] at hnd; grind)
  refine ⟨A3, ?_, KS3, i120 M3x_10 M3x_11 R3 ix_0 ix_1 ix_2 ix_3 ix_4 ix_5 ix_6 ix_7 ix_8⟩
  rw [ev_eq Try.func174 ok174 m _ H (by simp [Try.f174])]
  simp only [A0] at *
  simp only [hk10, hk11, hk12, hk13, hk14, hk15, hk16, hk17, hk18, hk19] at *
  simp [Try.f174, ldVar, evHist, ObsOk, ObOk, g0, ox_10, ox_11, ox_12, s1, g1, s2, g2, s3, g3]
/-! heldByteS -/
def IheldByteS_h (ds : List (Ty.int .u8).D) (s : AV) (k0 : Int) (H : AH) (d : Nat) (τ : Tm) (h : AH) : Prop :=
  ∃ k : Nat, k + d = ds.length ∧ τ 0 = s ∧ τ 1 = .int .i64 (k0 + (cntL ((Ty.int .u8).cnt true) (ds.take k) : Nat)) ∧ τ 5 = .int .i64 k ∧ h = H
set_option maxHeartbeats 4000000 in
theorem heldByteS_h {H : AH} {s : AV} {ds : List (Ty.int .u8).D} {bs : List Nat} {rw : Bool} {k0 : Int} (hd : (Ty.sl 5 (Ty.int .u8)).R rw H [s] ((Ty.sl 5 (Ty.int .u8)).mk true k0 ds) bs) (hb : (Ty.sl 5 (Ty.int .u8)).bd 1048576 ds) (hk0 : 0 ≤ k0) (hk1 : k0 + ((Ty.sl 5 (Ty.int .u8)).cnt true ds : Nat) ≤ 2147483648) (m : Nat) (hm : 1048720 ≤ m) :
    ev Try.prog m 129 [s, .int .i64 k0] H = some (.int .i64 (k0 + ((Ty.sl 5 (Ty.int .u8)).cnt true ds : Nat)), H) := by
  obtain ⟨m, rfl⟩ : ∃ k, m = k + 1 := ⟨m - 1, by omega⟩
  obtain ⟨hl, hl2⟩ := hb
  rw [cnt_sl] at hk1 ⊢
  rw [mk_sl] at hd
  have hL := Ty.R.lenA hd (P := Try.prog) (T := 34) (by simp)
  rw [mkRow_len] at hL
  rw [ev_eq Try.func129 ok129 m _ H (by simp [Try.f129])]
  simp [Try.f129]
  generalize hLo : evLoop _ _ _ _ _ _ = R
  obtain ⟨e, τ', H', rfl, rfl, g1, rfl⟩ := loop_at hLo (loop_rule (d := ds.length) (IheldByteS_h ds s k0 H)
    (fun e τ h => e = .exit 0 ∧ τ 1 = .int .i64 (k0 + (cntL ((Ty.int .u8).cnt true) ds : Nat)) ∧ h = H)
    (by
      rintro d τ h ⟨k, hk, t0, t1, t5, rfl⟩
      by_cases hd0 : d = 0
      · subst hd0
        have : k = ds.length := by omega
        subst this
        rw [List.take_length] at t1
        rewrite [lp129_26]
        simp [Try.f129, t0, t1, t5, hL]
      · have hlt : k < ds.length := by omega
        obtain ⟨b, o, ro, x1, c, x2, bk, u1, u2, u3, u4, u5, u6, u7, u8⟩ := Ty.R.at_ hd (P := Try.prog) (T := 34) (by simp) (by simp [Ty.n]) (k := k) (by rw [mkRow_len]; exact hlt)
        rw [mkRow_getH _ _ _ _ _ hlt] at u5
        have hbd := hl2 _ (List.getElem_mem hlt)
        have hct := cntL_take_succ' ((Ty.int .u8).cnt true) ds k hlt
        have hcl := cntL_take_le' ((Ty.int .u8).cnt true) ds (k + 1)
        generalize hK0 : k0 + (cntL ((Ty.int .u8).cnt true) (ds.take k) : Nat) = K0 at *
        have hKb : 0 ≤ K0 ∧ K0 ≤ 2147483648 := by omega
        generalize hdk : ds[k] = dk at *
        obtain ⟨x, hx0⟩ : ∃ x, x = dk := ⟨_, rfl⟩
        subst hx0
        have hbx := hbd
        obtain ⟨K1, hK1⟩ : ∃ z, z = K0 + (((Ty.int .u8).cnt true x : Nat) : Int) := ⟨_, rfl⟩
        have htot : (Ty.int .u8).cnt true x = (Ty.int .u8).cnt true x := rfl
        rw [htot] at hct
        have hKl : K1 = k0 + (cntL ((Ty.int .u8).cnt true) (ds.take (k + 1)) : Nat) := by rw [hct]; push_cast; omega
        have u1' : K1 ≤ 2147483648 := by omega
        have u0' := dn_step hK1 u1'
        have p0' : 0 ≤ K0 := hKb.1
        have p1' := up_step hK1 p0'
        have w0 := wrap_step hK1 rfl p0' u1'
        obtain ⟨z0, hz0⟩ : ∃ z, IntKind.u8.wrap K0 = z := ⟨_, rfl⟩
        have cv0 : ∀ h', convA Try.prog 3 5 (.int .i64 K0) h' = some (.int .u8 z0, h') := fun h' => (conv_int (ds := .int .i64) (k := .u8) (by simp) (by simp)).trans (by rw [hz0])
        have hmk : (Ty.int .u8).mk true K0 x = z0 := by rw [mk_intw, hz0]
        rw [hmk] at u5
        obtain ⟨rfl, r1, r2, rfl⟩ := u5
        have l0 : ldVar Try.prog 5 b o h = some (.int .u8 z0) := ldf0 u3 u4 (by simp) rfl
        rewrite [lp129_26]
        simp [Try.f129, t0, t1, t5, hL, hlt, u1, w0, cv0, l0, evHist, ObsOk, ObOk, wrap_i64 (n := (k : Int) + 1) (by omega) (by omega)]
        exact ⟨d - 1, by omega, k + 1, by omega, by simp [t0], by simp; omega, by simp⟩)
    ⟨0, by simp, by simp, by simp [cntL], by simp, rfl⟩ (by omega))
  simp [g1]
/-! heldIntS -/
def IheldIntS_h (ds : List (Ty.int .i64).D) (s : AV) (k0 : Int) (H : AH) (d : Nat) (τ : Tm) (h : AH) : Prop :=
  ∃ k : Nat, k + d = ds.length ∧ τ 0 = s ∧ τ 1 = .int .i64 (k0 + (cntL ((Ty.int .i64).cnt true) (ds.take k) : Nat)) ∧ τ 5 = .int .i64 k ∧ h = H
set_option maxHeartbeats 4000000 in
theorem heldIntS_h {H : AH} {s : AV} {ds : List (Ty.int .i64).D} {bs : List Nat} {rw : Bool} {k0 : Int} (hd : (Ty.sl 3 (Ty.int .i64)).R rw H [s] ((Ty.sl 3 (Ty.int .i64)).mk true k0 ds) bs) (hb : (Ty.sl 3 (Ty.int .i64)).bd 1048576 ds) (hk0 : 0 ≤ k0) (hk1 : k0 + ((Ty.sl 3 (Ty.int .i64)).cnt true ds : Nat) ≤ 2147483648) (m : Nat) (hm : 1048720 ≤ m) :
    ev Try.prog m 175 [s, .int .i64 k0] H = some (.int .i64 (k0 + ((Ty.sl 3 (Ty.int .i64)).cnt true ds : Nat)), H) := by
  obtain ⟨m, rfl⟩ : ∃ k, m = k + 1 := ⟨m - 1, by omega⟩
  obtain ⟨hl, hl2⟩ := hb
  rw [cnt_sl] at hk1 ⊢
  rw [mk_sl] at hd
  have hL := Ty.R.lenA hd (P := Try.prog) (T := 60) (by simp)
  rw [mkRow_len] at hL
  rw [ev_eq Try.func175 ok175 m _ H (by simp [Try.f175])]
  simp [Try.f175]
  generalize hLo : evLoop _ _ _ _ _ _ = R
  obtain ⟨e, τ', H', rfl, rfl, g1, rfl⟩ := loop_at hLo (loop_rule (d := ds.length) (IheldIntS_h ds s k0 H)
    (fun e τ h => e = .exit 0 ∧ τ 1 = .int .i64 (k0 + (cntL ((Ty.int .i64).cnt true) ds : Nat)) ∧ h = H)
    (by
      rintro d τ h ⟨k, hk, t0, t1, t5, rfl⟩
      by_cases hd0 : d = 0
      · subst hd0
        have : k = ds.length := by omega
        subst this
        rw [List.take_length] at t1
        rewrite [lp175_26]
        simp [Try.f175, t0, t1, t5, hL]
      · have hlt : k < ds.length := by omega
        obtain ⟨b, o, ro, x1, c, x2, bk, u1, u2, u3, u4, u5, u6, u7, u8⟩ := Ty.R.at_ hd (P := Try.prog) (T := 60) (by simp) (by simp [Ty.n]) (k := k) (by rw [mkRow_len]; exact hlt)
        rw [mkRow_getH _ _ _ _ _ hlt] at u5
        have hbd := hl2 _ (List.getElem_mem hlt)
        have hct := cntL_take_succ' ((Ty.int .i64).cnt true) ds k hlt
        have hcl := cntL_take_le' ((Ty.int .i64).cnt true) ds (k + 1)
        generalize hK0 : k0 + (cntL ((Ty.int .i64).cnt true) (ds.take k) : Nat) = K0 at *
        have hKb : 0 ≤ K0 ∧ K0 ≤ 2147483648 := by omega
        generalize hdk : ds[k] = dk at *
        obtain ⟨x, hx0⟩ : ∃ x, x = dk := ⟨_, rfl⟩
        subst hx0
        have hbx := hbd
        obtain ⟨K1, hK1⟩ : ∃ z, z = K0 + (((Ty.int .i64).cnt true x : Nat) : Int) := ⟨_, rfl⟩
        have htot : (Ty.int .i64).cnt true x = (Ty.int .i64).cnt true x := rfl
        rw [htot] at hct
        have hKl : K1 = k0 + (cntL ((Ty.int .i64).cnt true) (ds.take (k + 1)) : Nat) := by rw [hct]; push_cast; omega
        have u1' : K1 ≤ 2147483648 := by omega
        have u0' := dn_step hK1 u1'
        have p0' : 0 ≤ K0 := hKb.1
        have p1' := up_step hK1 p0'
        have w0 := wrap_step hK1 rfl p0' u1'
        have hmk : (Ty.int .i64).mk true K0 x = K0 := by rw [mk_int31 p0' u0']
        rw [hmk] at u5
        obtain ⟨rfl, r1, r2, rfl⟩ := u5
        have l0 : ldVar Try.prog 3 b o h = some (.int .i64 K0) := ldf0 u3 u4 (by simp) rfl
        rewrite [lp175_26]
        simp [Try.f175, t0, t1, t5, hL, hlt, u1, w0, l0, evHist, ObsOk, ObOk, wrap_i64 (n := (k : Int) + 1) (by omega) (by omega)]
        exact ⟨d - 1, by omega, k + 1, by omega, by simp [t0], by simp; omega, by simp⟩)
    ⟨0, by simp, by simp, by simp [cntL], by simp, rfl⟩ (by omega))
  simp [g1]
/-! heldParams -/
set_option maxHeartbeats 4000000 in
theorem heldParams_h {Hb H : AH} {c : List AV} {d : tT120.D} {bs : List Nat} {rw : Bool} {k0 : Int} (hd : tT120.R rw Hb c (tT120.mk false k0 d) bs) (hK : Kp Hb H) (hb : tT120.bd 1048576 d) (hk0 : 0 ≤ k0) (hk1 : k0 + (tT120.cnt false d : Nat) ≤ 2147483648) (m : Nat) (hm : 1048740 ≤ m) :
    ∃ H', ev Try.prog m 177 [.agg c, .int .i64 k0] H = some (.int .i64 (k0 + (tT120.cnt false d : Nat)), H') ∧ Kp H H' := by
  obtain ⟨m, rfl⟩ : ∃ k, m = k + 1 := ⟨m - 1, by omega⟩
  obtain ⟨x_0, x_1, x_2, x_3, x_4, x_5, x_6, x_7, x_8, x_9, x_10, x_11, x_12⟩ := d
  obtain ⟨hbx_0, hbx_1, hbx_2, hbx_3, hbx_4, hbx_5, hbx_6, hbx_7, hbx_8, hbx_9, hbx_10, hbx_11, hbx_12⟩ := hb
  obtain ⟨K0, hK0⟩ : ∃ z, z = k0 := ⟨_, rfl⟩
  subst hK0
  obtain ⟨K1, hK1⟩ : ∃ z, z = K0 + (((Ty.int .i64).cnt false x_0 : Nat) : Int) := ⟨_, rfl⟩
  have hc0 : (Ty.int .i64).cnt false x_0 = 0 := rfl
  have hk10 : K1 = K0 := by omega
  obtain ⟨K2, hK2⟩ : ∃ z, z = K1 + (((Ty.int .i64).cnt false x_1 : Nat) : Int) := ⟨_, rfl⟩
  have hc1 : (Ty.int .i64).cnt false x_1 = 0 := rfl
  have hk11 : K2 = K1 := by omega
  obtain ⟨K3, hK3⟩ : ∃ z, z = K2 + (((Ty.int .i64).cnt false x_2 : Nat) : Int) := ⟨_, rfl⟩
  have hc2 : (Ty.int .i64).cnt false x_2 = 0 := rfl
  have hk12 : K3 = K2 := by omega
  obtain ⟨K4, hK4⟩ : ∃ z, z = K3 + (((Ty.int .i64).cnt false x_3 : Nat) : Int) := ⟨_, rfl⟩
  have hc3 : (Ty.int .i64).cnt false x_3 = 0 := rfl
  have hk13 : K4 = K3 := by omega
  obtain ⟨K5, hK5⟩ : ∃ z, z = K4 + (((Ty.int .i64).cnt false x_4 : Nat) : Int) := ⟨_, rfl⟩
  have hc4 : (Ty.int .i64).cnt false x_4 = 0 := rfl
  have hk14 : K5 = K4 := by omega
  obtain ⟨K6, hK6⟩ : ∃ z, z = K5 + (((Ty.int .i64).cnt false x_5 : Nat) : Int) := ⟨_, rfl⟩
  have hc5 : (Ty.int .i64).cnt false x_5 = 0 := rfl
  have hk15 : K6 = K5 := by omega
  obtain ⟨K7, hK7⟩ : ∃ z, z = K6 + (((Ty.int .i64).cnt false x_6 : Nat) : Int) := ⟨_, rfl⟩
  have hc6 : (Ty.int .i64).cnt false x_6 = 0 := rfl
  have hk16 : K7 = K6 := by omega
  obtain ⟨K8, hK8⟩ : ∃ z, z = K7 + (((Ty.int .i64).cnt false x_7 : Nat) : Int) := ⟨_, rfl⟩
  have hc7 : (Ty.int .i64).cnt false x_7 = 0 := rfl
  have hk17 : K8 = K7 := by omega
  obtain ⟨K9, hK9⟩ : ∃ z, z = K8 + (((Ty.int .i64).cnt false x_8 : Nat) : Int) := ⟨_, rfl⟩
  have hc8 : (Ty.int .i64).cnt false x_8 = 0 := rfl
  have hk18 : K9 = K8 := by omega
  obtain ⟨K10, hK10⟩ : ∃ z, z = K9 + ((Ty.bool.cnt false x_9 : Nat) : Int) := ⟨_, rfl⟩
  have hc9 : Ty.bool.cnt false x_9 = 0 := rfl
  have hk19 : K10 = K9 := by omega
  obtain ⟨K11, hK11⟩ : ∃ z, z = K10 + (((Ty.sl 5 (Ty.int .u8)).cnt false x_10 : Nat) : Int) := ⟨_, rfl⟩
  obtain ⟨K12, hK12⟩ : ∃ z, z = K11 + (((Ty.sl 5 (Ty.int .u8)).cnt false x_11 : Nat) : Int) := ⟨_, rfl⟩
  obtain ⟨K13, hK13⟩ : ∃ z, z = K12 + (((Ty.sl 5 (Ty.int .u8)).cnt false x_12 : Nat) : Int) := ⟨_, rfl⟩
  have htot : tT120.cnt false (x_0, x_1, x_2, x_3, x_4, x_5, x_6, x_7, x_8, x_9, x_10, x_11, x_12) = (Ty.int .i64).cnt false x_0 + ((Ty.int .i64).cnt false x_1 + ((Ty.int .i64).cnt false x_2 + ((Ty.int .i64).cnt false x_3 + ((Ty.int .i64).cnt false x_4 + ((Ty.int .i64).cnt false x_5 + ((Ty.int .i64).cnt false x_6 + ((Ty.int .i64).cnt false x_7 + ((Ty.int .i64).cnt false x_8 + (Ty.bool.cnt false x_9 + ((Ty.sl 5 (Ty.int .u8)).cnt false x_10 + ((Ty.sl 5 (Ty.int .u8)).cnt false x_11 + ((Ty.sl 5 (Ty.int .u8)).cnt false x_12)))))))))))) := rfl
  rw [htot] at hk1 ⊢
  have hKl : K0 + (((Ty.int .i64).cnt false x_0 + ((Ty.int .i64).cnt false x_1 + ((Ty.int .i64).cnt false x_2 + ((Ty.int .i64).cnt false x_3 + ((Ty.int .i64).cnt false x_4 + ((Ty.int .i64).cnt false x_5 + ((Ty.int .i64).cnt false x_6 + ((Ty.int .i64).cnt false x_7 + ((Ty.int .i64).cnt false x_8 + (Ty.bool.cnt false x_9 + ((Ty.sl 5 (Ty.int .u8)).cnt false x_10 + ((Ty.sl 5 (Ty.int .u8)).cnt false x_11 + ((Ty.sl 5 (Ty.int .u8)).cnt false x_12)))))))))))) : Nat) : Int) = K13 := by push_cast; omega
  rw [hKl] at hk1 ⊢
  have u12' : K12 ≤ 2147483648 := dn_step hK13 hk1
  have u11' : K11 ≤ 2147483648 := dn_step hK12 u12'
  have u10' : K10 ≤ 2147483648 := dn_step hK11 u11'
  have u9' : K9 ≤ 2147483648 := dn_step hK10 u10'
  have u8' : K8 ≤ 2147483648 := dn_step hK9 u9'
  have u7' : K7 ≤ 2147483648 := dn_step hK8 u8'
  have u6' : K6 ≤ 2147483648 := dn_step hK7 u7'
  have u5' : K5 ≤ 2147483648 := dn_step hK6 u6'
  have u4' : K4 ≤ 2147483648 := dn_step hK5 u5'
  have u3' : K3 ≤ 2147483648 := dn_step hK4 u4'
  have u2' : K2 ≤ 2147483648 := dn_step hK3 u3'
  have u1' : K1 ≤ 2147483648 := dn_step hK2 u2'
  have u0' : K0 ≤ 2147483648 := dn_step hK1 u1'
  have u13' := hk1
  have p0' : 0 ≤ K0 := hk0
  have p1' := up_step hK1 p0'
  have p2' := up_step hK2 p1'
  have p3' := up_step hK3 p2'
  have p4' := up_step hK4 p3'
  have p5' := up_step hK5 p4'
  have p6' := up_step hK6 p5'
  have p7' := up_step hK7 p6'
  have p8' := up_step hK8 p7'
  have p9' := up_step hK9 p8'
  have p10' := up_step hK10 p9'
  have p11' := up_step hK11 p10'
  have p12' := up_step hK12 p11'
  have p13' := up_step hK13 p12'
  have hmk : tT120.mk false K0 (x_0, x_1, x_2, x_3, x_4, x_5, x_6, x_7, x_8, x_9, x_10, x_11, x_12) = (x_0, x_1, x_2, x_3, x_4, x_5, x_6, x_7, x_8, x_9, ((Ty.sl 5 (Ty.int .u8)).mk false K10 x_10), ((Ty.sl 5 (Ty.int .u8)).mk false K11 x_11), ((Ty.sl 5 (Ty.int .u8)).mk false K12 x_12)) := by rw [mk_pair, ← hK1, mk_pair, ← hK2, mk_pair, ← hK3, mk_pair, ← hK4, mk_pair, ← hK5, mk_pair, ← hK6, mk_pair, ← hK7, mk_pair, ← hK8, mk_pair, ← hK9, mk_pair, ← hK10, mk_pair, ← hK11, mk_pair, ← hK12]; rfl
  rw [hmk] at hd
  obtain ⟨vx_10, vx_11, vx_12, bx_10, bx_11, bx_12, rfl, rfl, hx_10, hx_11, hx_12, ix_0, ix_1, ix_2, ix_3, ix_4, ix_5, ix_6, ix_7, ix_8⟩ := o120 hd
  have ox_10 := hx_10.sl_one
  have ox_11 := hx_11.sl_one
  have ox_12 := hx_12.sl_one
  let A0 : AH := H.push (.cells 120 false [.int .i64 x_0, .int .i64 x_1, .int .i64 x_2, .int .i64 x_3, .int .i64 x_4, .int .i64 x_5, .int .i64 x_6, .int .i64 x_7, .int .i64 x_8, .bool x_9, vx_10, vx_11, vx_12])
  have P0 : Kp H A0 := (Kp.refl H).push _
  have g0 : A0.get H.next = some (.cells 120 false [.int .i64 x_0, .int .i64 x_1, .int .i64 x_2, .int .i64 x_3, .int .i64 x_4, .int .i64 x_5, .int .i64 x_6, .int .i64 x_7, .int .i64 x_8, .bool x_9, vx_10, vx_11, vx_12]) := by simp [A0]
  have nx : A0.next = H.next + 1 := rfl
  have s10 := heldByteS_h (hx_10.kp (hK.trans P0)) hbx_10 p10' (le_of_eq_of_le hK11.symm u11') m (by omega)
  have e10 : K10 + (((Ty.sl 5 (Ty.int .u8)).cnt true x_10 : Nat) : Int) = K11 := hK11.symm
  rw [e10] at s10
  have p10 : ¬ (K11 < 0) := Int.not_lt.2 p11'
  have s11 := heldByteS_h (hx_11.kp (hK.trans P0)) hbx_11 p11' (le_of_eq_of_le hK12.symm u12') m (by omega)
  have e11 : K11 + (((Ty.sl 5 (Ty.int .u8)).cnt true x_11 : Nat) : Int) = K12 := hK12.symm
  rw [e11] at s11
  have p11 : ¬ (K12 < 0) := Int.not_lt.2 p12'
  have s12 := heldByteS_h (hx_12.kp (hK.trans P0)) hbx_12 p12' (le_of_eq_of_le hK13.symm u13') m (by omega)
  have e12 : K12 + (((Ty.sl 5 (Ty.int .u8)).cnt true x_12 : Nat) : Int) = K13 := hK13.symm
  rw [e12] at s12
  have p12 : ¬ (K13 < 0) := Int.not_lt.2 p13'
  refine ⟨A0, ?_, P0⟩
  rw [ev_eq Try.func177 ok177 m _ H (by simp [Try.f177])]
  simp only [A0] at *
  simp only [hk10, hk11, hk12, hk13, hk14, hk15, hk16, hk17, hk18, hk19] at *
  simp [Try.f177, ldVar, evHist, ObsOk, ObOk, g0, ox_10, ox_11, ox_12, s10, p10, s11, p11, s12, p12]
end Go.Ev

/- Marks of rows of strings, of hellos. -/
namespace Go.Ev
open Go Go.Proofs
set_option linter.unusedSimpArgs false
set_option linter.unusedVariables false

def ImarkStringS_h (ds : List Ty.str.D) (s : AV) (k0 : Int) (bs : List Nat) (H : AH) (d : Nat) (τ : Tm) (h : AH) : Prop :=
  ∃ k : Nat, k + d = ds.length ∧ τ 0 = s ∧ τ 1 = .int .i64 (k0 + (cntL (Ty.str.cnt true) (ds.take k) : Nat)) ∧ τ 5 = .int .i64 k ∧ KoS bs H h ∧ (Ty.sl 9 Ty.str).R true h [s] (mkRow (Ty.str.mk true) (Ty.str.cnt true) k0 (ds.take k) ++ ds.drop k) bs
set_option maxHeartbeats 4000000 in
theorem markStringS_h {H : AH} {s : AV} {ds : List Ty.str.D} {bs : List Nat} (hd : (Ty.sl 9 Ty.str).R true H [s] ds bs) (hnd : bs.Nodup) (hb : (Ty.sl 9 Ty.str).bd 1048576 ds) {k0 : Int} (hk0 : 0 ≤ k0) (hk1 : k0 + ((Ty.sl 9 Ty.str).cnt true ds : Nat) ≤ 2147483648) (m : Nat) (hm : 1048720 ≤ m) :
    ∃ H', ev Try.prog m 173 [s, .int .i64 k0] H = some (.int .i64 (k0 + ((Ty.sl 9 Ty.str).cnt true ds : Nat)), H') ∧ KoS bs H H' ∧ (Ty.sl 9 Ty.str).R true H' [s] ((Ty.sl 9 Ty.str).mk true k0 ds) bs := by
  obtain ⟨m, rfl⟩ : ∃ k, m = k + 1 := ⟨m - 1, by omega⟩
  obtain ⟨hl, hl2⟩ := hb
  rw [cnt_sl] at hk1 ⊢
  rw [mk_sl]
  rw [ev_eq Try.func173 ok173 m _ H (by simp [Try.f173])]
  simp [Try.f173]
  generalize hLo : evLoop _ _ _ _ _ _ = R
  obtain ⟨e, τ', H', rfl, rfl, g1, g2, g3⟩ := loop_at hLo (loop_rule (d := ds.length) (ImarkStringS_h ds s k0 bs H)
    (fun e τ h => e = .exit 0 ∧ τ 1 = .int .i64 (k0 + (cntL (Ty.str.cnt true) ds : Nat)) ∧ KoS bs H h ∧ (Ty.sl 9 Ty.str).R true h [s] (mkRow (Ty.str.mk true) (Ty.str.cnt true) k0 ds) bs)
    (by
      rintro d τ h ⟨k, hk, t0, t1, t5, hK, hR⟩
      have hlen' : (mkRow (Ty.str.mk true) (Ty.str.cnt true) k0 (ds.take k) ++ ds.drop k).length = ds.length := by simp [mkRow_len]; omega
      have hL := Ty.R.lenA hR (P := Try.prog) (T := 118) (by simp)
      rw [hlen'] at hL
      by_cases hd0 : d = 0
      · subst hd0
        have : k = ds.length := by omega
        subst this
        rw [List.take_length] at t1
        rewrite [lp173_26]
        simp [Try.f173, t0, t1, t5, hL]
        exact ⟨hK, by simpa using hR⟩
      · have hlt : k < ds.length := by omega
        obtain ⟨b, o, x1, c, x2, bk, u1, u2, u3, u4, u5, u6, u7, u8, u9, u10⟩ := Ty.R.upd hR hnd (P := Try.prog) (T := 118) (by simp) (by simp [Ty.n]) (k := k) (by omega)
        have hat := mkRow_atH (Ty.str.mk true) (Ty.str.cnt true) k0 ds k hlt (by rw [hlen']; exact hlt)
        rw [hat] at u5
        have hbd := hl2 _ (List.getElem_mem hlt)
        have hct := cntL_take_succ' (Ty.str.cnt true) ds k hlt
        have hcl := cntL_take_le' (Ty.str.cnt true) ds (k + 1)
        have hms := mkRow_setH (Ty.str.mk true) (Ty.str.cnt true) k0 ds k hlt
        generalize hK0 : k0 + (cntL (Ty.str.cnt true) (ds.take k) : Nat) = K0 at *
        have hKb : 0 ≤ K0 ∧ K0 ≤ 2147483648 := by omega
        generalize hdk : ds[k] = dk at *
        obtain ⟨x, hx0⟩ : ∃ x, x = dk := ⟨_, rfl⟩
        subst hx0
        obtain ⟨rfl, rfl⟩ := u5
        obtain ⟨K1, hK1⟩ : ∃ z, z = K0 + ((Ty.str.cnt true x : Nat) : Int) := ⟨_, rfl⟩
        have htot : Ty.str.cnt true x = Ty.str.cnt true x := rfl
        rw [htot] at hct
        have hKl : K1 = k0 + (cntL (Ty.str.cnt true) (ds.take (k + 1)) : Nat) := by rw [hct]; push_cast; omega
        have u1' : K1 ≤ 2147483648 := by omega
        have u0' := dn_step hK1 u1'
        have p0' : 0 ≤ K0 := hKb.1
        have p1' := up_step hK1 p0'
        have w0 := wrap_step hK1 rfl p0' u1'
        have hmk : Ty.str.mk true K0 x = markTextD K0 := rfl
        obtain ⟨h1, em, K1'⟩ := markText_ev (H := h) p0' u0' m (by omega)
        generalize markTextD K0 = tx at *
        have G0 : h1.get b = some (.cells 9 false (x1 ++ [.str x] ++ x2)) := (K1'.get b u2).trans u3
        obtain ⟨B0, hB0⟩ : ∃ B, B = Blk.cells 9 false (x1 ++ [.str tx] ++ x2) := ⟨_, rfl⟩
        have s0 : stVar Try.prog 9 b o (.str tx) h1 = some (h1.set b B0) := by rw [hB0]; exact stf0 G0 u4 (by simp) rfl (by simp) rfl
        obtain ⟨h2, eh1⟩ : ∃ z, h1.set b B0 = z := ⟨_, rfl⟩
        have G1 : h2.get b = some (.cells 9 false (x1 ++ [.str tx] ++ x2)) := by rw [← eh1, AH.set_getS, hB0]
        have N1 : h.next ≤ h2.next := by rw [← eh1, AH.set_next]; exact K1'.next
        have E1 : ∀ y, y < h.next → y ≠ b → h2.get y = h.get y := fun y hy h1 => by rw [← eh1]; exact (AH.set_getN _ _ h1).trans (K1'.get y hy)
        rw [eh1] at s0
        have KLf : KoS bs h h2 := ⟨N1, fun y hy hyb => E1 y hy (fun e => hyb (by rw [e]; exact u7))⟩
        have hRf : Ty.str.R true h2 [.str tx] tx ([] : List Nat) := Ty.R.str _
        rw [hmk] at hms
        have hR6 := u10 h2 _ _ N1 (fun y hy h1 h2 => E1 y (hR.mem y hy) h1) G1 hRf
        rw [hms] at hR6
        rewrite [lp173_26]
        simp [Try.f173, t0, t1, t5, hL, hlt, u1, w0, em, s0, wrap_i64 (n := (k : Int) + 1) (by omega) (by omega)]
        exact ⟨d - 1, by omega, k + 1, by omega, by simp [t0], by simp; omega, by simp, hK.trans KLf (fun b hb => .inl hb), hR6⟩)
    ⟨0, by simp, by simp, by simp [cntL], by simp, KoS.refl _ _, by simpa [mkRow] using hd⟩ (by omega))
  simp [g1]
  exact ⟨g2, g3⟩
def IheldStringS_h (ds : List Ty.str.D) (s : AV) (k0 : Int) (H : AH) (d : Nat) (τ : Tm) (h : AH) : Prop :=
  ∃ k : Nat, k + d = ds.length ∧ τ 0 = s ∧ τ 1 = .int .i64 (k0 + (cntL (Ty.str.cnt true) (ds.take k) : Nat)) ∧ τ 5 = .int .i64 k ∧ Kp H h
set_option maxHeartbeats 4000000 in
theorem heldStringS_h {H : AH} {s : AV} {ds : List Ty.str.D} {bs : List Nat} {rw : Bool} {k0 : Int} (hd : (Ty.sl 9 Ty.str).R rw H [s] ((Ty.sl 9 Ty.str).mk true k0 ds) bs) (hb : (Ty.sl 9 Ty.str).bd 1048576 ds) (hk0 : 0 ≤ k0) (hk1 : k0 + ((Ty.sl 9 Ty.str).cnt true ds : Nat) ≤ 2147483648) (m : Nat) (hm : 1048720 ≤ m) :
    ∃ H', ev Try.prog m 176 [s, .int .i64 k0] H = some (.int .i64 (k0 + ((Ty.sl 9 Ty.str).cnt true ds : Nat)), H') ∧ Kp H H' := by
  obtain ⟨m, rfl⟩ : ∃ k, m = k + 1 := ⟨m - 1, by omega⟩
  obtain ⟨hl, hl2⟩ := hb
  rw [cnt_sl] at hk1 ⊢
  rw [mk_sl] at hd
  have hL := Ty.R.lenA hd (P := Try.prog) (T := 118) (by simp)
  rw [mkRow_len] at hL
  rw [ev_eq Try.func176 ok176 m _ H (by simp [Try.f176])]
  simp [Try.f176]
  generalize hLo : evLoop _ _ _ _ _ _ = R
  obtain ⟨e, τ', H', rfl, rfl, g1, g2⟩ := loop_at hLo (loop_rule (d := ds.length) (IheldStringS_h ds s k0 H)
    (fun e τ h => e = .exit 0 ∧ τ 1 = .int .i64 (k0 + (cntL (Ty.str.cnt true) ds : Nat)) ∧ Kp H h)
    (by
      rintro d τ h ⟨k, hk, t0, t1, t5, hK⟩
      by_cases hd0 : d = 0
      · subst hd0
        have : k = ds.length := by omega
        subst this
        rw [List.take_length] at t1
        rewrite [lp176_26]
        simp [Try.f176, t0, t1, t5, hL]
        exact hK
      · have hlt : k < ds.length := by omega
        obtain ⟨b, o, ro, x1, c, x2, bk, u1, u2, u3, u4, u5, u6, u7, u8⟩ := Ty.R.at_ hd (P := Try.prog) (T := 118) (by simp) (by simp [Ty.n]) (k := k) (by rw [mkRow_len]; exact hlt)
        rw [mkRow_getH _ _ _ _ _ hlt] at u5
        have hbd := hl2 _ (List.getElem_mem hlt)
        have hct := cntL_take_succ' (Ty.str.cnt true) ds k hlt
        have hcl := cntL_take_le' (Ty.str.cnt true) ds (k + 1)
        generalize hK0 : k0 + (cntL (Ty.str.cnt true) (ds.take k) : Nat) = K0 at *
        have hKb : 0 ≤ K0 ∧ K0 ≤ 2147483648 := by omega
        generalize hdk : ds[k] = dk at *
        obtain ⟨x, hx0⟩ : ∃ x, x = dk := ⟨_, rfl⟩
        subst hx0
        have hbx := hbd
        obtain ⟨K1, hK1⟩ : ∃ z, z = K0 + ((Ty.str.cnt true x : Nat) : Int) := ⟨_, rfl⟩
        have htot : Ty.str.cnt true x = Ty.str.cnt true x := rfl
        rw [htot] at hct
        have hKl : K1 = k0 + (cntL (Ty.str.cnt true) (ds.take (k + 1)) : Nat) := by rw [hct]; push_cast; omega
        have u1' : K1 ≤ 2147483648 := by omega
        have u0' := dn_step hK1 u1'
        have p0' : 0 ≤ K0 := hKb.1
        have p1' := up_step hK1 p0'
        have w0 := wrap_step hK1 rfl p0' u1'
        have hmk : Ty.str.mk true K0 x = markTextD K0 := rfl
        rw [hmk] at u5
        obtain ⟨rfl, rfl⟩ := u5
        obtain ⟨h1, em, K1'⟩ := markText_ev (H := h) p0' u0' m (by omega)
        have u3' := (hK.get b u2).trans u3
        have l0 : ldVar Try.prog 9 b o h = some (.str (markTextD K0)) := ldf0 u3' u4 (by simp) rfl
        have l1 : ldVar Try.prog 9 b o h1 = some (.str (markTextD K0)) := ldf0 ((K1'.get b (by have := hK.next; omega)).trans u3') u4 (by simp) rfl
        have bq : ((markTextD K0).toList == (markTextD K0).toList) = true := by simp
        generalize markTextD K0 = tx at *
        rewrite [lp176_26]
        simp [Try.f176, t0, t1, t5, hL, hlt, u1, w0, l0, l1, em, bq, U, evHist, ObsOk, ObOk, wrap_i64 (n := (k : Int) + 1) (by omega) (by omega)]
        exact ⟨d - 1, by omega, k + 1, by omega, by simp [t0], by simp; omega, by simp, hK.trans K1'⟩)
    ⟨0, by simp, by simp, by simp [cntL], by simp, Kp.refl H⟩ (by omega))
  exact ⟨H', by simp [g1], g2⟩
end Go.Ev

/- Marks of a hello. -/
namespace Go.Ev
open Go Go.Proofs
set_option linter.unusedSimpArgs false
set_option linter.unusedVariables false

theorem oH {rw : Bool} {H : AH} {c : List AV} {x0 x1 : Int} {no vs : List Int} {ns : List ByteArray} {P : tT120.D} {bs : List Nat} (h : tT122.R rw H c (x0, x1, no, vs, ns, P) bs) :
    ∃ v2 v3 v4 cP b2 b3 b4 bP, c = .int .i64 x0 :: .int .i64 x1 :: v2 :: v3 :: v4 :: cP ∧ b2 ++ (b3 ++ (b4 ++ bP)) = bs ∧ (Ty.sl 5 (Ty.int .u8)).R rw H [v2] no b2 ∧ (Ty.sl 3 (Ty.int .i64)).R rw H [v3] vs b3 ∧ (Ty.sl 9 Ty.str).R rw H [v4] ns b4 ∧ tT120.R rw H cP P bP ∧ InK .i64 x0 ∧ InK .i64 x1 := by
  obtain ⟨c1, d1, e1, f1, rfl, rfl, ⟨rfl, r0, s0, rfl⟩, ⟨c2, d2, e2, f2, rfl, rfl, ⟨rfl, r1, s1, rfl⟩, ⟨c3, d3, e3, f3, rfl, rfl, h2, ⟨c4, d4, e4, f4, rfl, rfl, h3, ⟨c5, d5, e5, f5, rfl, rfl, h4, h5⟩⟩⟩⟩⟩ := h
  obtain ⟨v2, rfl⟩ := h2.sl_cell
  obtain ⟨v3, rfl⟩ := h3.sl_cell
  obtain ⟨v4, rfl⟩ := h4.sl_cell
  exact ⟨v2, v3, v4, d5, _, _, _, _, by simp, by simp, h2, h3, h4, h5, ⟨r0, s0⟩, ⟨r1, s1⟩⟩
theorem iH {rw : Bool} {H : AH} {x0 x1 : Int} {no vs : List Int} {ns : List ByteArray} {P : tT120.D} {v2 v3 v4 : AV} {cP : List AV} {b2 b3 b4 bP : List Nat} (h2 : (Ty.sl 5 (Ty.int .u8)).R rw H [v2] no b2) (h3 : (Ty.sl 3 (Ty.int .i64)).R rw H [v3] vs b3) (h4 : (Ty.sl 9 Ty.str).R rw H [v4] ns b4) (h5 : tT120.R rw H cP P bP) (i0 : InK .i64 x0) (i1 : InK .i64 x1) :
    tT122.R rw H (.int .i64 x0 :: .int .i64 x1 :: v2 :: v3 :: v4 :: cP) (x0, x1, no, vs, ns, P) (b2 ++ (b3 ++ (b4 ++ bP))) := by
  have h : tT122.R rw H ([.int .i64 x0] ++ ([.int .i64 x1] ++ ([v2] ++ ([v3] ++ ([v4] ++ cP))))) (x0, x1, no, vs, ns, P) ([] ++ ([] ++ (b2 ++ (b3 ++ (b4 ++ bP))))) := Ty.R.pair (Ty.R.int i0) (Ty.R.pair (Ty.R.int i1) (Ty.R.pair h2 (Ty.R.pair h3 (Ty.R.pair h4 h5))))
  simpa using h
theorem mkH (K0 : Int) (x0 x1 : Int) (no vs : List Int) (ns : List ByteArray) (P : tT120.D) : tT122.mk false K0 (x0, x1, no, vs, ns, P) =
    (x0, x1, (Ty.sl 5 (Ty.int .u8)).mk false K0 no, (Ty.sl 3 (Ty.int .i64)).mk false (K0 + ((Ty.sl 5 (Ty.int .u8)).cnt true no : Nat)) vs, (Ty.sl 9 Ty.str).mk false (K0 + ((Ty.sl 5 (Ty.int .u8)).cnt true no : Nat) + ((Ty.sl 3 (Ty.int .i64)).cnt true vs : Nat)) ns, tT120.mk false (K0 + ((Ty.sl 5 (Ty.int .u8)).cnt true no : Nat) + ((Ty.sl 3 (Ty.int .i64)).cnt true vs : Nat) + ((Ty.sl 9 Ty.str).cnt true ns : Nat)) P) := by
  rw [mk_pair, mk_pair, mk_pair, mk_pair, mk_pair]
  have e0 : K0 + (((Ty.int .i64).cnt false x0 : Nat) : Int) = K0 := by rw [show (Ty.int .i64).cnt false x0 = 0 from rfl]; omega
  have e1 : K0 + (((Ty.int .i64).cnt false x1 : Nat) : Int) = K0 := by rw [show (Ty.int .i64).cnt false x1 = 0 from rfl]; omega
  rw [e0, e1]; rfl
theorem cntH (x0 x1 : Int) (no vs : List Int) (ns : List ByteArray) (P : tT120.D) : tT122.cnt false (x0, x1, no, vs, ns, P) = (Ty.sl 5 (Ty.int .u8)).cnt true no + (Ty.sl 3 (Ty.int .i64)).cnt true vs + (Ty.sl 9 Ty.str).cnt true ns + tT120.cnt false P := by
  rw [cnt_pair, cnt_pair, cnt_pair, cnt_pair, cnt_pair]
  rw [show (Ty.int .i64).cnt false x0 = 0 from rfl, show (Ty.int .i64).cnt false x1 = 0 from rfl, show (Ty.sl 5 (Ty.int .u8)).cnt false no = (Ty.sl 5 (Ty.int .u8)).cnt true no from rfl, show (Ty.sl 3 (Ty.int .i64)).cnt false vs = (Ty.sl 3 (Ty.int .i64)).cnt true vs from rfl, show (Ty.sl 9 Ty.str).cnt false ns = (Ty.sl 9 Ty.str).cnt true ns from rfl]
  omega
theorem ldH {X : AH} {p : Nat} {a b v2 v3 v4 : AV} {cP : List AV} (g : X.get p = some (.cells 122 false (a :: b :: v2 :: v3 :: v4 :: cP))) (hl : cP.length = 13) : ldVar Try.prog 34 p 2 X = some v2 ∧ ldVar Try.prog 60 p 3 X = some v3 ∧ ldVar Try.prog 118 p 4 X = some v4 ∧ ldVar Try.prog 120 p 5 X = some (.agg cP) := by
  refine ⟨by simp [ldVar, g], by simp [ldVar, g], by simp [ldVar, g], ?_⟩
  simp [ldVar, g, hl]
  exact List.take_of_length_le (by omega)
set_option maxHeartbeats 4000000 in
theorem markHello_h {Hb H : AH} {c : List AV} {d : tT122.D} {bs : List Nat} (hd : tT122.R true Hb c d bs) (hnd : bs.Nodup) (hK : Kp Hb H) (hb : tT122.bd 1048576 d) {k0 : Int} (hk0 : 0 ≤ k0) (hk1 : k0 + (tT122.cnt false d : Nat) ≤ 2147483648) (m : Nat) (hm : 1048760 ≤ m) :
    ∃ H', ev Try.prog m 79 [.agg c, .int .i64 k0] H = some (.int .i64 (k0 + (tT122.cnt false d : Nat)), H') ∧ KoS bs H H' ∧ tT122.R true H' c (tT122.mk false k0 d) bs := by
  obtain ⟨m, rfl⟩ : ∃ k, m = k + 1 := ⟨m - 1, by omega⟩
  obtain ⟨x0, x1, no, vs, ns, P⟩ := d
  obtain ⟨_, _, q2, q3, q4, q5⟩ := hb
  rw [mkH]
  rw [cntH] at hk1 ⊢
  obtain ⟨v2, v3, v4, cP, b2, b3, b4, bP, rfl, rfl, h2, h3, h4, h5, i0, i1⟩ := oH hd
  have hl := h5.len
  have hl : cP.length = 13 := by rw [hl]; rfl
  push_cast at hk1 ⊢
  obtain ⟨K1, hK1⟩ : ∃ z, z = k0 + ((Ty.sl 5 (Ty.int .u8)).cnt true no : Nat) := ⟨_, rfl⟩
  obtain ⟨K2, hK2⟩ : ∃ z, z = K1 + ((Ty.sl 3 (Ty.int .i64)).cnt true vs : Nat) := ⟨_, rfl⟩
  obtain ⟨K3, hK3⟩ : ∃ z, z = K2 + ((Ty.sl 9 Ty.str).cnt true ns : Nat) := ⟨_, rfl⟩
  obtain ⟨K4, hK4⟩ : ∃ z, z = K3 + (tT120.cnt false P : Nat) := ⟨_, rfl⟩
  rw [← hK1, ← hK2, ← hK3]
  have e4 : k0 + ((((Ty.sl 5 (Ty.int .u8)).cnt true no : Nat) : Int) + ((Ty.sl 3 (Ty.int .i64)).cnt true vs : Nat) + ((Ty.sl 9 Ty.str).cnt true ns : Nat) + (tT120.cnt false P : Nat)) = K4 := by omega
  rw [e4] at hk1 ⊢
  obtain ⟨A0, hA0⟩ : ∃ A : AH, A = H.push (.cells 122 false (.int .i64 x0 :: .int .i64 x1 :: v2 :: v3 :: v4 :: cP)) := ⟨_, rfl⟩
  have P0 : Kp H A0 := by rw [hA0]; exact (Kp.refl H).push _
  have g0 : A0.get H.next = some (.cells 122 false (.int .i64 x0 :: .int .i64 x1 :: v2 :: v3 :: v4 :: cP)) := by rw [hA0]; simp
  have n0 : A0.next = H.next + 1 := by rw [hA0]; simp
  have KK := hK.trans P0
  have ub : ∀ z ∈ b2 ++ (b3 ++ (b4 ++ bP)), z < H.next := fun z hz => Nat.lt_of_lt_of_le (hd.mem z hz) hK.next
  have d2 : ∀ y ∈ b2, y ∉ b3 ∧ y ∉ b4 ∧ y ∉ bP := fun y hy => by simp only [List.nodup_append] at hnd; grind
  have d3 : ∀ y ∈ b3, y ∉ b2 ∧ y ∉ b4 ∧ y ∉ bP := fun y hy => by simp only [List.nodup_append] at hnd; grind
  have d4 : ∀ y ∈ b4, y ∉ b2 ∧ y ∉ b3 ∧ y ∉ bP := fun y hy => by simp only [List.nodup_append] at hnd; grind
  have d5 : ∀ y ∈ bP, y ∉ b2 ∧ y ∉ b3 ∧ y ∉ b4 := fun y hy => by simp only [List.nodup_append] at hnd; grind
  have nd2 : b2.Nodup := by simp only [List.nodup_append] at hnd; grind
  have nd3 : b3.Nodup := by simp only [List.nodup_append] at hnd; grind
  have nd4 : b4.Nodup := by simp only [List.nodup_append] at hnd; grind
  have nd5 : bP.Nodup := by simp only [List.nodup_append] at hnd; grind
  obtain ⟨A1, s1, L1, R2⟩ := markByteS_h (h2.kp KK) nd2 q2 (k0 := k0) hk0 (by omega) m (by omega)
  rw [show k0 + (((Ty.sl 5 (Ty.int .u8)).cnt true no : Nat) : Int) = K1 from hK1.symm] at s1
  have n1 := L1.next
  have g1 : A1.get H.next = _ := (L1.get _ (by omega) (fun e => by have := ub _ (List.mem_append_left _ e); omega)).trans g0
  have h3' := (h3.kp KK).koL L1 fun y hy => (d3 y hy).1
  have h4' := (h4.kp KK).koL L1 fun y hy => (d4 y hy).1
  have h5' := (h5.kp KK).koL L1 fun y hy => (d5 y hy).1
  obtain ⟨A2, s2, L2, R3⟩ := markIntS_h h3' nd3 q3 (k0 := K1) (by omega) (by omega) m (by omega)
  rw [show K1 + (((Ty.sl 3 (Ty.int .i64)).cnt true vs : Nat) : Int) = K2 from hK2.symm] at s2
  have n2 := L2.next
  have g2 : A2.get H.next = _ := (L2.get _ (by omega) (fun e => by have := ub H.next (by simp [e]); omega)).trans g1
  have R2' := R2.koL L2 fun y hy => (d2 y hy).1
  have h4'' := h4'.koL L2 fun y hy => (d4 y hy).2.1
  have h5'' := h5'.koL L2 fun y hy => (d5 y hy).2.1
  obtain ⟨A3, s3, L3, R4⟩ := markStringS_h h4'' nd4 q4 (k0 := K2) (by omega) (by omega) m (by omega)
  rw [show K2 + (((Ty.sl 9 Ty.str).cnt true ns : Nat) : Int) = K3 from hK3.symm] at s3
  have n3 := L3.next
  have g3 : A3.get H.next = _ := (L3.get _ (by omega) (fun e => by have := ub H.next (by simp [e]); omega)).trans g2
  have R2'' := R2'.koS L3 fun y hy => (d2 y hy).2.1
  have R3' := R3.koS L3 fun y hy => (d3 y hy).2.1
  have h5''' := h5''.koS L3 fun y hy => (d5 y hy).2.2
  obtain ⟨A4, s4, L4, R5⟩ := markParams_h h5''' nd5 (Kp.refl A3) q5 (k0 := K3) (by omega) (by omega) m (by omega)
  rw [show K3 + ((tT120.cnt false P : Nat) : Int) = K4 from hK4.symm] at s4
  have KS : KoS (b2 ++ (b3 ++ (b4 ++ bP))) H A4 := ((((P0.koS _).trans L1.koS fun b hb => .inl (by simp [hb])).trans L2.koS fun b hb => .inl (by simp [hb])).trans L3 fun b hb => .inl (by simp [hb])).trans L4 fun b hb => .inl (by simp [hb])
  refine ⟨A4, ?_, KS, iH (R2''.koS L4 fun y hy => (d2 y hy).2.2) (R3'.koS L4 fun y hy => (d3 y hy).2.2) (R4.koS L4 fun y hy => (d4 y hy).2.2) R5 i0 i1⟩
  rw [ev_eq Try.func79 ok79 m _ H (by simp [Try.f79])]
  have hA0' := hA0.symm
  have hall : (AV.agg (.int .i64 x0 :: .int .i64 x1 :: v2 :: v3 :: v4 :: cP)).cells = .int .i64 x0 :: .int .i64 x1 :: v2 :: v3 :: v4 :: cP := rfl
  obtain ⟨l0a, l0b, l0c, l0d⟩ := ldH g0 hl
  obtain ⟨l1a, l1b, l1c, l1d⟩ := ldH g1 hl
  obtain ⟨l2a, l2b, l2c, l2d⟩ := ldH g2 hl
  obtain ⟨l3a, l3b, l3c, l3d⟩ := ldH g3 hl
  have h1 := hd.one
  simp [Try.f79, hA0', hall, hl, h1, l0a, l1b, l2c, l3d, s1, s2, s3, s4]
set_option maxHeartbeats 4000000 in
theorem heldHello_h {Hb H : AH} {c : List AV} {d : tT122.D} {bs : List Nat} {rw : Bool} {k0 : Int} (hd : tT122.R rw Hb c (tT122.mk false k0 d) bs) (hK : Kp Hb H) (hb : tT122.bd 1048576 d) (hk0 : 0 ≤ k0) (hk1 : k0 + (tT122.cnt false d : Nat) ≤ 2147483648) (m : Nat) (hm : 1048760 ≤ m) :
    ∃ H', ev Try.prog m 80 [.agg c, .int .i64 k0] H = some (.int .i64 (k0 + (tT122.cnt false d : Nat)), H') ∧ Kp H H' := by
  obtain ⟨m, rfl⟩ : ∃ k, m = k + 1 := ⟨m - 1, by omega⟩
  obtain ⟨x0, x1, no, vs, ns, P⟩ := d
  obtain ⟨_, _, q2, q3, q4, q5⟩ := hb
  rw [mkH] at hd
  rw [cntH] at hk1 ⊢
  obtain ⟨v2, v3, v4, cP, b2, b3, b4, bP, rfl, rfl, h2, h3, h4, h5, i0, i1⟩ := oH hd
  have hl := h5.len
  have hl : cP.length = 13 := by rw [hl]; rfl
  push_cast at hk1 ⊢
  obtain ⟨K1, hK1⟩ : ∃ z, z = k0 + ((Ty.sl 5 (Ty.int .u8)).cnt true no : Nat) := ⟨_, rfl⟩
  obtain ⟨K2, hK2⟩ : ∃ z, z = K1 + ((Ty.sl 3 (Ty.int .i64)).cnt true vs : Nat) := ⟨_, rfl⟩
  obtain ⟨K3, hK3⟩ : ∃ z, z = K2 + ((Ty.sl 9 Ty.str).cnt true ns : Nat) := ⟨_, rfl⟩
  obtain ⟨K4, hK4⟩ : ∃ z, z = K3 + (tT120.cnt false P : Nat) := ⟨_, rfl⟩
  rw [← hK1] at h3
  rw [← hK1, ← hK2] at h4
  rw [← hK1, ← hK2, ← hK3] at h5
  have e4 : k0 + ((((Ty.sl 5 (Ty.int .u8)).cnt true no : Nat) : Int) + ((Ty.sl 3 (Ty.int .i64)).cnt true vs : Nat) + ((Ty.sl 9 Ty.str).cnt true ns : Nat) + (tT120.cnt false P : Nat)) = K4 := by omega
  rw [e4] at hk1 ⊢
  obtain ⟨A0, hA0⟩ : ∃ A : AH, A = H.push (.cells 122 false (.int .i64 x0 :: .int .i64 x1 :: v2 :: v3 :: v4 :: cP)) := ⟨_, rfl⟩
  have P0 : Kp H A0 := by rw [hA0]; exact (Kp.refl H).push _
  have g0 : A0.get H.next = some (.cells 122 false (.int .i64 x0 :: .int .i64 x1 :: v2 :: v3 :: v4 :: cP)) := by rw [hA0]; simp
  have n0 : A0.next = H.next + 1 := by rw [hA0]; simp
  have KK := hK.trans P0
  have s1 := heldByteS_h (h2.kp KK) q2 (k0 := k0) hk0 (by omega) m (by omega)
  rw [show k0 + (((Ty.sl 5 (Ty.int .u8)).cnt true no : Nat) : Int) = K1 from hK1.symm] at s1
  have s2 := heldIntS_h (h3.kp KK) q3 (k0 := K1) (by omega) (by omega) m (by omega)
  rw [show K1 + (((Ty.sl 3 (Ty.int .i64)).cnt true vs : Nat) : Int) = K2 from hK2.symm] at s2
  obtain ⟨A3, s3, L3⟩ := heldStringS_h (h4.kp KK) q4 (k0 := K2) (by omega) (by omega) m (by omega)
  rw [show K2 + (((Ty.sl 9 Ty.str).cnt true ns : Nat) : Int) = K3 from hK3.symm] at s3
  obtain ⟨A4, s4, L4⟩ := heldParams_h h5 (KK.trans L3) q5 (k0 := K3) (by omega) (by omega) m (by omega)
  rw [show K3 + ((tT120.cnt false P : Nat) : Int) = K4 from hK4.symm] at s4
  have g3 : A3.get H.next = _ := (L3.get _ (by omega)).trans g0
  refine ⟨A4, ?_, (P0.trans L3).trans L4⟩
  rw [ev_eq Try.func80 ok80 m _ H (by simp [Try.f80])]
  have hA0' := hA0.symm
  have hall : (AV.agg (.int .i64 x0 :: .int .i64 x1 :: v2 :: v3 :: v4 :: cP)).cells = .int .i64 x0 :: .int .i64 x1 :: v2 :: v3 :: v4 :: cP := rfl
  obtain ⟨l0a, l0b, l0c, l0d⟩ := ldH g0 hl
  obtain ⟨l3a, l3b, l3c, l3d⟩ := ldH g3 hl
  have h1 := hd.one
  have p1 : ¬ (K1 < 0) := by omega
  have p2 : ¬ (K2 < 0) := by omega
  have p3 : ¬ (K3 < 0) := by omega
  have p4 : ¬ (K4 < 0) := by omega
  simp [Try.f80, hA0', hall, hl, h1, l0a, l0b, l0c, l3d, s1, s2, s3, s4, p1, p2, p3, p4]
end Go.Ev

/- A hello read: data of the type, for all arguments. -/
namespace Go.Ev
open Go Go.Proofs
set_option linter.unusedSimpArgs false
set_option linter.unusedVariables false

def pmD (P : Pm) : tT120.D := (P.F.getD 0 0, P.F.getD 1 0, P.F.getD 2 0, P.F.getD 3 0, P.F.getD 4 0, P.F.getD 5 0, P.F.getD 6 0, P.F.getD 7 0, P.F.getD 8 0, P.nm, P.o, P.t, P.f)
def hpD (h : Hp) : tT122.D := (h.k, h.v, h.no, h.vs, h.ns, pmD h.P)
theorem len9 {l : List Int} (h : l.length = 9) : ∃ a b c d e f g i j, l = [a, b, c, d, e, f, g, i, j] := by
  match l, h with
  | [a, b, c, d, e, f, g, i, j], _ => exact ⟨a, b, c, d, e, f, g, i, j, rfl⟩
theorem PmR.ty {P : Pm} {vo vt vf : AV} {b1 b2 b3 : List Nat} {lo : Nat} {h : AH} (R : PmR P vo vt vf b1 b2 b3 lo h) : tT120.R true h (pmC P.F P.nm vo vt vf) (pmD P) (b1 ++ (b2 ++ b3)) := by
  obtain ⟨hF, iF, Ro, Rt, Rf, nd, hlo⟩ := R
  obtain ⟨F, nm, o, t, f⟩ := P
  simp only at *
  obtain ⟨a, b, c, d, e, g, i, j, k, rfl⟩ := len9 hF
  exact i120 (x_9 := nm) Ro Rt Rf (iF _ (by simp)) (iF _ (by simp)) (iF _ (by simp)) (iF _ (by simp)) (iF _ (by simp)) (iF _ (by simp)) (iF _ (by simp)) (iF _ (by simp)) (iF _ (by simp))
theorem HeW.ty {h0 : Hp} {p lo : Nat} {cs : List AV} {h : AH} (X : HeW h0.k h0.v h0.no h0.vs h0.ns h0.P p lo cs h) (ik : InK .i64 h0.k) (iv : InK .i64 h0.v) : ∃ bs, tT122.R true h cs (hpD h0) bs ∧ bs.Nodup ∧ ∀ b ∈ bs, lo ≤ b := by
  obtain ⟨no, vs, ns, vo, vt, vf, bo, bv, bn, b1, b2, b3, mid, rfl, Ro, Rv, Rn, nd, hm, hlm, R⟩ := X.ex
  refine ⟨bo ++ (bv ++ (bn ++ (b1 ++ (b2 ++ b3)))), iH Ro Rv Rn R.ty ik iv, ?_, ?_⟩
  · have h2 := R.nd
    have h3 := R.lo
    have e : bo ++ (bv ++ (bn ++ (b1 ++ (b2 ++ b3)))) = (bo ++ (bv ++ bn)) ++ (b1 ++ (b2 ++ b3)) := by simp
    rw [e, List.nodup_append]
    exact ⟨nd, h2, fun a ha b hb e => by have := (hm a ha).2; have := h3 b hb; omega⟩
  · intro b hb
    have h3 := R.lo
    by_cases c : b ∈ bo ++ (bv ++ bn)
    · exact (hm b c).1
    · have := h3 b (by simp only [List.mem_append] at hb c ⊢; grind)
      omega
/-! all arguments -/
noncomputable def rhA (l : List Int) : Hp × Int × Int := if 65536 < l.length then (hpZ, 0, 4) else rhP l
theorem rhA_cases (l : List Int) : (rhA l).1 = hpZ ∨ helOK (rhA l).1.k (rhA l).1.v (rhA l).1.no.length (rhA l).1.vs (rhA l).1.ns (rhA l).1.P.F (rhA l).1.P.o.length (rhA l).1.P.t.length (rhA l).1.P.f.length := by
  unfold rhA
  split
  · exact .inl rfl
  · unfold rhP
    split
    · exact .inl rfl
    · split
      · exact .inl rfl
      · split
        · exact .inl rfl
        · split
          · rename_i h
            right
            unfold helP at h ⊢
            simp only [decide_eq_true_eq] at h ⊢
            exact h.2.2
          · exact .inl rfl
theorem helOK_b {k v : Int} {nn : Nat} {vs : List Int} {ns : List ByteArray} {F : List Int} {la lb lc : Nat} (h : helOK k v nn vs ns F la lb lc) :
    nn = 16 ∧ 0 ≤ k ∧ k ≤ 2 ∧ 0 ≤ v ∧ v ≤ 4294967295 ∧ vs.length ≤ 8 ∧ ns.length ≤ 4 ∧ (∀ x ∈ ns, x.size ≤ 16) ∧ la ≤ 8 ∧ lb ≤ 8 ∧ lc ≤ 8 := by
  obtain ⟨h0, ⟨h1, h2, h3, h4, h5⟩ | ⟨h1, h2, h3, h4, h5⟩⟩ := h
  · obtain ⟨a1, a2, a3⟩ := h2
    obtain ⟨b1, b2, b3, b4⟩ := h3
    obtain ⟨c1, c2, c3⟩ := h5
    refine ⟨h0, by omega, by omega, by omega, by omega, a2, by omega, fun x hx => (b3 x hx).2, c2.2.1, by omega, c2.1⟩
  · obtain ⟨b1, b2, b3, b4⟩ := h4
    obtain ⟨c1, c2, c3⟩ := h5
    refine ⟨h0, by omega, by omega, by have := h2.1; omega, h2.2, by omega, by omega, fun x hx => (b3 x hx).2, c2.2.1, by omega, c2.1⟩
theorem rhA_b (l : List Int) : 0 ≤ (rhA l).1.k ∧ (rhA l).1.k ≤ 2 ∧ 0 ≤ (rhA l).1.v ∧ (rhA l).1.v ≤ 4294967295 ∧ (rhA l).1.no.length ≤ 16 ∧ (rhA l).1.vs.length ≤ 8 ∧ (rhA l).1.ns.length ≤ 4 ∧ (∀ x ∈ (rhA l).1.ns, x.size ≤ 16) ∧ (rhA l).1.P.o.length ≤ 8 ∧ (rhA l).1.P.t.length ≤ 8 ∧ (rhA l).1.P.f.length ≤ 8 := by
  rcases rhA_cases l with h | h
  · rw [h]; exact ⟨Int.le_refl _, by decide, Int.le_refl _, by decide, by simp [hpZ], by simp [hpZ], by simp [hpZ], by simp [hpZ], by simp [hpZ, pmZ], by simp [hpZ, pmZ], by simp [hpZ, pmZ]⟩
  · obtain ⟨h0, h1, h2, h3, h4, h5, h6, h7, h8, h9, h10⟩ := helOK_b h
    exact ⟨h1, h2, h3, h4, by omega, h5, h6, h7, h8, h9, h10⟩
theorem cntL1 {α : Type} (c : α → Nat) (h : ∀ x, c x = 1) (l : List α) : cntL c l = l.length := by
  induction l with
  | nil => rfl
  | cons d l ih => simp only [cntL, h, ih, List.length_cons]; omega
theorem hpD_bd (l : List Int) : tT122.bd 1048576 (hpD (rhA l).1) := by
  obtain ⟨h1, h2, h3, h4, h5, h6, h7, h8, h9, h10, h11⟩ := rhA_b l
  generalize (rhA l).1 = h at *
  obtain ⟨k, v, no, vs, ns, P⟩ := h
  simp only at *
  have e1 : no.length ≤ 1048576 := by omega
  have e2 : vs.length ≤ 1048576 := by omega
  have e3 : ns.length ≤ 1048576 := by omega
  have e4 : P.o.length ≤ 1048576 := by omega
  have e5 : P.t.length ≤ 1048576 := by omega
  have e6 : P.f.length ≤ 1048576 := by omega
  exact ⟨trivial, trivial, ⟨e1, fun _ _ => trivial⟩, ⟨e2, fun _ _ => trivial⟩, ⟨e3, fun x hx => Nat.le_trans (h8 x hx) (by omega)⟩, trivial, trivial, trivial, trivial, trivial, trivial, trivial, trivial, trivial, trivial, ⟨e4, fun _ _ => trivial⟩, ⟨e5, fun _ _ => trivial⟩, ⟨e6, fun _ _ => trivial⟩⟩
theorem hpD_cnt (l : List Int) : tT122.cnt false (hpD (rhA l).1) ≤ 100 := by
  obtain ⟨h1, h2, h3, h4, h5, h6, h7, h8, h9, h10, h11⟩ := rhA_b l
  generalize (rhA l).1 = h at *
  obtain ⟨k, v, no, vs, ns, P⟩ := h
  unfold hpD
  rw [cntH]
  have e5 : tT120.cnt false (pmD P) = P.o.length + (P.t.length + P.f.length) := by
    unfold pmD
    rw [cnt_pair, cnt_pair, cnt_pair, cnt_pair, cnt_pair, cnt_pair, cnt_pair, cnt_pair, cnt_pair, cnt_pair, cnt_pair, cnt_pair]
    rw [cnt_sl, cnt_sl, cnt_sl, cntL1 ((Ty.int .u8).cnt true) (fun _ => rfl), cntL1 ((Ty.int .u8).cnt true) (fun _ => rfl), cntL1 ((Ty.int .u8).cnt true) (fun _ => rfl)]
    simp only [cnt_int0, cnt_bool0]; omega
  rw [e5, cnt_sl, cnt_sl, cnt_sl, cntL1 ((Ty.int .u8).cnt true) (fun _ => rfl), cntL1 ((Ty.int .i64).cnt true) (fun _ => rfl), cntL1 (Ty.str.cnt true) (fun _ => rfl)]
  simp only at *
  omega
theorem hpZ_ty (h : AH) : tT122.R true h zHl (hpD hpZ) [] := by
  obtain ⟨bs, h1, h2, h3⟩ := HeW.ty (h0 := hpZ) (heW_zero 0 h.next h) (InK.i64 (by decide) (by decide)) (InK.i64 (by decide) (by decide))
  have : bs = [] := by
    cases bs with
    | nil => rfl
    | cons b bs => have := h3 b (by simp); have := h1.mem b (by simp); omega
  rw [this] at h1; exact h1
theorem rhA_ik (l : List Int) : InK .i64 (rhA l).1.k ∧ InK .i64 (rhA l).1.v := by
  obtain ⟨h1, h2, h3, h4, _⟩ := rhA_b l
  exact ⟨InK.i64 (by omega) (by omega), InK.i64 (by omega) (by omega)⟩
set_option maxRecDepth 20000 in
theorem helloS_ev {Hb H : AH} {s : AV} {l : List Int} (hs : Bs Hb s l) (hb : By l) (hK : Kp Hb H) (m : Nat) (hm : 71000 ≤ m) :
    ∃ (cs : List AV) (H' : AH) (bs : List Nat), ev Try.prog m 76 [s] H = some (.tuple [.agg cs, .int .i64 (rhA l).2.1, .int .i64 (rhA l).2.2], H') ∧ Kp H H' ∧ tT122.R true H' cs (hpD (rhA l).1) bs ∧ bs.Nodup ∧ ∀ b ∈ bs, H.next ≤ b := by
  have hs := hs.kp hK
  by_cases hl : 65536 < l.length
  · obtain ⟨m, rfl⟩ : ∃ k, m = k + 1 := ⟨m - 1, by omega⟩
    have hr : rhA l = (hpZ, 0, 4) := by unfold rhA; rw [if_pos hl]
    rw [hr]
    have hL := hs.len
    have hz : zHl = [.int .i64 0, .int .i64 0, .nilSlice, .nilSlice, .nilSlice, .int .i64 0, .int .i64 0, .int .i64 0, .int .i64 0, .int .i64 0, .int .i64 0, .int .i64 0, .int .i64 0, .int .i64 0, .bool false, .nilSlice, .nilSlice, .nilSlice] := rfl
    obtain ⟨Z1, hZ1⟩ : ∃ Z : AH, Z = H.push (.cells 122 false zHl) := ⟨_, rfl⟩
    have n1 : Z1.next = H.next + 1 := by rw [hZ1]; simp
    have g1 : Z1.get H.next = some (.cells 122 false zHl) := by rw [hZ1]; simp
    have k1 : Kp H Z1 := by rw [hZ1]; exact (Kp.refl H).push _
    obtain ⟨Z2, hZ2⟩ : ∃ Z : AH, Z = Z1.push (.cells 122 false zHl) := ⟨_, rfl⟩
    have n2 : Z2.next = Z1.next + 1 := by rw [hZ2]; simp
    have g2 : Z2.get Z1.next = some (.cells 122 false zHl) := by rw [hZ2]; simp
    have k2 : Kp Z1 Z2 := by rw [hZ2]; exact (Kp.refl Z1).push _
    have st2 : stVar Try.prog 122 Z1.next 0 (.agg zHl) Z2 = some Z2 := by
      rw [st122 g2 zHl_len zHl_len zHl_one, hZ2, push_set _ _ rfl]
    have z1' := hZ1.symm
    have z2' := hZ2.symm
    have ld5 := ld122 g2 zHl_len
    have stf := st122 ((k2.get H.next (by omega)).trans g1) zHl_len zHl_len zHl_one
    have ldf := ld122 (X := Z2.set H.next (.cells 122 false zHl)) (AH.set_getS _ _ _) zHl_len
    have kf : Kp H (Z2.set H.next (.cells 122 false zHl)) := ⟨by simp; omega, fun b hb => by rw [AH.set_getN _ _ (by omega), k2.get b (by omega)]; exact k1.get b hb⟩
    have tl1 := eq_true (show (65536 < (l.length : Int)) by omega)
    have tl2 := eq_true hl
    refine ⟨zHl, _, [], ?_, kf, hpZ_ty _, by simp, by simp⟩
    rw [hz] at z1' z2' st2 ld5 stf ldf
    rw [hz]
    rw [ev_M Try.func76 ok76 [] m _ H (by simp [Try.f76])]
    simp [Try.f76, U, tm0, z1', z2', fillA, st2, hL, ld5, stf, ldf, tl1, tl2]
  · have hr : rhA l = rhP l := by unfold rhA; rw [if_neg hl]
    obtain ⟨ik, iv⟩ := rhA_ik l
    rw [hr] at ik iv ⊢
    obtain ⟨cs, H', e, W, K⟩ := ReadHelloS_ev hs hb (by omega) m hm
    obtain ⟨bs, t1, t2, t3⟩ := W.ty ik iv
    exact ⟨cs, H', bs, e, K, t1, t2, t3⟩
set_option maxRecDepth 20000 in
theorem helloI_ev {Hb H : AH} {s : AV} {l : List Int} (hs : Bs Hb s l) (hb : By l) (hK : Kp Hb H) (m : Nat) (hm : 71000 ≤ m) :
    ∃ (cs : List AV) (H' : AH) (bs : List Nat), ev Try.prog m 77 [s] H = some (.tuple [.agg cs, .int .i64 (rhA l).2.1, .int .i64 (rhA l).2.2], H') ∧ Kp H H' ∧ tT122.R true H' cs (hpD (rhA l).1) bs ∧ bs.Nodup ∧ ∀ b ∈ bs, H.next ≤ b := by
  have hs := hs.kp hK
  by_cases hl : 65536 < l.length
  · obtain ⟨m, rfl⟩ : ∃ k, m = k + 1 := ⟨m - 1, by omega⟩
    have hr : rhA l = (hpZ, 0, 4) := by unfold rhA; rw [if_pos hl]
    rw [hr]
    have hz : zHl = [.int .i64 0, .int .i64 0, .nilSlice, .nilSlice, .nilSlice, .int .i64 0, .int .i64 0, .int .i64 0, .int .i64 0, .int .i64 0, .int .i64 0, .int .i64 0, .int .i64 0, .int .i64 0, .bool false, .nilSlice, .nilSlice, .nilSlice] := rfl
    obtain ⟨Z, hZ⟩ : ∃ Z : AH, Z = H.push (.cells 122 false zHl) := ⟨_, rfl⟩
    have g1 : Z.get H.next = some (.cells 122 false zHl) := by rw [hZ]; simp
    have k1 : Kp H Z := by rw [hZ]; exact (Kp.refl H).push _
    have stf : stVar Try.prog 122 H.next 0 (.agg zHl) Z = some Z := by
      rw [st122 g1 zHl_len zHl_len zHl_one, hZ, push_set _ _ rfl]
    have ldf := ld122 (X := Z) g1 zHl_len
    have tl := tooLong_ev hs Z m (by omega)
    rw [show (decide (65536 < (l.length : Int))) = true from decide_eq_true (by omega)] at tl
    have z1' := hZ.symm
    refine ⟨zHl, Z, [], ?_, k1, hpZ_ty _, by simp, by simp⟩
    rw [hz] at z1' stf ldf
    rw [hz]
    rw [ev_M Try.func77 ok77 [] m _ H (by simp [Try.f77])]
    simp [Try.f77, U, tm0, z1', fillA, stf, ldf, tl]
  · have hr : rhA l = rhP l := by unfold rhA; rw [if_neg hl]
    obtain ⟨ik, iv⟩ := rhA_ik l
    rw [hr] at ik iv ⊢
    obtain ⟨cs, H', e, W, K⟩ := ReadHelloI_ev hs hb (by omega) m hm
    obtain ⟨bs, t1, t2, t3⟩ := W.ty ik iv
    exact ⟨cs, H', bs, e, K, t1, t2, t3⟩
end Go.Ev

/- From what came in to the evaluator: a call's arguments. -/
namespace Go.Ev
open Go Go.RowKit
set_option linter.unusedSimpArgs false
set_option linter.unusedVariables false

section
variable {P : Program} {w : World} {Hd : Type} {enc : TypeId × Value → Hd} {held : Bool} {r : Reach} {base : Nat}

def HE : AH := { get := fun _ => none, next := 0 }
theorem rel_empty (P : Program) (w : World) : Rel P w HE (fun _ => none) w :=
  ⟨Below.refl _ _, fun _ _ => rfl, fun b x h => by simp [HE] at h, fun b x h => by simp [HE] at h, fun b x h => by simp [HE] at h⟩

/-- an argument: its abstract value, in the memory that its rows lie in -/
def ArgRes (P : Program) (w : World) (t : Ty) (v : Value) (H : AH) (μ : Mu) : Prop :=
  ∃ H' μ' a c d bs, Ext μ μ' ∧ Rel P w H' μ' w ∧ Kp H H' ∧ VR μ' a v ∧ t.R false H' c d bs ∧ t.sm d ∧ (a = .agg c ∨ c = [a])

theorem arg1 {T : TypeId} {t : Ty} {v : Value} {d : DataW Hd} {p : List MemPlace} {H : AH} {μ : Mu} (hf : Fits P T t) (h : DataW.Trod enc P w 0 (fun _ => true) held T v d p) (hR : Rel P w H μ w) (hv : v.cells.toList = [v]) :
    ∃ H' μ' a d bs, Ext μ μ' ∧ Rel P w H' μ' w ∧ Kp H H' ∧ VR μ' a v ∧ t.R false H' [a] d bs ∧ t.sm d := by
  obtain ⟨fuel, hf'⟩ := h
  rw [hv] at hf'
  obtain ⟨H', μ', c, d, bs, e, r1, k, hV, hr, hs⟩ := in_ty fuel hf hf' hR
  match c, hV with
  | [], hV => simp [VRs] at hV
  | [a], hV =>
    simp only [VRs] at hV
    obtain ⟨u, us, hu, hV, _⟩ := hV
    simp only [List.cons.injEq] at hu
    obtain ⟨rfl, _⟩ := hu
    exact ⟨H', μ', a, d, bs, e, r1, k, hV, hr, hs⟩
  | a :: b :: c, hV =>
    simp only [VRs] at hV
    obtain ⟨u, us, hu, hV, u2, us2, hu2, _⟩ := hV
    simp only [List.cons.injEq] at hu
    rw [hu2] at hu; simp at hu
theorem argSl {T e : TypeId} {t : Ty} {v : Value} {d : DataW Hd} {p : List MemPlace} {H : AH} {μ : Mu} (hf : Fits P T t) (hT : P.underlying T = some (.slice e)) (hval : Value.okWide P w r base T v) (h : DataW.Trod enc P w 0 (fun _ => true) held T v d p) (hR : Rel P w H μ w) :
    ∃ H' μ' a d bs, Ext μ μ' ∧ Rel P w H' μ' w ∧ Kp H H' ∧ VR μ' a v ∧ t.R false H' [a] d bs ∧ t.sm d := by
  obtain ⟨a, l, c, rfl⟩ := Go.WideShapes.okWide_slice hT hval
  exact arg1 hf h hR rfl
theorem argInt {T : TypeId} {k : IntKind} {t : Ty} {v : Value} {d : DataW Hd} {p : List MemPlace} {H : AH} {μ : Mu} (hf : Fits P T t) (hT : P.underlying T = some (.int k)) (hval : Value.okWide P w r base T v) (h : DataW.Trod enc P w 0 (fun _ => true) held T v d p) (hR : Rel P w H μ w) :
    ∃ H' μ' a d bs, Ext μ μ' ∧ Rel P w H' μ' w ∧ Kp H H' ∧ VR μ' a v ∧ t.R false H' [a] d bs ∧ t.sm d := by
  obtain ⟨n, rfl⟩ := Go.WideShapes.okWide_int hT hval
  exact arg1 hf h hR rfl
theorem argBool {T : TypeId} {t : Ty} {v : Value} {d : DataW Hd} {p : List MemPlace} {H : AH} {μ : Mu} (hf : Fits P T t) (hT : P.underlying T = some .bool) (hval : Value.okWide P w r base T v) (h : DataW.Trod enc P w 0 (fun _ => true) held T v d p) (hR : Rel P w H μ w) :
    ∃ H' μ' a d bs, Ext μ μ' ∧ Rel P w H' μ' w ∧ Kp H H' ∧ VR μ' a v ∧ t.R false H' [a] d bs ∧ t.sm d := by
  obtain ⟨n, rfl⟩ := Go.WideShapes.okWide_bool hT hval
  exact arg1 hf h hR rfl
theorem argStr {T : TypeId} {t : Ty} {v : Value} {d : DataW Hd} {p : List MemPlace} {H : AH} {μ : Mu} (hf : Fits P T t) (hT : P.underlying T = some .string) (hval : Value.okWide P w r base T v) (h : DataW.Trod enc P w 0 (fun _ => true) held T v d p) (hR : Rel P w H μ w) :
    ∃ H' μ' a d bs, Ext μ μ' ∧ Rel P w H' μ' w ∧ Kp H H' ∧ VR μ' a v ∧ t.R false H' [a] d bs ∧ t.sm d := by
  obtain ⟨n, rfl⟩ := Go.WideShapes.okWide_string hT hval
  exact arg1 hf h hR rfl
/-- a struct by value -/
theorem argAgg {T : TypeId} {fs : Array Field} {t : Ty} {v : Value} {d : DataW Hd} {p : List MemPlace} {H : AH} {μ : Mu} (hf : Fits P T t) (hT : P.underlying T = some (.struct fs)) (hval : Value.okWide P w r base T v) (h : DataW.Trod enc P w 0 (fun _ => true) held T v d p) (hR : Rel P w H μ w) :
    ∃ H' μ' c d bs, Ext μ μ' ∧ Rel P w H' μ' w ∧ Kp H H' ∧ VR μ' (.agg c) v ∧ t.R false H' c d bs ∧ t.sm d := by
  obtain ⟨cs, rfl, _⟩ := Go.WideShapes.okWide_struct hT hval
  obtain ⟨fuel, hf'⟩ := h
  obtain ⟨H', μ', c, d, bs, e, r1, k, hV, hr, hs⟩ := in_ty fuel hf hf' hR
  exact ⟨H', μ', c, d, bs, e, r1, k, by simp only [VR]; exact ⟨cs, rfl, hV⟩, hr, hs⟩

theorem law_run2 (hm : P.follows .mixedOrders = true) {H : AH} {μ : Mu} {n : Nat} {f : FuncId} {args : List AV} {vs : Array Value} {H' : AH} (hR : Rel P w H μ w)
    (h : ev P n f args H = some (.bool true, H')) (hv : VRs μ args vs.toList) :
    Calls P f vs w fun e w' => e = .returned (.bool true) ∧ Below w.heap.size w w' := by
  refine (ev_sound hm n f args H (.bool true) H' μ w vs h hR hv).2.mono ?_
  rintro e w' ⟨v, μ', rfl, hx, hR, hv⟩
  simp only [VR] at hv
  subst hv
  exact ⟨rfl, hR.below⟩
end
end Go.Ev

/- The law FnExactReadHello by the evaluator. -/
namespace Go.Ev
open Go Go.Proofs
set_option linter.unusedSimpArgs false
set_option linter.unusedVariables false

theorem cntZ0 {α : Type} (c : α → Nat) (h : ∀ x, c x = 0) : ∀ l : List α, cntL c l = 0
  | [] => rfl
  | d :: l => by simp only [cntL, h, cntZ0 c h l]
set_option maxRecDepth 20000 in
theorem lawRH {H : AH} {s : AV} {l : List Int} {b0 : List Nat} (hd : (Ty.sl 5 (.int .u8)).R false H [s] l b0) (hs : (Ty.sl 5 (.int .u8)).sm l) (m : Nat) (hm : 2000000 ≤ m) :
    ∃ H', ev Try.prog m 13 [s] H = some (.bool true, H') := by
  obtain ⟨m, rfl⟩ : ∃ k, m = k + 1 := ⟨m - 1, by omega⟩
  obtain ⟨hbs, hby⟩ := tB_bs hd
  have hL := hbs.len
  by_cases hl : 1048576 < l.length
  · have hl' : 1048576 < (l.length : Int) := by omega
    rw [ev_M Try.func13 ok13 [] m _ H (by simp [Try.f13])]
    exact ⟨H, by simp [Try.f13, tm0, hL, hl']⟩
  · have hl' : (1048576 < (l.length : Int)) = False := eq_false (by omega)
    have hb : (Ty.sl 5 (Ty.int .u8)).bd 1048576 l := ⟨by omega, fun _ _ => trivial⟩
    have hcx : (Ty.sl 5 (Ty.int .u8)).cnt true l ≤ 1073741824 := Ty.cnt_bound (A := 1048576) (by
      have := cntZ0 (Ty.int .u8).sz (fun _ => rfl) l
      simp only [Ty.sz] at *; omega) (by simp [Ty.w])
    obtain ⟨r1, H1, bb1, a1, a2, a3, a4, a5⟩ := toByteS_h hd (Kp.refl H) hb m (by omega)
    obtain ⟨w, H2, bw, c1, c2, c3, c4, c5⟩ := helloS_ev (tB_bs a3).1 hby (Kp.refl H1) m (by omega)
    have wl := c3.len; have wo := c3.one
    have wl : w.length = 18 := wl
    obtain ⟨A2, hA2⟩ : ∃ A : AH, A = H2.push (.cells 122 false w) := ⟨_, rfl⟩
    have kA2 : Kp H2 A2 := by rw [hA2]; exact (Kp.refl H2).push _
    have K2 : Kp H A2 := (a2.trans c2).trans kA2
    obtain ⟨x0, H3, bx, d1, d2, d3, d4, d5⟩ := toByteS_h hd K2 hb m (by omega)
    obtain ⟨g, H4, bg, e1, e2, e3, e4, e5⟩ := helloI_ev (tB_bs d3).1 hby (Kp.refl H3) m (by omega)
    have gl := e3.len; have go := e3.one
    have gl : g.length = 18 := gl
    have hbF := hpD_bd l
    have hcF := hpD_cnt l
    generalize hRR : rhA l = R at *
    obtain ⟨P, at_, cd_⟩ := R
    simp only at c1 c3 e1 e3 hbF hcF
    obtain ⟨A4, hA4⟩ : ∃ A : AH, A = H4.push (.cells 122 false g) := ⟨_, rfl⟩
    have kA4 : Kp H4 A4 := by rw [hA4]; exact (Kp.refl H4).push _
    have K4 : Kp A2 A4 := (d2.trans e2).trans kA4
    have n1 := a2.next; have n2 := c2.next; have n3 := d2.next; have n4 := e2.next
    have nA2 : A2.next = H2.next + 1 := by simp [hA2]
    have nA4 : A4.next = H4.next + 1 := by simp [hA4]
    obtain ⟨H5, f1, f2⟩ := eqHello_h (e3.kp kA4) (c3.kp (kA2.trans K4)) (Kp.refl A4) hbF m (by omega)
    have K5 := (K2.trans K4).trans f2
    obtain ⟨x1, H6, b7, g1, g2, g3, g4, _⟩ := toByteS_h hd K5 hb m (by omega)
    obtain ⟨H7, i1, i2⟩ := eqByteS_h (d3.kp (((e2.trans kA4).trans f2).trans g2)) g3 (Kp.refl H6) hb m (by omega)
    have K37 : Kp H3 H7 := ((((e2.trans kA4).trans f2).trans g2).trans i2)
    have K47 : Kp A4 H7 := (f2.trans g2).trans i2
    obtain ⟨H8, j1, j2, _⟩ := markByteS_h (d3.kp K37) d4 hb (k0 := 1) (by omega) (by omega) m (by omega)
    have n5 := K47.next
    have hbx : ∀ b ∈ bx, A2.next ≤ b ∧ b < H3.next := fun b hb => ⟨d5 b hb, d3.mem b hb⟩
    have hbg : ∀ b ∈ bg, H3.next ≤ b ∧ b < H4.next := fun b hb => ⟨e5 b hb, e3.mem b hb⟩
    have w8 := (c3.kp (kA2.trans (K4.trans K47))).koL j2 fun b hb hx => by have := c3.mem b hb; have := hbx b hx; omega
    have r8 := (e3.kp (kA4.trans K47)).koL j2 fun b hb hx => by have := hbx b hx; have := hbg b hb; omega
    obtain ⟨H9, k1, k2⟩ := eqHello_h r8 w8 (Kp.refl H8) hbF m (by omega)
    have K8 : Kp A2 H8 := j2.kp (K4.trans K47) fun b hb => (hbx b hb).1
    obtain ⟨H10, l1, l2, l3⟩ := markHello_h (r8.kp k2) e4 (Kp.refl H9) hbF (k0 := 1) (by omega) (by omega) m (by omega)
    obtain ⟨H11, o1, o2⟩ := heldHello_h l3 (Kp.refl H10) hbF (by omega) (by omega) m (by omega)
    have K9 := K8.trans k2
    have n8 := K8.next; have n9 := k2.next
    have nn8 := j2.next; have nn10 := l2.next
    have K10 : Kp A2 H10 := l2.kp K9 fun b hb => by have := hbg b hb; omega
    have K11 := K10.trans o2
    have n11 := o2.next
    obtain ⟨x2, H12, b12, p1, p2, p3, p4, _⟩ := toByteS_h hd (K2.trans K11) hb m (by omega)
    obtain ⟨h0, H13, b13, q1, q2, q3, q4, _⟩ := helloI_ev (tB_bs p3).1 hby (Kp.refl H12) m (by omega)
    have vl := q3.len; have vo := q3.one
    have vl : h0.length = 18 := vl
    rw [hRR] at q1 q3
    simp only at q1 q3
    obtain ⟨A13, hA13⟩ : ∃ A : AH, A = H13.push (.cells 122 false h0) := ⟨_, rfl⟩
    have kA13 : Kp H13 A13 := by rw [hA13]; exact (Kp.refl H13).push _
    have n12 := p2.next; have n13 := q2.next
    have w11 := ((w8.kp k2).koS l2 fun b hb hx => by have := c3.mem b hb; have := hbg b hx; omega).kp o2
    obtain ⟨H14, t1, t2⟩ := eqHello_h (q3.kp kA13) (w11.kp ((p2.trans q2).trans kA13)) (Kp.refl A13) hbF m (by omega)
    have K1114 := ((p2.trans q2).trans kA13).trans t2
    obtain ⟨H15, u1, u2⟩ := heldHello_h (l3.kp (o2.trans K1114)) (Kp.refl H14) hbF (by omega) (by omega) m (by omega)
    -- the frames' blocks
    have cw2 : A2.get H2.next = some (.cells 122 false w) := by simp [hA2]
    have cg4 : A4.get H4.next = some (.cells 122 false g) := by simp [hA4]
    have cw4 := (K4.get H2.next (by omega)).trans cw2
    have cw4' := ((d2.trans e2).get H2.next (by omega)).trans cw2
    have nw4 : ¬ (H2.next = H4.next) := by omega
    have nw13 : ¬ (H2.next = H13.next) := by omega
    have nw4' : ¬ (H4.next = H2.next) := by omega
    have cw8 := (K8.get H2.next (by omega)).trans cw2
    have cg7 := (K47.get H4.next (by omega)).trans cg4
    have cg8 : H8.get H4.next = some (.cells 122 false g) := by
      rw [j2.get _ (by omega) (fun h => by have := hbx _ h; omega)]; exact cg7
    have cg9 := (k2.get H4.next (by omega)).trans cg8
    have cg10 : H10.get H4.next = some (.cells 122 false g) := by
      rw [l2.get _ (by omega) (fun h => by have := hbg _ h; omega)]; exact cg9
    have cg11 := (o2.get H4.next (by omega)).trans cg10
    have cg14 := (K1114.get H4.next (by omega)).trans cg11
    have cw11 := (K11.get H2.next (by omega)).trans cw2
    have cw13' := ((p2.trans q2).get H2.next (by omega)).trans cw11
    have cw13 := (((p2.trans q2).trans kA13).get H2.next (by omega)).trans cw11
    have cv13 : A13.get H13.next = some (.cells 122 false h0) := by simp [hA13]
    generalize hN1 : (Ty.sl 5 (Ty.int .u8)).cnt true l = N1 at *
    generalize hN2 : tT122.cnt false (hpD P) = N2 at *
    have y1 : ¬ (1 + (N1 : Int) < (0 : Int)) := by omega
    have y2 : ¬ (1 + (N2 : Int) < (0 : Int)) := by omega
    have hz : zHl = [.int .i64 0, .int .i64 0, .nilSlice, .nilSlice, .nilSlice, .int .i64 0, .int .i64 0, .int .i64 0, .int .i64 0, .int .i64 0, .int .i64 0, .int .i64 0, .int .i64 0, .int .i64 0, .bool false, .nilSlice, .nilSlice, .nilSlice] := rfl
    obtain ⟨B2, hB2⟩ : ∃ A : AH, A = H2.push (.cells 122 false zHl) := ⟨_, rfl⟩
    obtain ⟨B4, hB4⟩ : ∃ A : AH, A = H4.push (.cells 122 false zHl) := ⟨_, rfl⟩
    obtain ⟨B13, hB13⟩ : ∃ A : AH, A = H13.push (.cells 122 false zHl) := ⟨_, rfl⟩
    have s2 : stVar Try.prog 122 H2.next 0 (.agg w) B2 = some A2 := by
      rw [st122 (by rw [hB2]; simp) zHl_len wl wo, hB2, push_set _ _ rfl, hA2]
    have s4 : stVar Try.prog 122 H4.next 0 (.agg g) B4 = some A4 := by
      rw [st122 (by rw [hB4]; simp) zHl_len gl go, hB4, push_set _ _ rfl, hA4]
    have s13 : stVar Try.prog 122 H13.next 0 (.agg h0) B13 = some A13 := by
      rw [st122 (by rw [hB13]; simp) zHl_len vl vo, hB13, push_set _ _ rfl, hA13]
    have z2 := hB2.symm; have z4 := hB4.symm; have z13 := hB13.symm
    rw [hz] at z2 z4 z13
    have ldw4 := ld122 cw4 wl
    have ldg4 := ld122 cg4 gl
    have ldw8 := ld122 cw8 wl
    have ldg8 := ld122 cg8 gl
    have ldg9 := ld122 cg9 gl
    have ldg10 := ld122 cg10 gl
    have ldw13 := ld122 cw13 wl
    have ldv13 := ld122 cv13 vl
    have ldg14 := ld122 cg14 gl
    clear hA2 hA4 hA13 hB2 hB4 hB13 wl wo gl go vl vo
    refine ⟨H15, ?_⟩
    rw [ev_M Try.func13 ok13 [] m _ H (by simp [Try.f13])]
    simp [Try.f13, U, tm0, hL, hl', a1, c1, d1, e1, f1, g1, i1, j1, k1, l1, o1, p1, q1, t1, u1, y1, y2, z2, z4, z13, s2, s4, s13, ldw4, ldg4, ldw8, ldg8, ldg9, ldg10, ldw13, ldv13, ldg14]
end Go.Ev
