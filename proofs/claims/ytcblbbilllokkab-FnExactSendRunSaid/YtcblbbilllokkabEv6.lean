/- Lemmas of an evaluator of the given code and of what the functions answer; no condition of its own. -/
import Derived.Test.YtcblbbilllokkabEv5
/- Records of the sending part: alike. -/
namespace Go.Ev
open Go Go.Proofs
set_option linter.unusedSimpArgs false
set_option linter.unusedVariables false

theorem eqB_same {H : AH} {s1 s2 : AV} {l : List Int} {b1 b2 : List Nat} {r1 r2 : Bool} (h1 : tB.R r1 H [s1] l b1) (h2 : tB.R r2 H [s2] l b2) (hl : l.length ≤ 70368744177664) {h : AH} (hK : Kp H h) (m : Nat) (hm : l.length + 2 ≤ m) :
    ev Try.prog m 73 [s1, s2] h = some (.bool true, h) := by
  have := eqB (h1.kp hK) (h2.kp hK) hl m hm
  simpa using this
theorem eqSendOp_ev {H h : AH} {c1 c2 : List AV} {d : tSendOp.D} {b1 b2 : List Nat} {r1 r2 : Bool} (h1 : tSendOp.R r1 H c1 d b1) (h2 : tSendOp.R r2 H c2 d b2) (hK : Kp H h) (hl : opBytes d ≤ 1048576) (m : Nat) (hm : opBytes d + 4 ≤ m) :
    ∃ h', ev Try.prog m 38 [.agg c1, .agg c2] h = some (.bool true, h') ∧ Kp h h' := by
  obtain ⟨m, rfl⟩ : ∃ k, m = k + 1 := ⟨m - 1, by omega⟩
  obtain ⟨k, o, n, x, f⟩ := d
  obtain ⟨v1, rfl, x1, _⟩ := SendOp_out h1
  obtain ⟨v2, rfl, x2, _⟩ := SendOp_out h2
  have hlx : x.length ≤ 1048576 := hl
  have hmx : x.length + 4 ≤ m + 1 := hm
  have o1 := (tB_bs x1).1.one
  have o2 := (tB_bs x2).1.one
  have KA : Kp h ((h.push (.cells 77 false [.int .i64 k, .int .i64 o, .int .i64 n, v1, .bool f])).push (.cells 77 false [.int .i64 k, .int .i64 o, .int .i64 n, v2, .bool f])) := ((Kp.refl h).push _).push _
  have q := eqB_same x1 x2 (by omega) (hK.trans KA) m (by omega)
  refine ⟨_, ?_, KA⟩
  have nn1 : ¬ (h.next = h.next + 1) := by omega
  rw [ev_eq Try.func38 ok38 m _ h (by simp [Try.f38])]
  simp [Try.f38, ldVar, o1, o2, q, nn1]
theorem eqSendObs_ev {H h : AH} {c1 c2 : List AV} {d : tSendObs.D} {b1 b2 : List Nat} {r1 r2 : Bool} (h1 : tSendObs.R r1 H c1 d b1) (h2 : tSendObs.R r2 H c2 d b2) (hK : Kp H h) (hl : d.2.2.2.1.length ≤ 1048576) (m : Nat) (hm : d.2.2.2.1.length + 4 ≤ m) :
    ∃ h', ev Try.prog m 37 [.agg c1, .agg c2] h = some (.bool true, h') ∧ Kp h h' := by
  obtain ⟨m, rfl⟩ : ∃ k, m = k + 1 := ⟨m - 1, by omega⟩
  obtain ⟨k, s, o, x, p, q, r⟩ := d
  obtain ⟨v1, rfl, x1, _⟩ := SendObs_out h1
  obtain ⟨v2, rfl, x2, _⟩ := SendObs_out h2
  have hlx : x.length ≤ 1048576 := hl
  have hmx : x.length + 4 ≤ m + 1 := hm
  have o1 := (tB_bs x1).1.one
  have o2 := (tB_bs x2).1.one
  have KA : Kp h ((h.push (.cells 75 false [.int .i64 k, .int .i64 s, .int .i64 o, v1, .bool p, .bool q, .bool r])).push (.cells 75 false [.int .i64 k, .int .i64 s, .int .i64 o, v2, .bool p, .bool q, .bool r])) := ((Kp.refl h).push _).push _
  have qq := eqB_same x1 x2 (by omega) (hK.trans KA) m (by omega)
  refine ⟨_, ?_, KA⟩
  have nn1 : ¬ (h.next = h.next + 1) := by omega
  rw [ev_eq Try.func37 ok37 m _ h (by simp [Try.f37])]
  simp [Try.f37, ldVar, o1, o2, qq, nn1]
end Go.Ev

/- Rows of records: alike. -/
namespace Go.Ev
open Go Go.Proofs
set_option linter.unusedSimpArgs false
set_option linter.unusedVariables false

def EqInv (n : Nat) (s1 s2 : AV) (H : AH) (d : Nat) (τ : Tm) (h : AH) : Prop := ∃ k : Nat, k + d = n ∧ τ 0 = s1 ∧ τ 1 = s2 ∧ τ 5 = .int .i64 k ∧ Kp H h
theorem eqSendOpS_ev {H h : AH} {s1 s2 : AV} {ds : List tSendOp.D} {b1 b2 : List Nat} {r1 r2 : Bool} (h1 : (Ty.sl 77 tSendOp).R r1 H [s1] ds b1) (h2 : (Ty.sl 77 tSendOp).R r2 H [s2] ds b2) (hK : Kp H h) (hl : ds.length ≤ 1048576) (hl2 : ∀ d ∈ ds, d.2.2.2.1.length ≤ 1048576) (m : Nat) (hm : 2097160 ≤ m) :
    ∃ h', ev Try.prog m 11 [s1, s2] h = some (.bool true, h') ∧ Kp h h' := by
  obtain ⟨m, rfl⟩ : ∃ k, m = k + 1 := ⟨m - 1, by omega⟩
  have e1 := Ty.R.lenA h1 (P := Try.prog) (T := 27) (by simp)
  have e2 := Ty.R.lenA h2 (P := Try.prog) (T := 27) (by simp)
  rw [ev_eq Try.func11 ok11 m _ h (by simp [Try.f11])]
  simp [Try.f11, e1, e2]
  generalize hLo : evLoop _ _ _ _ _ _ = R
  obtain ⟨e, τ', H', rfl, rfl, g⟩ := loop_at hLo (loop_rule (d := ds.length) (fun d τ h' => EqInv ds.length s1 s2 h d τ h')
    (fun e τ h' => e = .exit 0 ∧ Kp h h')
    (by
      rintro d τ h' ⟨k, hk, t0, t1, t5, hKh⟩
      by_cases hd0 : d = 0
      · subst hd0
        have hkl : (k : Int) = ds.length := by omega
        rewrite [lp11_58]
        simp [Try.f11, t0, t1, t5, e1, hkl]
        exact hKh
      · have hlt : k < ds.length := by omega
        have hKK := hK.trans hKh
        obtain ⟨b, o, ro, x1, c, x2, bk, u1, u2, u3, u4, u5, u6, u7, u8⟩ := Ty.R.at_ (h1.kp hKK) (P := Try.prog) (T := 27) (by simp) (by simp [Ty.n]) (k := k) hlt
        obtain ⟨b', o', ro', y1, c', y2, bk', w1, w2, w3, w4, w5, w6, w7, w8⟩ := Ty.R.at_ (h2.kp hKK) (P := Try.prog) (T := 27) (by simp) (by simp [Ty.n]) (k := k) hlt
        have hld := ld_midA0 (P := Try.prog) (T := 77) (n := 5) u3 u4 (by simp) (by simp) (by simpa [Ty.n] using u5.len)
        have hld' := ld_midA0 (P := Try.prog) (T := 77) (n := 5) w3 w4 (by simp) (by simp) (by simpa [Ty.n] using w5.len)
        have hob := hl2 _ (List.getElem_mem hlt)
        obtain ⟨h3, v1, v2⟩ := eqSendOp_ev u5 w5 (Kp.refl h') hob m (by unfold opBytes; omega)
        rewrite [lp11_58]
        simp [Try.f11, t0, t1, t5, e1, hlt, u1, w1, hld, hld', v1, evHist, ObsOk, ObOk, wrap_i64 (n := (k : Int) + 1) (by omega) (by omega)]
        exact ⟨d - 1, by omega, k + 1, by omega, by simp [t0], by simp [t1], by simp, hKh.trans v2⟩)
    ⟨0, by simp, by simp, by simp, by simp, Kp.refl h⟩ (by omega))
  simp
  exact g
theorem eqSendObsS_ev {H h : AH} {s1 s2 : AV} {ds : List tSendObs.D} {b1 b2 : List Nat} {r1 r2 : Bool} (h1 : (Ty.sl 75 tSendObs).R r1 H [s1] ds b1) (h2 : (Ty.sl 75 tSendObs).R r2 H [s2] ds b2) (hK : Kp H h) (hl : ds.length ≤ 1048576) (hl2 : ∀ d ∈ ds, d.2.2.2.1.length ≤ 1048576) (m : Nat) (hm : 2097160 ≤ m) :
    ∃ h', ev Try.prog m 10 [s1, s2] h = some (.bool true, h') ∧ Kp h h' := by
  obtain ⟨m, rfl⟩ : ∃ k, m = k + 1 := ⟨m - 1, by omega⟩
  have e1 := Ty.R.lenA h1 (P := Try.prog) (T := 24) (by simp)
  have e2 := Ty.R.lenA h2 (P := Try.prog) (T := 24) (by simp)
  rw [ev_eq Try.func10 ok10 m _ h (by simp [Try.f10])]
  simp [Try.f10, e1, e2]
  generalize hLo : evLoop _ _ _ _ _ _ = R
  obtain ⟨e, τ', H', rfl, rfl, g⟩ := loop_at hLo (loop_rule (d := ds.length) (fun d τ h' => EqInv ds.length s1 s2 h d τ h')
    (fun e τ h' => e = .exit 0 ∧ Kp h h')
    (by
      rintro d τ h' ⟨k, hk, t0, t1, t5, hKh⟩
      by_cases hd0 : d = 0
      · subst hd0
        have hkl : (k : Int) = ds.length := by omega
        rewrite [lp10_58]
        simp [Try.f10, t0, t1, t5, e1, hkl]
        exact hKh
      · have hlt : k < ds.length := by omega
        have hKK := hK.trans hKh
        obtain ⟨b, o, ro, x1, c, x2, bk, u1, u2, u3, u4, u5, u6, u7, u8⟩ := Ty.R.at_ (h1.kp hKK) (P := Try.prog) (T := 24) (by simp) (by simp [Ty.n]) (k := k) hlt
        obtain ⟨b', o', ro', y1, c', y2, bk', w1, w2, w3, w4, w5, w6, w7, w8⟩ := Ty.R.at_ (h2.kp hKK) (P := Try.prog) (T := 24) (by simp) (by simp [Ty.n]) (k := k) hlt
        have hld := ld_midA0 (P := Try.prog) (T := 75) (n := 7) u3 u4 (by simp) (by simp) (by simpa [Ty.n] using u5.len)
        have hld' := ld_midA0 (P := Try.prog) (T := 75) (n := 7) w3 w4 (by simp) (by simp) (by simpa [Ty.n] using w5.len)
        have hob := hl2 _ (List.getElem_mem hlt)
        obtain ⟨h3, v1, v2⟩ := eqSendObs_ev u5 w5 (Kp.refl h') hob m (by omega)
        rewrite [lp10_58]
        simp [Try.f10, t0, t1, t5, e1, hlt, u1, w1, hld, hld', v1, evHist, ObsOk, ObOk, wrap_i64 (n := (k : Int) + 1) (by omega) (by omega)]
        exact ⟨d - 1, by omega, k + 1, by omega, by simp [t0], by simp [t1], by simp, hKh.trans v2⟩)
    ⟨0, by simp, by simp, by simp, by simp, Kp.refl h⟩ (by omega))
  simp
  exact g
end Go.Ev

/- Rows of records: marks. -/
namespace Go.Ev
open Go Go.Proofs
set_option linter.unusedSimpArgs false
set_option linter.unusedVariables false

theorem stf {P : Program} {H : AH} {b o j : Nat} {e T : TypeId} {x1 c c' x2 : List AV} {v : AV} (h : H.get b = some (.cells e false (x1 ++ c ++ x2))) (ho : x1.length = o) (hs : sizeT P T = some 1) (h1 : v.one = true) (hj : j < c.length) (hc : c.set j v = c') :
    stVar P T b (o + j) v H = some (H.set b (.cells e false (x1 ++ c' ++ x2))) := by
  rw [st_mid h ho hs h1 hj, hc]
theorem stf0 {P : Program} {H : AH} {b o : Nat} {e T : TypeId} {x1 c c' x2 : List AV} {v : AV} (h : H.get b = some (.cells e false (x1 ++ c ++ x2))) (ho : x1.length = o) (hs : sizeT P T = some 1) (h1 : v.one = true) (hj : 0 < c.length) (hc : c.set 0 v = c') :
    stVar P T b o v H = some (H.set b (.cells e false (x1 ++ c' ++ x2))) := stf (j := 0) h ho hs h1 hj hc
theorem ldf {P : Program} {H : AH} {b o j : Nat} {e T : TypeId} {ro : Bool} {x1 c x2 : List AV} {v : AV} (h : H.get b = some (.cells e ro (x1 ++ c ++ x2))) (ho : x1.length = o) (ha : aggT P T = some false) (hj : c[j]? = some v) : ldVar P T b (o + j) H = some v := by
  rw [ld_mid h ho ha (by rcases Nat.lt_or_ge j c.length with h | h; exact h; rw [List.getElem?_eq_none h] at hj; simp at hj), hj]
theorem ldf0 {P : Program} {H : AH} {b o : Nat} {e T : TypeId} {ro : Bool} {x1 c x2 : List AV} {v : AV} (h : H.get b = some (.cells e ro (x1 ++ c ++ x2))) (ho : x1.length = o) (ha : aggT P T = some false) (hj : c[0]? = some v) : ldVar P T b o H = some v := ldf (j := 0) h ho ha hj
theorem mk_pair (a b : Ty) (m : Int) (x : a.D) (y : b.D) : (Ty.pair a b).mk true m (x, y) = (a.mk true m x, b.mk true (m + (a.cnt true x : Nat)) y) := rfl
theorem mk_int1 (m d : Int) (h0 : -9223372036854775808 ≤ m) (h1 : m ≤ 9223372036854775807) : (Ty.int .i64).mk true m d = m := wrap_i64 h0 h1
theorem cnt_int1 (k : IntKind) (d : Int) : (Ty.int k).cnt true d = 1 := rfl
theorem cnt_bool1 (d : Bool) : Ty.bool.cnt true d = 1 := rfl
theorem mk_bool1 (m : Int) (d : Bool) : Ty.bool.mk true m d = decide (m % 3 = 0) := rfl
theorem mk_tB1 (m : Int) (x : List Int) : tB.mk true m x = tB.mk false m x := rfl
theorem cnt_tB1 (x : List Int) : tB.cnt true x = x.length := cnt_tB x
theorem cnt_pair (a b : Ty) (x : a.D) (y : b.D) : (Ty.pair a b).cnt true (x, y) = a.cnt true x + b.cnt true y := rfl
theorem mk_Op (k a b n : Int) (x : List Int) (f : Bool) (h0 : 0 ≤ k) (h1 : k ≤ 9007199254740992) : tSendOp.mk true k (a, b, n, x, f) = (k, k + 1, k + 2, tB.mk false (k + 3) x, decide ((k + 3 + (x.length : Int)) % 3 = 0)) := by
  have e1 : k + ((1 : Nat) : Int) = k + 1 := rfl
  have e2 : k + 1 + ((1 : Nat) : Int) = k + 2 := by omega
  have e3 : k + 2 + ((1 : Nat) : Int) = k + 3 := by omega
  rw [mk_pair, mk_pair, mk_pair, mk_pair, mk_bool1, mk_tB1, cnt_tB1, cnt_int1, cnt_int1, cnt_int1, e1, e2, e3, mk_int1 _ _ (by omega) (by omega), mk_int1 _ _ (by omega) (by omega), mk_int1 _ _ (by omega) (by omega)]
theorem mk_Obs (k a b n : Int) (x : List Int) (p q r : Bool) (h0 : 0 ≤ k) (h1 : k ≤ 9007199254740992) : tSendObs.mk true k (a, b, n, x, p, q, r) = (k, k + 1, k + 2, tB.mk false (k + 3) x, decide ((k + 3 + (x.length : Int)) % 3 = 0), decide ((k + 4 + (x.length : Int)) % 3 = 0), decide ((k + 5 + (x.length : Int)) % 3 = 0)) := by
  have e1 : k + ((1 : Nat) : Int) = k + 1 := rfl
  have e2 : k + 1 + ((1 : Nat) : Int) = k + 2 := by omega
  have e3 : k + 2 + ((1 : Nat) : Int) = k + 3 := by omega
  have e4 : k + 3 + (x.length : Int) + ((1 : Nat) : Int) = k + 4 + x.length := by omega
  have e5 : k + 4 + (x.length : Int) + ((1 : Nat) : Int) = k + 5 + x.length := by omega
  rw [mk_pair, mk_pair, mk_pair, mk_pair, mk_pair, mk_pair, mk_bool1, mk_bool1, mk_bool1, mk_tB1, cnt_tB1, cnt_bool1, cnt_bool1, cnt_int1, cnt_int1, cnt_int1, e1, e2, e3, e4, e5, mk_int1 _ _ (by omega) (by omega), mk_int1 _ _ (by omega) (by omega), mk_int1 _ _ (by omega) (by omega)]
theorem cnt_Op (a b n : Int) (x : List Int) (f : Bool) : tSendOp.cnt true (a, b, n, x, f) = x.length + 4 := by
  rw [cnt_pair, cnt_pair, cnt_pair, cnt_pair, cnt_int1, cnt_int1, cnt_int1, cnt_tB1, cnt_bool1]; omega
theorem cnt_Obs (a b n : Int) (x : List Int) (p q r : Bool) : tSendObs.cnt true (a, b, n, x, p, q, r) = x.length + 6 := by
  rw [cnt_pair, cnt_pair, cnt_pair, cnt_pair, cnt_pair, cnt_pair, cnt_int1, cnt_int1, cnt_int1, cnt_tB1, cnt_bool1, cnt_bool1, cnt_bool1]; omega
def MkInv (ds : List tSendObs.D) (s : AV) (k0 : Int) (bs : List Nat) (H : AH) (d : Nat) (τ : Tm) (h : AH) : Prop :=
  ∃ k : Nat, k + d = ds.length ∧ τ 0 = s ∧ τ 1 = .int .i64 (k0 + (cntL (tSendObs.cnt true) (ds.take k) : Nat)) ∧ τ 5 = .int .i64 k ∧ KoL bs H h ∧ (Ty.sl 75 tSendObs).R true h [s] (mkRow (tSendObs.mk true) (tSendObs.cnt true) k0 (ds.take k) ++ ds.drop k) bs
theorem markObsS_ev {H : AH} {s : AV} {ds : List tSendObs.D} {bs : List Nat} (hd : (Ty.sl 75 tSendObs).R true H [s] ds bs) (hnd : bs.Nodup) {N : Nat} (hN : N ≤ 1073741824) (hlen : ds.length ≤ 1048576) (hcnt : cntL (tSendObs.cnt true) ds ≤ N) (hl2 : ∀ d ∈ ds, d.2.2.2.1.length ≤ 1048576) (k0 : Int) (hk0 : 0 ≤ k0) (hk1 : k0 ≤ 1048576) (m : Nat) (hm : 2097160 ≤ m) :
    ∃ H', ev Try.prog m 13 [s, .int .i64 k0] H = some (.int .i64 (k0 + (cntL (tSendObs.cnt true) ds : Nat)), H') ∧ KoL bs H H' ∧ (Ty.sl 75 tSendObs).R true H' [s] (mkRow (tSendObs.mk true) (tSendObs.cnt true) k0 ds) bs := by
  obtain ⟨m, rfl⟩ : ∃ k, m = k + 1 := ⟨m - 1, by omega⟩
  rw [ev_eq Try.func13 ok13 m _ H (by simp [Try.f13])]
  simp [Try.f13]
  generalize hLo : evLoop _ _ _ _ _ _ = R
  obtain ⟨e, τ', H', rfl, rfl, g1, g2, g3⟩ := loop_at hLo (loop_rule (d := ds.length) (MkInv ds s k0 bs H)
    (fun e τ h => e = .exit 0 ∧ τ 1 = .int .i64 (k0 + (cntL (tSendObs.cnt true) ds : Nat)) ∧ KoL bs H h ∧ (Ty.sl 75 tSendObs).R true h [s] (mkRow (tSendObs.mk true) (tSendObs.cnt true) k0 ds) bs)
    (by
      rintro d τ h ⟨k, hk, t0, t1, t5, hK, hR⟩
      have hlen' : (mkRow (tSendObs.mk true) (tSendObs.cnt true) k0 (ds.take k) ++ ds.drop k).length = ds.length := by simp [mkRow_len]; omega
      have hL := Ty.R.lenA hR (P := Try.prog) (T := 24) (by simp)
      rw [hlen'] at hL
      by_cases hd0 : d = 0
      · subst hd0
        have : k = ds.length := by omega
        subst this
        rw [List.take_length] at t1
        rewrite [lp13_26]
        simp [Try.f13, t0, t1, t5, hL]
        exact ⟨hK, by simpa using hR⟩
      · have hlt : k < ds.length := by omega
        obtain ⟨b, o, x1, c, x2, bk, u1, u2, u3, u4, u5, u6, u7, u8, u9, u10⟩ := Ty.R.upd hR hnd (P := Try.prog) (T := 24) (by simp) (by simp [Ty.n]) (k := k) (by omega)
        have hat := mkRow_at (tSendObs.mk true) (tSendObs.cnt true) k0 ds k hlt (by rw [hlen']; exact hlt)
        rw [hat] at u5
        have hset := fun v => u10 v
        have hob := hl2 _ (List.getElem_mem hlt)
        have hct := cntL_take_succ (tSendObs.cnt true) ds k hlt
        have hcl := cntL_take_le (tSendObs.cnt true) ds (k + 1)
        have hms := mkRow_set (tSendObs.mk true) (tSendObs.cnt true) k0 ds k hlt
        generalize hK0 : k0 + (cntL (tSendObs.cnt true) (ds.take k) : Nat) = K at *
        have hKb : 0 ≤ K ∧ K ≤ 2147483648 := by omega
        generalize hdk : ds[k] = dk at *
        obtain ⟨da, db, dn, dx, dp, dq, dr⟩ := dk
        rw [cnt_Obs] at hct
        rw [mk_Obs _ _ _ _ _ _ _ _ hKb.1 (by omega)] at hms
        obtain ⟨v, rfl, hx, i1, i2, i3⟩ := SendObs_out u5
        have hob' : dx.length ≤ 1048576 := hob
        obtain ⟨B1, hB1⟩ : ∃ B, B = Blk.cells 75 false (x1 ++ [.int .i64 K, .int .i64 db, .int .i64 dn, v, .bool dp, .bool dq, .bool dr] ++ x2) := ⟨_, rfl⟩
        obtain ⟨B2, hB2⟩ : ∃ B, B = Blk.cells 75 false (x1 ++ [.int .i64 K, .int .i64 (K + 1), .int .i64 dn, v, .bool dp, .bool dq, .bool dr] ++ x2) := ⟨_, rfl⟩
        obtain ⟨B3, hB3⟩ : ∃ B, B = Blk.cells 75 false (x1 ++ [.int .i64 K, .int .i64 (K + 1), .int .i64 (K + 2), v, .bool dp, .bool dq, .bool dr] ++ x2) := ⟨_, rfl⟩
        obtain ⟨q4, hq4⟩ : ∃ q, q = decide ((K + 3 + (dx.length : Int)) % 3 = 0) := ⟨_, rfl⟩
        obtain ⟨q5, hq5⟩ : ∃ q, q = decide ((K + 4 + (dx.length : Int)) % 3 = 0) := ⟨_, rfl⟩
        obtain ⟨q6, hq6⟩ : ∃ q, q = decide ((K + 5 + (dx.length : Int)) % 3 = 0) := ⟨_, rfl⟩
        rw [← hq4, ← hq5, ← hq6] at hms
        obtain ⟨B4, hB4⟩ : ∃ B, B = Blk.cells 75 false (x1 ++ [.int .i64 K, .int .i64 (K + 1), .int .i64 (K + 2), v, .bool q4, .bool dq, .bool dr] ++ x2) := ⟨_, rfl⟩
        obtain ⟨B5, hB5⟩ : ∃ B, B = Blk.cells 75 false (x1 ++ [.int .i64 K, .int .i64 (K + 1), .int .i64 (K + 2), v, .bool q4, .bool q5, .bool dr] ++ x2) := ⟨_, rfl⟩
        obtain ⟨B6, hB6⟩ : ∃ B, B = Blk.cells 75 false (x1 ++ [.int .i64 K, .int .i64 (K + 1), .int .i64 (K + 2), v, .bool q4, .bool q5, .bool q6] ++ x2) := ⟨_, rfl⟩
        have s1 : stVar Try.prog 3 b o (.int .i64 K) h = some (h.set b B1) := by rw [hB1]; exact stf0 u3 u4 (by simp) rfl (by simp) rfl
        have s2 : stVar Try.prog 3 b (o + 1) (.int .i64 (K + 1)) (h.set b B1) = some (h.set b B2) := by
          rw [stf (P := Try.prog) (T := 3) (H := h.set b B1) (by rw [AH.set_get, if_pos rfl, hB1]) u4 (by simp) rfl (by simp) rfl, set_set, hB2]; rfl
        have s3 : stVar Try.prog 3 b (o + 2) (.int .i64 (K + 2)) (h.set b B2) = some (h.set b B3) := by
          rw [stf (P := Try.prog) (T := 3) (H := h.set b B2) (by rw [AH.set_get, if_pos rfl, hB2]) u4 (by simp) rfl (by simp) rfl, set_set, hB3]; rfl
        have s4 : ldVar Try.prog 34 b (o + 3) (h.set b B3) = some v := ldf (H := h.set b B3) (by rw [AH.set_get, if_pos rfl, hB3]) u4 (by simp) rfl
        have hx3 : tB.R true (h.set b B3) [v] dx bk := hx.stay (by simp) fun y hy => by rw [AH.set_get, if_neg (fun e => u8 (by rw [← e]; exact hy))]
        obtain ⟨h4, v1, v2, v3⟩ := markB hx3 (by omega) (K + 3) (by omega) (by omega) m (by omega)
        rw [cnt_tB] at v1
        have hb4 : h4.get b = some B3 := by rw [v2.get b (by simpa using u2) u8, AH.set_get, if_pos rfl]
        have s5 : stVar Try.prog 4 b (o + 4) (.bool q4) h4 = some (h4.set b B4) := by
          rw [stf (P := Try.prog) (T := 4) (H := h4) (by rw [hb4, hB3]) u4 (by simp) rfl (by simp) rfl, hB4]; rfl
        have s6 : stVar Try.prog 4 b (o + 5) (.bool q5) (h4.set b B4) = some (h4.set b B5) := by
          rw [stf (P := Try.prog) (T := 4) (H := h4.set b B4) (by rw [AH.set_get, if_pos rfl, hB4]) u4 (by simp) rfl (by simp) rfl, set_set, hB5]; rfl
        have s7 : stVar Try.prog 4 b (o + 6) (.bool q6) (h4.set b B5) = some (h4.set b B6) := by
          rw [stf (P := Try.prog) (T := 4) (H := h4.set b B5) (by rw [AH.set_get, if_pos rfl, hB5]) u4 (by simp) rfl (by simp) rfl, set_set, hB6]; rfl
        have w1 := wrap_i64 (n := K + 1) (by omega) (by omega)
        have w2 := wrap_i64 (n := K + 2) (by omega) (by omega)
        have w3 := wrap_i64 (n := K + 3) (by omega) (by omega)
        have w4 := wrap_i64 (n := K + 4 + (dx.length : Int)) (by omega) (by omega)
        have w5 := wrap_i64 (n := K + 5 + (dx.length : Int)) (by omega) (by omega)
        have w6 := wrap_i64 (n := K + 6 + (dx.length : Int)) (by omega) (by omega)
        have a1 : K + 1 + 1 = K + 2 := by omega
        have a2 : K + 2 + 1 = K + 3 := by omega
        have a3 : K + 3 + (dx.length : Int) + 1 = K + 4 + (dx.length : Int) := by omega
        have a4 : K + 4 + (dx.length : Int) + 1 = K + 5 + (dx.length : Int) := by omega
        have a5 : K + 5 + (dx.length : Int) + 1 = K + 6 + (dx.length : Int) := by omega
        have m1 : ((K + 3 + (dx.length : Int)).tmod 3 == 0) = q4 := by rw [hq4, Int.tmod_eq_emod_of_nonneg (by omega)]; rfl
        have m2 : ((K + 4 + (dx.length : Int)).tmod 3 == 0) = q5 := by rw [hq5, Int.tmod_eq_emod_of_nonneg (by omega)]; rfl
        have m3 : ((K + 5 + (dx.length : Int)).tmod 3 == 0) = q6 := by rw [hq6, Int.tmod_eq_emod_of_nonneg (by omega)]; rfl
        rewrite [lp13_26]
        simp [Try.f13, t0, t1, t5, hL, hlt, u1, s1, s2, s3, s4, v1, s5, s6, s7, w1, w2, w3, w4, w5, w6, a1, a2, a3, a4, a5, m1, m2, m3, wrap_i64 (n := (k : Int) + 1) (by omega) (by omega)]
        have K3 : KoL bs h (h.set b B3) := (KoL.refl bs h).set u7 _
        have K4 : KoL bs h h4 := K3.trans (v2.mono u6)
        have K6 : KoL bs h (h4.set b B6) := K4.set u7 _
        have hv6 : tB.R true (h4.set b B6) [v] (tB.mk false (K + 3) dx) bk := v3.stay (by simp) fun y hy => by rw [AH.set_get, if_neg (fun e => u8 (by rw [← e]; exact hy))]
        have hR6 := u10 (h4.set b B6) _ (K, K + 1, K + 2, tB.mk false (K + 3) dx, q4, q5, q6) (by rw [K6.next]; exact Nat.le_refl _)
          (fun y hy hyb hyk => by
            rw [AH.set_get, if_neg hyb, v2.get y (by have := hR.mem y hy; simpa using this) hyk, AH.set_get, if_neg hyb])
          (by rw [AH.set_get, if_pos rfl, hB6]) (SendObs_in hv6 ((InI.iff _).2 (by omega)) ((InI.iff _).2 (by omega)) ((InI.iff _).2 (by omega)))
        rw [hms] at hR6
        exact ⟨d - 1, by omega, k + 1, by omega, by simp [t0], by simp; omega, by simp, hK.trans K6, hR6⟩)
    ⟨0, by simp, by simp, by simp [cntL], by simp, KoL.refl _ _, by simpa [mkRow] using hd⟩ (by omega))
  simp [g1]
  exact ⟨g2, g3⟩
end Go.Ev

/- Rows of operations: marks. -/
namespace Go.Ev
open Go Go.Proofs
set_option linter.unusedSimpArgs false
set_option linter.unusedVariables false

def MkInvOp (ds : List tSendOp.D) (s : AV) (k0 : Int) (bs : List Nat) (H : AH) (d : Nat) (τ : Tm) (h : AH) : Prop :=
  ∃ k : Nat, k + d = ds.length ∧ τ 0 = s ∧ τ 1 = .int .i64 (k0 + (cntL (tSendOp.cnt true) (ds.take k) : Nat)) ∧ τ 5 = .int .i64 k ∧ KoL bs H h ∧ (Ty.sl 77 tSendOp).R true h [s] (mkRow (tSendOp.mk true) (tSendOp.cnt true) k0 (ds.take k) ++ ds.drop k) bs
theorem markOpS_ev {H : AH} {s : AV} {ds : List tSendOp.D} {bs : List Nat} (hd : (Ty.sl 77 tSendOp).R true H [s] ds bs) (hnd : bs.Nodup) {N : Nat} (hN : N ≤ 1073741824) (hlen : ds.length ≤ 1048576) (hcnt : cntL (tSendOp.cnt true) ds ≤ N) (hl2 : ∀ d ∈ ds, d.2.2.2.1.length ≤ 1048576) (k0 : Int) (hk0 : 0 ≤ k0) (hk1 : k0 ≤ 1048576) (m : Nat) (hm : 2097160 ≤ m) :
    ∃ H', ev Try.prog m 12 [s, .int .i64 k0] H = some (.int .i64 (k0 + (cntL (tSendOp.cnt true) ds : Nat)), H') ∧ KoL bs H H' ∧ (Ty.sl 77 tSendOp).R true H' [s] (mkRow (tSendOp.mk true) (tSendOp.cnt true) k0 ds) bs := by
  obtain ⟨m, rfl⟩ : ∃ k, m = k + 1 := ⟨m - 1, by omega⟩
  rw [ev_eq Try.func12 ok12 m _ H (by simp [Try.f12])]
  simp [Try.f12]
  generalize hLo : evLoop _ _ _ _ _ _ = R
  obtain ⟨e, τ', H', rfl, rfl, g1, g2, g3⟩ := loop_at hLo (loop_rule (d := ds.length) (MkInvOp ds s k0 bs H)
    (fun e τ h => e = .exit 0 ∧ τ 1 = .int .i64 (k0 + (cntL (tSendOp.cnt true) ds : Nat)) ∧ KoL bs H h ∧ (Ty.sl 77 tSendOp).R true h [s] (mkRow (tSendOp.mk true) (tSendOp.cnt true) k0 ds) bs)
    (by
      rintro d τ h ⟨k, hk, t0, t1, t5, hK, hR⟩
      have hlen' : (mkRow (tSendOp.mk true) (tSendOp.cnt true) k0 (ds.take k) ++ ds.drop k).length = ds.length := by simp [mkRow_len]; omega
      have hL := Ty.R.lenA hR (P := Try.prog) (T := 27) (by simp)
      rw [hlen'] at hL
      by_cases hd0 : d = 0
      · subst hd0
        have : k = ds.length := by omega
        subst this
        rw [List.take_length] at t1
        rewrite [lp12_26]
        simp [Try.f12, t0, t1, t5, hL]
        exact ⟨hK, by simpa using hR⟩
      · have hlt : k < ds.length := by omega
        obtain ⟨b, o, x1, c, x2, bk, u1, u2, u3, u4, u5, u6, u7, u8, u9, u10⟩ := Ty.R.upd hR hnd (P := Try.prog) (T := 27) (by simp) (by simp [Ty.n]) (k := k) (by omega)
        have hat := mkRow_at (tSendOp.mk true) (tSendOp.cnt true) k0 ds k hlt (by rw [hlen']; exact hlt)
        rw [hat] at u5
        have hset := fun v => u10 v
        have hob := hl2 _ (List.getElem_mem hlt)
        have hct := cntL_take_succ (tSendOp.cnt true) ds k hlt
        have hcl := cntL_take_le (tSendOp.cnt true) ds (k + 1)
        have hms := mkRow_set (tSendOp.mk true) (tSendOp.cnt true) k0 ds k hlt
        generalize hK0 : k0 + (cntL (tSendOp.cnt true) (ds.take k) : Nat) = K at *
        have hKb : 0 ≤ K ∧ K ≤ 2147483648 := by omega
        generalize hdk : ds[k] = dk at *
        obtain ⟨da, db, dn, dx, dp⟩ := dk
        rw [cnt_Op] at hct
        rw [mk_Op _ _ _ _ _ _ hKb.1 (by omega)] at hms
        obtain ⟨v, rfl, hx, i1, i2, i3⟩ := SendOp_out u5
        have hob' : dx.length ≤ 1048576 := hob
        obtain ⟨B1, hB1⟩ : ∃ B, B = Blk.cells 77 false (x1 ++ [.int .i64 K, .int .i64 db, .int .i64 dn, v, .bool dp] ++ x2) := ⟨_, rfl⟩
        obtain ⟨B2, hB2⟩ : ∃ B, B = Blk.cells 77 false (x1 ++ [.int .i64 K, .int .i64 (K + 1), .int .i64 dn, v, .bool dp] ++ x2) := ⟨_, rfl⟩
        obtain ⟨B3, hB3⟩ : ∃ B, B = Blk.cells 77 false (x1 ++ [.int .i64 K, .int .i64 (K + 1), .int .i64 (K + 2), v, .bool dp] ++ x2) := ⟨_, rfl⟩
        obtain ⟨q4, hq4⟩ : ∃ q, q = decide ((K + 3 + (dx.length : Int)) % 3 = 0) := ⟨_, rfl⟩
        rw [← hq4] at hms
        obtain ⟨B4, hB4⟩ : ∃ B, B = Blk.cells 77 false (x1 ++ [.int .i64 K, .int .i64 (K + 1), .int .i64 (K + 2), v, .bool q4] ++ x2) := ⟨_, rfl⟩
        have s1 : stVar Try.prog 3 b o (.int .i64 K) h = some (h.set b B1) := by rw [hB1]; exact stf0 u3 u4 (by simp) rfl (by simp) rfl
        have s2 : stVar Try.prog 3 b (o + 1) (.int .i64 (K + 1)) (h.set b B1) = some (h.set b B2) := by
          rw [stf (P := Try.prog) (T := 3) (H := h.set b B1) (by rw [AH.set_get, if_pos rfl, hB1]) u4 (by simp) rfl (by simp) rfl, set_set, hB2]; rfl
        have s3 : stVar Try.prog 3 b (o + 2) (.int .i64 (K + 2)) (h.set b B2) = some (h.set b B3) := by
          rw [stf (P := Try.prog) (T := 3) (H := h.set b B2) (by rw [AH.set_get, if_pos rfl, hB2]) u4 (by simp) rfl (by simp) rfl, set_set, hB3]; rfl
        have s4 : ldVar Try.prog 34 b (o + 3) (h.set b B3) = some v := ldf (H := h.set b B3) (by rw [AH.set_get, if_pos rfl, hB3]) u4 (by simp) rfl
        have hx3 : tB.R true (h.set b B3) [v] dx bk := hx.stay (by simp) fun y hy => by rw [AH.set_get, if_neg (fun e => u8 (by rw [← e]; exact hy))]
        obtain ⟨h4, v1, v2, v3⟩ := markB hx3 (by omega) (K + 3) (by omega) (by omega) m (by omega)
        rw [cnt_tB] at v1
        have hb4 : h4.get b = some B3 := by rw [v2.get b (by simpa using u2) u8, AH.set_get, if_pos rfl]
        have s5 : stVar Try.prog 4 b (o + 4) (.bool q4) h4 = some (h4.set b B4) := by
          rw [stf (P := Try.prog) (T := 4) (H := h4) (by rw [hb4, hB3]) u4 (by simp) rfl (by simp) rfl, hB4]; rfl
        have w1 := wrap_i64 (n := K + 1) (by omega) (by omega)
        have w2 := wrap_i64 (n := K + 2) (by omega) (by omega)
        have w3 := wrap_i64 (n := K + 3) (by omega) (by omega)
        have w4 := wrap_i64 (n := K + 4 + (dx.length : Int)) (by omega) (by omega)
        have a1 : K + 1 + 1 = K + 2 := by omega
        have a2 : K + 2 + 1 = K + 3 := by omega
        have a3 : K + 3 + (dx.length : Int) + 1 = K + 4 + (dx.length : Int) := by omega
        have m1 : ((K + 3 + (dx.length : Int)).tmod 3 == 0) = q4 := by rw [hq4, Int.tmod_eq_emod_of_nonneg (by omega)]; rfl
        rewrite [lp12_26]
        simp [Try.f12, t0, t1, t5, hL, hlt, u1, s1, s2, s3, s4, v1, s5, w1, w2, w3, w4, a1, a2, a3, m1, wrap_i64 (n := (k : Int) + 1) (by omega) (by omega)]
        have K3 : KoL bs h (h.set b B3) := (KoL.refl bs h).set u7 _
        have K4 : KoL bs h h4 := K3.trans (v2.mono u6)
        have K6 : KoL bs h (h4.set b B4) := K4.set u7 _
        have hv6 : tB.R true (h4.set b B4) [v] (tB.mk false (K + 3) dx) bk := v3.stay (by simp) fun y hy => by rw [AH.set_get, if_neg (fun e => u8 (by rw [← e]; exact hy))]
        have hR6 := u10 (h4.set b B4) _ (K, K + 1, K + 2, tB.mk false (K + 3) dx, q4) (by rw [K6.next]; exact Nat.le_refl _)
          (fun y hy hyb hyk => by
            rw [AH.set_get, if_neg hyb, v2.get y (by have := hR.mem y hy; simpa using this) hyk, AH.set_get, if_neg hyb])
          (by rw [AH.set_get, if_pos rfl, hB4]) (SendOp_in hv6 ((InI.iff _).2 (by omega)) ((InI.iff _).2 (by omega)) ((InI.iff _).2 (by omega)))
        rw [hms] at hR6
        exact ⟨d - 1, by omega, k + 1, by omega, by simp [t0], by simp; omega, by simp, hK.trans K6, hR6⟩)
    ⟨0, by simp, by simp, by simp [cntL], by simp, KoL.refl _ _, by simpa [mkRow] using hd⟩ (by omega))
  simp [g1]
  exact ⟨g2, g3⟩
end Go.Ev

/- Rows of records: marks that are held. -/
namespace Go.Ev
open Go Go.Proofs
set_option linter.unusedSimpArgs false
set_option linter.unusedVariables false

def HeldInv (ds : List tSendObs.D) (s : AV) (k0 : Int) (H : AH) (d : Nat) (τ : Tm) (h : AH) : Prop :=
  ∃ k : Nat, k + d = ds.length ∧ τ 0 = s ∧ τ 1 = .int .i64 (k0 + (cntL (tSendObs.cnt true) (ds.take k) : Nat)) ∧ τ 5 = .int .i64 k ∧ h = H
theorem heldObsS_ev {H : AH} {s : AV} {ds : List tSendObs.D} {bs : List Nat} {rw : Bool} {k0 : Int} (hd : (Ty.sl 75 tSendObs).R rw H [s] (mkRow (tSendObs.mk true) (tSendObs.cnt true) k0 ds) bs) {N : Nat} (hN : N ≤ 1073741824) (hlen : ds.length ≤ 1048576) (hcnt : cntL (tSendObs.cnt true) ds ≤ N) (hl2 : ∀ d ∈ ds, d.2.2.2.1.length ≤ 1048576) (hk0 : 0 ≤ k0) (hk1 : k0 ≤ 1048576) (m : Nat) (hm : 2097160 ≤ m) :
    ev Try.prog m 14 [s, .int .i64 k0] H = some (.int .i64 (k0 + (cntL (tSendObs.cnt true) ds : Nat)), H) := by
  obtain ⟨m, rfl⟩ : ∃ k, m = k + 1 := ⟨m - 1, by omega⟩
  have hL := Ty.R.lenA hd (P := Try.prog) (T := 24) (by simp)
  rw [mkRow_len] at hL
  rw [ev_eq Try.func14 ok14 m _ H (by simp [Try.f14])]
  simp [Try.f14]
  generalize hLo : evLoop _ _ _ _ _ _ = R
  obtain ⟨e, τ', H', rfl, rfl, g1, rfl⟩ := loop_at hLo (loop_rule (d := ds.length) (HeldInv ds s k0 H)
    (fun e τ h => e = .exit 0 ∧ τ 1 = .int .i64 (k0 + (cntL (tSendObs.cnt true) ds : Nat)) ∧ h = H)
    (by
      rintro d τ h ⟨k, hk, t0, t1, t5, rfl⟩
      by_cases hd0 : d = 0
      · subst hd0
        have : k = ds.length := by omega
        subst this
        rw [List.take_length] at t1
        rewrite [lp14_26]
        simp [Try.f14, t0, t1, t5, hL]
      · have hlt : k < ds.length := by omega
        obtain ⟨b, o, ro, x1, c, x2, bk, u1, u2, u3, u4, u5, u6, u7, u8⟩ := Ty.R.at_ hd (P := Try.prog) (T := 24) (by simp) (by simp [Ty.n]) (k := k) (by rw [mkRow_len]; exact hlt)
        rw [mkRow_get _ _ _ _ _ hlt] at u5
        have hob := hl2 _ (List.getElem_mem hlt)
        have hct := cntL_take_succ (tSendObs.cnt true) ds k hlt
        have hcl := cntL_take_le (tSendObs.cnt true) ds (k + 1)
        generalize hK0 : k0 + (cntL (tSendObs.cnt true) (ds.take k) : Nat) = K at *
        have hKb : 0 ≤ K ∧ K ≤ 2147483648 := by omega
        generalize hdk : ds[k] = dk at *
        obtain ⟨da, db, dn, dx, dp, dq, dr⟩ := dk
        rw [cnt_Obs] at hct
        rw [mk_Obs _ _ _ _ _ _ _ _ hKb.1 (by omega)] at u5
        obtain ⟨v, rfl, hx, i1, i2, i3⟩ := SendObs_out u5
        have hob' : dx.length ≤ 1048576 := hob
        obtain ⟨q4, hq4⟩ : ∃ q, decide ((K + 3 + (dx.length : Int)) % 3 = 0) = q := ⟨_, rfl⟩
        obtain ⟨q5, hq5⟩ : ∃ q, decide ((K + 4 + (dx.length : Int)) % 3 = 0) = q := ⟨_, rfl⟩
        obtain ⟨q6, hq6⟩ : ∃ q, decide ((K + 5 + (dx.length : Int)) % 3 = 0) = q := ⟨_, rfl⟩
        rw [hq4, hq5, hq6] at u3
        have s1 : ldVar Try.prog 3 b o h = some (.int .i64 K) := ldf0 u3 u4 (by simp) rfl
        have s2 : ldVar Try.prog 3 b (o + 1) h = some (.int .i64 (K + 1)) := ldf u3 u4 (by simp) rfl
        have s3 : ldVar Try.prog 3 b (o + 2) h = some (.int .i64 (K + 2)) := ldf u3 u4 (by simp) rfl
        have s4 : ldVar Try.prog 34 b (o + 3) h = some v := ldf u3 u4 (by simp) rfl
        have v1 := heldB hx (by omega) (by omega) (by omega) m (by omega)
        rw [cnt_tB] at v1
        have s5 : ldVar Try.prog 4 b (o + 4) h = some (.bool q4) := ldf u3 u4 (by simp) rfl
        have s6 : ldVar Try.prog 4 b (o + 5) h = some (.bool q5) := ldf u3 u4 (by simp) rfl
        have s7 : ldVar Try.prog 4 b (o + 6) h = some (.bool q6) := ldf u3 u4 (by simp) rfl
        have w1 := wrap_i64 (n := K + 1) (by omega) (by omega)
        have w2 := wrap_i64 (n := K + 2) (by omega) (by omega)
        have w3 := wrap_i64 (n := K + 3) (by omega) (by omega)
        have w4 := wrap_i64 (n := K + 4 + (dx.length : Int)) (by omega) (by omega)
        have w5 := wrap_i64 (n := K + 5 + (dx.length : Int)) (by omega) (by omega)
        have w6 := wrap_i64 (n := K + 6 + (dx.length : Int)) (by omega) (by omega)
        have a1 : K + 1 + 1 = K + 2 := by omega
        have a2 : K + 2 + 1 = K + 3 := by omega
        have a3 : K + 3 + (dx.length : Int) + 1 = K + 4 + (dx.length : Int) := by omega
        have a4 : K + 4 + (dx.length : Int) + 1 = K + 5 + (dx.length : Int) := by omega
        have a5 : K + 5 + (dx.length : Int) + 1 = K + 6 + (dx.length : Int) := by omega
        have m1 : ((K + 3 + (dx.length : Int)).tmod 3 == 0) = q4 := by rw [← hq4, Int.tmod_eq_emod_of_nonneg (by omega)]; rfl
        have m2 : ((K + 4 + (dx.length : Int)).tmod 3 == 0) = q5 := by rw [← hq5, Int.tmod_eq_emod_of_nonneg (by omega)]; rfl
        have m3 : ((K + 5 + (dx.length : Int)).tmod 3 == 0) = q6 := by rw [← hq6, Int.tmod_eq_emod_of_nonneg (by omega)]; rfl
        have nn : ¬ (K + 3 + (dx.length : Int) < 0) := by omega
        rewrite [lp14_26]
        simp [Try.f14, t0, t1, t5, hL, hlt, u1, s1, s2, s3, s4, v1, s5, s6, s7, w1, w2, w3, w4, w5, w6, a1, a2, a3, a4, a5, m1, m2, m3, nn, wrap_i64 (n := (k : Int) + 1) (by omega) (by omega)]
        exact ⟨d - 1, by omega, k + 1, by omega, by simp [t0], by simp; omega, by simp, rfl⟩)
    ⟨0, by simp, by simp, by simp [cntL], by simp, rfl⟩ (by omega))
  simp [g1]
end Go.Ev

/- The sending part: its state, and how it lies in the memory. -/
namespace Go.Ev
open Go Go.Proofs
set_option linter.unusedSimpArgs false
set_option linter.unusedVariables false

/-- state, credit, how much was sent, how Fin stands, whether Fin was written, the bytes, how each stands -/
structure Snd where
  st : Int
  cr : Int
  nx : Nat
  fn : Int
  fi : Bool
  data : List Int
  how : List Int
structure Snd.ok (S : Snd) : Prop where
  st : 0 ≤ S.st ∧ S.st ≤ 5
  cr : 0 ≤ S.cr ∧ S.cr ≤ 9223372036854775807
  nx : S.nx ≤ S.data.length
  len : S.data.length ≤ 65536
  how : S.how.length = S.data.length
  fn : 0 ≤ S.fn ∧ S.fn ≤ 3
  hw : ∀ x ∈ S.how, 0 ≤ x ∧ x ≤ 3
  fi : S.fn ≠ 0 → S.fi = true
def sndC (S : Snd) (vd vi : AV) : List AV := [.int .i64 S.st, .int .i64 S.cr, vd, vi, .int .i64 S.nx, .bool S.fi, .int .u8 S.fn]
/-- the program's sender -/
structure SndI (H : AH) (q : Nat) (S : Snd) (bs : List Nat) : Prop where
  ex : ∃ vd vi bd bi, H.get q = some (.cells 81 false (sndC S vd vi)) ∧ tB.R true H [vd] S.data bd ∧ tB.R true H [vi] S.how bi ∧ bs = q :: (bd ++ bi)
  nd : bs.Nodup
  lt : q < H.next
theorem SndI.kp {H H' : AH} {q : Nat} {S : Snd} {bs : List Nat} (h : SndI H q S bs) (hK : Kp H H') : SndI H' q S bs := by
  obtain ⟨⟨vd, vi, bd, bi, h1, h2, h3, h4⟩, h5, h6⟩ := h
  exact ⟨⟨vd, vi, bd, bi, by rw [hK.get q h6]; exact h1, h2.kp hK, h3.kp hK, h4⟩, h5, Nat.lt_of_lt_of_le h6 hK.next⟩
theorem SndI.mem {H : AH} {q : Nat} {S : Snd} {bs : List Nat} (h : SndI H q S bs) : ∀ b ∈ bs, b < H.next := by
  obtain ⟨⟨vd, vi, bd, bi, h1, h2, h3, rfl⟩, h5, h6⟩ := h
  intro b hb
  rcases List.mem_cons.1 hb with rfl | hb
  · exact h6
  · rcases List.mem_append.1 hb with hb | hb
    · exact h2.mem b hb
    · exact h3.mem b hb
/-- a field that is no slice is written -/
theorem SndI.put {H : AH} {q : Nat} {S S' : Snd} {bs : List Nat} (h : SndI H q S bs) (hd : S'.data = S.data) (hh : S'.how = S.how) :
    ∃ vd vi, H.get q = some (.cells 81 false (sndC S vd vi)) ∧ vd.one = true ∧ vi.one = true ∧ SndI (H.set q (.cells 81 false (sndC S' vd vi))) q S' bs ∧ KoS bs H (H.set q (.cells 81 false (sndC S' vd vi))) := by
  obtain ⟨⟨vd, vi, bd, bi, h1, h2, h3, rfl⟩, h5, h6⟩ := h
  have h5' := h5
  rw [List.nodup_cons, List.mem_append] at h5'
  have hst : ∀ b, b ≠ q → (H.set q (.cells 81 false (sndC S' vd vi))).get b = H.get b := fun b hb => by rw [AH.set_get, if_neg hb]
  refine ⟨vd, vi, h1, (tB_bs h2).1.one, (tB_bs h3).1.one, ⟨⟨vd, vi, bd, bi, by simp, ?_, ?_, rfl⟩, h5, by simpa using h6⟩, ⟨by simp, fun b hb hn => hst b fun e => hn (by simp [e])⟩⟩
  · rw [hd]; exact h2.stay (by simp) fun b hb => hst b fun e => h5'.1 (.inl (by rw [← e]; exact hb))
  · rw [hh]; exact h3.stay (by simp) fun b hb => hst b fun e => h5'.1 (.inr (by rw [← e]; exact hb))
theorem openI_ev {H : AH} {q : Nat} {S : Snd} {bs : List Nat} (h : SndI H q S bs) (m : Nat) (hm : 1 ≤ m) : ev Try.prog m 68 [.ptr q 0] H = some (.bool (decide (S.st = 0 ∨ S.st = 1)), H) := by
  obtain ⟨m, rfl⟩ : ∃ k, m = k + 1 := ⟨m - 1, by omega⟩
  obtain ⟨⟨vd, vi, bd, bi, h1, h2, h3, h4⟩, h5, h6⟩ := h
  rw [ev_eq Try.func68 ok68 m _ H (by simp [Try.f68])]
  simp only [sndC] at h1
  by_cases c0 : S.st = 0
  · rw [c0] at h1
    simp [Try.f68, ldVar, h1, c0]
  · by_cases c1 : S.st = 1
    · rw [c1] at h1
      simp [Try.f68, ldVar, h1, c1]
    · simp [Try.f68, ldVar, h1, c0, c1]
/-- the bytes that were written are ended -/
def finP (S : Snd) : Snd × Int := if (S.st = 0 ∨ S.st = 1) ∧ S.fi = false then ({ S with fi := true }, 0) else (S, 7)
theorem finI_ev {H : AH} {q : Nat} {S : Snd} {bs : List Nat} (h : SndI H q S bs) (m : Nat) (hm : 2 ≤ m) :
    ∃ H', ev Try.prog m 34 [.ptr q 0] H = some (.int .i64 (finP S).2, H') ∧ SndI H' q (finP S).1 bs ∧ KoS bs H H' := by
  obtain ⟨m, rfl⟩ : ∃ k, m = k + 1 := ⟨m - 1, by omega⟩
  have q1 := openI_ev h m (by omega)
  obtain ⟨vd, vi, h1, o1, o2, h2, h3⟩ := h.put (S' := { S with fi := true }) rfl rfl
  rw [ev_eq Try.func34 ok34 m _ H (by simp [Try.f34])]
  unfold finP
  by_cases c : S.st = 0 ∨ S.st = 1
  · simp only [c, decide_true] at q1
    by_cases cf : S.fi = false
    · rw [if_pos ⟨c, cf⟩]
      refine ⟨_, ?_, h2, h3⟩
      simp only [sndC, cf] at h1 ⊢
      simp [Try.f34, ldVar, stVar, q1, h1]
    · have cf' : S.fi = true := by simpa using cf
      rw [if_neg (by simp [cf'])]
      refine ⟨H, ?_, h, KoS.refl _ _⟩
      simp only [sndC, cf'] at h1 ⊢
      simp [Try.f34, ldVar, stVar, q1, h1]
  · rw [if_neg (fun e => c e.1)]
    simp only [c, decide_false] at q1
    refine ⟨H, ?_, h, KoS.refl _ _⟩
    simp [Try.f34, q1]
end Go.Ev

/- So many zeros behind a slice of its own. -/
namespace Go.Ev
open Go Go.RowKit
set_option linter.unusedSimpArgs false
set_option linter.unusedVariables false
variable {P : Program}
theorem zerosA_map (k : IntKind) : ∀ n, zerosA [.int k 0] n = (List.replicate n (0 : Int)).map (.int k)
  | 0 => rfl
  | n + 1 => by simp [zerosA, zerosA_map k n, List.replicate_succ]
theorem Ty.R.appZ {H : AH} {e T : TypeId} {k kd : IntKind} {s : AV} {ds : List Int} {bs : List Nat} {n : Nat} (h : (Ty.sl e (.int k)).R true H [s] ds bs)
    (hT' : sliceT P T = some e) (hs : sizeT P e = some 1) {by_ : Nat} (hb : bytesT P e = some by_) (hz : zeroT P e = some [.int k 0]) (hk : k.min ≤ 0 ∧ 0 ≤ k.max)
    (h1 : (ds.length + n) * by_ ≤ 70368744177664) (h2 : ds.length + n ≤ 70368744177664) :
    ∃ s' H' bs', appZ P T s (.int kd n) H = some (s', H') ∧ (Ty.sl e (.int k)).R true H' [s'] (ds ++ List.replicate n 0) bs' ∧ bs'.Nodup ∧ (∀ b ∈ bs', b ∈ bs ∨ H.next ≤ b) ∧ KoS bs H H' := by
  have hin : ∀ d ∈ ds ++ List.replicate n 0, k.min ≤ d ∧ d ≤ k.max := by
    intro d hd
    rcases List.mem_append.1 hd with hd | hd
    · exact ints_in h d hd
    · rw [(List.mem_replicate.1 hd).2]; exact hk
  have hz1 : ([.int k 0] : List AV).length = 1 := rfl
  have hc : ([AV.int k 0] : List AV).length = 1 ∧ (0 : Int) ≤ (n : Int) ∧ (n : Int) ≤ 70368744177664 := ⟨rfl, by omega, by omega⟩
  unfold Go.Ev.appZ
  simp only [hT', hs, hb, hz, if_pos hc, Int.toNat_natCast]
  rcases ints_own h with ⟨rfl, rfl, rfl⟩ | ⟨b, rfl, rfl, hlt, hg⟩
  · by_cases h0 : n = 0
    · subst h0
      exact ⟨.nilSlice, H, [], by simp, .inl ⟨rfl, rfl, rfl⟩, by simp, by simp, KoS.refl _ _⟩
    · simp only [List.length_nil, Nat.zero_add] at h1 h2
      refine ⟨.slice H.next 0 n, H.push (.cells e false ((List.replicate n (0 : Int)).map (.int k))), [H.next], by simp [h0, h1, zerosA_map], ?_, by simp, by simp, ((Kp.refl H).push _).koS _⟩
      have := ints_one (e := e) (k := k) (H := H.push (.cells e false ((List.replicate n (0 : Int)).map (.int k)))) (l := List.replicate n 0) (b := H.next) (by simp) (by simp) (by simpa using hin)
      simpa using this
  · by_cases h0 : n = 0
    · subst h0
      exact ⟨.slice b 0 ds.length, H, [b], by simp, by simpa using h, by simp, by simp, KoS.refl _ _⟩
    · refine ⟨.slice H.next 0 (ds.length + n), (H.kill b).push (.cells e false ((ds ++ List.replicate n 0).map (.int k))), [H.next], ?_, ?_, by simp, by simp, ⟨by simp, ?_⟩⟩
      · have ht : ((ds.map (AV.int k)).drop 0).take (ds.length * 1) = ds.map (.int k) := by rw [Nat.mul_one, List.drop_zero, List.take_of_length_le (by simp)]
        simp only [if_neg h0, hg, ht]
        rw [if_pos ⟨trivial, by simp, h1, h2⟩, zerosA_map, ← List.map_append]
      · have := ints_one (e := e) (k := k) (H := (H.kill b).push (.cells e false ((ds ++ List.replicate n 0).map (.int k)))) (b := H.next) (l := ds ++ List.replicate n 0) (by simp) (by simp) hin
        simpa using this
      · intro c hc hcb
        simp only [List.mem_singleton] at hcb
        rw [AH.push_get, if_neg (by simp; omega), AH.kill_get, if_neg hcb]
end Go.Ev

/- The sending part: bytes are written. -/
namespace Go.Ev
open Go Go.Proofs
set_option linter.unusedSimpArgs false
set_option linter.unusedVariables false

def writeP (S : Snd) (x : List Int) : Snd × Int :=
  if ¬ ((S.st = 0 ∨ S.st = 1) ∧ S.fi = false) then (S, 7)
  else if 65536 < S.data.length + x.length then (S, 4)
  else ({ S with data := S.data ++ x, how := S.how ++ List.replicate x.length 0 }, 0)
theorem writeP_ok {S : Snd} (h : S.ok) (x : List Int) : (writeP S x).1.ok := by
  unfold writeP
  split
  · exact h
  · split
    · exact h
    · rename_i h1 h2
      exact ⟨h.st, h.cr, by have := h.nx; simp; omega, by simp; omega, by have := h.how; simp; omega, h.fn, by
        intro y hy
        rcases List.mem_append.1 hy with hy | hy
        · exact h.hw y hy
        · rw [(List.mem_replicate.1 hy).2]; omega, h.fi⟩
theorem writeI_ev {H : AH} {q : Nat} {S : Snd} {bs : List Nat} (h : SndI H q S bs) (hok : S.ok) {sx : AV} {x : List Int} {bx : List Nat} {rx : Bool} (hx : tB.R rx H [sx] x bx) (hxl : x.length ≤ 1048576) (m : Nat) (hm : 2 ≤ m) :
    ∃ H' bs', ev Try.prog m 33 [.ptr q 0, sx] H = some (.int .i64 (writeP S x).2, H') ∧ SndI H' q (writeP S x).1 bs' ∧ KoS bs H H' ∧ ∀ b ∈ bs', b ∈ bs ∨ H.next ≤ b := by
  obtain ⟨m, rfl⟩ : ∃ k, m = k + 1 := ⟨m - 1, by omega⟩
  have q1 := openI_ev h m (by omega)
  have hmem := h.mem
  have h0 := h
  obtain ⟨⟨vd, vi, bd, bi, h1, h2, h3, rfl⟩, h5, h6⟩ := h
  have hL1 := Ty.R.lenA h2 (P := Try.prog) (T := 34) (by simp)
  have hL2 := Ty.R.lenA hx (P := Try.prog) (T := 34) (by simp)
  have hdl := hok.len
  have hhl := hok.how
  rw [ev_eq Try.func33 ok33 m _ H (by simp [Try.f33])]
  unfold writeP
  simp only [sndC] at h1
  by_cases c : S.st = 0 ∨ S.st = 1
  · simp only [c, decide_true] at q1
    by_cases cf : S.fi = false
    · rw [if_neg (by simp [c, cf])]
      rw [cf] at h1
      have w1 := wrap_i64 (n := (List.length S.data : Int) + x.length) (by omega) (by omega)
      by_cases cl : 65536 < S.data.length + x.length
      · rw [if_pos cl]
        have cl' : (65536 : Int) < (List.length S.data : Int) + x.length := by omega
        refine ⟨H, _, ?_, h0, KoS.refl _ _, fun b hb => .inl hb⟩
        simp [Try.f33, ldVar, stVar, q1, h1, hL1, hL2, w1, cl']
      · rw [if_neg cl]
        have cl' : ¬ ((65536 : Int) < (List.length S.data : Int) + x.length) := by omega
        have hnd := h5
        rw [List.nodup_cons, List.mem_append, List.nodup_append] at hnd
        obtain ⟨nq, nd1, nd2, nd3⟩ := hnd
        obtain ⟨vd', H1, bd', a1, a2, a3, a4, a5⟩ := Ty.R.appI (P := Try.prog) (T := 34) h2 hx (by simp) (by simp) (by simp) (by_ := 1) (by simp) (z := [.int .u8 0]) (by simp) (by simp) (by omega) (by omega)
        have g1 : H1.get q = H.get q := a5.get q h6 fun e => nq (.inl e)
        have hn1 := a5.next
        let B2 : Blk := .cells 81 false [.int .i64 S.st, .int .i64 S.cr, vd', vi, .int .i64 S.nx, .bool false, .int .u8 S.fn]
        have hst2 : ∀ b, b ≠ q → (H1.set q B2).get b = H1.get b := fun b hb => by rw [AH.set_get, if_neg hb]
        have e2 : tB.R true (H1.set q B2) [vi] S.how bi := (h3.koS a5 fun b hb hbd => nd3 b hbd b hb rfl).stay (by simp) fun b hb => hst2 b fun e => nq (.inr (by rw [← e]; exact hb))
        obtain ⟨vi', H3, bi', c1, c2, c3, c4, c5⟩ := Ty.R.appZ (P := Try.prog) (T := 34) (kd := .i64) (n := x.length) e2 (by simp) (by simp) (by_ := 1) (by simp) (by simp) (by decide) (by simp only [Nat.mul_one]; have : List.length S.how = S.data.length := hhl; omega) (by have : List.length S.how = S.data.length := hhl; omega)
        have hq' : ∀ b ∈ bd', b ≠ q := fun b hb e => by rcases a4 b hb with h | h; exact nq (.inl (by rw [← e]; exact h)); omega
        have d2 : tB.R true (H1.set q B2) [vd'] (S.data ++ x) bd' := a2.stay (by simp) fun b hb => hst2 b (hq' b hb)
        have d3 : tB.R true H3 [vd'] (S.data ++ x) bd' := d2.koS c5 fun b hb hbi => by
          rcases a4 b hb with h | h
          · exact nd3 b h b hbi rfl
          · have := h3.mem b hbi; omega
        have g3 : H3.get q = some B2 := by rw [c5.get q (by simp; omega) fun e => nq (.inr e), AH.set_get, if_pos rfl]
        have hn3 := c5.next
        simp only [AH.set_next] at hn3 c4
        let B4 : Blk := .cells 81 false (sndC { S with data := S.data ++ x, how := S.how ++ List.replicate x.length 0 } vd' vi')
        have hst4 : ∀ b, b ≠ q → (H3.set q B4).get b = H3.get b := fun b hb => by rw [AH.set_get, if_neg hb]
        have hqi : ∀ b ∈ bi', b ≠ q := fun b hb e => by rcases c4 b hb with h | h; exact nq (.inr (by rw [← e]; exact h)); omega
        refine ⟨H3.set q B4, q :: (bd' ++ bi'), ?_, ⟨⟨vd', vi', bd', bi', by simp [B4], d3.stay (by simp) fun b hb => hst4 b (hq' b hb), c2.stay (by simp) fun b hb => hst4 b (hqi b hb), rfl⟩, ?_, by simp; omega⟩, ⟨by simp; omega, fun b hb hn => ?_⟩, fun b hb => ?_⟩
        · have ov' := (tB_bs a2).1.one
          have oi' := (tB_bs c2).1.one
          rw [h1] at g1
          simp only [B2, B4, sndC, cf] at g3 c1 ⊢
          simp [Try.f33, ldVar, stVar, q1, h1, hL1, hL2, w1, cl', a1, g1, c1, g3, ov', oi', cells_one ov', cells_one oi', spl]
        · rw [List.nodup_cons, List.mem_append, List.nodup_append]
          refine ⟨fun e => by rcases e with e | e; exact hq' q e rfl; exact hqi q e rfl, a3, c3, fun y hy z hz e => ?_⟩
          subst e
          rcases c4 y hz with hz | hz
          · rcases a4 y hy with hy' | hy'
            · exact nd3 y hy' y hz rfl
            · have := h3.mem y hz; omega
          · have := a2.mem y hy; omega
        · simp only [List.mem_cons, List.mem_append, not_or] at hn
          rw [hst4 b hn.1, c5.get b (by simp; omega) hn.2.2, hst2 b hn.1, a5.get b hb hn.2.1]
        · rcases List.mem_cons.1 hb with rfl | hb
          · exact .inl (by simp)
          · rcases List.mem_append.1 hb with hb | hb
            · rcases a4 b hb with h | h
              · exact .inl (by simp [h])
              · exact .inr h
            · rcases c4 b hb with h | h
              · exact .inl (by simp [h])
              · exact .inr (by omega)
    · have cf' : S.fi = true := by simpa using cf
      rw [if_pos (by simp [cf'])]
      refine ⟨H, _, ?_, h0, KoS.refl _ _, fun b hb => .inl hb⟩
      rw [cf'] at h1
      simp [Try.f33, ldVar, stVar, q1, h1]
  · rw [if_pos (fun e => c e.1)]
    simp only [c, decide_false] at q1
    refine ⟨H, _, ?_, h0, KoS.refl _ _, fun b hb => .inl hb⟩
    simp [Try.f33, q1]
end Go.Ev

/- The sending part: the next piece, the program's. -/
namespace Go.Ev
open Go Go.Proofs
set_option linter.unusedSimpArgs false
set_option linter.unusedVariables false

theorem Bs.at2 {H : AH} {s : AV} {l : List Int} (h : Bs H s l) {k : Nat} (hk : k < l.length) : ∃ b o ro xs, (b < H.next ∧ H.get b = some (.cells 5 ro xs)) ∧ idxA Try.prog 34 s (.int .i64 k) = some (.ptr b (o + k)) ∧ xs[o + k]? = some (.int .u8 l[k]) ∧ ∃ n, s = .slice b o n := by
  rcases h.lie with ⟨rfl, h0⟩ | ⟨b, o, ro, xs, rfl, hn, hb, hl, hx⟩
  · have : l = [] := by simpa [u8L] using h0
    subst this; simp at hk
  · rw [u8L_len] at hl hx
    refine ⟨b, o, ro, xs, ⟨hn, hb⟩, ?_, ?_, _, rfl⟩
    · simp [idxA, u8L_len, hk]
    · have : (u8L l)[k]? = some (.int .u8 l[k]) := by simp [u8L, hk]
      rw [← this, ← hx, List.getElem?_take, if_pos hk, List.getElem?_drop]
/-- the first lost byte from i on, of d -/
def lostFrom (l : List Int) : Nat → Nat → Option Nat
  | 0, _ => none
  | d + 1, i => if l.getD i 0 = 3 then some i else lostFrom l d (i + 1)
/-- where the lost bytes from k on end, of d, at most r -/
def runTo (l : List Int) : Nat → Nat → Nat → Nat
  | 0, k, _ => k
  | _ + 1, k, 0 => k
  | d + 1, k, r + 1 => if l.getD k 0 = 3 then runTo l d (k + 1) r else k
theorem runTo_le (l : List Int) : ∀ (d k r : Nat), k ≤ runTo l d k r ∧ runTo l d k r ≤ k + d
  | 0, k, r => by simp [runTo]
  | d + 1, k, 0 => by simp [runTo]
  | d + 1, k, r + 1 => by
    unfold runTo
    split
    · have := runTo_le l d (k + 1) r; omega
    · omega
theorem lostFrom_lt (l : List Int) : ∀ (d i k : Nat), lostFrom l d i = some k → i ≤ k ∧ k < i + d
  | 0, i, k, h => by simp [lostFrom] at h
  | d + 1, i, k, h => by
    unfold lostFrom at h
    split at h
    · simp at h; omega
    · have := lostFrom_lt l d (i + 1) k h; omega
def mnI (a b : Int) : Int := if b < a then b else a
/-- the next piece: from where to where, and whether there is one -/
def pieceP (S : Snd) (n : Nat) : Nat × Nat × Bool :=
  if 2 < S.st then (0, 0, false)
  else match lostFrom S.how S.nx 0 with
  | some i => (i, runTo S.how (S.nx - i) i n, true)
  | none =>
    if (S.nx : Int) < mnI S.data.length S.cr then (S.nx, (mnI (mnI S.data.length S.cr) (S.nx + n)).toNat, true)
    else if S.fi = true ∧ S.nx = S.data.length ∧ (S.fn = 0 ∨ S.fn = 3) then (S.nx, S.nx, true)
    else (0, 0, false)
def NxInv (S : Snd) (q n : Nat) (H : AH) (d : Nat) (τ : Tm) (h : AH) : Prop :=
  ∃ i : Nat, i + d = S.nx ∧ τ 0 = .ptr q 0 ∧ τ 1 = .int .i64 n ∧ τ 7 = .int .i64 i ∧ lostFrom S.how d i = lostFrom S.how S.nx 0 ∧ h = H
def RunInv (S : Snd) (q n i : Nat) (H : AH) (d : Nat) (τ : Tm) (h : AH) : Prop :=
  ∃ k r : Nat, k + d = S.nx ∧ i ≤ k ∧ k - i + r = n ∧ τ 0 = .ptr q 0 ∧ τ 1 = .int .i64 n ∧ τ 7 = .int .i64 i ∧ τ 8 = .int .i64 k ∧ runTo S.how d k r = runTo S.how (S.nx - i) i n ∧ h = H
theorem nextI_ev {H : AH} {q : Nat} {S : Snd} {bs : List Nat} (h : SndI H q S bs) (hok : S.ok) {n : Nat} (hn1 : 1 ≤ n) (hn2 : n ≤ 1500) (m : Nat) (hm : 65540 ≤ m) :
    ev Try.prog m 69 [.ptr q 0, .int .i64 n] H = some (.tuple [.int .i64 (pieceP S n).1, .int .i64 (((pieceP S n).2.1 : Int) - (pieceP S n).1), .bool (pieceP S n).2.2], H) := by
  obtain ⟨m, rfl⟩ : ∃ k, m = k + 1 := ⟨m - 1, by omega⟩
  obtain ⟨⟨vd, vi, bd, bi, h1, h2, h3, h4⟩, h5, h6⟩ := h
  have hL1 := Ty.R.lenA h2 (P := Try.prog) (T := 34) (by simp)
  have hs := (tB_bs h3).1
  have hdl := hok.len
  have hhl := hok.how
  have hnx := hok.nx
  have hcr := hok.cr
  simp only [sndC] at h1
  rw [ev_eq Try.func69 ok69 m _ H (by simp [Try.f69])]
  unfold pieceP
  by_cases c : 2 < S.st
  · rw [if_pos c]
    simp [Try.f69, ldVar, h1, c]
  · rw [if_neg c]
    simp [Try.f69, ldVar, h1, c]
    generalize hLo : evLoop _ _ _ _ _ _ = R
    obtain ⟨e, τ', H', rfl, rfl, g⟩ := loop_at hLo (loop_rule (d := S.nx) (NxInv S q n H)
      (fun e τ h => h = H ∧ ((e = .exit 0 ∧ lostFrom S.how S.nx 0 = none ∧ τ 0 = .ptr q 0 ∧ τ 1 = .int .i64 n) ∨ (e = .ret ∧ ∃ i, lostFrom S.how S.nx 0 = some i ∧ τ 4 = .int .i64 i ∧ τ 5 = .int .i64 ((runTo S.how (S.nx - i) i n : Nat) - (i : Int)) ∧ τ 6 = .bool true)))
      (by
        rintro d τ h ⟨i, hi, t0, t1, t7, hF, rfl⟩
        by_cases hd0 : d = 0
        · subst hd0
          have hin : (i : Int) = S.nx := by omega
          rewrite [lp69_58]
          simp [Try.f69, t0, t1, t7, ldVar, h1, hin]
          rw [← hF]; rfl
        · obtain ⟨d, rfl⟩ : ∃ e, d = e + 1 := ⟨d - 1, by omega⟩
          have hlt : i < S.nx := by omega
          have hlt' : i < S.how.length := by omega
          obtain ⟨b, o, ro, xs, a1, a2, a3, a4⟩ := hs.at2 hlt'
          have hgd : S.how.getD i 0 = S.how[i] := by simp [List.getD_eq_getElem?_getD, List.getElem?_eq_getElem hlt']
          by_cases hx : S.how[i] = 3
          · rw [hx] at a3
            rewrite [lp69_58]
            simp [Try.f69, t0, t1, t7, ldVar, h1, hlt, a2, a1.2, a3]
            generalize hLo2 : evLoop _ _ _ _ _ _ = R2
            obtain ⟨e2, τ2, H2, rfl, rfl, rfl, y8, y7⟩ := loop_at hLo2 (loop_rule (d := d + 1) (RunInv S q n i h)
              (fun e τ h' => h' = h ∧ e = .exit 2 ∧ τ 8 = .int .i64 (runTo S.how (S.nx - i) i n : Nat) ∧ τ 7 = .int .i64 i)
              (by
                rintro d2 τ2 h' ⟨k, r, hk, hik, hr, t0, t1, t7, t8, hF2, rfl⟩
                by_cases hd2 : d2 = 0
                · subst hd2
                  have hkn : (k : Int) = S.nx := by omega
                  have hres : runTo S.how (S.nx - i) i n = k := by rw [← hF2]; rfl
                  rewrite [lp69_29844]
                  simp [Try.f69, t0, t1, t7, t8, ldVar, h1, hkn, U]
                  rw [hres, hkn]
                · obtain ⟨d2, rfl⟩ : ∃ e, d2 = e + 1 := ⟨d2 - 1, by omega⟩
                  have hltk : k < S.nx := by omega
                  have hltk' : k < S.how.length := by omega
                  obtain ⟨b', o', ro', xs', a1', a2', a3', a4'⟩ := hs.at2 hltk'
                  have hgk : S.how.getD k 0 = S.how[k] := by simp [List.getD_eq_getElem?_getD, List.getElem?_eq_getElem hltk']
                  have wk := wrap_i64 (n := (k : Int) - i) (by omega) (by omega)
                  by_cases hxk : S.how[k] = 3
                  · rw [hxk] at a3'
                    by_cases hr0 : r = 0
                    · subst hr0
                      have hni : ¬ ((k : Int) - i < n) := by omega
                      have hres : runTo S.how (S.nx - i) i n = k := by rw [← hF2]; rfl
                      rewrite [lp69_29844]
                      simp [Try.f69, t0, t1, t7, t8, ldVar, h1, hltk, a2', a1'.2, a3', wk, hni, U]
                      rw [hres]
                    · obtain ⟨r, rfl⟩ : ∃ e, r = e + 1 := ⟨r - 1, by omega⟩
                      have hni : ((k : Int) - i < n) := by omega
                      rw [runTo, if_pos (by rw [hgk]; exact hxk)] at hF2
                      rewrite [lp69_29844]
                      simp [Try.f69, t0, t1, t7, t8, ldVar, h1, hltk, a2', a1'.2, a3', wk, hni, U, wrap_i64 (n := (k : Int) + 1) (by omega) (by omega)]
                      exact ⟨d2, by omega, k + 1, r, by omega, by omega, by omega, by simp [t0], by simp [t1], by simp [t7], by simp, hF2, rfl⟩
                  · have hres : runTo S.how (S.nx - i) i n = k := by
                      rw [← hF2]
                      cases r with
                      | zero => rfl
                      | succ r => rw [runTo, if_neg (by rw [hgk]; exact hxk)]
                    rewrite [lp69_29844]
                    simp [Try.f69, t0, t1, t7, t8, ldVar, h1, hltk, a2', a1'.2, a3', hxk, wk, U]
                    rw [hres])
              ⟨i, n, hi, Nat.le_refl _, by omega, by simp [t0], by simp [t1], by simp [t7], by simp, by rw [show S.nx - i = d + 1 by omega], rfl⟩ (by omega))
            have hle := runTo_le S.how (S.nx - i) i n
            have wk := wrap_i64 (n := ((runTo S.how (S.nx - i) i n : Nat) : Int) - i) (by omega) (by omega)
            simp [y8, y7, wk]
            rw [← hF, lostFrom, if_pos (by rw [hgd]; exact hx)]
            exact ⟨i, rfl, rfl, rfl⟩
          · rw [lostFrom, if_neg (by rw [hgd]; exact hx)] at hF
            rewrite [lp69_58]
            simp [Try.f69, t0, t1, t7, ldVar, h1, hlt, a2, a1.2, a3, hx, wrap_i64 (n := (i : Int) + 1) (by omega) (by omega)]
            exact ⟨d, by omega, i + 1, by omega, by simp [t0], by simp [t1], by simp, hF, rfl⟩)
      ⟨0, by simp, by simp, by simp, by simp, rfl, rfl⟩ (by omega))
    rcases g with ⟨rfl, g1, t0, t1⟩ | ⟨rfl, i, g1, g2, g3, g4⟩
    · simp only [g1]
      simp [Try.f69, t0, t1, ldVar, h1, hL1, U]
      have hM : (if S.cr < (S.data.length : Int) then S.cr else (S.data.length : Int)) = mnI S.data.length S.cr := rfl
      have hMb : mnI S.data.length S.cr ≤ 65536 ∧ 0 ≤ mnI S.data.length S.cr := by unfold mnI; split <;> omega
      rw [hM]
      generalize mnI S.data.length S.cr = M at *
      by_cases cm : (S.nx : Int) < M
      · have w1 := wrap_i64 (n := M - (S.nx : Int)) (by omega) (by omega)
        have e1 : (if M - (S.nx : Int) < n then M - (S.nx : Int) else (n : Int)) = max (mnI M (S.nx + n)) 0 - S.nx := by
          unfold mnI; split <;> split <;> omega
        simp [cm, w1]
        exact e1
      · by_cases c3 : S.fi = true
        · by_cases c4 : S.nx = S.data.length
          · have c4' : (S.nx : Int) = S.data.length := by omega
            have cm2 : ¬ ((S.data.length : Int) < M) := by omega
            by_cases c5 : S.fn = 0
            · simp [t0, t1, ldVar, h1, hL1, U, cm, cm2, c3, c4, c4', c5]
            · by_cases c6 : S.fn = 3
              · simp [t0, t1, ldVar, h1, hL1, U, cm, cm2, c3, c4, c4', c5, c6]
              · simp [t0, t1, ldVar, h1, hL1, U, cm, cm2, c3, c4, c4', c5, c6]
          · have c4' : ¬ ((S.nx : Int) = S.data.length) := by omega
            simp [t0, t1, ldVar, h1, hL1, U, cm, c3, c4, c4']
        · have c3' : S.fi = false := by simpa using c3
          simp [t0, t1, ldVar, h1, hL1, U, cm, c3']
    · simp [g1, g2, g3, g4]
end Go.Ev

/- The sending part: what is heard, the program's. -/
namespace Go.Ev
open Go Go.Proofs
set_option linter.unusedSimpArgs false
set_option linter.unusedVariables false

def setOne (a : Bool) (x : Int) : Int := if a then 2 else if x = 2 then 2 else 3
theorem setI_ev {H : AH} {b o p : Nat} {e : TypeId} {xs : List AV} {x : Int} {a : Bool} (hb : H.get b = some (.cells e false xs)) (hx : xs[o]? = some (.int .u8 x)) (hp : H.get p = some (.cells 4 false [.bool a])) (m : Nat) (hm : 1 ≤ m) :
    ev Try.prog m 71 [.ptr b o, .ptr p 0] H = some (U, H.set b (.cells e false (xs.set o (.int .u8 (setOne a x))))) := by
  obtain ⟨m, rfl⟩ : ∃ k, m = k + 1 := ⟨m - 1, by omega⟩
  have hlt : o < xs.length := by
    rcases Nat.lt_or_ge o xs.length with h | h
    · exact h
    · rw [List.getElem?_eq_none h] at hx; simp at hx
  have hst : ∀ v, stVar Try.prog 5 b o (.int .u8 v) H = some (H.set b (.cells e false (xs.set o (.int .u8 v)))) := fun v => st_one hb (by simp) rfl hlt
  have hld : ldVar Try.prog 5 b o H = some (.int .u8 x) := by rw [ld_one hb (by simp)]; exact hx
  have hlp : ldVar Try.prog 4 p 0 H = some (.bool a) := by rw [ld_one hp (by simp)]; rfl
  rw [ev_eq Try.func71 ok71 m _ H (by simp [Try.f71])]
  unfold setOne
  cases a with
  | true => simp [Try.f71, hlp, hst, U]
  | false =>
    by_cases h2 : x = 2
    · subst h2
      have hs : xs.set o (.int .u8 2) = xs := by
        apply List.ext_getElem?
        intro i
        rw [List.getElem?_set]
        split
        · rename_i h; subst h; simp [hlt]; rw [List.getElem?_eq_getElem hlt] at hx; simpa using hx.symm
        · rfl
      simp [Try.f71, hlp, hld, U, hs, AH.set_same H b _ hb]
    · simp [Try.f71, hlp, hld, hst, h2, U]
def AaInv (S : Snd) (vi : AV) (H : AH) (d : Nat) (τ : Tm) (h : AH) : Prop :=
  ∃ i : Nat, i + d = S.how.length ∧ τ 8 = vi ∧ τ 9 = .int .i64 S.how.length ∧ τ 10 = .int .i64 i ∧ (∀ x ∈ S.how.take i, x = 2) ∧ h = H
theorem allI_ev {H : AH} {q : Nat} {S : Snd} {bs : List Nat} (h : SndI H q S bs) (hl : S.how.length ≤ 65536) (m : Nat) (hm : 65540 ≤ m) :
    ev Try.prog m 72 [.ptr q 0] H = some (.bool (decide (∀ x ∈ S.how, x = 2)), H) := by
  obtain ⟨m, rfl⟩ : ∃ k, m = k + 1 := ⟨m - 1, by omega⟩
  obtain ⟨⟨vd, vi, bd, bi, h1, h2, h3, h4⟩, h5, h6⟩ := h
  have hL := Ty.R.lenA h3 (P := Try.prog) (T := 34) (by simp)
  have hs := (tB_bs h3).1
  simp only [sndC] at h1
  rw [ev_eq Try.func72 ok72 m _ H (by simp [Try.f72])]
  simp [Try.f72, ldVar, h1, hL]
  generalize hLo : evLoop _ _ _ _ _ _ = R
  obtain ⟨e, τ', H', rfl, rfl, g⟩ := loop_at hLo (loop_rule (d := S.how.length) (AaInv S vi H)
    (fun e τ h => h = H ∧ ((e = .exit 0 ∧ (∀ x ∈ S.how, x = 2)) ∨ (e = .ret ∧ τ 2 = .bool false ∧ ¬ ∀ x ∈ S.how, x = 2)))
    (by
      rintro d τ h ⟨i, hi, t8, t9, t10, hF, rfl⟩
      by_cases hd0 : d = 0
      · subst hd0
        have hin : i = S.how.length := by omega
        subst hin
        rw [List.take_length] at hF
        rewrite [lp72_26]
        simp [Try.f72, t8, t9, t10]
        exact hF
      · have hlt : i < S.how.length := by omega
        obtain ⟨b, o, ro, xs, a1, a2, a3, a4⟩ := hs.at2 hlt
        by_cases hx : S.how[i] = 2
        · rewrite [lp72_26]
          simp [Try.f72, t8, t9, t10, hlt, ldVar, a2, a1.2, a3, hx, wrap_i64 (n := (i : Int) + 1) (by omega) (by omega)]
          refine ⟨d - 1, by omega, i + 1, by omega, by simp [t8], by simp [t9], by simp, ?_, rfl⟩
          intro x hxm
          rw [List.take_add_one, List.getElem?_eq_getElem hlt] at hxm
          rcases List.mem_append.1 hxm with hxm | hxm
          · exact hF x hxm
          · simp at hxm; rw [hxm]; exact hx
        · rewrite [lp72_26]
          simp [Try.f72, t8, t9, t10, hlt, ldVar, a2, a1.2, a3, hx]
          exact ⟨_, List.getElem_mem hlt, hx⟩)
    ⟨0, by simp, by simp, by simp, by simp, by simp, rfl⟩ (by omega))
  rcases g with ⟨rfl, g⟩ | ⟨rfl, g1, g2⟩
  · simp [U]; exact g
  · simp [g1, g2]
end Go.Ev

/- The sending part: what is heard, the program's, whole. -/
namespace Go.Ev
open Go Go.Proofs
set_option linter.unusedSimpArgs false
set_option linter.unusedVariables false

def setR (l : List Int) (off n : Nat) (a : Bool) : List Int := (List.range l.length).map fun i => if off ≤ i ∧ i < off + n then setOne a (l.getD i 0) else l.getD i 0
theorem setR_len (l : List Int) (off n : Nat) (a : Bool) : (setR l off n a).length = l.length := by simp [setR]
theorem setR_get (l : List Int) (off n : Nat) (a : Bool) (i : Nat) (h : i < l.length) : (setR l off n a)[i]'(by rw [setR_len]; exact h) = if off ≤ i ∧ i < off + n then setOne a l[i] else l[i] := by
  simp [setR, List.getElem?_eq_getElem h]
theorem setR_zero (l : List Int) (off : Nat) (a : Bool) : setR l off 0 a = l := by
  apply List.ext_getElem (setR_len _ _ _ _)
  intro i h1 h2
  rw [setR_get l off 0 a i h2, if_neg (by omega)]
theorem setR_step (l : List Int) (off k : Nat) (a : Bool) (h : off + k < l.length) : (setR l off k a).set (off + k) (setOne a l[off + k]) = setR l off (k + 1) a := by
  apply List.ext_getElem (by simp [setR_len])
  intro i h1 h2
  have hi : i < l.length := by simpa [setR_len] using h2
  rw [List.getElem_set, setR_get l off (k + 1) a i hi]
  by_cases e : off + k = i
  · subst e; rw [if_pos rfl, if_pos (by omega)]
  · rw [if_neg e, setR_get l off k a i hi]
    by_cases e2 : off ≤ i ∧ i < off + k
    · rw [if_pos e2, if_pos (by omega)]
    · rw [if_neg e2, if_neg (by omega)]
theorem setOne_in (a : Bool) (x : Int) : 0 ≤ setOne a x ∧ setOne a x ≤ 3 := by
  unfold setOne; split
  · omega
  · split <;> omega
def heardP (S : Snd) (off n : Int) (fin a : Bool) : Snd × Int :=
  if off < 0 ∨ n < 0 ∨ S.nx < off ∨ S.nx - off < n then (S, 1)
  else if fin = true ∧ (S.fn = 0 ∨ off + n ≠ S.data.length) then (S, 1)
  else if 2 < S.st then (S, 0)
  else ({ S with how := setR S.how off.toNat n.toNat a, fn := if fin then setOne a S.fn else S.fn,
                 st := if (if fin then setOne a S.fn else S.fn) = 2 ∧ (∀ x ∈ setR S.how off.toNat n.toNat a, x = 2) then 3 else S.st }, 0)
/-- one of the bytes is told otherwise -/
theorem SndI.byte {H : AH} {q : Nat} {S : Snd} {bs : List Nat} (h : SndI H q S bs) {k : Nat} (hk : k < S.how.length) :
    ∃ vd vi b, H.get q = some (.cells 81 false (sndC S vd vi)) ∧ idxA Try.prog 34 vi (.int .i64 k) = some (.ptr b k) ∧ H.get b = some (.cells 5 false (S.how.map (.int .u8))) ∧ b ∈ bs ∧ b ≠ q ∧
      ∀ v, 0 ≤ v ∧ v ≤ 255 → SndI (H.set b (.cells 5 false ((S.how.map (.int .u8)).set k (.int .u8 v)))) q { S with how := S.how.set k v } bs := by
  obtain ⟨⟨vd, vi, bd, bi, h1, h2, h3, rfl⟩, h5, h6⟩ := h
  have h5' := h5
  rw [List.nodup_cons, List.mem_append, List.nodup_append] at h5'
  obtain ⟨nq, nd1, nd2, nd3⟩ := h5'
  rcases ints_own h3 with ⟨rfl, hl, _⟩ | ⟨b, rfl, rfl, hlt, hg⟩
  · have hl : S.how = [] := hl
    rw [hl] at hk; simp at hk
  · have hbq : b ≠ q := fun e => nq (.inr (by simp [e]))
    refine ⟨vd, .slice b 0 S.how.length, b, h1, by simp [idxA, hk], hg, by simp, hbq, fun v hv => ?_⟩
    have hst : ∀ c, c ≠ b → (H.set b (.cells 5 false ((S.how.map (.int .u8)).set k (.int .u8 v)))).get c = H.get c := fun c hc => by rw [AH.set_get, if_neg hc]
    have hin := ints_in h3
    have hnew := ints_one (e := 5) (k := .u8) (H := H.set b (.cells 5 false ((S.how.map (.int .u8)).set k (.int .u8 v)))) (l := S.how.set k v) (b := b) (by simpa using hlt) (by simp [List.map_set])
      (by
        intro d hd
        rcases List.mem_or_eq_of_mem_set hd with hd | hd
        · exact hin d hd
        · rw [hd, u8_mm.1, u8_mm.2]; exact hv)
    rw [List.length_set] at hnew
    refine ⟨⟨vd, .slice b 0 S.how.length, bd, [b], ?_, h2.stay (by simp) fun c hc => hst c fun e => nd3 c hc b (by simp) e, hnew, rfl⟩, h5, by simpa using h6⟩
    rw [hst q (Ne.symm hbq)]; exact h1
def HdInv (S : Snd) (q off n p : Nat) (a fin : Bool) (bs : List Nat) (H : AH) (d : Nat) (τ : Tm) (h : AH) : Prop :=
  ∃ k : Nat, k + d = n ∧ τ 0 = .ptr q 0 ∧ τ 1 = .int .i64 off ∧ τ 2 = .int .i64 n ∧ τ 3 = .bool fin ∧ τ 11 = .func 71 [] [.ptr p 0] ∧ τ 12 = .int .i64 ((off + k : Nat) : Int) ∧
    SndI h q { S with how := setR S.how off k a } bs ∧ KoS bs H h ∧ h.next = H.next ∧ h.get p = some (.cells 4 false [.bool a])
theorem heardLoop {S : Snd} {q off n p : Nat} {a fin : Bool} {bs : List Nat} {H : AH} (hok : S.ok) (hon : off + n ≤ S.nx) (hpb : p ∉ bs) (hpn : p < H.next) (m : Nat) (hm : 65540 ≤ m) (τ : Tm) (hI : HdInv S q off n p a fin bs H n τ H) :
    ∃ e τ' H', evLoop Try.prog (ev Try.prog m) m (lp Try.prog 36 506) τ H = some (e, τ', H') ∧ e = .exit 0 ∧ HdInv S q off n p a fin bs H 0 τ' H' := by
  have hdl := hok.len
  have hhl := hok.how
  have hnx := hok.nx
  refine loop_rule (d := n) (HdInv S q off n p a fin bs H) (fun e τ h => e = .exit 0 ∧ HdInv S q off n p a fin bs H 0 τ h) ?_ hI (by omega)
  rintro d τ h ⟨k, hk, t0, t1, t2, t3, t11, t12, hS, hK, hn, hp⟩
  have w1 := wrap_i64 (n := (off : Int) + n) (by omega) (by omega)
  by_cases hd0 : d = 0
  · subst hd0
    have hkn : k = n := by omega
    subst hkn
    have t12' : τ 12 = .int .i64 ((off : Int) + k) := by rw [t12]; push_cast; rfl
    rewrite [lp36_506]
    simp [Try.f36, t0, t1, t2, t12', w1]
    exact ⟨k, hk, t0, t1, t2, t3, t11, t12, hS, hK, hn, hp⟩
  · have hlt : off + k < (setR S.how off k a).length := by rw [setR_len]; omega
    have hlt' : off + k < S.how.length := by omega
    have hlt2 : ((off + k : Nat) : Int) < (off : Int) + n := by push_cast; omega
    obtain ⟨vd, vi, b, g1, g2, g3, g4, g5, g6⟩ := hS.byte hlt
    have hget : (setR S.how off k a)[off + k] = S.how[off + k] := by rw [setR_get _ _ _ _ _ hlt', if_neg (by omega)]
    have hx : ((setR S.how off k a).map (AV.int .u8))[off + k]? = some (.int .u8 S.how[off + k]) := by
      rw [List.getElem?_map, List.getElem?_eq_getElem hlt, hget]; rfl
    have hcall := setI_ev g3 hx hp m (by omega)
    have hin := setOne_in a S.how[off + k]
    have hnew := g6 (setOne a S.how[off + k]) (by omega)
    simp only [sndC] at g1
    have hset : (setR S.how off k a).set (off + k) (setOne a S.how[off + k]) = setR S.how off (k + 1) a := setR_step _ _ _ _ hlt'
    simp only [hset] at hnew
    have hbp : b ≠ p := fun e => hpb (by rw [← e]; exact g4)
    generalize hX : ((off + k : Nat) : Int) = X at *
    rewrite [lp36_506]
    simp [Try.f36, t0, t1, t2, t11, t12, w1, hlt2, ldVar, g1, g2, hcall, wrap_i64 (n := X + 1) (by omega) (by omega)]
    exact ⟨d - 1, by omega, k + 1, by omega, by simp [t0], by simp [t1], by simp [t2], by simp [t3], by simp [t11], by simp; omega, hnew,
      hK.trans ⟨by simp, fun c hc hcb => by rw [AH.set_get, if_neg (fun e => hcb (by rw [e]; exact g4))]⟩ (fun c hc => .inl hc), hn, by rw [AH.set_get, if_neg (Ne.symm hbp)]; exact hp⟩
theorem heardEnd {H : AH} {q : Nat} {S : Snd} {bs : List Nat} (h : SndI H q S bs) :
    ∃ vd vi, H.get q = some (.cells 81 false (sndC S vd vi)) ∧ SndI (H.set q (.cells 81 false (sndC { S with st := 3 } vd vi))) q { S with st := 3 } bs ∧ KoS bs H (H.set q (.cells 81 false (sndC { S with st := 3 } vd vi))) := by
  obtain ⟨vd, vi, h1, _, _, h2, h3⟩ := h.put (S' := { S with st := 3 }) rfl rfl
  exact ⟨vd, vi, h1, h2, h3⟩
theorem heardI_ev {H : AH} {q : Nat} {S : Snd} {bs : List Nat} (h : SndI H q S bs) (hok : S.ok) {off n : Int} {fin a : Bool} (m : Nat) (hm : 65550 ≤ m) :
    ∃ H', ev Try.prog m 36 [.ptr q 0, .int .i64 off, .int .i64 n, .bool fin, .bool a] H = some (.int .i64 (heardP S off n fin a).2, H') ∧ SndI H' q (heardP S off n fin a).1 bs ∧ KoS bs H H' := by
  obtain ⟨m, rfl⟩ : ∃ k, m = k + 1 := ⟨m - 1, by omega⟩
  have KP : Kp H (H.push (.cells 4 false [.bool a])) := (Kp.refl H).push _
  have h' := h.kp KP
  have hmem := h.mem
  have hdl := hok.len
  have hhl := hok.how
  have hnx := hok.nx
  have hfn := hok.fn
  have hqn : ¬ (q = H.next) := by have := h.lt; omega
  obtain ⟨vd, vi, h1, o1, o2, _, _⟩ := h.put (S' := S) rfl rfl
  obtain ⟨⟨vd2, vi2, bd, bi, e1, e2, e3, e4⟩, _, hq⟩ := id h
  rw [h1] at e1
  simp only [Option.some.injEq, Blk.cells.injEq, sndC, List.cons.injEq, true_and, and_true] at e1
  obtain ⟨rfl, rfl⟩ := e1
  have hL := Ty.R.lenA e2 (P := Try.prog) (T := 34) (by simp)
  simp only [sndC] at h1
  have hend : SndI (H.push (.cells 4 false [.bool a])) q S bs := h'
  have hko : KoS bs H (H.push (.cells 4 false [.bool a])) := KP.koS _
  rw [ev_eq Try.func36 ok36 m _ H (by simp [Try.f36])]
  unfold heardP
  by_cases c1 : off < 0
  · rw [if_pos (.inl c1)]
    refine ⟨_, ?_, hend, hko⟩
    simp [Try.f36, c1, U]
  · by_cases c2 : n < 0
    · rw [if_pos (.inr (.inl c2))]
      refine ⟨_, ?_, hend, hko⟩
      simp [Try.f36, c1, c2, U]
    · by_cases c3 : (S.nx : Int) < off
      · rw [if_pos (.inr (.inr (.inl c3)))]
        refine ⟨_, ?_, hend, hko⟩
        simp [Try.f36, c1, c2, c3, ldVar, h1, hqn, U]
      · have w1 := wrap_i64 (n := (S.nx : Int) - off) (by omega) (by omega)
        by_cases c4 : (S.nx : Int) - off < n
        · rw [if_pos (.inr (.inr (.inr c4)))]
          refine ⟨_, ?_, hend, hko⟩
          simp [Try.f36, c1, c2, c3, w1, c4, ldVar, h1, hqn, U]
        · rw [if_neg (by omega)]
          have w2 := wrap_i64 (n := off + n) (by omega) (by omega)
          by_cases c5 : fin = true ∧ (S.fn = 0 ∨ off + n ≠ S.data.length)
          · rw [if_pos c5]
            refine ⟨_, ?_, hend, hko⟩
            obtain ⟨rfl, c5⟩ := c5
            by_cases c6 : S.fn = 0
            · rw [c6] at h1
              simp [Try.f36, c1, c2, c3, w1, c4, ldVar, h1, hqn, c6, U]
            · have c7 : ¬ (off + n = S.data.length) := by rcases c5 with h | h; exact absurd h c6; exact h
              simp [Try.f36, c1, c2, c3, w1, w2, c4, ldVar, h1, hqn, hL, c6, c7, U]
          · rw [if_neg c5]
            by_cases c8 : 2 < S.st
            · rw [if_pos c8]
              refine ⟨_, ?_, hend, hko⟩
              cases fin with
              | false => simp [Try.f36, c1, c2, c3, w1, c4, ldVar, h1, hqn, c8, U]
              | true =>
                have c6 : ¬ S.fn = 0 := fun e => c5 ⟨rfl, .inl e⟩
                have c7 : off + n = S.data.length := Classical.byContradiction fun e => c5 ⟨rfl, .inr e⟩
                have w3 := wrap_i64 (n := (S.data.length : Int)) (by omega) (by omega)
                simp [Try.f36, c1, c2, c3, w1, w2, w3, c4, ldVar, h1, hqn, hL, c6, c7, c8, U]
            · rw [if_neg c8]
              obtain ⟨offN, hoff⟩ : ∃ k : Nat, off = k := ⟨off.toNat, by omega⟩
              obtain ⟨nN, hnN⟩ : ∃ k : Nat, n = k := ⟨n.toNat, by omega⟩
              subst hoff hnN
              simp only [Int.toNat_natCast]
              have hpb : H.next ∉ bs := fun e => by have := hmem _ e; omega
              have hinit : SndI (H.push (.cells 4 false [.bool a])) q { S with how := setR S.how offN 0 a } bs := by rw [setR_zero]; exact h'
              have hall : (setR S.how offN nN a).length ≤ 65536 := by rw [setR_len]; omega
              cases fin with
              | false =>
                simp [Try.f36, c1, c2, c3, w1, c4, ldVar, h1, hqn, c8, U]
                generalize hLo : evLoop _ _ _ _ _ _ = R
                obtain ⟨e, τ', H1, rfl, rfl, k, hk, t0, t1, t2, t3, t11, t12, hS, hK, hn, hp⟩ := loop_at hLo (heardLoop (S := S) (q := q) (off := offN) (n := nN) (p := H.next) (a := a) (fin := false) (bs := bs) hok (by omega) hpb (by simp) m (by omega) _ ⟨0, by simp, by simp, by simp, by simp, by simp, by simp, by simp, hinit, KoS.refl _ _, rfl, by simp⟩)
                have hkn : k = nN := by omega
                subst hkn
                have KT : KoS bs H H1 := hko.trans hK fun b hb => .inl hb
                have hA := allI_ev hS hall m (by omega)
                obtain ⟨vd3, vi3, g1, g2, g3⟩ := heardEnd hS
                simp only [sndC] at g1 g2 g3
                simp only at hA
                by_cases c9 : S.fn = 2
                · rw [c9] at g1
                  by_cases c10 : ∀ x ∈ setR S.how offN k a, x = 2
                  · rw [decide_eq_true c10] at hA
                    rw [if_pos ⟨c9, c10⟩]
                    simp [t0, t3, ldVar, stVar, g1, hA, spl]
                    rw [c9] at g2 g3
                    exact ⟨by simpa [c9] using g2, KT.trans g3 fun b hb => .inl hb⟩
                  · rw [decide_eq_false c10] at hA
                    rw [if_neg (fun e => c10 e.2)]
                    simp [t0, t3, ldVar, stVar, g1, hA, spl]
                    exact ⟨hS, KT⟩
                · rw [if_neg (fun e => c9 e.1)]
                  simp [t0, t3, ldVar, stVar, g1, spl, c9]
                  exact ⟨hS, KT⟩
              | true =>
                have c6 : ¬ S.fn = 0 := fun e => c5 ⟨rfl, .inl e⟩
                have c7 : (offN : Int) + nN = S.data.length := Classical.byContradiction fun e => c5 ⟨rfl, .inr e⟩
                have w3 := wrap_i64 (n := (S.data.length : Int)) (by omega) (by omega)
                simp [Try.f36, c1, c2, c3, w1, w2, w3, c4, ldVar, h1, hqn, hL, c6, c7, c8, U]
                generalize hLo : evLoop _ _ _ _ _ _ = R
                obtain ⟨e, τ', H1, rfl, rfl, k, hk, t0, t1, t2, t3, t11, t12, hS, hK, hn, hp⟩ := loop_at hLo (heardLoop (S := S) (q := q) (off := offN) (n := nN) (p := H.next) (a := a) (fin := true) (bs := bs) hok (by omega) hpb (by simp) m (by omega) _ ⟨0, by simp, by simp, by simp, by simp, by simp, by simp, by simp, hinit, KoS.refl _ _, rfl, by simp⟩)
                have hkn : k = nN := by omega
                subst hkn
                have KT : KoS bs H H1 := hko.trans hK fun b hb => .inl hb
                obtain ⟨vd4, vi4, p1, p2, p3, hS2, KS2⟩ := hS.put (S' := { S with how := setR S.how offN k a, fn := setOne a S.fn }) rfl rfl
                have hcall : ev Try.prog m 71 [.ptr q 6, .ptr H.next 0] H1 = some (U, H1.set q (.cells 81 false (sndC { S with how := setR S.how offN k a, fn := setOne a S.fn } vd4 vi4))) := setI_ev p1 rfl hp m (by omega)
                generalize hH2 : H1.set q (.cells 81 false (sndC { S with how := setR S.how offN k a, fn := setOne a S.fn } vd4 vi4)) = H2 at *
                generalize setOne a S.fn = f at *
                have KT2 : KoS bs H H2 := KT.trans KS2 fun b hb => .inl hb
                have hA := allI_ev hS2 hall m (by omega)
                obtain ⟨vd3, vi3, g1, g2, g3⟩ := heardEnd hS2
                simp only [sndC] at g1 g2 g3
                simp only at hA
                by_cases c9 : f = 2
                · rw [c9] at g1
                  by_cases c10 : ∀ x ∈ setR S.how offN k a, x = 2
                  · rw [decide_eq_true c10] at hA
                    rw [if_pos ⟨c9, c10⟩]
                    simp [t0, t3, t11, hcall, ldVar, stVar, g1, hA, spl]
                    rw [c9] at g2 g3
                    exact ⟨by simpa [c9] using g2, KT2.trans g3 fun b hb => .inl hb⟩
                  · rw [decide_eq_false c10] at hA
                    rw [if_neg (fun e => c10 e.2)]
                    simp [t0, t3, t11, hcall, ldVar, stVar, g1, hA, spl]
                    exact ⟨hS2, KT2⟩
                · rw [if_neg (fun e => c9 e.1)]
                  simp [t0, t3, t11, hcall, ldVar, stVar, g1, spl, c9]
                  exact ⟨hS2, KT2⟩
end Go.Ev

/- The sending part: a piece is pulled, the program's. -/
namespace Go.Ev
open Go Go.Proofs
set_option linter.unusedSimpArgs false
set_option linter.unusedVariables false

/-- n bytes from off on are on their way -/
def setW (l : List Int) (off n : Nat) : List Int := (List.range l.length).map fun i => if off ≤ i ∧ i < off + n then 1 else l.getD i 0
theorem setW_len (l : List Int) (off n : Nat) : (setW l off n).length = l.length := by simp [setW]
theorem setW_get (l : List Int) (off n : Nat) (i : Nat) (h : i < l.length) : (setW l off n)[i]'(by rw [setW_len]; exact h) = if off ≤ i ∧ i < off + n then 1 else l[i] := by
  simp [setW, List.getElem?_eq_getElem h]
theorem setW_zero (l : List Int) (off : Nat) : setW l off 0 = l := by
  apply List.ext_getElem (setW_len _ _ _)
  intro i h1 h2
  rw [setW_get l off 0 i h2, if_neg (by omega)]
theorem setW_step (l : List Int) (off k : Nat) (h : off + k < l.length) : (setW l off k).set (off + k) 1 = setW l off (k + 1) := by
  apply List.ext_getElem (by simp [setW_len])
  intro i h1 h2
  have hi : i < l.length := by simpa [setW_len] using h2
  rw [List.getElem_set, setW_get l off (k + 1) i hi]
  by_cases e : off + k = i
  · subst e; rw [if_pos rfl, if_pos (by omega)]
  · rw [if_neg e, setW_get l off k i hi]
    by_cases e2 : off ≤ i ∧ i < off + k
    · rw [if_pos e2, if_pos (by omega)]
    · rw [if_neg e2, if_neg (by omega)]
def PuInv (S : Snd) (q off n p : Nat) (bs : List Nat) (H : AH) (d : Nat) (τ : Tm) (h : AH) : Prop :=
  ∃ k : Nat, k + d = n ∧ τ 0 = .ptr q 0 ∧ τ 4 = .ptr p 0 ∧ τ 5 = .ptr (p + 1) 0 ∧ τ 6 = .int .i64 off ∧ τ 7 = .int .i64 n ∧ τ 9 = .int .i64 ((off + k : Nat) : Int) ∧
    SndI h q { S with how := setW S.how off k } bs ∧ KoS bs H h ∧ h.next = H.next
theorem pullLoop {S : Snd} {q off n p : Nat} {bs : List Nat} {H : AH} (hok : S.ok) (hon : off + n ≤ S.data.length) (m : Nat) (hm : 65540 ≤ m) (τ : Tm) (hI : PuInv S q off n p bs H n τ H) :
    ∃ e τ' H', evLoop Try.prog (ev Try.prog m) m (lp Try.prog 35 1018) τ H = some (e, τ', H') ∧ e = .exit 0 ∧ PuInv S q off n p bs H 0 τ' H' := by
  have hdl := hok.len
  have hhl := hok.how
  refine loop_rule (d := n) (PuInv S q off n p bs H) (fun e τ h => e = .exit 0 ∧ PuInv S q off n p bs H 0 τ h) ?_ hI (by omega)
  rintro d τ h ⟨k, hk, t0, t4, t5, t6, t7, t9, hS, hK, hn⟩
  have w1 := wrap_i64 (n := (off : Int) + n) (by omega) (by omega)
  by_cases hd0 : d = 0
  · subst hd0
    have hkn : k = n := by omega
    subst hkn
    have t9' : τ 9 = .int .i64 ((off : Int) + k) := by rw [t9]; push_cast; rfl
    rewrite [lp35_1018]
    simp [Try.f35, t0, t6, t7, t9', w1]
    exact ⟨k, hk, t0, t4, t5, t6, t7, t9, hS, hK, hn⟩
  · have hlt : off + k < (setW S.how off k).length := by rw [setW_len]; omega
    have hlt' : off + k < S.how.length := by omega
    have hlt2 : ((off + k : Nat) : Int) < (off : Int) + n := by push_cast; omega
    obtain ⟨vd, vi, b, g1, g2, g3, g4, g5, g6⟩ := hS.byte hlt
    have hst : stVar Try.prog 5 b (off + k) (.int .u8 1) h = some (h.set b (.cells 5 false (((setW S.how off k).map (.int .u8)).set (off + k) (.int .u8 1)))) := st_one g3 (by simp) rfl (by simpa using hlt)
    have hnew := g6 1 (by omega)
    simp only [sndC] at g1
    have hset : (setW S.how off k).set (off + k) 1 = setW S.how off (k + 1) := setW_step _ _ _ hlt'
    simp only [hset] at hnew
    have hld : ldVar Try.prog 34 q 3 h = some vi := by rw [ld_one g1 (by simp)]; rfl
    generalize hX : ((off + k : Nat) : Int) = X at *
    rewrite [lp35_1018]
    simp [Try.f35, t0, t6, t7, t9, w1, hlt2, hld, g2, hst, wrap_i64 (n := X + 1) (by omega) (by omega)]
    exact ⟨d - 1, by omega, k + 1, by omega, by simp [t0], by simp [t4], by simp [t5], by simp [t6], by simp [t7], by simp; omega, hnew,
      hK.trans ⟨by simp, fun c hc hcb => by rw [AH.set_get, if_neg (fun e => hcb (by rw [e]; exact g4))]⟩ (fun c hc => .inl hc), hn⟩
/-- what a pull answers: code, state, offset, bytes, some, fin, blocked -/
def pullP (S : Snd) (n : Int) : Snd × (Int × Int × Int × List Int × Bool × Bool × Bool) :=
  if n < 1 ∨ 1500 < n then (S, (1, 0, 0, [], false, false, false))
  else if (pieceP S n.toNat).2.2 = false then (S, (0, 0, 0, [], false, false, decide (S.st ≤ 2 ∧ S.nx < S.data.length)))
  else if S.fi = true ∧ (pieceP S n.toNat).2.1 = S.data.length ∧ S.fn ≠ 2 then
    ({ S with how := setW S.how (pieceP S n.toNat).1 ((pieceP S n.toNat).2.1 - (pieceP S n.toNat).1), nx := max S.nx (pieceP S n.toNat).2.1, fn := 1, st := 2 },
      (0, 0, (pieceP S n.toNat).1, (S.data.drop (pieceP S n.toNat).1).take ((pieceP S n.toNat).2.1 - (pieceP S n.toNat).1), true, true, false))
  else
    ({ S with how := setW S.how (pieceP S n.toNat).1 ((pieceP S n.toNat).2.1 - (pieceP S n.toNat).1), nx := max S.nx (pieceP S n.toNat).2.1, st := if S.st = 0 then 1 else S.st },
      (0, 0, (pieceP S n.toNat).1, (S.data.drop (pieceP S n.toNat).1).take ((pieceP S n.toNat).2.1 - (pieceP S n.toNat).1), true, false, false))
theorem pieceP_le {S : Snd} (hok : S.ok) (n : Nat) : (pieceP S n).1 ≤ (pieceP S n).2.1 ∧ (pieceP S n).2.1 ≤ S.data.length := by
  have hnx := hok.nx
  unfold pieceP
  split
  · simp
  · split
    · rename_i i hi
      have h1 := lostFrom_lt _ _ _ _ hi
      have h2 := runTo_le S.how (S.nx - i) i n
      simp only; omega
    · split
      · rename_i h
        simp only
        unfold mnI at h ⊢
        split at h <;> split <;> (try split) <;> omega
      · split
        · simp only; omega
        · simp
end Go.Ev
