/- Lemmas of an evaluator of the given code and of what the functions answer; no condition of its own. -/
import Derived.Test.YtcblbbilllokkaaEv10
/- The specification's digest. -/
namespace Go.Ev
open Go Go.Proofs
set_option linter.unusedSimpArgs false
set_option linter.unusedVariables false

/-- the state lies behind H and holds S -/
structure Dh (H : AH) (S : Sti) (h : AH) : Prop where
  kp : Kp H h
  lt : H.next < h.next
  get : h.get H.next = some (.cells 96 false S.cells)
theorem Dh.set {H h : AH} {S S' : Sti} (g : Dh H S h) : Dh H S' (h.set H.next (.cells 96 false S'.cells)) :=
  ⟨g.kp.set (Nat.le_refl _) _, g.lt, by simp⟩
theorem Dh.up {H h h' : AH} {S : Sti} (g : Dh H S h) (k : Kp h h') : Dh H S h' := ⟨g.kp.trans k, by have := k.next; have := g.lt; omega, by rw [k.get _ g.lt]; exact g.get⟩
def DhLoop (H : AH) (S : Sti) (d : Nat) (τ : Tm) (h : AH) : Prop := ∃ k, k + d = 16 ∧ τ 5 = .ptr H.next 0 ∧ τ 6 = .int .i64 k ∧ Dh H (stL S (List.replicate k 165)) h
theorem digestS_ev {H : AH} {s1 s2 : AV} {key data : List Int} (h1 : Bs H s1 key) (h2 : Bs H s2 data) (hl1 : key.length ≤ 1048576) (hl2 : data.length ≤ 1048576) (m : Nat) (hm : key.length + data.length + 30 ≤ m) :
    ∃ r H' bs, ev Try.prog m 62 [s1, s2] H = some (r, H') ∧ tB.R true H' [r] (digestL key data) bs ∧ bs.Nodup ∧ (∀ b ∈ bs, H.next ≤ b) ∧ Kp H H' := by
  obtain ⟨m, rfl⟩ : ∃ k, m = k + 1 := ⟨m - 1, by omega⟩
  have L1 : ∀ h, lenA Try.prog 22 s1 h = some (.int .i64 key.length) := h1.len
  have L2 : ∀ h, lenA Try.prog 22 s2 h = some (.int .i64 data.length) := h2.len
  rw [ev_eq Try.func62 ok62 m _ H (by simp [Try.f62])]
  have hc : ∀ S : Sti, S.cells = [.int .u32 S.a, .int .u32 S.b, .int .u32 S.c, .int .u32 S.d] := fun _ => rfl
  have g0 : Dh H st0 (H.push (.cells 96 false st0.cells)) := ⟨(Kp.refl H).push _, by simp, by simp⟩
  obtain ⟨r1, H1, b1, a1, a2, a3, a4, a5⟩ := digits_ev 4 (H := H.push (.cells 96 false st0.cells)) (v := key.length) (by omega) (by omega) (by omega) m (by omega)
  have g1 := g0.up a5
  obtain ⟨H2, c1, c2⟩ := stirS_ev (st := st0) (tB_bs a2).1 (by simp [dig_len]) m (by simp [dig_len]; omega)
  have g2 := (g1.up c2).set (S' := stL st0 (dig key.length 4))
  obtain ⟨H3, d1, d2⟩ := stirS_ev (st := stL st0 (dig key.length 4)) (h1.kp g2.kp) hl1 m (by omega)
  have g3 := (g2.up d2).set (S' := stL (stL st0 (dig key.length 4)) key)
  obtain ⟨H4, e1, e2⟩ := stirS_ev (st := stL (stL st0 (dig key.length 4)) key) (h2.kp g3.kp) hl2 m (by omega)
  have g4 := (g3.up e2).set (S' := stL (stL (stL st0 (dig key.length 4)) key) data)
  obtain ⟨r2, H5, b2, f1, f2, f3, f4, f5⟩ := digits_ev 4 (H := H4.set H.next (.cells 96 false (stL (stL (stL st0 (dig key.length 4)) key) data).cells)) (v := data.length) (by omega) (by omega) (by omega) m (by omega)
  have g5 := g4.up f5
  obtain ⟨H6, i1, i2⟩ := stirS_ev (st := stL (stL (stL st0 (dig key.length 4)) key) data) (tB_bs f2).1 (by simp [dig_len]) m (by simp [dig_len]; omega)
  have g6 := (g5.up i2).set (S' := stD5 key data)
  have hS : stL (stL (stL (stL st0 (dig key.length 4)) key) data) (dig data.length 4) = stD5 key data := rfl
  rw [hS] at i1
  have q1 := (g1.up c2).get
  have q2 := g1.get
  have q3 := (g2.up d2).get
  have q4 := (g3.up e2).get
  have q5 := g5.get
  have q6 := (g5.up i2).get
  have hF : stF key data = stL (stD5 key data) (List.replicate 16 165) := rfl
  have hok := stF_ok key data
  have hfin : digestL key data = dig (stF key data).a 4 ++ dig (stF key data).b 4 ++ dig (stF key data).c 4 ++ dig (stF key data).d 4 := rfl
  rw [hfin]
  generalize stF key data = F at *
  generalize stD5 key data = S6 at *
  generalize stL (stL (stL st0 (dig key.length 4)) key) data = S4 at *
  generalize stL (stL st0 (dig key.length 4)) key = S3 at *
  generalize stL st0 (dig key.length 4) = S2 at *
  simp only [Int.cast_ofNat_Int] at a1 f1
  simp only [hc, st0] at a1 c1 d1 e1 f1 i1 q1 q2 q3 q4 q5 q6
  simp [Try.f62, ldVar, stVar, L1, L2, spl, a1, c1, d1, e1, f1, i1, q1, q2, q3, q4, q5, q6, evHist, ObsOk, ObOk]
  generalize hLo : evLoop _ _ _ _ _ _ = R
  obtain ⟨e, τ', H', rfl, rfl, t5, g7⟩ := loop_at hLo (loop_rule (d := 16) (DhLoop H S6)
    (fun e τ h => e = .exit 0 ∧ τ 5 = .ptr H.next 0 ∧ Dh H F h)
    (by
      rintro d τ h ⟨k, hk, t5, t6, g⟩
      by_cases hd : d = 0
      · subst hd
        have : k = 16 := by omega
        subst this
        rw [← hF] at g
        rewrite [lp62_1018]
        simp [Try.f62, t6]
        exact ⟨t5, g⟩
      · have hlt : (k : Int) < 16 := by omega
        have gp := g.up ((Kp.refl h).push (.cells 5 false [.int .u8 165]))
        have hB := ints_one (e := 5) (k := .u8) (H := h.push (.cells 5 false [.int .u8 165])) (l := [165]) (b := h.next) (by simp) (by simp) (by rw [u8_mm.1, u8_mm.2]; simp)
        obtain ⟨h2, x1, x2⟩ := stirS_ev (st := stL S6 (List.replicate k 165)) (tB_bs hB).1 (by simp) m (by simp; omega)
        have p1 := g.get
        have p2 := (gp.up x2).get
        have hne : ¬ (H.next = h.next) := by have := g.lt; omega
        have gl := (gp.up x2).set (S' := stL S6 (List.replicate (k + 1) 165))
        rw [← stL_app, ← List.replicate_succ'] at x1
        obtain ⟨S8, hS8⟩ : ∃ S, stL S6 (List.replicate (k + 1) 165) = S := ⟨_, rfl⟩
        rw [hS8] at x1 gl
        generalize stL S6 (List.replicate k 165) = S7 at *
        simp only [hc, List.length_singleton] at x1 p1 p2
        rewrite [lp62_1018]
        simp [Try.f62, t5, t6, hlt, ldVar, stVar, zerosA, spl, p1, x1, p2, hne, wrap_i64 (n := (k : Int) + 1) (by omega) (by omega)]
        exact ⟨d - 1, by omega, k + 1, by omega, by simp [t5], by simp, by rw [hS8]; exact gl⟩)
    ⟨0, by omega, by simp, by simp, by rw [List.replicate_zero, stL_nil]; exact g6⟩ (by omega))
  have g8 := g7.get
  rw [hc] at g8
  obtain ⟨okA, okB, okC, okD⟩ := hok
  have cv1 : ∀ v h, 0 ≤ v ∧ v < 4294967296 → convA Try.prog 90 3 (.int .u32 v) h = some (.int .i64 v, h) := fun v h hv => by
    rw [conv_int (k := .i64) (ds := .int .u32) (by simp) (by simp), wrap_i64 (by omega) (by omega)]
  have app : ∀ {h : AH} {s x : AV} {ds xs : List Int} {bs bx : List Nat}, tB.R true h [s] ds bs → tB.R true h [x] xs bx → ds.length + xs.length ≤ 1048576 →
      ∃ s' h' b', appA Try.prog 22 22 s x h = some (s', h') ∧ tB.R true h' [s'] (ds ++ xs) b' ∧ b'.Nodup ∧ (∀ b ∈ b', b ∈ bs ∨ h.next ≤ b) ∧ KoS bs h h' := fun {h s x ds xs bs bx} h1 h2 hl =>
    Ty.R.appI (P := Try.prog) (T := 22) h1 h2 (by simp) (by simp) (by simp) (by_ := 1) (by simp) (z := [.int .u8 0]) (by simp) (by simp) (by omega) (by omega)
  obtain ⟨y1, Y1, v1, j1, j2, j3, j4, j5⟩ := digits_ev 4 (H := H') (v := F.a) (by omega) (by omega) (by omega) m (by omega)
  obtain ⟨y2, Y2, v2, k1, k2, k3, k4, k5⟩ := digits_ev 4 (H := Y1) (v := F.b) (by omega) (by omega) (by omega) m (by omega)
  obtain ⟨z2, Z2, w2, l1, l2, l3, l4, l5⟩ := app (j2.kp k5) k2 (by simp [dig_len])
  have K2 : Kp H' Z2 := l5.kp (j5.trans k5) j4
  have hw2 : ∀ b ∈ w2, H'.next ≤ b := fun b hb => by rcases l4 b hb with h | h; exact j4 b h; have := (j5.trans k5).next; omega
  obtain ⟨y3, Y3, v3, m1, m2, m3, m4, m5⟩ := digits_ev 4 (H := Z2) (v := F.c) (by omega) (by omega) (by omega) m (by omega)
  obtain ⟨z3, Z3, w3, n1, n2, n3, n4, n5⟩ := app (l2.kp m5) m2 (by simp [dig_len])
  have K3 : Kp H' Z3 := n5.kp (K2.trans m5) hw2
  have hw3 : ∀ b ∈ w3, H'.next ≤ b := fun b hb => by rcases n4 b hb with h | h; exact hw2 b h; have := (K2.trans m5).next; omega
  obtain ⟨y4, Y4, v4, o1, o2, o3, o4, o5⟩ := digits_ev 4 (H := Z3) (v := F.d) (by omega) (by omega) (by omega) m (by omega)
  obtain ⟨z4, Z4, w4, p1, p2, p3, p4, p5⟩ := app (n2.kp o5) o2 (by simp [dig_len])
  have K4 : Kp H' Z4 := p5.kp (K3.trans o5) hw3
  have r1 := (g7.up j5).get
  have r2 := (g7.up K2).get
  have r3 := (g7.up K3).get
  simp only [Int.cast_ofNat_Int, hc] at j1 k1 m1 o1 r1 r2 r3
  simp [t5, ldVar, g8, cv1 _ _ okA, cv1 _ _ okB, cv1 _ _ okC, cv1 _ _ okD, j1, k1, l1, m1, n1, o1, p1, r1, r2, r3]
  exact ⟨_, _, ⟨rfl, rfl⟩, w4, by simpa using p2, p3, fun b hb => by rcases p4 b hb with h | h; have := hw3 b h; have := g7.lt; omega; have := (K3.trans o5).next; have := g7.lt; omega, g7.kp.trans K4⟩
end Go.Ev

/- The retry tag, the program's and the specification's. -/
namespace Go.Ev
open Go Go.Proofs
set_option linter.unusedSimpArgs false
set_option linter.unusedVariables false

def retryB : List Int := [114, 101, 116, 114, 121]
def tagL (o p : List Int) : List Int := (digestL retryB ((o.length : Int) :: (o ++ p))).take 8
theorem digestL_len (k d : List Int) : (digestL k d).length = 16 := by simp [digestL, dig_len]
theorem tag_ev {H : AH} {s1 s2 : AV} {o p : List Int} (h1 : Bs H s1 o) (h2 : Bs H s2 p) (ho : By o) (hp : By p) (hl1 : o.length ≤ 8) (hl2 : p.length ≤ 65536) (f g : Nat) (hfg : f = 44 ∧ g = 62 ∨ f = 45 ∧ g = 61) (m : Nat) (hm : 70000 ≤ m) :
    ∃ r H' bs, ev Try.prog m f [s1, s2] H = some (r, H') ∧ Kp H H' ∧ tB.R false H' [r] (tagL o p) bs := by
  obtain ⟨m, rfl⟩ : ∃ k, m = k + 1 := ⟨m - 1, by omega⟩
  have L1 : ∀ h, lenA Try.prog 22 s1 h = some (.int .i64 o.length) := h1.len
  have app : ∀ {h : AH} {s x : AV} {ds xs : List Int} {bs bx : List Nat}, tB.R true h [s] ds bs → tB.R false h [x] xs bx → ds.length + xs.length ≤ 1048576 →
      ∃ s' h' b', appA Try.prog 22 22 s x h = some (s', h') ∧ tB.R true h' [s'] (ds ++ xs) b' ∧ b'.Nodup ∧ (∀ b ∈ b', b ∈ bs ∨ h.next ≤ b) ∧ KoS bs h h' := fun {h s x ds xs bs bx} h1 h2 hl =>
    Ty.R.appI (P := Try.prog) (T := 22) h1 h2 (by simp) (by simp) (by simp) (by_ := 1) (by simp) (z := [.int .u8 0]) (by simp) (by simp) (by omega) (by omega)
  have cv1 : ∀ h, convA Try.prog 3 5 (.int .i64 o.length) h = some (.int .u8 o.length, h) := fun h => by
    rw [conv_int (k := .u8) (ds := .int .i64) (by simp) (by simp), wrap_u8]; congr 3; omega
  obtain ⟨bo, h1'⟩ := bs_tB h1 ho
  obtain ⟨bp, h2'⟩ := bs_tB h2 hp
  have K0 : Kp H (H.push (.cells 5 false [.int .u8 o.length])) := (Kp.refl H).push _
  have hB := ints_one (e := 5) (k := .u8) (H := H.push (.cells 5 false [.int .u8 o.length])) (l := [(o.length : Int)]) (b := H.next) (by simp) (by simp) (by rw [u8_mm.1, u8_mm.2]; simp; omega)
  obtain ⟨z1, Z1, w1, a1, a2, a3, a4, a5⟩ := app hB (h1'.kp K0) (by simp; omega)
  simp only [List.length_singleton] at a1
  have K1 : Kp H Z1 := a5.kp K0 (by simp)
  have hw1 : ∀ b ∈ w1, H.next ≤ b := fun b hb => by rcases a4 b hb with h | h; simp at h; omega; have := K0.next; omega
  let BR : Blk := .cells 5 false [.int .u8 114, .int .u8 101, .int .u8 116, .int .u8 114, .int .u8 121]
  have K2 : Kp Z1 (Z1.push BR) := (Kp.refl Z1).push _
  have hR := ints_one (e := 5) (k := .u8) (H := Z1.push BR) (l := retryB) (b := Z1.next) (by simp) (by simp [BR, retryB]) (by rw [u8_mm.1, u8_mm.2]; decide)
  have cv2 : convA Try.prog 22 22 (.slice Z1.next 0 5) (Z1.push BR) = some (.slice Z1.next 0 5, Z1.push BR) := conv_same (e := 5) (by simp) (by simp) (e' := 5) (xs := [.int .u8 114, .int .u8 101, .int .u8 116, .int .u8 114, .int .u8 121]) (by simp [BR]) (by omega)
  obtain ⟨z2, Z2, w2, b1, b2, b3, b4, b5⟩ := app (a2.kp K2) (h2'.kp (K1.trans K2)) (by simp; omega)
  have K3 : Kp H Z2 := b5.kp (K1.trans K2) hw1
  have hR2 : tB.R true Z2 [.slice Z1.next 0 5] retryB [Z1.next] := hR.koS b5 (fun b hb hx => by simp at hb; subst hb; have := a2.mem _ hx; omega)
  have hdat : ([(o.length : Int)] ++ o) ++ p = (o.length : Int) :: (o ++ p) := by simp
  rw [hdat] at b2
  have hdl : ((o.length : Int) :: (o ++ p)).length ≤ 1048576 := by simp; omega
  have hdg : ∃ r H' bs, ev Try.prog m g [.slice Z1.next 0 5, z2] Z2 = some (r, H') ∧ tB.R true H' [r] (digestL retryB ((o.length : Int) :: (o ++ p))) bs ∧ bs.Nodup ∧ (∀ b ∈ bs, Z2.next ≤ b) ∧ Kp Z2 H' := by
    rcases hfg with ⟨rfl, rfl⟩ | ⟨rfl, rfl⟩
    · exact digestS_ev (tB_bs hR2).1 (tB_bs b2).1 (by simp [retryB]) hdl m (by simp [retryB]; omega)
    · exact digestI_ev (tB_bs hR2).1 (tB_bs b2).1 (by simp [retryB]) hdl m (by simp [retryB]; omega)
  obtain ⟨r, H', bs, c1, c2, c3, c4, c5⟩ := hdg
  obtain ⟨r', e1, e2⟩ := cutTake (tB_bs c2).1 8 (by rw [digestL_len]; omega) (A := 8) rfl
  obtain ⟨bs', e3⟩ := bs_tB e2 ((tB_bs c2).2.take 8)
  have e1' := e1 H' (Kp.refl _)
  refine ⟨r', H', bs', ?_, K3.trans c5, e3⟩
  rcases hfg with ⟨rfl, rfl⟩ | ⟨rfl, rfl⟩
  · rw [ev_eq Try.func44 ok44 m _ H (by simp [Try.f44])]
    simp [Try.f44, L1, cv1, zerosA, spl, a1, cv2, b1, c1, e1', BR]
  · rw [ev_eq Try.func45 ok45 m _ H (by simp [Try.f45])]
    simp [Try.f45, L1, cv1, zerosA, spl, a1, cv2, b1, c1, e1', BR]
end Go.Ev

/- RetryOK, the specification's. -/
namespace Go.Ev
open Go Go.Proofs
set_option linter.unusedSimpArgs false
set_option linter.unusedVariables false

theorem endP_f {l : List Int} {f v : Int} {D S T : List Int} {a : Nat} {c : Int} (h : (endP l f v D S T a c).f = 3) : f = 3 := by
  unfold endP at h
  generalize numberI l a c = X at *
  generalize (if ((X.2.2 = 0 ∧ (X.1 < 12 ∨ 1508 < X.1)) ∧ X.2.2 = 0) then (3 : Int) else X.2.2) = Y at *
  split at h
  · simp [perr] at h
  · exact h
theorem peekP_f3 (l : List Int) (cid : Int) (h : (peekP l cid).f = 3) : 9 ≤ l.length := by
  unfold peekP at h
  split at h
  · simp [perr] at h
  · split at h
    · simp [perr] at h
    · split at h
      · split at h
        · simp [perr] at h
        · simp at h
      · unfold idsP longP at h
        split at h
        · simp [perr] at h
        · split at h
          · split at h
            · simp at h
            · simp [perr] at h
          · split at h
            · simp [perr] at h
            · split at h
              · split at h
                · simp [perr] at h
                · split at h
                  · simp [perr] at h
                  · omega
              · split at h
                · exact absurd (endP_f h) (by decide)
                · unfold tokP at h
                  exact absurd (endP_f h) (by decide)
/-- whether the tag is another than the one that is told -/
def badTag (l o : List Int) : Bool := !((strOf (tagL o (l.take (l.length - 8)))).toList == (strOf (l.drop (l.length - 8))).toList)
/-- what RetryOK answers -/
def RetryP (l o : List Int) : PR :=
  if 65536 < l.length then perr 4 else if 8 < o.length then perr 1
  else if (peekP l 0).c ≠ 0 then perr (peekP l 0).c
  else if (peekP l 0).f ≠ 3 then perr 3
  else if badTag l o = true then perr 13
  else peekP l 0
theorem RetryP_sh (l o : List Int) : Sh l (RetryP l o) := by
  unfold RetryP
  split
  · exact Sh.err _ _
  · split
    · exact Sh.err _ _
    · split
      · exact Sh.err _ _
      · split
        · exact Sh.err _ _
        · split
          · exact Sh.err _ _
          · have := peekP_sh l 0
            rename_i h1 _ _ _ _
            rwa [PeekP_in (by omega) (by omega) (by omega)] at this
def RsRes (H : AH) (s1 s2 : AV) (m f : Nat) (R : PR) : Prop :=
  ∃ d s t H', ev Try.prog m f [s1, s2] H = some (.tuple [hdr R.f R.v d s t, .int .i64 R.c], H') ∧ Kp H H' ∧ Bs H' d R.D ∧ Bs H' s R.S ∧ Bs H' t R.T
theorem RetryS_ev {H : AH} {s1 s2 : AV} {l o : List Int} (h1 : Bs H s1 l) (h2 : Bs H s2 o) (hb : By l) (ho : By o) (m : Nat) (hm : 70010 ≤ m) : RsRes H s1 s2 m 20 (RetryP l o) := by
  obtain ⟨m, rfl⟩ : ∃ k, m = k + 1 := ⟨m - 1, by omega⟩
  unfold RsRes
  rw [ev_eq Try.func20 ok20 m _ H (by simp [Try.f20])]
  have L1 : ∀ h, lenA Try.prog 22 s1 h = some (.int .i64 l.length) := h1.len
  have L2 : ∀ h, lenA Try.prog 22 s2 h = some (.int .i64 o.length) := h2.len
  unfold RetryP
  have hK0 : Kp H (H.push (.cells 32 false [.int .i64 0, .int .i64 0, .nilSlice, .nilSlice, .nilSlice, .int .i64 0, .int .i64 0, .int .i64 0])) := (Kp.refl H).push _
  by_cases c1 : 65536 < l.length
  · have c1' : 65536 < (l.length : Int) := by omega
    rw [if_pos c1]
    simp [Try.f20, ldVar, stVar, L1, c1', perr, hdr, spl]
    exact ⟨_, _, _, _, ⟨⟨rfl, rfl, rfl⟩, rfl⟩, (Kp.refl H).push _, Bs.nil _, Bs.nil _, Bs.nil _⟩
  · have c1' : ¬ (65536 < (l.length : Int)) := by omega
    rw [if_neg c1]
    by_cases c2 : 8 < o.length
    · have c2' : 8 < (o.length : Int) := by omega
      rw [if_pos c2]
      simp [Try.f20, ldVar, stVar, L1, L2, c1', c2', perr, hdr, spl]
      exact ⟨_, _, _, _, ⟨⟨rfl, rfl, rfl⟩, rfl⟩, (Kp.refl H).push _, Bs.nil _, Bs.nil _, Bs.nil _⟩
    · have c2' : ¬ (8 < (o.length : Int)) := by omega
      rw [if_neg c2]
      obtain ⟨d, s, t, H1, p1, p2, p3, p4, p5⟩ := peekS_all (cid := 0) (h1.kp hK0) hb (by omega) (by omega) (by omega) m (by omega)
      have e1 : H1.get H.next = some (.cells 32 false [.int .i64 0, .int .i64 0, .nilSlice, .nilSlice, .nilSlice, .int .i64 0, .int .i64 0, .int .i64 0]) := by rw [p2.get _ (by simp)]; simp
      have hn := p2.next
      simp only [AH.push_next] at hn
      have hne : ¬ (H.next = H1.next) := by omega
      have K1 := hK0.trans p2
      by_cases c3 : (peekP l 0).c = 0
      · rw [if_neg (by simpa using c3)]
        by_cases c4 : (peekP l 0).f = 3
        · rw [if_neg (by simpa using c4)]
          have h9 := peekP_f3 l 0 c4
          let B : Blk := .cells 32 false [.int .i64 (peekP l 0).f, .int .i64 (peekP l 0).v, d, s, t, .int .i64 0, .int .i64 0, .int .i64 0]
          have KB : Kp H (H1.push B) := K1.push _
          have w1 := wrap_i64 (n := (l.length : Int) - 8) (by omega) (by omega)
          have en : ((l.length - 8 : Nat) : Int) = (l.length : Int) - 8 := by omega
          obtain ⟨s3, q1, q2⟩ := cutTake h1 (l.length - 8) (by omega) (A := (l.length : Int) - 8) en.symm
          obtain ⟨s4, q3, q4⟩ := cutDrop h1 (l.length - 8) (by omega)
          rw [en] at q3
          obtain ⟨r, H2, bs, t1, t2, t3⟩ := tag_ev (h2.kp KB) (q2.kp KB) ho (hb.take _) (by omega) (by simp; omega) 44 62 (.inl ⟨rfl, rfl⟩) m (by omega)
          obtain ⟨b4, q5⟩ := bs_tB q4 (hb.drop _)
          have KH2 := KB.trans t2
          have v1 : convA Try.prog 22 9 r H2 = some (.str (strOf (tagL o (l.take (l.length - 8)))), H2) := conv_str (e := 5) (by simp) (by simp) (by simp) t3
          have v2 : ∀ h, Kp H h → convA Try.prog 22 9 s4 h = some (.str (strOf (l.drop (l.length - 8))), h) := fun h hK => conv_str (e := 5) (by simp) (by simp) (by simp) (q5.kp hK)
          have y1 := q1 (H1.push B) KB
          have y2 := q3 (H1.push B) KB
          have y3 := q3 H2 KH2
          have y4 := v2 (H1.push B) KB
          have y5 := v2 H2 KH2
          have e2 : H2.get H.next = some (.cells 32 false [.int .i64 0, .int .i64 0, .nilSlice, .nilSlice, .nilSlice, .int .i64 0, .int .i64 0, .int .i64 0]) := by
            rw [t2.get _ (by simp; omega), AH.push_get, if_neg hne]; exact e1
          have e3 : H2.get H1.next = some B := by rw [t2.get _ (by simp)]; simp
          have hn2 := t2.next
          simp only [AH.push_next] at hn2
          have hne' : ¬ (H1.next = H.next) := by omega
          have hp1 : Kp H1 H2 := ((Kp.refl H1).push _).trans t2
          unfold badTag
          generalize (strOf (tagL o (l.take (l.length - 8)))) = x1 at *
          generalize (strOf (l.drop (l.length - 8))) = x2 at *
          simp only [B, hdr] at *
          simp only [c4, c3] at p1 e3 y1 y2 y4 t1 ⊢
          by_cases c5 : x1.toList = x2.toList
          · simp [c5]
            simp [Try.f20, ldVar, stVar, L1, L2, c1', c2', p1, e1, e2, e3, hne, hne', spl, w1, y1, y2, y3, y4, y5, t1, v1, c5, p3.bs.one, p4.bs.one, p5.bs.one, hdr, evHist, ObsOk, ObOk]
            obtain ⟨a1, a2, a3, a4⟩ := p3
            obtain ⟨b1, b2, b3, b4⟩ := p4
            obtain ⟨d1, d2, d3, d4⟩ := p5
            simp only [AH.push_next] at a3 b3 d3
            exact ⟨_, _, _, _, ⟨⟨⟨c4.symm, rfl, rfl, rfl⟩, c3.symm⟩, rfl⟩, (KH2.set (Nat.le_refl _) _), ((a4.kp hp1).set _ (.inl (by omega))).bs, ((b4.kp hp1).set _ (.inl (by omega))).bs, ((d4.kp hp1).set _ (.inl (by omega))).bs⟩
          · simp [c5]
            simp [Try.f20, ldVar, stVar, L1, L2, c1', c2', p1, e1, e2, e3, hne, hne', spl, w1, y1, y2, y3, y4, y5, t1, v1, c5, p3.bs.one, p4.bs.one, p5.bs.one, hdr, perr, evHist, ObsOk, ObOk]
            exact ⟨_, _, _, _, ⟨⟨rfl, rfl, rfl⟩, rfl⟩, (KH2.set (Nat.le_refl _) _), Bs.nil _, Bs.nil _, Bs.nil _⟩
        · rw [if_pos (by simpa using c4)]
          simp only [hdr, c3] at p1
          simp [Try.f20, ldVar, stVar, L1, L2, c1', c2', p1, c4, e1, hne, perr, hdr, spl, p3.bs.one, p4.bs.one, p5.bs.one]
          exact ⟨_, _, _, _, ⟨⟨rfl, rfl, rfl⟩, rfl⟩, (K1.push _).set (Nat.le_refl _) _, Bs.nil _, Bs.nil _, Bs.nil _⟩
      · rw [if_pos (by simpa using c3)]
        simp only [hdr] at p1
        simp [Try.f20, ldVar, stVar, L1, L2, c1', c2', p1, c3, e1, hne, perr, hdr, spl, p3.bs.one, p4.bs.one, p5.bs.one]
        exact ⟨_, _, _, _, ⟨⟨rfl, rfl, rfl⟩, rfl⟩, (K1.push _).set (Nat.le_refl _) _, Bs.nil _, Bs.nil _, Bs.nil _⟩
end Go.Ev

/- RetryOK, the program's. -/
namespace Go.Ev
open Go Go.Proofs
set_option linter.unusedSimpArgs false
set_option linter.unusedVariables false

/-- three rows of its own, one behind the other -/
def RiEnd (lo : Nat) (H' : AH) (d s t : AV) (D S T : List Int) : Prop := ∃ a b, lo ≤ a ∧ a ≤ b ∧ b ≤ H'.next ∧ Ow lo a H' d D ∧ Ow a b H' s S ∧ Ow b H'.next H' t T
theorem RiEnd.nil {lo : Nat} {H' : AH} (h : lo ≤ H'.next) : RiEnd lo H' .nilSlice .nilSlice .nilSlice [] [] [] := ⟨lo, lo, Nat.le_refl _, Nat.le_refl _, h, Ow.nil _ _ _, Ow.nil _ _ _, Ow.nil _ _ _⟩
def RiRes (H : AH) (s1 s2 : AV) (m f : Nat) (R : PR) : Prop :=
  ∃ d s t H', ev Try.prog m f [s1, s2] H = some (.tuple [hdr R.f R.v d s t, .int .i64 R.c], H') ∧ Kp H H' ∧ RiEnd H.next H' d s t R.D R.S R.T
theorem RetryI_ev {H : AH} {s1 s2 : AV} {l o : List Int} (h1 : Bs H s1 l) (h2 : Bs H s2 o) (hb : By l) (ho : By o) (m : Nat) (hm : 70010 ≤ m) : RiRes H s1 s2 m 21 (RetryP l o) := by
  obtain ⟨m, rfl⟩ : ∃ k, m = k + 1 := ⟨m - 1, by omega⟩
  unfold RiRes
  rw [ev_eq Try.func21 ok21 m _ H (by simp [Try.f21])]
  have L1 : ∀ h, lenA Try.prog 22 s1 h = some (.int .i64 l.length) := h1.len
  have T1 := tooLong_ev h1 (H.push (.cells 32 false [.int .i64 0, .int .i64 0, .nilSlice, .nilSlice, .nilSlice, .int .i64 0, .int .i64 0, .int .i64 0])) m (by omega)
  have L2 : ∀ h, lenA Try.prog 22 s2 h = some (.int .i64 o.length) := h2.len
  unfold RetryP
  have hK0 : Kp H (H.push (.cells 32 false [.int .i64 0, .int .i64 0, .nilSlice, .nilSlice, .nilSlice, .int .i64 0, .int .i64 0, .int .i64 0])) := (Kp.refl H).push _
  by_cases c1 : 65536 < l.length
  · have c1' : 65536 < (l.length : Int) := by omega
    rw [if_pos c1]
    simp only [c1', decide_true] at T1
    simp [Try.f21, ldVar, stVar, L1, T1, c1', perr, hdr, spl]
    exact ⟨_, _, _, _, ⟨⟨rfl, rfl, rfl⟩, rfl⟩, (Kp.refl H).push _, RiEnd.nil (by simp)⟩
  · have c1' : ¬ (65536 < (l.length : Int)) := by omega
    rw [if_neg c1]
    simp only [c1', decide_false] at T1
    by_cases c2 : 8 < o.length
    · have c2' : 8 < (o.length : Int) := by omega
      rw [if_pos c2]
      simp [Try.f21, ldVar, stVar, L1, L2, T1, c1', c2', perr, hdr, spl]
      exact ⟨_, _, _, _, ⟨⟨rfl, rfl, rfl⟩, rfl⟩, (Kp.refl H).push _, RiEnd.nil (by simp)⟩
    · have c2' : ¬ (8 < (o.length : Int)) := by omega
      rw [if_neg c2]
      obtain ⟨d, s, t, H1, sa, sb, p1, p2, i1, i2, i3, p3, p4, p5⟩ := PeekI_ev (cid := 0) (h1.kp hK0) hb m (by omega)
      rw [PeekP_in (by omega) (by omega) (by omega)] at p1 p3 p4 p5
      simp only [AH.push_next] at i1
      have e1 : H1.get H.next = some (.cells 32 false [.int .i64 0, .int .i64 0, .nilSlice, .nilSlice, .nilSlice, .int .i64 0, .int .i64 0, .int .i64 0]) := by rw [p2.get _ (by simp)]; simp
      have hn := p2.next
      simp only [AH.push_next] at hn
      have hne : ¬ (H.next = H1.next) := by omega
      have K1 := hK0.trans p2
      by_cases c3 : (peekP l 0).c = 0
      · rw [if_neg (by simpa using c3)]
        by_cases c4 : (peekP l 0).f = 3
        · rw [if_neg (by simpa using c4)]
          have h9 := peekP_f3 l 0 c4
          let B : Blk := .cells 32 false [.int .i64 (peekP l 0).f, .int .i64 (peekP l 0).v, d, s, t, .int .i64 0, .int .i64 0, .int .i64 0]
          have KB : Kp H (H1.push B) := K1.push _
          have w1 := wrap_i64 (n := (l.length : Int) - 8) (by omega) (by omega)
          have en : ((l.length - 8 : Nat) : Int) = (l.length : Int) - 8 := by omega
          obtain ⟨s3, q1, q2⟩ := cutTake h1 (l.length - 8) (by omega) (A := (l.length : Int) - 8) en.symm
          obtain ⟨s4, q3, q4⟩ := cutDrop h1 (l.length - 8) (by omega)
          rw [en] at q3
          obtain ⟨r, H2, bs, t1, t2, t3⟩ := tag_ev (h2.kp KB) (q2.kp KB) ho (hb.take _) (by omega) (by simp; omega) 45 61 (.inr ⟨rfl, rfl⟩) m (by omega)
          obtain ⟨b4, q5⟩ := bs_tB q4 (hb.drop _)
          have KH2 := KB.trans t2
          have v1 : convA Try.prog 22 9 r H2 = some (.str (strOf (tagL o (l.take (l.length - 8)))), H2) := conv_str (e := 5) (by simp) (by simp) (by simp) t3
          have v2 : ∀ h, Kp H h → convA Try.prog 22 9 s4 h = some (.str (strOf (l.drop (l.length - 8))), h) := fun h hK => conv_str (e := 5) (by simp) (by simp) (by simp) (q5.kp hK)
          have y1 := q1 (H1.push B) KB
          have y2 := q3 (H1.push B) KB
          have y3 := q3 H2 KH2
          have y4 := v2 (H1.push B) KB
          have y5 := v2 H2 KH2
          have e2 : H2.get H.next = some (.cells 32 false [.int .i64 0, .int .i64 0, .nilSlice, .nilSlice, .nilSlice, .int .i64 0, .int .i64 0, .int .i64 0]) := by
            rw [t2.get _ (by simp; omega), AH.push_get, if_neg hne]; exact e1
          have e3 : H2.get H1.next = some B := by rw [t2.get _ (by simp)]; simp
          have hn2 := t2.next
          simp only [AH.push_next] at hn2
          have hne' : ¬ (H1.next = H.next) := by omega
          have hp1 : Kp H1 H2 := ((Kp.refl H1).push _).trans t2
          unfold badTag
          generalize (strOf (tagL o (l.take (l.length - 8)))) = x1 at *
          generalize (strOf (l.drop (l.length - 8))) = x2 at *
          simp only [B, hdr] at *
          simp only [c4, c3] at p1 e3 y1 y2 y4 t1 ⊢
          by_cases c5 : x1.toList = x2.toList
          · simp [c5]
            simp [Try.f21, ldVar, stVar, L1, L2, T1, c1', c2', p1, e1, e2, e3, hne, hne', spl, w1, y1, y2, y3, y4, y5, t1, v1, c5, p3.bs.one, p4.bs.one, p5.bs.one, hdr, evHist, ObsOk, ObOk]
            simp only [AH.push_next] at p3
            have hb2 : sb ≤ H2.next := by omega
            exact ⟨_, _, _, _, ⟨⟨⟨c4.symm, rfl, rfl, rfl⟩, c3.symm⟩, rfl⟩, (KH2.set (Nat.le_refl _) _), sa, sb, by omega, i2, by simp; omega,
              (((p3.kp hp1).set _ (.inl (by omega))).wide (by omega) (Nat.le_refl _) (by simp; omega)), ((p4.kp hp1).set _ (.inl (by omega))), (((p5.kp hp1).set _ (.inl (by omega))).wide (Nat.le_refl _) (by simp; omega) (by simp))⟩
          · simp [c5]
            simp [Try.f21, ldVar, stVar, L1, L2, T1, c1', c2', p1, e1, e2, e3, hne, hne', spl, w1, y1, y2, y3, y4, y5, t1, v1, c5, p3.bs.one, p4.bs.one, p5.bs.one, hdr, perr, evHist, ObsOk, ObOk]
            exact ⟨_, _, _, _, ⟨⟨rfl, rfl, rfl⟩, rfl⟩, (KH2.set (Nat.le_refl _) _), RiEnd.nil (by simp; omega)⟩
        · rw [if_pos (by simpa using c4)]
          simp only [hdr, c3] at p1
          simp [Try.f21, ldVar, stVar, L1, L2, T1, c1', c2', p1, c4, e1, hne, perr, hdr, spl, p3.bs.one, p4.bs.one, p5.bs.one]
          exact ⟨_, _, _, _, ⟨⟨rfl, rfl, rfl⟩, rfl⟩, (K1.push _).set (Nat.le_refl _) _, RiEnd.nil (by simp; omega)⟩
      · rw [if_pos (by simpa using c3)]
        simp only [hdr] at p1
        simp [Try.f21, ldVar, stVar, L1, L2, T1, c1', c2', p1, c3, e1, hne, perr, hdr, spl, p3.bs.one, p4.bs.one, p5.bs.one]
        exact ⟨_, _, _, _, ⟨⟨rfl, rfl, rfl⟩, rfl⟩, (K1.push _).set (Nat.le_refl _) _, RiEnd.nil (by simp; omega)⟩
end Go.Ev

/- The law FnExactRetryOK by the evaluator. -/
namespace Go.Ev
open Go Go.Proofs
set_option linter.unusedSimpArgs false
set_option linter.unusedVariables false

theorem law5 {H : AH} {s1 s2 : AV} {l o : List Int} (h1 : Bs H s1 l) (h2 : Bs H s2 o) (hb : By l) (ho : By o) (m : Nat) (hm : 2000000 ≤ m) : ∃ H', ev Try.prog m 5 [s1, s2] H = some (.bool true, H') := by
  obtain ⟨m, rfl⟩ : ∃ k, m = k + 1 := ⟨m - 1, by omega⟩
  have L1 : ∀ h, lenA Try.prog 22 s1 h = some (.int .i64 l.length) := h1.len
  have L2 : ∀ h, lenA Try.prog 22 s2 h = some (.int .i64 o.length) := h2.len
  rw [ev_eq Try.func5 ok5 m _ H (by simp [Try.f5])]
  by_cases hl : 1048576 < l.length
  · have hl' : 1048576 < (l.length : Int) := by omega
    simp [Try.f5, L1, hl']
  · have hl' : ¬ (1048576 < (l.length : Int)) := by omega
    by_cases hol : 1048576 < o.length
    · have hol' : 1048576 < (o.length : Int) := by omega
      simp [Try.f5, L1, hl', L2, hol']
    · have hol' : ¬ (1048576 < (o.length : Int)) := by omega
      have hsh := RetryP_sh l o
      obtain ⟨xb, H1, a1, a2, a3⟩ := toByteS_evm h1 (Kp.refl H) (by omega) m (by omega)
      obtain ⟨xo, H1', a1', a2', a3'⟩ := toByteS_evm h2 a2 (by omega) m (by omega)
      obtain ⟨d, s', t, H2, b1, b2, b3, b4, b5⟩ := RetryS_ev (a3.kp a2').bs a3'.bs hb ho m (by omega)
      generalize hR : RetryP l o = R at *
      obtain ⟨hD, hS, hT⟩ := hsh
      have K2 := (a2.trans a2').trans b2
      let B2 : Blk := .cells 32 false [.int .i64 R.f, .int .i64 R.v, d, s', t, .int .i64 0, .int .i64 0, .int .i64 0]
      have K3 : Kp H (H2.push B2) := K2.push _
      obtain ⟨x0, H4, c1, c2, c3⟩ := toByteS_evm h1 K3 (by omega) m (by omega)
      obtain ⟨x1, H4', c1', c2', c3'⟩ := toByteS_evm h2 (K3.trans c2) (by omega) m (by omega)
      have K4 := (K3.trans c2).trans c2'
      obtain ⟨d1, s1', t1, H5, e1, e2, ra, rb, e3, e4, e5, e6, e7, e8⟩ := RetryI_ev (c3.kp c2').bs c3'.bs hb ho m (by omega)
      rw [hR] at e1 e6 e7 e8
      let B5 : Blk := .cells 32 false [.int .i64 R.f, .int .i64 R.v, d1, s1', t1, .int .i64 0, .int .i64 0, .int .i64 0]
      have k6 : Kp H5 (H5.push B5) := (Kp.refl H5).push _
      have KW6 : Kp (H2.push B2) (H5.push B5) := ((c2.trans c2').trans e2).trans k6
      have P2 : Kp H2 (H2.push B2) := (Kp.refl H2).push _
      obtain ⟨H7, f1, f2⟩ := eqHeader_ev (f := R.f) (v := R.v) ((e6.kp k6).bs) (b3.kp (P2.trans KW6)) ((e7.kp k6).bs) (b4.kp (P2.trans KW6)) ((e8.kp k6).bs) (b5.kp (P2.trans KW6)) (B := 1048576) (by omega) (by omega) (by omega) (by omega) m (by omega)
      obtain ⟨x2, H8, g1, g2, g3⟩ := toByteS_evm h1 ((K4.trans e2).trans (k6.trans f2)) (by omega) m (by omega)
      have kx : Kp H4' H8 := (e2.trans k6).trans (f2.trans g2)
      have o8 : Ow (H2.push B2).next H4.next H8 x0 l := (c3.kp c2').kp kx
      have q1 := eqByteS_ev o8.bs g3.bs (by omega) m (by omega)
      simp only [decide_true] at q1
      obtain ⟨x3, H8', g1', g2', g3'⟩ := toByteS_evm h2 (((K4.trans e2).trans (k6.trans f2)).trans g2) (by omega) m (by omega)
      have o8' : Ow H4.next H4'.next H8' x1 o := (c3'.kp kx).kp g2'
      have q2 := eqByteS_ev o8'.bs g3'.bs (by omega) m (by omega)
      simp only [decide_true] at q2
      obtain ⟨H9, i1, i2, i3, i4⟩ := markByteS_ev (o8.kp g2') (by omega) 1 (by omega) (by omega) m (by omega)
      obtain ⟨H9', i1', i2', i3', i4'⟩ := markByteS_ev (o8'.ko i2 (.inr (Nat.le_refl _))) (by omega) (1 + (l.length : Int)) (by omega) (by omega) m (by omega)
      have n24 : (H2.push B2).next ≤ H4.next := c2.next
      have n44 : H4.next ≤ H4'.next := c2'.next
      have KW8 : Kp (H2.push B2) H8' := ((KW6.trans f2).trans g2).trans g2'
      have KW9 : Kp (H2.push B2) H9' := i2'.kp (i2.kp KW8 (Nat.le_refl _)) n24
      have D9 : Ow H4'.next ra H9' d1 R.D := (((((e6.kp k6).kp f2).kp g2).kp g2').ko i2 (.inr n44)).ko i2' (.inr (Nat.le_refl _))
      have S9 : Ow ra rb H9' s1' R.S := (((((e7.kp k6).kp f2).kp g2).kp g2').ko i2 (.inr (by omega))).ko i2' (.inr e3)
      have T9 : Ow rb H5.next H9' t1 R.T := (((((e8.kp k6).kp f2).kp g2).kp g2').ko i2 (.inr (by omega))).ko i2' (.inr (by omega))
      obtain ⟨H10, j1, j2⟩ := eqHeader_ev (f := R.f) (v := R.v) D9.bs (b3.kp (P2.trans KW9)) S9.bs (b4.kp (P2.trans KW9)) T9.bs (b5.kp (P2.trans KW9)) (B := 1048576) (by omega) (by omega) (by omega) (by omega) m (by omega)
      have n5 : H5.next ≤ H9'.next := by have := k6.next; have := f2.next; have := g2.next; have := g2'.next; have := i2.next; have := i2'.next; omega
      obtain ⟨H11, m1, m2, m3, m4, m5⟩ := markHeader_ev (f := R.f) (v := R.v) (D9.kp j2) (S9.kp j2) (T9.kp j2) e3 e4 e5 (by have := j2.next; omega) (B := 1048576) (by omega) (by omega) (by omega) (by omega) 1 (by omega) (by omega) m (by omega)
      obtain ⟨H12, p1, p2⟩ := heldHeader_ev (f := R.f) (v := R.v) m3.bs m4.bs m5.bs (B := 1048576) (by omega) (by omega) (by omega) (by omega) (by omega) (by omega) m (by omega)
      have KH8 : Kp H H8' := (((K4.trans e2).trans (k6.trans f2)).trans g2).trans g2'
      have n3 : H.next ≤ (H2.push B2).next := K3.next
      have KH9 : Kp H H9' := i2'.kp (i2.kp KH8 n3) (by omega)
      have KH11 : Kp H H11 := m2.kp (KH9.trans j2) (by omega)
      have KW11 : Kp (H2.push B2) H11 := m2.kp (KW9.trans j2) (by omega)
      obtain ⟨x4, H13, r1, r2, r3⟩ := toByteS_evm h1 (KH11.trans p2) (by omega) m (by omega)
      obtain ⟨x5, H13', r1', r2', r3'⟩ := toByteS_evm h2 ((KH11.trans p2).trans r2) (by omega) m (by omega)
      obtain ⟨d2, s2', t2, H14, u1, u2, rc, rd, u3, u4, u5, u6, u7, u8⟩ := RetryI_ev (r3.kp r2').bs r3'.bs hb ho m (by omega)
      rw [hR] at u1 u6 u7 u8
      let B14 : Blk := .cells 32 false [.int .i64 R.f, .int .i64 R.v, d2, s2', t2, .int .i64 0, .int .i64 0, .int .i64 0]
      have k15 : Kp H14 (H14.push B14) := (Kp.refl H14).push _
      have k1114 : Kp H11 H14 := ((p2.trans r2).trans r2').trans u2
      have KW14 : Kp (H2.push B2) H14 := KW11.trans k1114
      have KW15 : Kp (H2.push B2) (H14.push B14) := KW14.trans k15
      obtain ⟨H16, v1, v2⟩ := eqHeader_ev (f := R.f) (v := R.v) ((u6.kp k15).bs) (b3.kp (P2.trans KW15)) ((u7.kp k15).bs) (b4.kp (P2.trans KW15)) ((u8.kp k15).bs) (b5.kp (P2.trans KW15)) (B := 1048576) (by omega) (by omega) (by omega) (by omega) m (by omega)
      have k16 : Kp H11 H16 := (k1114.trans k15).trans v2
      obtain ⟨H17, w1, w2⟩ := heldHeader_ev (f := R.f) (v := R.v) (m3.kp k16).bs (m4.kp k16).bs (m5.kp k16).bs (B := 1048576) (by omega) (by omega) (by omega) (by omega) (by omega) (by omega) m (by omega)
      have n45 := e2.next
      have hW : (H2.push B2).get H2.next = some B2 := by rw [AH.push_get, if_pos rfl]
      have hWn : H2.next < (H2.push B2).next := by simp
      have y5 : H5.get H2.next = some B2 := (((c2.trans c2').trans e2).get _ hWn).trans hW
      have y9 : H9'.get H2.next = some B2 := (KW9.get _ hWn).trans hW
      have y14 : H14.get H2.next = some B2 := (KW14.get _ hWn).trans hW
      have z6 : (H5.push B5).get H5.next = some B5 := by rw [AH.push_get, if_pos rfl]
      have z8 : H8'.get H5.next = some B5 := (((f2.trans g2).trans g2').get _ (by simp)).trans z6
      have n8 : H5.next < H8'.next := by have := f2.next; have := g2.next; have := g2'.next; simp at *; omega
      have z9 : H9.get H5.next = some B5 := (i2.get _ n8 (.inr (by omega))).trans z8
      have n9 : H5.next < H9.next := by have := i2.next; omega
      have z9' : H9'.get H5.next = some B5 := (i2'.get _ n9 (.inr n45)).trans z9
      have n9' : H5.next < H9'.next := by have := i2'.next; omega
      have z10 : H10.get H5.next = some B5 := (j2.get _ n9').trans z9'
      have n10 : H5.next < H10.next := by have := j2.next; omega
      have z11 : H11.get H5.next = some B5 := (m2.get _ n10 (.inr (Nat.le_refl _))).trans z10
      have n11' : H5.next < H11.next := by have := m2.next; omega
      have z16 : H16.get H5.next = some B5 := (k16.get _ n11').trans z11
      have hw1 : (H2.push B2).next = H2.next + 1 := rfl
      have ne1 : ¬ (H2.next = H5.next) := by omega
      have nn14 : H5.next < H14.next := by have := k1114.next; omega
      have ne2 : ¬ (H2.next = H14.next) := by omega
      have ne3 : ¬ (H5.next = H14.next) := by omega
      have od := b3.one
      have os := b4.one
      have ot := b5.one
      have od1 := e6.bs.one
      have os1 := e7.bs.one
      have ot1 := e8.bs.one
      have od2 := u6.bs.one
      have os2 := u7.bs.one
      have ot2 := u8.bs.one
      have t1' : ¬ (1 + (l.length : Int) + (o.length : Int) < 0) := by omega
      have t2' : ¬ (1 + (R.D.length : Int) + R.S.length + R.T.length < 0) := by omega
      simp only [hdr, B2, B5, B14] at *
      exact ⟨H17, by simp [Try.f5, L1, hl', L2, hol', ldVar, stVar, a1, a1', b1, c1, c1', e1, f1, g1, g1', q1, q2, i1, i1', j1, m1, p1, r1, r1', u1, v1, w1, y5, y9, y14, z6, z8, z9, z9', z10, z11, z16, ne1, ne2, ne3, od, os, ot, od1, os1, ot1, od2, os2, ot2, t1', t2', evHist, ObsOk, ObOk]⟩
end Go.Ev
