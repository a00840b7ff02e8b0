/- Lemmas of an evaluator of the given code and of what the functions answer; no condition of its own. -/
import Derived.Test.YtcblbbilllokkaaEv7
/- The specification's peek: its first steps. -/
namespace Go.Ev
open Go Go.Proofs
set_option linter.unusedSimpArgs false
set_option linter.unusedVariables false

theorem n11 (n : Nat) : n + 1 + 1 = n + 2 := rfl
theorem n21 (n : Nat) : n + 2 + 1 = n + 3 := rfl
theorem push_set2 (H : AH) (a b y : Blk) : ((H.push a).push b).set (H.next + 1) y = (H.push a).push y := push_set b y rfl
/-- a block of its own, made behind n -/
def Ox (n : Nat) (H : AH) (s : AV) (l : List Int) : Prop := ∃ lo hi, n ≤ lo ∧ Ow lo hi H s l
theorem Ow.ox {lo hi n : Nat} {H : AH} {s : AV} {l : List Int} (h : Ow lo hi H s l) (hn : n ≤ lo) : Ox n H s l := ⟨lo, hi, hn, h⟩
theorem Ox.nil (n : Nat) (H : AH) : Ox n H .nilSlice [] := ⟨n, n, Nat.le_refl _, .inl ⟨rfl, rfl⟩⟩
theorem Ox.bs {n : Nat} {H : AH} {s : AV} {l : List Int} (h : Ox n H s l) : Bs H s l := by obtain ⟨_, _, _, h⟩ := h; exact h.bs
theorem Ox.set {n b : Nat} {H : AH} {s : AV} {l : List Int} (h : Ox n H s l) (x : Blk) (hb : b < n) : Ox n (H.set b x) s l := by
  obtain ⟨lo, hi, h1, h2⟩ := h; exact ⟨lo, hi, h1, h2.set _ (.inl (by omega))⟩
def PsRes (H : AH) (s : AV) (cid : Int) (m : Nat) (R : PR) : Prop := ∃ d s' t H', ev Try.prog m 38 [s, .int .i64 cid] H = some (.tuple [hdr R.f R.v d s' t, .int .i64 R.n, .int .i64 R.c], H') ∧ Kp H H' ∧ Ox H.next H' d R.D ∧ Ox H.next H' s' R.S ∧ Ox H.next H' t R.T
theorem peekS_pro {H : AH} {s : AV} {l : List Int} (hs : Bs H s l) (hb : By l) (hl : l.length ≤ 65536) (m : Nat) (hm : 29 ≤ m) {O : List Int} {a : Nat} {s0 : Bool} (hO : takeS l 0 false 1 = (O, a, s0)) :
    ∃ H1, ev Try.prog m 63 [.ptr (H.next + 2) 0, .int .i64 1] (((H.push (.cells 32 false zh)).push (.cells 32 false zh)).push (.cells 76 false [s, .int .i64 0, .bool false])) = some (.int .i64 (valP O), H1) ∧ H.next + 3 ≤ H1.next ∧ Kp H H1 ∧
      H1.get H.next = some (.cells 32 false zh) ∧ H1.get (H.next + 1) = some (.cells 32 false zh) ∧ H1.get (H.next + 2) = some (rdB s a s0) ∧ a ≤ l.length := by
  have K0 : Kp H (((H.push (.cells 32 false zh)).push (.cells 32 false zh)).push (.cells 76 false [s, .int .i64 0, .bool false])) := (((Kp.refl H).push _).push _).push _
  obtain ⟨H1, k1, k2, k3, k4⟩ := fixed_ev hs hb K0 (q := H.next + 2) (a := 0) (sh := false) (by omega) (by simp) (by simp [rdB]) (by omega) hl 1 (by omega) (by omega) m (by omega)
  rw [hO] at k1 k3 k4
  refine ⟨H1, k1, by have := k2.next; simp at this; omega, k2.kp K0 (by omega), ?_, ?_, k3, k4⟩
  · rw [k2.get _ (by simp <;> omega) (by omega)]; simp <;> omega
  · rw [k2.get _ (by simp <;> omega) (by omega)]; simp <;> omega
theorem valP1 {l : List Int} (hb : By l) (h : l.length ≤ 1) : 0 ≤ valP l ∧ valP l < 256 := by
  have h1 := valP_lt l hb
  match l, h with
  | [], _ => simp [valP]
  | [x], _ => simpa using h1
  | x :: y :: t, h => simp at h
theorem peekS_ids {Hb H : AH} {q a : Nat} {s : AV} {l : List Int} {s0 : Bool} (hs : Bs Hb s l) (hb : By l) (hK : Kp Hb H) (hqb : Hb.next ≤ q) (hqn : q < H.next) (hq : H.get q = some (rdB s a s0)) (ha : a ≤ l.length) (hl : l.length ≤ 65536) (m : Nat) (hm : 20 ≤ m)
    {V : List Int} {a1 : Nat} {s1 : Bool} (hV : takeS l a s0 4 = (V, a1, s1)) {N1 : List Int} {a2 : Nat} {s2 : Bool} (hN1 : takeS l a1 s1 1 = (N1, a2, s2)) {D : List Int} {a3 : Nat} {s3 : Bool} (hD : takeS l a2 s2 (valP N1) = (D, a3, s3))
    {N2 : List Int} {a4 : Nat} {s4 : Bool} (hN2 : takeS l a3 s3 1 = (N2, a4, s4)) {S : List Int} {a5 : Nat} {s5 : Bool} (hS : takeS l a4 s4 (valP N2) = (S, a5, s5)) :
    ∃ H2 H4 d H5 H6 t H7, ev Try.prog m 63 [.ptr q 0, .int .i64 4] H = some (.int .i64 (valP V), H2) ∧
      ev Try.prog m 63 [.ptr q 0, .int .i64 1] (H2.push (.cells 32 false [.int .i64 0, .int .i64 (valP V), .nilSlice, .nilSlice, .nilSlice, .int .i64 0, .int .i64 0, .int .i64 0])) = some (.int .i64 (valP N1), H4) ∧ H4.get q = some (rdB s a2 s2) ∧
      ev Try.prog m 64 [.ptr q 0, .int .i64 (valP N1)] H4 = some (d, H5) ∧ d.one = true ∧
      H5.get H2.next = some (.cells 32 false [.int .i64 0, .int .i64 (valP V), .nilSlice, .nilSlice, .nilSlice, .int .i64 0, .int .i64 0, .int .i64 0]) ∧
      ev Try.prog m 63 [.ptr q 0, .int .i64 1] (H5.set H2.next (.cells 32 false [.int .i64 0, .int .i64 (valP V), d, .nilSlice, .nilSlice, .int .i64 0, .int .i64 0, .int .i64 0])) = some (.int .i64 (valP N2), H6) ∧ H6.get q = some (rdB s a4 s4) ∧
      ev Try.prog m 64 [.ptr q 0, .int .i64 (valP N2)] H6 = some (t, H7) ∧ t.one = true ∧
      H7.get H2.next = some (.cells 32 false [.int .i64 0, .int .i64 (valP V), d, .nilSlice, .nilSlice, .int .i64 0, .int .i64 0, .int .i64 0]) ∧ H7.get q = some (rdB s a5 s5) ∧ a5 ≤ l.length ∧
      H.next ≤ H2.next ∧ H2.next < H4.next ∧ H4.next ≤ H5.next ∧ H5.next ≤ H6.next ∧ H6.next ≤ H7.next ∧
      (∀ b, b < H.next → b ≠ q → H4.get b = H.get b) ∧ (∀ b, b < H.next → b ≠ q → H6.get b = H.get b) ∧ (∀ b, b < H.next → b ≠ q → H7.get b = H.get b) ∧ Kp Hb H4 ∧ Kp Hb H6 ∧ Kp Hb H7 ∧ Ow H4.next H5.next H7 d D ∧ Ow H6.next H7.next H7 t S := by
  obtain ⟨H2, k1, k2, k3, k4⟩ := fixed_ev hs hb hK hqb hqn hq ha hl 4 (by omega) (by omega) m (by omega)
  rw [hV] at k1 k3 k4; simp only at k1 k3 k4
  have K2 := k2.kp hK hqb
  have n2 := k2.next
  have hne : ¬ (q = H2.next) := by omega
  have K3 := K2.push (.cells 32 false [.int .i64 0, .int .i64 (valP V), .nilSlice, .nilSlice, .nilSlice, .int .i64 0, .int .i64 0, .int .i64 0])
  obtain ⟨H4, l1, l2, l3, l4⟩ := fixed_ev hs hb K3 hqb (by simp; omega) (by rw [AH.push_get, if_neg hne]; exact k3) k4 hl 1 (by omega) (by omega) m (by omega)
  have hb1 := valP1 (takeS_by hb a1 s1 1) (by simpa using (takeS_len l a1 s1 1).1)
  rw [hN1] at l1 l3 l4 hb1; simp only at l1 l3 l4 hb1
  have K4 := l2.kp K3 hqb
  have n4 := l2.next
  simp only [AH.push_next] at n4
  obtain ⟨d, H5, i1, i2, i3, i4, i5⟩ := takeR_ev hs K4 hqb (by omega) l3 l4 hl (valP N1) hb1.1 (by omega) m (by omega)
  rw [hD] at i3 i4 i5; simp only at i3 i4 i5
  have K5 := i2.kp K4 hqb
  have n5 := i2.next
  have g5 : H5.get H2.next = some (.cells 32 false [.int .i64 0, .int .i64 (valP V), .nilSlice, .nilSlice, .nilSlice, .int .i64 0, .int .i64 0, .int .i64 0]) := by
    rw [i2.get _ (by omega) (by omega), l2.get _ (by simp) (by omega), AH.push_get, if_pos rfl]
  have K5' : Kp Hb (H5.set H2.next (.cells 32 false [.int .i64 0, .int .i64 (valP V), d, .nilSlice, .nilSlice, .int .i64 0, .int .i64 0, .int .i64 0])) := K5.set (by have := K2.next; omega) _
  obtain ⟨H6, j1, j2, j3, j4⟩ := fixed_ev hs hb K5' hqb (by simp; omega) (by rw [AH.set_get, if_neg hne]; exact i4) i5 hl 1 (by omega) (by omega) m (by omega)
  have hb2 := valP1 (takeS_by hb a3 s3 1) (by simpa using (takeS_len l a3 s3 1).1)
  rw [hN2] at j1 j3 j4 hb2; simp only at j1 j3 j4 hb2
  have K6 := j2.kp K5' hqb
  have n6 := j2.next
  simp only [AH.set_next] at n6
  obtain ⟨t, H7, p1, p2, p3, p4, p5⟩ := takeR_ev hs K6 hqb (by omega) j3 j4 hl (valP N2) hb2.1 (by omega) m (by omega)
  rw [hS] at p3 p4 p5; simp only at p3 p4 p5
  have n7 := p2.next
  have g4 : ∀ b, b < H.next → b ≠ q → H4.get b = H.get b := fun b h h' => by rw [l2.get b (by simp; omega) h', AH.push_get, if_neg (by omega), k2.get b h h']
  have g6 : ∀ b, b < H.next → b ≠ q → H6.get b = H.get b := fun b h h' => by rw [j2.get b (by simp; omega) h', AH.set_get, if_neg (by omega), i2.get b (by omega) h', g4 b h h']
  refine ⟨H2, H4, d, H5, H6, t, H7, k1, l1, l3, i1, i3.bs.one, g5, j1, j3, p1, p3.bs.one, ?_, p4, p5, n2, by omega, n5, n6, n7, g4, g6, fun b h h' => by rw [p2.get b (by omega) h', g6 b h h'], K4, K6, p2.kp K6 hqb, ?_, p3⟩
  · rw [p2.get _ (by omega) (by omega), j2.get _ (by simp; omega) (by omega), AH.set_get, if_pos rfl]
  · exact ((i3.set (b := H2.next) _ (by omega)).kx j2 (by omega)).kx p2 (by omega)
end Go.Ev

/- The specification's peek: short headers. -/
namespace Go.Ev
open Go Go.Proofs
set_option linter.unusedSimpArgs false
set_option linter.unusedVariables false

theorem peekS_A {H : AH} {s : AV} {l : List Int} {cid : Int} (hs : Bs H s l) (hb : By l) (hl : l.length ≤ 65536) (m : Nat) (hm : 40 ≤ m)
    {O : List Int} {a : Nat} {s0 : Bool} (hO : takeS l 0 false 1 = (O, a, s0)) (h0 : s0 = true) : PsRes H s cid m (perr 2) := by
  obtain ⟨m, rfl⟩ : ∃ k, m = k + 1 := ⟨m - 1, by omega⟩
  obtain ⟨H1, k1, n1', K1, z0, z1, hq1, ha⟩ := peekS_pro hs hb hl m (by omega) hO
  have hL : ∀ h, lenA Try.prog 22 s h = some (.int .i64 l.length) := hs.len
  subst h0
  simp only [rdB, zh] at *
  unfold PsRes
  rw [ev_eq Try.func38 ok38 m _ H (by simp [Try.f38])]
  simp [Try.f38, push_set2, n11, n21, ldVar, stVar, perr, hdr, hs.one, cells_one hs.one, hL, k1, z0, z1, hq1, evHist, ObsOk, ObOk]
  exact ⟨_, _, _, _, ⟨⟨rfl, rfl, rfl⟩, rfl⟩, K1.set (Nat.le_refl _) _, Ox.nil _ _, Ox.nil _ _, Ox.nil _ _⟩
theorem peekS_B {H : AH} {s : AV} {l : List Int} {cid : Int} (hs : Bs H s l) (hb : By l) (hl : l.length ≤ 65536) (m : Nat) (hm : 40 ≤ m)
    {O : List Int} {a : Nat} {s0 : Bool} (hO : takeS l 0 false 1 = (O, a, s0)) (h0 : s0 = false) (h64 : valP O < 64) : PsRes H s cid m (perr 3) := by
  obtain ⟨m, rfl⟩ : ∃ k, m = k + 1 := ⟨m - 1, by omega⟩
  obtain ⟨H1, k1, n1', K1, z0, z1, hq1, ha⟩ := peekS_pro hs hb hl m (by omega) hO
  have hL : ∀ h, lenA Try.prog 22 s h = some (.int .i64 l.length) := hs.len
  subst h0
  simp only [rdB, zh] at *
  unfold PsRes
  rw [ev_eq Try.func38 ok38 m _ H (by simp [Try.f38])]
  simp [Try.f38, push_set2, n11, n21, ldVar, stVar, perr, hdr, hs.one, cells_one hs.one, hL, k1, z0, z1, hq1, evHist, ObsOk, ObOk, h64]
  exact ⟨_, _, _, _, ⟨⟨rfl, rfl, rfl⟩, rfl⟩, K1.set (Nat.le_refl _) _, Ox.nil _ _, Ox.nil _ _, Ox.nil _ _⟩
theorem peekS_C1 {H : AH} {s : AV} {l : List Int} {cid : Int} (hs : Bs H s l) (hb : By l) (hl : l.length ≤ 65536) (m : Nat) (hm : 40 ≤ m)
    {O : List Int} {a : Nat} {s0 : Bool} (hO : takeS l 0 false 1 = (O, a, s0)) (h0 : s0 = false) (h64 : ¬ valP O < 64) (h128 : valP O < 128) (hc0 : 0 ≤ cid) (hc8 : cid ≤ 8) {D : List Int} {a1 : Nat} {s1 : Bool} (hD : takeS l a false cid = (D, a1, s1)) (h1 : s1 = true) : PsRes H s cid m (perr 2) := by
  obtain ⟨m, rfl⟩ : ∃ k, m = k + 1 := ⟨m - 1, by omega⟩
  obtain ⟨H1, k1, n1', K1, z0, z1, hq1, ha⟩ := peekS_pro hs hb hl m (by omega) hO
  have hL : ∀ h, lenA Try.prog 22 s h = some (.int .i64 l.length) := hs.len
  subst h0
  obtain ⟨d, H2, i1, i2, i3, i4, i5⟩ := takeR_ev hs K1 (q := H.next + 2) (by omega) (by omega) hq1 ha hl cid hc0 (by omega) m (by omega)
  rw [hD] at i3 i4 i5; simp only at i3 i4 i5
  have n2 := i2.next
  have K2 := i2.kp K1 (by omega)
  have y0 := (i2.get H.next (by omega) (by omega)).trans z0
  have y1 := (i2.get (H.next + 1) (by omega) (by omega)).trans z1
  subst h1
  have w0 : IntKind.i64.wrap ((l.length : Int) - a1) = l.length - a1 := wrap_i64 (by omega) (by omega)
  simp only [rdB, zh] at *
  unfold PsRes
  rw [ev_eq Try.func38 ok38 m _ H (by simp [Try.f38])]
  simp [Try.f38, push_set2, n11, n21, ldVar, stVar, perr, hdr, hs.one, cells_one hs.one, hL, k1, z0, z1, hq1, evHist, ObsOk, ObOk, h64, h128, i1, y0, y1, i4, w0, i3.bs.one, cells_one i3.bs.one]
  exact ⟨_, _, _, _, ⟨⟨rfl, rfl, rfl⟩, rfl⟩, K2.set (Nat.le_refl _) _, Ox.nil _ _, Ox.nil _ _, Ox.nil _ _⟩
theorem peekS_C2 {H : AH} {s : AV} {l : List Int} {cid : Int} (hs : Bs H s l) (hb : By l) (hl : l.length ≤ 65536) (m : Nat) (hm : 40 ≤ m)
    {O : List Int} {a : Nat} {s0 : Bool} (hO : takeS l 0 false 1 = (O, a, s0)) (h0 : s0 = false) (h64 : ¬ valP O < 64) (h128 : valP O < 128) (hc0 : 0 ≤ cid) (hc8 : cid ≤ 8) {D : List Int} {a1 : Nat} {s1 : Bool} (hD : takeS l a false cid = (D, a1, s1)) (h1 : s1 = false) (h2 : (l.length : Int) - a1 < 12) : PsRes H s cid m (perr 2) := by
  obtain ⟨m, rfl⟩ : ∃ k, m = k + 1 := ⟨m - 1, by omega⟩
  obtain ⟨H1, k1, n1', K1, z0, z1, hq1, ha⟩ := peekS_pro hs hb hl m (by omega) hO
  have hL : ∀ h, lenA Try.prog 22 s h = some (.int .i64 l.length) := hs.len
  subst h0
  obtain ⟨d, H2, i1, i2, i3, i4, i5⟩ := takeR_ev hs K1 (q := H.next + 2) (by omega) (by omega) hq1 ha hl cid hc0 (by omega) m (by omega)
  rw [hD] at i3 i4 i5; simp only at i3 i4 i5
  have n2 := i2.next
  have K2 := i2.kp K1 (by omega)
  have y0 := (i2.get H.next (by omega) (by omega)).trans z0
  have y1 := (i2.get (H.next + 1) (by omega) (by omega)).trans z1
  subst h1
  have w0 : IntKind.i64.wrap ((l.length : Int) - a1) = l.length - a1 := wrap_i64 (by omega) (by omega)
  simp only [rdB, zh] at *
  unfold PsRes
  rw [ev_eq Try.func38 ok38 m _ H (by simp [Try.f38])]
  simp [Try.f38, push_set2, n11, n21, ldVar, stVar, perr, hdr, hs.one, cells_one hs.one, hL, k1, z0, z1, hq1, evHist, ObsOk, ObOk, h64, h128, i1, y0, y1, i4, w0, i3.bs.one, cells_one i3.bs.one, h2]
  exact ⟨_, _, _, _, ⟨⟨rfl, rfl, rfl⟩, rfl⟩, K2.set (Nat.le_refl _) _, Ox.nil _ _, Ox.nil _ _, Ox.nil _ _⟩
theorem peekS_C3 {H : AH} {s : AV} {l : List Int} {cid : Int} (hs : Bs H s l) (hb : By l) (hl : l.length ≤ 65536) (m : Nat) (hm : 40 ≤ m)
    {O : List Int} {a : Nat} {s0 : Bool} (hO : takeS l 0 false 1 = (O, a, s0)) (h0 : s0 = false) (h64 : ¬ valP O < 64) (h128 : valP O < 128) (hc0 : 0 ≤ cid) (hc8 : cid ≤ 8) {D : List Int} {a1 : Nat} {s1 : Bool} (hD : takeS l a false cid = (D, a1, s1)) (h1 : s1 = false) (h2 : ¬ (l.length : Int) - a1 < 12) : PsRes H s cid m ⟨0, 4, 0, D, [], [], l.length⟩ := by
  obtain ⟨m, rfl⟩ : ∃ k, m = k + 1 := ⟨m - 1, by omega⟩
  obtain ⟨H1, k1, n1', K1, z0, z1, hq1, ha⟩ := peekS_pro hs hb hl m (by omega) hO
  have hL : ∀ h, lenA Try.prog 22 s h = some (.int .i64 l.length) := hs.len
  subst h0
  obtain ⟨d, H2, i1, i2, i3, i4, i5⟩ := takeR_ev hs K1 (q := H.next + 2) (by omega) (by omega) hq1 ha hl cid hc0 (by omega) m (by omega)
  rw [hD] at i3 i4 i5; simp only at i3 i4 i5
  have n2 := i2.next
  have K2 := i2.kp K1 (by omega)
  have y0 := (i2.get H.next (by omega) (by omega)).trans z0
  have y1 := (i2.get (H.next + 1) (by omega) (by omega)).trans z1
  subst h1
  have w0 : IntKind.i64.wrap ((l.length : Int) - a1) = l.length - a1 := wrap_i64 (by omega) (by omega)
  simp only [rdB, zh] at *
  unfold PsRes
  rw [ev_eq Try.func38 ok38 m _ H (by simp [Try.f38])]
  simp [Try.f38, push_set2, n11, n21, ldVar, stVar, perr, hdr, hs.one, cells_one hs.one, hL, k1, z0, z1, hq1, evHist, ObsOk, ObOk, h64, h128, i1, y0, y1, i4, w0, i3.bs.one, cells_one i3.bs.one, h2]
  exact ⟨_, _, _, _, ⟨⟨rfl, rfl, rfl⟩, rfl⟩, K2.set (Nat.le_refl _) _, (i3.set _ (by omega)).ox (by omega), Ox.nil _ _, Ox.nil _ _⟩
end Go.Ev

/- The specification's peek: both ids. -/
namespace Go.Ev
open Go Go.Proofs
set_option linter.unusedSimpArgs false
set_option linter.unusedVariables false

theorem peekS_L1 {H : AH} {s : AV} {l : List Int} {cid : Int} (hs : Bs H s l) (hb : By l) (hl : l.length ≤ 65536) (m : Nat) (hm : 40 ≤ m)
    {O : List Int} {a : Nat} {s0 : Bool} (hO : takeS l 0 false 1 = (O, a, s0)) (h0 : s0 = false) (h128 : 128 ≤ valP O)
    {V : List Int} {a1 : Nat} {s1 : Bool} (hV : takeS l a false 4 = (V, a1, s1)) {N1 : List Int} {a2 : Nat} {s2 : Bool} (hN1 : takeS l a1 s1 1 = (N1, a2, s2)) {D : List Int} {a3 : Nat} {s3 : Bool} (hD : takeS l a2 s2 (valP N1) = (D, a3, s3))
    {N2 : List Int} {a4 : Nat} {s4 : Bool} (hN2 : takeS l a3 s3 1 = (N2, a4, s4)) {S : List Int} {a5 : Nat} {s5 : Bool} (hS : takeS l a4 s4 (valP N2) = (S, a5, s5)) (h2 : s2 = true) : PsRes H s cid m (perr 2) := by
  obtain ⟨m, rfl⟩ : ∃ k, m = k + 1 := ⟨m - 1, by omega⟩
  obtain ⟨H1, k1, n1', K1, z0, z1, hq1, ha⟩ := peekS_pro hs hb hl m (by omega) hO
  have hL : ∀ h, lenA Try.prog 22 s h = some (.int .i64 l.length) := hs.len
  subst h0
  obtain ⟨H2, H4, d, H5, H6, t, H7, f1, f2, q4, f3, do1, g5, f4, q6, f5, to1, g7, q7, ha5, N2', N4, N5, N6, N7, G4, G6, G7, K4, K6, K7, Do, So⟩ := peekS_ids hs hb K1 (q := H.next + 2) (by omega) (by omega) hq1 ha hl m (by omega) hV hN1 hD hN2 hS
  have e40 := (G4 H.next (by omega) (by omega)).trans z0
  have e41 := (G4 (H.next + 1) (by omega) (by omega)).trans z1
  have e60 := (G6 H.next (by omega) (by omega)).trans z0
  have e61 := (G6 (H.next + 1) (by omega) (by omega)).trans z1
  have e70 := (G7 H.next (by omega) (by omega)).trans z0
  have e71 := (G7 (H.next + 1) (by omega) (by omega)).trans z1
  have m0 : ¬ (H.next = H2.next) := by omega
  have m0' : ¬ (H2.next = H.next) := by omega
  have m1 : ¬ (H.next + 1 = H2.next) := by omega
  have m1' : ¬ (H2.next = H.next + 1) := by omega
  have m2 : ¬ (H.next + 2 = H2.next) := by omega
  have m2' : ¬ (H2.next = H.next + 2) := by omega
  have r1 : ¬ (valP O < 64) := by omega
  have r2 : ¬ (valP O < 128) := by omega
  subst h2
  have ft := fault_ev q4 m (by omega)
  simp only [rdB, zh] at *
  unfold PsRes
  rw [ev_eq Try.func38 ok38 m _ H (by simp [Try.f38])]
  simp [Try.f38, push_set2, n11, n21, ldVar, stVar, perr, hdr, hs.one, cells_one hs.one, hL, k1, z0, z1, hq1, evHist, ObsOk, ObOk, f1, f2, q4, f3, do1, cells_one do1, g5, f4, q6, f5, to1, cells_one to1, g7, q7, e40, e41, e60, e61, e70, e71, m0, m0', m1, m1', m2, m2', r1, r2, ft]
  exact ⟨_, _, _, _, ⟨⟨rfl, rfl, rfl⟩, rfl⟩, K4.set (Nat.le_refl _) _, Ox.nil _ _, Ox.nil _ _, Ox.nil _ _⟩
theorem peekS_L2 {H : AH} {s : AV} {l : List Int} {cid : Int} (hs : Bs H s l) (hb : By l) (hl : l.length ≤ 65536) (m : Nat) (hm : 40 ≤ m)
    {O : List Int} {a : Nat} {s0 : Bool} (hO : takeS l 0 false 1 = (O, a, s0)) (h0 : s0 = false) (h128 : 128 ≤ valP O)
    {V : List Int} {a1 : Nat} {s1 : Bool} (hV : takeS l a false 4 = (V, a1, s1)) {N1 : List Int} {a2 : Nat} {s2 : Bool} (hN1 : takeS l a1 s1 1 = (N1, a2, s2)) {D : List Int} {a3 : Nat} {s3 : Bool} (hD : takeS l a2 s2 (valP N1) = (D, a3, s3))
    {N2 : List Int} {a4 : Nat} {s4 : Bool} (hN2 : takeS l a3 s3 1 = (N2, a4, s4)) {S : List Int} {a5 : Nat} {s5 : Bool} (hS : takeS l a4 s4 (valP N2) = (S, a5, s5)) (h2 : s2 = false) (h3 : 8 < valP N1) : PsRes H s cid m (perr 3) := by
  obtain ⟨m, rfl⟩ : ∃ k, m = k + 1 := ⟨m - 1, by omega⟩
  obtain ⟨H1, k1, n1', K1, z0, z1, hq1, ha⟩ := peekS_pro hs hb hl m (by omega) hO
  have hL : ∀ h, lenA Try.prog 22 s h = some (.int .i64 l.length) := hs.len
  subst h0
  obtain ⟨H2, H4, d, H5, H6, t, H7, f1, f2, q4, f3, do1, g5, f4, q6, f5, to1, g7, q7, ha5, N2', N4, N5, N6, N7, G4, G6, G7, K4, K6, K7, Do, So⟩ := peekS_ids hs hb K1 (q := H.next + 2) (by omega) (by omega) hq1 ha hl m (by omega) hV hN1 hD hN2 hS
  have e40 := (G4 H.next (by omega) (by omega)).trans z0
  have e41 := (G4 (H.next + 1) (by omega) (by omega)).trans z1
  have e60 := (G6 H.next (by omega) (by omega)).trans z0
  have e61 := (G6 (H.next + 1) (by omega) (by omega)).trans z1
  have e70 := (G7 H.next (by omega) (by omega)).trans z0
  have e71 := (G7 (H.next + 1) (by omega) (by omega)).trans z1
  have m0 : ¬ (H.next = H2.next) := by omega
  have m0' : ¬ (H2.next = H.next) := by omega
  have m1 : ¬ (H.next + 1 = H2.next) := by omega
  have m1' : ¬ (H2.next = H.next + 1) := by omega
  have m2 : ¬ (H.next + 2 = H2.next) := by omega
  have m2' : ¬ (H2.next = H.next + 2) := by omega
  have r1 : ¬ (valP O < 64) := by omega
  have r2 : ¬ (valP O < 128) := by omega
  subst h2
  have ft := fault_ev q4 m (by omega)
  simp only [rdB, zh] at *
  unfold PsRes
  rw [ev_eq Try.func38 ok38 m _ H (by simp [Try.f38])]
  simp [Try.f38, push_set2, n11, n21, ldVar, stVar, perr, hdr, hs.one, cells_one hs.one, hL, k1, z0, z1, hq1, evHist, ObsOk, ObOk, f1, f2, q4, f3, do1, cells_one do1, g5, f4, q6, f5, to1, cells_one to1, g7, q7, e40, e41, e60, e61, e70, e71, m0, m0', m1, m1', m2, m2', r1, r2, ft, h3]
  exact ⟨_, _, _, _, ⟨⟨rfl, rfl, rfl⟩, rfl⟩, K4.set (Nat.le_refl _) _, Ox.nil _ _, Ox.nil _ _, Ox.nil _ _⟩
theorem peekS_L3 {H : AH} {s : AV} {l : List Int} {cid : Int} (hs : Bs H s l) (hb : By l) (hl : l.length ≤ 65536) (m : Nat) (hm : 40 ≤ m)
    {O : List Int} {a : Nat} {s0 : Bool} (hO : takeS l 0 false 1 = (O, a, s0)) (h0 : s0 = false) (h128 : 128 ≤ valP O)
    {V : List Int} {a1 : Nat} {s1 : Bool} (hV : takeS l a false 4 = (V, a1, s1)) {N1 : List Int} {a2 : Nat} {s2 : Bool} (hN1 : takeS l a1 s1 1 = (N1, a2, s2)) {D : List Int} {a3 : Nat} {s3 : Bool} (hD : takeS l a2 s2 (valP N1) = (D, a3, s3))
    {N2 : List Int} {a4 : Nat} {s4 : Bool} (hN2 : takeS l a3 s3 1 = (N2, a4, s4)) {S : List Int} {a5 : Nat} {s5 : Bool} (hS : takeS l a4 s4 (valP N2) = (S, a5, s5)) (h2 : s2 = false) (h3 : ¬ 8 < valP N1) (h4 : s4 = true) : PsRes H s cid m (perr 2) := by
  obtain ⟨m, rfl⟩ : ∃ k, m = k + 1 := ⟨m - 1, by omega⟩
  obtain ⟨H1, k1, n1', K1, z0, z1, hq1, ha⟩ := peekS_pro hs hb hl m (by omega) hO
  have hL : ∀ h, lenA Try.prog 22 s h = some (.int .i64 l.length) := hs.len
  subst h0
  obtain ⟨H2, H4, d, H5, H6, t, H7, f1, f2, q4, f3, do1, g5, f4, q6, f5, to1, g7, q7, ha5, N2', N4, N5, N6, N7, G4, G6, G7, K4, K6, K7, Do, So⟩ := peekS_ids hs hb K1 (q := H.next + 2) (by omega) (by omega) hq1 ha hl m (by omega) hV hN1 hD hN2 hS
  have e40 := (G4 H.next (by omega) (by omega)).trans z0
  have e41 := (G4 (H.next + 1) (by omega) (by omega)).trans z1
  have e60 := (G6 H.next (by omega) (by omega)).trans z0
  have e61 := (G6 (H.next + 1) (by omega) (by omega)).trans z1
  have e70 := (G7 H.next (by omega) (by omega)).trans z0
  have e71 := (G7 (H.next + 1) (by omega) (by omega)).trans z1
  have m0 : ¬ (H.next = H2.next) := by omega
  have m0' : ¬ (H2.next = H.next) := by omega
  have m1 : ¬ (H.next + 1 = H2.next) := by omega
  have m1' : ¬ (H2.next = H.next + 1) := by omega
  have m2 : ¬ (H.next + 2 = H2.next) := by omega
  have m2' : ¬ (H2.next = H.next + 2) := by omega
  have r1 : ¬ (valP O < 64) := by omega
  have r2 : ¬ (valP O < 128) := by omega
  subst h2
  subst h4
  have ft := fault_ev q6 m (by omega)
  simp only [rdB, zh] at *
  unfold PsRes
  rw [ev_eq Try.func38 ok38 m _ H (by simp [Try.f38])]
  simp [Try.f38, push_set2, n11, n21, ldVar, stVar, perr, hdr, hs.one, cells_one hs.one, hL, k1, z0, z1, hq1, evHist, ObsOk, ObOk, f1, f2, q4, f3, do1, cells_one do1, g5, f4, q6, f5, to1, cells_one to1, g7, q7, e40, e41, e60, e61, e70, e71, m0, m0', m1, m1', m2, m2', r1, r2, ft, h3]
  exact ⟨_, _, _, _, ⟨⟨rfl, rfl, rfl⟩, rfl⟩, K6.set (Nat.le_refl _) _, Ox.nil _ _, Ox.nil _ _, Ox.nil _ _⟩
theorem peekS_L4 {H : AH} {s : AV} {l : List Int} {cid : Int} (hs : Bs H s l) (hb : By l) (hl : l.length ≤ 65536) (m : Nat) (hm : 40 ≤ m)
    {O : List Int} {a : Nat} {s0 : Bool} (hO : takeS l 0 false 1 = (O, a, s0)) (h0 : s0 = false) (h128 : 128 ≤ valP O)
    {V : List Int} {a1 : Nat} {s1 : Bool} (hV : takeS l a false 4 = (V, a1, s1)) {N1 : List Int} {a2 : Nat} {s2 : Bool} (hN1 : takeS l a1 s1 1 = (N1, a2, s2)) {D : List Int} {a3 : Nat} {s3 : Bool} (hD : takeS l a2 s2 (valP N1) = (D, a3, s3))
    {N2 : List Int} {a4 : Nat} {s4 : Bool} (hN2 : takeS l a3 s3 1 = (N2, a4, s4)) {S : List Int} {a5 : Nat} {s5 : Bool} (hS : takeS l a4 s4 (valP N2) = (S, a5, s5)) (h2 : s2 = false) (h3 : ¬ 8 < valP N1) (h4 : s4 = false) (h5 : 8 < valP N2) : PsRes H s cid m (perr 3) := by
  obtain ⟨m, rfl⟩ : ∃ k, m = k + 1 := ⟨m - 1, by omega⟩
  obtain ⟨H1, k1, n1', K1, z0, z1, hq1, ha⟩ := peekS_pro hs hb hl m (by omega) hO
  have hL : ∀ h, lenA Try.prog 22 s h = some (.int .i64 l.length) := hs.len
  subst h0
  obtain ⟨H2, H4, d, H5, H6, t, H7, f1, f2, q4, f3, do1, g5, f4, q6, f5, to1, g7, q7, ha5, N2', N4, N5, N6, N7, G4, G6, G7, K4, K6, K7, Do, So⟩ := peekS_ids hs hb K1 (q := H.next + 2) (by omega) (by omega) hq1 ha hl m (by omega) hV hN1 hD hN2 hS
  have e40 := (G4 H.next (by omega) (by omega)).trans z0
  have e41 := (G4 (H.next + 1) (by omega) (by omega)).trans z1
  have e60 := (G6 H.next (by omega) (by omega)).trans z0
  have e61 := (G6 (H.next + 1) (by omega) (by omega)).trans z1
  have e70 := (G7 H.next (by omega) (by omega)).trans z0
  have e71 := (G7 (H.next + 1) (by omega) (by omega)).trans z1
  have m0 : ¬ (H.next = H2.next) := by omega
  have m0' : ¬ (H2.next = H.next) := by omega
  have m1 : ¬ (H.next + 1 = H2.next) := by omega
  have m1' : ¬ (H2.next = H.next + 1) := by omega
  have m2 : ¬ (H.next + 2 = H2.next) := by omega
  have m2' : ¬ (H2.next = H.next + 2) := by omega
  have r1 : ¬ (valP O < 64) := by omega
  have r2 : ¬ (valP O < 128) := by omega
  subst h2
  subst h4
  have ft := fault_ev q6 m (by omega)
  simp only [rdB, zh] at *
  unfold PsRes
  rw [ev_eq Try.func38 ok38 m _ H (by simp [Try.f38])]
  simp [Try.f38, push_set2, n11, n21, ldVar, stVar, perr, hdr, hs.one, cells_one hs.one, hL, k1, z0, z1, hq1, evHist, ObsOk, ObOk, f1, f2, q4, f3, do1, cells_one do1, g5, f4, q6, f5, to1, cells_one to1, g7, q7, e40, e41, e60, e61, e70, e71, m0, m0', m1, m1', m2, m2', r1, r2, ft, h3, h5]
  exact ⟨_, _, _, _, ⟨⟨rfl, rfl, rfl⟩, rfl⟩, K6.set (Nat.le_refl _) _, Ox.nil _ _, Ox.nil _ _, Ox.nil _ _⟩
theorem peekS_L5 {H : AH} {s : AV} {l : List Int} {cid : Int} (hs : Bs H s l) (hb : By l) (hl : l.length ≤ 65536) (m : Nat) (hm : 40 ≤ m)
    {O : List Int} {a : Nat} {s0 : Bool} (hO : takeS l 0 false 1 = (O, a, s0)) (h0 : s0 = false) (h128 : 128 ≤ valP O)
    {V : List Int} {a1 : Nat} {s1 : Bool} (hV : takeS l a false 4 = (V, a1, s1)) {N1 : List Int} {a2 : Nat} {s2 : Bool} (hN1 : takeS l a1 s1 1 = (N1, a2, s2)) {D : List Int} {a3 : Nat} {s3 : Bool} (hD : takeS l a2 s2 (valP N1) = (D, a3, s3))
    {N2 : List Int} {a4 : Nat} {s4 : Bool} (hN2 : takeS l a3 s3 1 = (N2, a4, s4)) {S : List Int} {a5 : Nat} {s5 : Bool} (hS : takeS l a4 s4 (valP N2) = (S, a5, s5)) (h2 : s2 = false) (h3 : ¬ 8 < valP N1) (h4 : s4 = false) (h5 : ¬ 8 < valP N2) (h6 : s5 = true) : PsRes H s cid m (perr 2) := by
  obtain ⟨m, rfl⟩ : ∃ k, m = k + 1 := ⟨m - 1, by omega⟩
  obtain ⟨H1, k1, n1', K1, z0, z1, hq1, ha⟩ := peekS_pro hs hb hl m (by omega) hO
  have hL : ∀ h, lenA Try.prog 22 s h = some (.int .i64 l.length) := hs.len
  subst h0
  obtain ⟨H2, H4, d, H5, H6, t, H7, f1, f2, q4, f3, do1, g5, f4, q6, f5, to1, g7, q7, ha5, N2', N4, N5, N6, N7, G4, G6, G7, K4, K6, K7, Do, So⟩ := peekS_ids hs hb K1 (q := H.next + 2) (by omega) (by omega) hq1 ha hl m (by omega) hV hN1 hD hN2 hS
  have e40 := (G4 H.next (by omega) (by omega)).trans z0
  have e41 := (G4 (H.next + 1) (by omega) (by omega)).trans z1
  have e60 := (G6 H.next (by omega) (by omega)).trans z0
  have e61 := (G6 (H.next + 1) (by omega) (by omega)).trans z1
  have e70 := (G7 H.next (by omega) (by omega)).trans z0
  have e71 := (G7 (H.next + 1) (by omega) (by omega)).trans z1
  have m0 : ¬ (H.next = H2.next) := by omega
  have m0' : ¬ (H2.next = H.next) := by omega
  have m1 : ¬ (H.next + 1 = H2.next) := by omega
  have m1' : ¬ (H2.next = H.next + 1) := by omega
  have m2 : ¬ (H.next + 2 = H2.next) := by omega
  have m2' : ¬ (H2.next = H.next + 2) := by omega
  have r1 : ¬ (valP O < 64) := by omega
  have r2 : ¬ (valP O < 128) := by omega
  subst h2
  subst h4
  subst h6
  simp only [rdB, zh] at *
  unfold PsRes
  rw [ev_eq Try.func38 ok38 m _ H (by simp [Try.f38])]
  simp [Try.f38, push_set2, n11, n21, ldVar, stVar, perr, hdr, hs.one, cells_one hs.one, hL, k1, z0, z1, hq1, evHist, ObsOk, ObOk, f1, f2, q4, f3, do1, cells_one do1, g5, f4, q6, f5, to1, cells_one to1, g7, q7, e40, e41, e60, e61, e70, e71, m0, m0', m1, m1', m2, m2', r1, r2, h3, h5]
  exact ⟨_, _, _, _, ⟨⟨rfl, rfl, rfl⟩, rfl⟩, (K7.set (by omega) _).set (Nat.le_refl _) _, Ox.nil _ _, Ox.nil _ _, Ox.nil _ _⟩
end Go.Ev

/- The specification's peek: versions. -/
namespace Go.Ev
open Go Go.Proofs
set_option linter.unusedSimpArgs false
set_option linter.unusedVariables false

theorem peekS_E1 {H : AH} {s : AV} {l : List Int} {cid : Int} (hs : Bs H s l) (hb : By l) (hl : l.length ≤ 65536) (m : Nat) (hm : 40 ≤ m)
    {O : List Int} {a : Nat} {s0 : Bool} (hO : takeS l 0 false 1 = (O, a, s0)) (h0 : s0 = false) (h128 : 128 ≤ valP O)
    {V : List Int} {a1 : Nat} {s1 : Bool} (hV : takeS l a false 4 = (V, a1, s1)) {N1 : List Int} {a2 : Nat} {s2 : Bool} (hN1 : takeS l a1 s1 1 = (N1, a2, s2)) {D : List Int} {a3 : Nat} {s3 : Bool} (hD : takeS l a2 s2 (valP N1) = (D, a3, s3))
    {N2 : List Int} {a4 : Nat} {s4 : Bool} (hN2 : takeS l a3 s3 1 = (N2, a4, s4)) {S : List Int} {a5 : Nat} {s5 : Bool} (hS : takeS l a4 s4 (valP N2) = (S, a5, s5)) (h2 : s2 = false) (h3 : ¬ 8 < valP N1) (h4 : s4 = false) (h5 : ¬ 8 < valP N2) (h6 : s5 = false) (h7 : valP V = 0) (h8 : valP O = 128) (h9 : versP (l.drop a5) = true) : PsRes H s cid m ⟨0, 5, 0, D, S, [], l.length⟩ := by
  obtain ⟨m, rfl⟩ : ∃ k, m = k + 1 := ⟨m - 1, by omega⟩
  obtain ⟨H1, k1, n1', K1, z0, z1, hq1, ha⟩ := peekS_pro hs hb hl m (by omega) hO
  have hL : ∀ h, lenA Try.prog 22 s h = some (.int .i64 l.length) := hs.len
  subst h0
  obtain ⟨H2, H4, d, H5, H6, t, H7, f1, f2, q4, f3, do1, g5, f4, q6, f5, to1, g7, q7, ha5, N2', N4, N5, N6, N7, G4, G6, G7, K4, K6, K7, Do, So⟩ := peekS_ids hs hb K1 (q := H.next + 2) (by omega) (by omega) hq1 ha hl m (by omega) hV hN1 hD hN2 hS
  have e40 := (G4 H.next (by omega) (by omega)).trans z0
  have e41 := (G4 (H.next + 1) (by omega) (by omega)).trans z1
  have e60 := (G6 H.next (by omega) (by omega)).trans z0
  have e61 := (G6 (H.next + 1) (by omega) (by omega)).trans z1
  have e70 := (G7 H.next (by omega) (by omega)).trans z0
  have e71 := (G7 (H.next + 1) (by omega) (by omega)).trans z1
  have m0 : ¬ (H.next = H2.next) := by omega
  have m0' : ¬ (H2.next = H.next) := by omega
  have m1 : ¬ (H.next + 1 = H2.next) := by omega
  have m1' : ¬ (H2.next = H.next + 1) := by omega
  have m2 : ¬ (H.next + 2 = H2.next) := by omega
  have m2' : ¬ (H2.next = H.next + 2) := by omega
  have r1 : ¬ (valP O < 64) := by omega
  have r2 : ¬ (valP O < 128) := by omega
  subst h2
  subst h4
  subst h6
  simp only [h7] at f1 f2 g5 f4 g7
  have KE : Kp H (H7.set H2.next (.cells 32 false [.int .i64 5, .int .i64 0, d, t, .nilSlice, .int .i64 0, .int .i64 0, .int .i64 0])) := K7.set (by omega) _
  obtain ⟨rv, HR, nV, y1, y2, y3, y4, y5⟩ := readVersions_ev (q := H.next + 2) hs hb KE (by omega) (by simp; omega) (by simp [m2, q7]) ha5 hl m (by omega)
  have w0 : HR.get H.next = some (.cells 32 false zh) := by rw [y2.get _ (by simp; omega) (by omega), AH.set_get, if_neg m0]; exact e70
  have w1 : HR.get (H.next + 1) = some (.cells 32 false zh) := by rw [y2.get _ (by simp; omega) (by omega), AH.set_get, if_neg m1]; exact e71
  have w2 : HR.get H2.next = some (.cells 32 false [.int .i64 5, .int .i64 0, d, t, .nilSlice, .int .i64 0, .int .i64 0, .int .i64 0]) := by rw [y2.get _ (by simp; omega) (by omega)]; simp
  have KR := y2.kp KE (by omega)
  have hnR := y2.next
  simp only [AH.set_next] at hnR
  have y6 := y4 h9
  simp only [rdB, zh] at *
  unfold PsRes
  rw [ev_eq Try.func38 ok38 m _ H (by simp [Try.f38])]
  simp [Try.f38, push_set2, n11, n21, ldVar, stVar, perr, hdr, hs.one, cells_one hs.one, hL, k1, z0, z1, hq1, evHist, ObsOk, ObOk, f1, f2, q4, f3, do1, cells_one do1, g5, f4, q6, f5, to1, cells_one to1, g7, q7, e40, e41, e60, e61, e70, e71, m0, m0', m1, m1', m2, m2', r1, r2, h3, h5, y1, y3, w0, w1, w2, h8, y6]
  exact ⟨_, _, _, _, ⟨⟨rfl, rfl, rfl⟩, rfl⟩, KR.set (Nat.le_refl _) _, (((Do.set _ (by omega)).kx y2 (by omega)).set _ (by omega)).ox (by omega), (((So.set _ (by omega)).kx y2 (by omega)).set _ (by omega)).ox (by omega), Ox.nil _ _⟩
theorem peekS_E2 {H : AH} {s : AV} {l : List Int} {cid : Int} (hs : Bs H s l) (hb : By l) (hl : l.length ≤ 65536) (m : Nat) (hm : 40 ≤ m)
    {O : List Int} {a : Nat} {s0 : Bool} (hO : takeS l 0 false 1 = (O, a, s0)) (h0 : s0 = false) (h128 : 128 ≤ valP O)
    {V : List Int} {a1 : Nat} {s1 : Bool} (hV : takeS l a false 4 = (V, a1, s1)) {N1 : List Int} {a2 : Nat} {s2 : Bool} (hN1 : takeS l a1 s1 1 = (N1, a2, s2)) {D : List Int} {a3 : Nat} {s3 : Bool} (hD : takeS l a2 s2 (valP N1) = (D, a3, s3))
    {N2 : List Int} {a4 : Nat} {s4 : Bool} (hN2 : takeS l a3 s3 1 = (N2, a4, s4)) {S : List Int} {a5 : Nat} {s5 : Bool} (hS : takeS l a4 s4 (valP N2) = (S, a5, s5)) (h2 : s2 = false) (h3 : ¬ 8 < valP N1) (h4 : s4 = false) (h5 : ¬ 8 < valP N2) (h6 : s5 = false) (h7 : valP V = 0) (h8 : ¬ valP O = 128) : PsRes H s cid m (perr 3) := by
  obtain ⟨m, rfl⟩ : ∃ k, m = k + 1 := ⟨m - 1, by omega⟩
  obtain ⟨H1, k1, n1', K1, z0, z1, hq1, ha⟩ := peekS_pro hs hb hl m (by omega) hO
  have hL : ∀ h, lenA Try.prog 22 s h = some (.int .i64 l.length) := hs.len
  subst h0
  obtain ⟨H2, H4, d, H5, H6, t, H7, f1, f2, q4, f3, do1, g5, f4, q6, f5, to1, g7, q7, ha5, N2', N4, N5, N6, N7, G4, G6, G7, K4, K6, K7, Do, So⟩ := peekS_ids hs hb K1 (q := H.next + 2) (by omega) (by omega) hq1 ha hl m (by omega) hV hN1 hD hN2 hS
  have e40 := (G4 H.next (by omega) (by omega)).trans z0
  have e41 := (G4 (H.next + 1) (by omega) (by omega)).trans z1
  have e60 := (G6 H.next (by omega) (by omega)).trans z0
  have e61 := (G6 (H.next + 1) (by omega) (by omega)).trans z1
  have e70 := (G7 H.next (by omega) (by omega)).trans z0
  have e71 := (G7 (H.next + 1) (by omega) (by omega)).trans z1
  have m0 : ¬ (H.next = H2.next) := by omega
  have m0' : ¬ (H2.next = H.next) := by omega
  have m1 : ¬ (H.next + 1 = H2.next) := by omega
  have m1' : ¬ (H2.next = H.next + 1) := by omega
  have m2 : ¬ (H.next + 2 = H2.next) := by omega
  have m2' : ¬ (H2.next = H.next + 2) := by omega
  have r1 : ¬ (valP O < 64) := by omega
  have r2 : ¬ (valP O < 128) := by omega
  subst h2
  subst h4
  subst h6
  simp only [h7] at f1 f2 g5 f4 g7
  have KE : Kp H (H7.set H2.next (.cells 32 false [.int .i64 5, .int .i64 0, d, t, .nilSlice, .int .i64 0, .int .i64 0, .int .i64 0])) := K7.set (by omega) _
  obtain ⟨rv, HR, nV, y1, y2, y3, y4, y5⟩ := readVersions_ev (q := H.next + 2) hs hb KE (by omega) (by simp; omega) (by simp [m2, q7]) ha5 hl m (by omega)
  have w0 : HR.get H.next = some (.cells 32 false zh) := by rw [y2.get _ (by simp; omega) (by omega), AH.set_get, if_neg m0]; exact e70
  have w1 : HR.get (H.next + 1) = some (.cells 32 false zh) := by rw [y2.get _ (by simp; omega) (by omega), AH.set_get, if_neg m1]; exact e71
  have w2 : HR.get H2.next = some (.cells 32 false [.int .i64 5, .int .i64 0, d, t, .nilSlice, .int .i64 0, .int .i64 0, .int .i64 0]) := by rw [y2.get _ (by simp; omega) (by omega)]; simp
  have KR := y2.kp KE (by omega)
  have hnR := y2.next
  simp only [AH.set_next] at hnR
  simp only [rdB, zh] at *
  unfold PsRes
  rw [ev_eq Try.func38 ok38 m _ H (by simp [Try.f38])]
  simp [Try.f38, push_set2, n11, n21, ldVar, stVar, perr, hdr, hs.one, cells_one hs.one, hL, k1, z0, z1, hq1, evHist, ObsOk, ObOk, f1, f2, q4, f3, do1, cells_one do1, g5, f4, q6, f5, to1, cells_one to1, g7, q7, e40, e41, e60, e61, e70, e71, m0, m0', m1, m1', m2, m2', r1, r2, h3, h5, y1, y3, w0, w1, w2, h8]
  exact ⟨_, _, _, _, ⟨⟨rfl, rfl, rfl⟩, rfl⟩, (K7.set (by omega) _).set (Nat.le_refl _) _, Ox.nil _ _, Ox.nil _ _, Ox.nil _ _⟩
theorem peekS_E3 {H : AH} {s : AV} {l : List Int} {cid : Int} (hs : Bs H s l) (hb : By l) (hl : l.length ≤ 65536) (m : Nat) (hm : 40 ≤ m)
    {O : List Int} {a : Nat} {s0 : Bool} (hO : takeS l 0 false 1 = (O, a, s0)) (h0 : s0 = false) (h128 : 128 ≤ valP O)
    {V : List Int} {a1 : Nat} {s1 : Bool} (hV : takeS l a false 4 = (V, a1, s1)) {N1 : List Int} {a2 : Nat} {s2 : Bool} (hN1 : takeS l a1 s1 1 = (N1, a2, s2)) {D : List Int} {a3 : Nat} {s3 : Bool} (hD : takeS l a2 s2 (valP N1) = (D, a3, s3))
    {N2 : List Int} {a4 : Nat} {s4 : Bool} (hN2 : takeS l a3 s3 1 = (N2, a4, s4)) {S : List Int} {a5 : Nat} {s5 : Bool} (hS : takeS l a4 s4 (valP N2) = (S, a5, s5)) (h2 : s2 = false) (h3 : ¬ 8 < valP N1) (h4 : s4 = false) (h5 : ¬ 8 < valP N2) (h6 : s5 = false) (h7 : valP V = 0) (h8 : valP O = 128) (h9 : versP (l.drop a5) = false) : PsRes H s cid m (perr 3) := by
  obtain ⟨m, rfl⟩ : ∃ k, m = k + 1 := ⟨m - 1, by omega⟩
  obtain ⟨H1, k1, n1', K1, z0, z1, hq1, ha⟩ := peekS_pro hs hb hl m (by omega) hO
  have hL : ∀ h, lenA Try.prog 22 s h = some (.int .i64 l.length) := hs.len
  subst h0
  obtain ⟨H2, H4, d, H5, H6, t, H7, f1, f2, q4, f3, do1, g5, f4, q6, f5, to1, g7, q7, ha5, N2', N4, N5, N6, N7, G4, G6, G7, K4, K6, K7, Do, So⟩ := peekS_ids hs hb K1 (q := H.next + 2) (by omega) (by omega) hq1 ha hl m (by omega) hV hN1 hD hN2 hS
  have e40 := (G4 H.next (by omega) (by omega)).trans z0
  have e41 := (G4 (H.next + 1) (by omega) (by omega)).trans z1
  have e60 := (G6 H.next (by omega) (by omega)).trans z0
  have e61 := (G6 (H.next + 1) (by omega) (by omega)).trans z1
  have e70 := (G7 H.next (by omega) (by omega)).trans z0
  have e71 := (G7 (H.next + 1) (by omega) (by omega)).trans z1
  have m0 : ¬ (H.next = H2.next) := by omega
  have m0' : ¬ (H2.next = H.next) := by omega
  have m1 : ¬ (H.next + 1 = H2.next) := by omega
  have m1' : ¬ (H2.next = H.next + 1) := by omega
  have m2 : ¬ (H.next + 2 = H2.next) := by omega
  have m2' : ¬ (H2.next = H.next + 2) := by omega
  have r1 : ¬ (valP O < 64) := by omega
  have r2 : ¬ (valP O < 128) := by omega
  subst h2
  subst h4
  subst h6
  simp only [h7] at f1 f2 g5 f4 g7
  have KE : Kp H (H7.set H2.next (.cells 32 false [.int .i64 5, .int .i64 0, d, t, .nilSlice, .int .i64 0, .int .i64 0, .int .i64 0])) := K7.set (by omega) _
  obtain ⟨rv, HR, nV, y1, y2, y3, y4, y5⟩ := readVersions_ev (q := H.next + 2) hs hb KE (by omega) (by simp; omega) (by simp [m2, q7]) ha5 hl m (by omega)
  have w0 : HR.get H.next = some (.cells 32 false zh) := by rw [y2.get _ (by simp; omega) (by omega), AH.set_get, if_neg m0]; exact e70
  have w1 : HR.get (H.next + 1) = some (.cells 32 false zh) := by rw [y2.get _ (by simp; omega) (by omega), AH.set_get, if_neg m1]; exact e71
  have w2 : HR.get H2.next = some (.cells 32 false [.int .i64 5, .int .i64 0, d, t, .nilSlice, .int .i64 0, .int .i64 0, .int .i64 0]) := by rw [y2.get _ (by simp; omega) (by omega)]; simp
  have KR := y2.kp KE (by omega)
  have hnR := y2.next
  simp only [AH.set_next] at hnR
  have y6 := y5 h9
  subst y6
  simp only [rdB, zh] at *
  unfold PsRes
  rw [ev_eq Try.func38 ok38 m _ H (by simp [Try.f38])]
  simp [Try.f38, push_set2, n11, n21, ldVar, stVar, perr, hdr, hs.one, cells_one hs.one, hL, k1, z0, z1, hq1, evHist, ObsOk, ObOk, f1, f2, q4, f3, do1, cells_one do1, g5, f4, q6, f5, to1, cells_one to1, g7, q7, e40, e41, e60, e61, e70, e71, m0, m0', m1, m1', m2, m2', r1, r2, h3, h5, y1, y3, w0, w1, w2, h8]
  exact ⟨_, _, _, _, ⟨⟨rfl, rfl, rfl⟩, rfl⟩, KR.set (Nat.le_refl _) _, Ox.nil _ _, Ox.nil _ _, Ox.nil _ _⟩
theorem peekS_F1 {H : AH} {s : AV} {l : List Int} {cid : Int} (hs : Bs H s l) (hb : By l) (hl : l.length ≤ 65536) (m : Nat) (hm : 40 ≤ m)
    {O : List Int} {a : Nat} {s0 : Bool} (hO : takeS l 0 false 1 = (O, a, s0)) (h0 : s0 = false) (h128 : 128 ≤ valP O)
    {V : List Int} {a1 : Nat} {s1 : Bool} (hV : takeS l a false 4 = (V, a1, s1)) {N1 : List Int} {a2 : Nat} {s2 : Bool} (hN1 : takeS l a1 s1 1 = (N1, a2, s2)) {D : List Int} {a3 : Nat} {s3 : Bool} (hD : takeS l a2 s2 (valP N1) = (D, a3, s3))
    {N2 : List Int} {a4 : Nat} {s4 : Bool} (hN2 : takeS l a3 s3 1 = (N2, a4, s4)) {S : List Int} {a5 : Nat} {s5 : Bool} (hS : takeS l a4 s4 (valP N2) = (S, a5, s5)) (h2 : s2 = false) (h3 : ¬ 8 < valP N1) (h4 : s4 = false) (h5 : ¬ 8 < valP N2) (h6 : s5 = false) (h7 : ¬ valP V = 0) (hx : valP O < 192) : PsRes H s cid m (perr 3) := by
  obtain ⟨m, rfl⟩ : ∃ k, m = k + 1 := ⟨m - 1, by omega⟩
  obtain ⟨H1, k1, n1', K1, z0, z1, hq1, ha⟩ := peekS_pro hs hb hl m (by omega) hO
  have hL : ∀ h, lenA Try.prog 22 s h = some (.int .i64 l.length) := hs.len
  subst h0
  obtain ⟨H2, H4, d, H5, H6, t, H7, f1, f2, q4, f3, do1, g5, f4, q6, f5, to1, g7, q7, ha5, N2', N4, N5, N6, N7, G4, G6, G7, K4, K6, K7, Do, So⟩ := peekS_ids hs hb K1 (q := H.next + 2) (by omega) (by omega) hq1 ha hl m (by omega) hV hN1 hD hN2 hS
  have e40 := (G4 H.next (by omega) (by omega)).trans z0
  have e41 := (G4 (H.next + 1) (by omega) (by omega)).trans z1
  have e60 := (G6 H.next (by omega) (by omega)).trans z0
  have e61 := (G6 (H.next + 1) (by omega) (by omega)).trans z1
  have e70 := (G7 H.next (by omega) (by omega)).trans z0
  have e71 := (G7 (H.next + 1) (by omega) (by omega)).trans z1
  have m0 : ¬ (H.next = H2.next) := by omega
  have m0' : ¬ (H2.next = H.next) := by omega
  have m1 : ¬ (H.next + 1 = H2.next) := by omega
  have m1' : ¬ (H2.next = H.next + 1) := by omega
  have m2 : ¬ (H.next + 2 = H2.next) := by omega
  have m2' : ¬ (H2.next = H.next + 2) := by omega
  have r1 : ¬ (valP O < 64) := by omega
  have r2 : ¬ (valP O < 128) := by omega
  subst h2
  subst h4
  subst h6
  simp only [rdB, zh] at *
  unfold PsRes
  rw [ev_eq Try.func38 ok38 m _ H (by simp [Try.f38])]
  simp [Try.f38, push_set2, n11, n21, ldVar, stVar, perr, hdr, hs.one, cells_one hs.one, hL, k1, z0, z1, hq1, evHist, ObsOk, ObOk, f1, f2, q4, f3, do1, cells_one do1, g5, f4, q6, f5, to1, cells_one to1, g7, q7, e40, e41, e60, e61, e70, e71, m0, m0', m1, m1', m2, m2', r1, r2, h3, h5, h7, hx]
  exact ⟨_, _, _, _, ⟨⟨rfl, rfl, rfl⟩, rfl⟩, (K7.set (by omega) _).set (Nat.le_refl _) _, Ox.nil _ _, Ox.nil _ _, Ox.nil _ _⟩
theorem peekS_F2 {H : AH} {s : AV} {l : List Int} {cid : Int} (hs : Bs H s l) (hb : By l) (hl : l.length ≤ 65536) (m : Nat) (hm : 40 ≤ m)
    {O : List Int} {a : Nat} {s0 : Bool} (hO : takeS l 0 false 1 = (O, a, s0)) (h0 : s0 = false) (h128 : 128 ≤ valP O)
    {V : List Int} {a1 : Nat} {s1 : Bool} (hV : takeS l a false 4 = (V, a1, s1)) {N1 : List Int} {a2 : Nat} {s2 : Bool} (hN1 : takeS l a1 s1 1 = (N1, a2, s2)) {D : List Int} {a3 : Nat} {s3 : Bool} (hD : takeS l a2 s2 (valP N1) = (D, a3, s3))
    {N2 : List Int} {a4 : Nat} {s4 : Bool} (hN2 : takeS l a3 s3 1 = (N2, a4, s4)) {S : List Int} {a5 : Nat} {s5 : Bool} (hS : takeS l a4 s4 (valP N2) = (S, a5, s5)) (h2 : s2 = false) (h3 : ¬ 8 < valP N1) (h4 : s4 = false) (h5 : ¬ 8 < valP N2) (h6 : s5 = false) (h7 : ¬ valP V = 0) (hx : 208 ≤ valP O) (hx2 : valP O < 224) : PsRes H s cid m (perr 3) := by
  obtain ⟨m, rfl⟩ : ∃ k, m = k + 1 := ⟨m - 1, by omega⟩
  obtain ⟨H1, k1, n1', K1, z0, z1, hq1, ha⟩ := peekS_pro hs hb hl m (by omega) hO
  have hL : ∀ h, lenA Try.prog 22 s h = some (.int .i64 l.length) := hs.len
  subst h0
  obtain ⟨H2, H4, d, H5, H6, t, H7, f1, f2, q4, f3, do1, g5, f4, q6, f5, to1, g7, q7, ha5, N2', N4, N5, N6, N7, G4, G6, G7, K4, K6, K7, Do, So⟩ := peekS_ids hs hb K1 (q := H.next + 2) (by omega) (by omega) hq1 ha hl m (by omega) hV hN1 hD hN2 hS
  have e40 := (G4 H.next (by omega) (by omega)).trans z0
  have e41 := (G4 (H.next + 1) (by omega) (by omega)).trans z1
  have e60 := (G6 H.next (by omega) (by omega)).trans z0
  have e61 := (G6 (H.next + 1) (by omega) (by omega)).trans z1
  have e70 := (G7 H.next (by omega) (by omega)).trans z0
  have e71 := (G7 (H.next + 1) (by omega) (by omega)).trans z1
  have m0 : ¬ (H.next = H2.next) := by omega
  have m0' : ¬ (H2.next = H.next) := by omega
  have m1 : ¬ (H.next + 1 = H2.next) := by omega
  have m1' : ¬ (H2.next = H.next + 1) := by omega
  have m2 : ¬ (H.next + 2 = H2.next) := by omega
  have m2' : ¬ (H2.next = H.next + 2) := by omega
  have r1 : ¬ (valP O < 64) := by omega
  have r2 : ¬ (valP O < 128) := by omega
  subst h2
  subst h4
  subst h6
  have wf : IntKind.i64.wrap (valP O - 192) = valP O - 192 := wrap_i64 (by omega) (by omega)
  have hk : (valP O - 192).tdiv 16 = 1 := by rw [Int.tdiv_eq_ediv_of_nonneg (by omega)]; omega
  have n3' : ¬ (valP O < 192) := by omega
  have wk : IntKind.i64.wrap 1 = 1 := wrap_i64 (by omega) (by omega)
  simp only [rdB, zh] at *
  unfold PsRes
  rw [ev_eq Try.func38 ok38 m _ H (by simp [Try.f38])]
  simp [Try.f38, push_set2, n11, n21, ldVar, stVar, perr, hdr, hs.one, cells_one hs.one, hL, k1, z0, z1, hq1, evHist, ObsOk, ObOk, f1, f2, q4, f3, do1, cells_one do1, g5, f4, q6, f5, to1, cells_one to1, g7, q7, e40, e41, e60, e61, e70, e71, m0, m0', m1, m1', m2, m2', r1, r2, h3, h5, h7, wf, hk, wk, n3']
  exact ⟨_, _, _, _, ⟨⟨rfl, rfl, rfl⟩, rfl⟩, (K7.set (by omega) _).set (Nat.le_refl _) _, Ox.nil _ _, Ox.nil _ _, Ox.nil _ _⟩
end Go.Ev

/- The specification's retry. -/
namespace Go.Ev
open Go Go.Proofs
set_option linter.unusedSimpArgs false
set_option linter.unusedVariables false

theorem retry_ev {Hb H : AH} {q a : Nat} {s d t : AV} {v : Int} {l : List Int} (hs : Bs Hb s l) (hK : Kp Hb H) (hqb : Hb.next ≤ q) (hqn : q < H.next) (hq : H.get q = some (rdB s a false)) (ha : a ≤ l.length) (hl : l.length ≤ 65536) (hd : d.one = true) (ht : t.one = true) (m : Nat) (hm : 3 ≤ m) :
    (l.length - a < 9 → ∃ H', ev Try.prog m 67 [.ptr q 0, hdr 0 v d t .nilSlice] H = some (.tuple [hdr 0 0 .nilSlice .nilSlice .nilSlice, .int .i64 0, .int .i64 2], H') ∧ Kx q H H') ∧
    (72 < l.length - a → ∃ H', ev Try.prog m 67 [.ptr q 0, hdr 0 v d t .nilSlice] H = some (.tuple [hdr 0 0 .nilSlice .nilSlice .nilSlice, .int .i64 0, .int .i64 3], H') ∧ Kx q H H') ∧
    (9 ≤ l.length - a → l.length - a ≤ 72 → ∃ r H', ev Try.prog m 67 [.ptr q 0, hdr 0 v d t .nilSlice] H = some (.tuple [hdr 3 v d t r, .int .i64 l.length, .int .i64 0], H') ∧ Kx q H H' ∧ r.one = true ∧ Ow (H.next + 2) H'.next H' r ((l.drop a).take (l.length - a - 8))) := by
  obtain ⟨m, rfl⟩ : ∃ k, m = k + 1 := ⟨m - 1, by omega⟩
  have hL : ∀ h, lenA Try.prog 22 s h = some (.int .i64 l.length) := hs.len
  have hne : ¬ (q = H.next) := by omega
  have hne' : ¬ (q = H.next + 1) := by omega
  have hq0 := hq
  have w0 : IntKind.i64.wrap ((l.length : Int) - a) = l.length - a := wrap_i64 (by omega) (by omega)
  have w1 : IntKind.i64.wrap ((l.length : Int) - a - 8) = l.length - a - 8 := wrap_i64 (by omega) (by omega)
  unfold rdB at hq
  refine ⟨fun h1 => ?_, fun h1 => ?_, fun h1 h2 => ?_⟩
  · have c1 : (l.length : Int) - a - 8 < 1 := by omega
    rw [ev_eq Try.func67 ok67 m _ H (by simp [Try.f67])]
    refine ⟨(H.push (.cells 32 false [.int .i64 0, .int .i64 v, d, t, .nilSlice, .int .i64 0, .int .i64 0, .int .i64 0])).push (.cells 32 false zh), ?_, Kx.of (((Kp.refl H).push _).push _)⟩
    simp [Try.f67, hdr, ldVar, stVar, hd, ht, hq, hne, hne', hL, w0, w1, c1, push_set2, zh, n11]
  · have c1 : ¬ ((l.length : Int) - a - 8 < 1) := by omega
    have c2 : 64 < (l.length : Int) - a - 8 := by omega
    rw [ev_eq Try.func67 ok67 m _ H (by simp [Try.f67])]
    refine ⟨(H.push (.cells 32 false [.int .i64 0, .int .i64 v, d, t, .nilSlice, .int .i64 0, .int .i64 0, .int .i64 0])).push (.cells 32 false zh), ?_, Kx.of (((Kp.refl H).push _).push _)⟩
    simp [Try.f67, hdr, ldVar, stVar, hd, ht, hq, hne, hne', hL, w0, w1, c1, c2, push_set2, zh, n11]
  · have c1 : ¬ ((l.length : Int) - a - 8 < 1) := by omega
    have c2 : ¬ (64 < (l.length : Int) - a - 8) := by omega
    have K1 : Kp H (((H.push (.cells 32 false [.int .i64 0, .int .i64 v, d, t, .nilSlice, .int .i64 0, .int .i64 0, .int .i64 0])).push (.cells 32 false zh)).set H.next (.cells 32 false [.int .i64 3, .int .i64 v, d, t, .nilSlice, .int .i64 0, .int .i64 0, .int .i64 0])) := (((Kp.refl H).push _).push _).set (Nat.le_refl _) _
    obtain ⟨r, H2, i1, i2, i3, i4, i5⟩ := takeR_ev hs (hK.trans K1) hqb (by simp; omega) ((K1.get q hqn).trans hq0) ha hl ((l.length : Int) - a - 8) (by omega) (by omega) m (by omega)
    have hT : takeS l a false ((l.length : Int) - a - 8) = ((l.drop a).take (l.length - a - 8), a + (l.length - a - 8), false) := by
      unfold takeS
      rw [if_neg (by simp; omega), show ((l.length : Int) - a - 8).toNat = l.length - a - 8 by omega]
    rw [hT] at i3 i4
    simp only at i3 i4
    have n2 := i2.next
    simp only [AH.set_next, AH.push_next] at n2
    have g1 : H2.get H.next = some (.cells 32 false [.int .i64 3, .int .i64 v, d, t, .nilSlice, .int .i64 0, .int .i64 0, .int .i64 0]) := by rw [i2.get _ (by simp; omega) (by omega)]; simp
    have g2 : H2.get (H.next + 1) = some (.cells 32 false zh) := by rw [i2.get _ (by simp) (by omega)]; simp
    have hro := i3.bs.one
    have x1 : ¬ (H.next + 1 = H.next) := by omega
    simp only [rdB, zh] at *
    rw [ev_eq Try.func67 ok67 m _ H (by simp [Try.f67])]
    refine ⟨r, (H2.set H.next (.cells 32 false [.int .i64 3, .int .i64 v, d, t, r, .int .i64 0, .int .i64 0, .int .i64 0])).set (H.next + 1) (.cells 32 false [.int .i64 3, .int .i64 v, d, t, r, .int .i64 0, .int .i64 0, .int .i64 0]), ?_, ?_, hro, ?_⟩
    · simp [Try.f67, hdr, ldVar, stVar, hd, ht, cells_one hd, cells_one ht, hq, hne, hne', hL, w0, w1, c1, c2, push_set2, n11, i1, i4, g1, g2, hro, cells_one hro, x1, evHist, ObsOk, ObOk]
    · refine ⟨by simp; omega, fun b hb hbq => ?_⟩
      rw [AH.set_get, if_neg (by omega), AH.set_get, if_neg (by omega), i2.get b (by simp; omega) hbq]
      exact K1.get b hb
    · simp only [AH.set_next, AH.push_next] at i3
      exact (i3.set _ (by omega)).set _ (by omega)
end Go.Ev

/- The specification's peek: retry and handshake. -/
namespace Go.Ev
open Go Go.Proofs
set_option linter.unusedSimpArgs false
set_option linter.unusedVariables false

theorem peekS_G1 {H : AH} {s : AV} {l : List Int} {cid : Int} (hs : Bs H s l) (hb : By l) (hl : l.length ≤ 65536) (m : Nat) (hm : 40 ≤ m)
    {O : List Int} {a : Nat} {s0 : Bool} (hO : takeS l 0 false 1 = (O, a, s0)) (h0 : s0 = false) (h128 : 128 ≤ valP O)
    {V : List Int} {a1 : Nat} {s1 : Bool} (hV : takeS l a false 4 = (V, a1, s1)) {N1 : List Int} {a2 : Nat} {s2 : Bool} (hN1 : takeS l a1 s1 1 = (N1, a2, s2)) {D : List Int} {a3 : Nat} {s3 : Bool} (hD : takeS l a2 s2 (valP N1) = (D, a3, s3))
    {N2 : List Int} {a4 : Nat} {s4 : Bool} (hN2 : takeS l a3 s3 1 = (N2, a4, s4)) {S : List Int} {a5 : Nat} {s5 : Bool} (hS : takeS l a4 s4 (valP N2) = (S, a5, s5)) (h2 : s2 = false) (h3 : ¬ 8 < valP N1) (h4 : s4 = false) (h5 : ¬ 8 < valP N2) (h6 : s5 = false) (h7 : ¬ valP V = 0) (hx : 240 ≤ valP O) (hx2 : valP O < 256) (hR : l.length - a5 < 9) : PsRes H s cid m (perr 2) := by
  obtain ⟨m, rfl⟩ : ∃ k, m = k + 1 := ⟨m - 1, by omega⟩
  obtain ⟨H1, k1, n1', K1, z0, z1, hq1, ha⟩ := peekS_pro hs hb hl m (by omega) hO
  have hL : ∀ h, lenA Try.prog 22 s h = some (.int .i64 l.length) := hs.len
  subst h0
  obtain ⟨H2, H4, d, H5, H6, t, H7, f1, f2, q4, f3, do1, g5, f4, q6, f5, to1, g7, q7, ha5, N2', N4, N5, N6, N7, G4, G6, G7, K4, K6, K7, Do, So⟩ := peekS_ids hs hb K1 (q := H.next + 2) (by omega) (by omega) hq1 ha hl m (by omega) hV hN1 hD hN2 hS
  have e40 := (G4 H.next (by omega) (by omega)).trans z0
  have e41 := (G4 (H.next + 1) (by omega) (by omega)).trans z1
  have e60 := (G6 H.next (by omega) (by omega)).trans z0
  have e61 := (G6 (H.next + 1) (by omega) (by omega)).trans z1
  have e70 := (G7 H.next (by omega) (by omega)).trans z0
  have e71 := (G7 (H.next + 1) (by omega) (by omega)).trans z1
  have m0 : ¬ (H.next = H2.next) := by omega
  have m0' : ¬ (H2.next = H.next) := by omega
  have m1 : ¬ (H.next + 1 = H2.next) := by omega
  have m1' : ¬ (H2.next = H.next + 1) := by omega
  have m2 : ¬ (H.next + 2 = H2.next) := by omega
  have m2' : ¬ (H2.next = H.next + 2) := by omega
  have r1 : ¬ (valP O < 64) := by omega
  have r2 : ¬ (valP O < 128) := by omega
  subst h2
  subst h4
  subst h6
  have wf : IntKind.i64.wrap (valP O - 192) = valP O - 192 := wrap_i64 (by omega) (by omega)
  have hk : (valP O - 192).tdiv 16 = 3 := by rw [Int.tdiv_eq_ediv_of_nonneg (by omega)]; omega
  have n3' : ¬ (valP O < 192) := by omega
  have wk : IntKind.i64.wrap 3 = 3 := wrap_i64 (by omega) (by omega)
  have KE : Kp H (H7.set H2.next (.cells 32 false [.int .i64 0, .int .i64 (valP V), d, t, .nilSlice, .int .i64 0, .int .i64 0, .int .i64 0])) := K7.set (by omega) _
  have RT := retry_ev (q := H.next + 2) (v := valP V) hs KE (by omega) (by simp; omega) (by simp [m2, q7]) ha5 hl do1 to1 m (by omega)
  have W0 : ∀ HR, Kx (H.next + 2) (H7.set H2.next (.cells 32 false [.int .i64 0, .int .i64 (valP V), d, t, .nilSlice, .int .i64 0, .int .i64 0, .int .i64 0])) HR → HR.get H.next = some (.cells 32 false zh) := fun HR y2 => by rw [y2.get _ (by simp; omega) (by omega), AH.set_get, if_neg m0]; exact e70
  obtain ⟨HR, y1, y2⟩ := RT.1 hR
  have w0 := W0 HR y2
  have KR := y2.kp KE (by omega)
  have hnR := y2.next
  simp only [AH.set_next] at hnR
  clear RT W0
  simp only [hdr] at y1
  simp only [rdB, zh] at *
  unfold PsRes
  rw [ev_eq Try.func38 ok38 m _ H (by simp [Try.f38])]
  simp [Try.f38, push_set2, n11, n21, ldVar, stVar, perr, hdr, hs.one, cells_one hs.one, hL, k1, z0, z1, hq1, evHist, ObsOk, ObOk, f1, f2, q4, f3, do1, cells_one do1, g5, f4, q6, f5, to1, cells_one to1, g7, q7, e40, e41, e60, e61, e70, e71, m0, m0', m1, m1', m2, m2', r1, r2, h3, h5, h7, wf, hk, wk, n3', y1, w0]
  exact ⟨_, _, _, _, ⟨⟨rfl, rfl, rfl⟩, rfl⟩, KR.set (Nat.le_refl _) _, Ox.nil _ _, Ox.nil _ _, Ox.nil _ _⟩
theorem peekS_G2 {H : AH} {s : AV} {l : List Int} {cid : Int} (hs : Bs H s l) (hb : By l) (hl : l.length ≤ 65536) (m : Nat) (hm : 40 ≤ m)
    {O : List Int} {a : Nat} {s0 : Bool} (hO : takeS l 0 false 1 = (O, a, s0)) (h0 : s0 = false) (h128 : 128 ≤ valP O)
    {V : List Int} {a1 : Nat} {s1 : Bool} (hV : takeS l a false 4 = (V, a1, s1)) {N1 : List Int} {a2 : Nat} {s2 : Bool} (hN1 : takeS l a1 s1 1 = (N1, a2, s2)) {D : List Int} {a3 : Nat} {s3 : Bool} (hD : takeS l a2 s2 (valP N1) = (D, a3, s3))
    {N2 : List Int} {a4 : Nat} {s4 : Bool} (hN2 : takeS l a3 s3 1 = (N2, a4, s4)) {S : List Int} {a5 : Nat} {s5 : Bool} (hS : takeS l a4 s4 (valP N2) = (S, a5, s5)) (h2 : s2 = false) (h3 : ¬ 8 < valP N1) (h4 : s4 = false) (h5 : ¬ 8 < valP N2) (h6 : s5 = false) (h7 : ¬ valP V = 0) (hx : 240 ≤ valP O) (hx2 : valP O < 256) (hR : 72 < l.length - a5) : PsRes H s cid m (perr 3) := by
  obtain ⟨m, rfl⟩ : ∃ k, m = k + 1 := ⟨m - 1, by omega⟩
  obtain ⟨H1, k1, n1', K1, z0, z1, hq1, ha⟩ := peekS_pro hs hb hl m (by omega) hO
  have hL : ∀ h, lenA Try.prog 22 s h = some (.int .i64 l.length) := hs.len
  subst h0
  obtain ⟨H2, H4, d, H5, H6, t, H7, f1, f2, q4, f3, do1, g5, f4, q6, f5, to1, g7, q7, ha5, N2', N4, N5, N6, N7, G4, G6, G7, K4, K6, K7, Do, So⟩ := peekS_ids hs hb K1 (q := H.next + 2) (by omega) (by omega) hq1 ha hl m (by omega) hV hN1 hD hN2 hS
  have e40 := (G4 H.next (by omega) (by omega)).trans z0
  have e41 := (G4 (H.next + 1) (by omega) (by omega)).trans z1
  have e60 := (G6 H.next (by omega) (by omega)).trans z0
  have e61 := (G6 (H.next + 1) (by omega) (by omega)).trans z1
  have e70 := (G7 H.next (by omega) (by omega)).trans z0
  have e71 := (G7 (H.next + 1) (by omega) (by omega)).trans z1
  have m0 : ¬ (H.next = H2.next) := by omega
  have m0' : ¬ (H2.next = H.next) := by omega
  have m1 : ¬ (H.next + 1 = H2.next) := by omega
  have m1' : ¬ (H2.next = H.next + 1) := by omega
  have m2 : ¬ (H.next + 2 = H2.next) := by omega
  have m2' : ¬ (H2.next = H.next + 2) := by omega
  have r1 : ¬ (valP O < 64) := by omega
  have r2 : ¬ (valP O < 128) := by omega
  subst h2
  subst h4
  subst h6
  have wf : IntKind.i64.wrap (valP O - 192) = valP O - 192 := wrap_i64 (by omega) (by omega)
  have hk : (valP O - 192).tdiv 16 = 3 := by rw [Int.tdiv_eq_ediv_of_nonneg (by omega)]; omega
  have n3' : ¬ (valP O < 192) := by omega
  have wk : IntKind.i64.wrap 3 = 3 := wrap_i64 (by omega) (by omega)
  have KE : Kp H (H7.set H2.next (.cells 32 false [.int .i64 0, .int .i64 (valP V), d, t, .nilSlice, .int .i64 0, .int .i64 0, .int .i64 0])) := K7.set (by omega) _
  have RT := retry_ev (q := H.next + 2) (v := valP V) hs KE (by omega) (by simp; omega) (by simp [m2, q7]) ha5 hl do1 to1 m (by omega)
  have W0 : ∀ HR, Kx (H.next + 2) (H7.set H2.next (.cells 32 false [.int .i64 0, .int .i64 (valP V), d, t, .nilSlice, .int .i64 0, .int .i64 0, .int .i64 0])) HR → HR.get H.next = some (.cells 32 false zh) := fun HR y2 => by rw [y2.get _ (by simp; omega) (by omega), AH.set_get, if_neg m0]; exact e70
  obtain ⟨HR, y1, y2⟩ := RT.2.1 hR
  have w0 := W0 HR y2
  have KR := y2.kp KE (by omega)
  have hnR := y2.next
  simp only [AH.set_next] at hnR
  clear RT W0
  simp only [hdr] at y1
  simp only [rdB, zh] at *
  unfold PsRes
  rw [ev_eq Try.func38 ok38 m _ H (by simp [Try.f38])]
  simp [Try.f38, push_set2, n11, n21, ldVar, stVar, perr, hdr, hs.one, cells_one hs.one, hL, k1, z0, z1, hq1, evHist, ObsOk, ObOk, f1, f2, q4, f3, do1, cells_one do1, g5, f4, q6, f5, to1, cells_one to1, g7, q7, e40, e41, e60, e61, e70, e71, m0, m0', m1, m1', m2, m2', r1, r2, h3, h5, h7, wf, hk, wk, n3', y1, w0]
  exact ⟨_, _, _, _, ⟨⟨rfl, rfl, rfl⟩, rfl⟩, KR.set (Nat.le_refl _) _, Ox.nil _ _, Ox.nil _ _, Ox.nil _ _⟩
theorem peekS_G3 {H : AH} {s : AV} {l : List Int} {cid : Int} (hs : Bs H s l) (hb : By l) (hl : l.length ≤ 65536) (m : Nat) (hm : 40 ≤ m)
    {O : List Int} {a : Nat} {s0 : Bool} (hO : takeS l 0 false 1 = (O, a, s0)) (h0 : s0 = false) (h128 : 128 ≤ valP O)
    {V : List Int} {a1 : Nat} {s1 : Bool} (hV : takeS l a false 4 = (V, a1, s1)) {N1 : List Int} {a2 : Nat} {s2 : Bool} (hN1 : takeS l a1 s1 1 = (N1, a2, s2)) {D : List Int} {a3 : Nat} {s3 : Bool} (hD : takeS l a2 s2 (valP N1) = (D, a3, s3))
    {N2 : List Int} {a4 : Nat} {s4 : Bool} (hN2 : takeS l a3 s3 1 = (N2, a4, s4)) {S : List Int} {a5 : Nat} {s5 : Bool} (hS : takeS l a4 s4 (valP N2) = (S, a5, s5)) (h2 : s2 = false) (h3 : ¬ 8 < valP N1) (h4 : s4 = false) (h5 : ¬ 8 < valP N2) (h6 : s5 = false) (h7 : ¬ valP V = 0) (hx : 240 ≤ valP O) (hx2 : valP O < 256) (hR : 9 ≤ l.length - a5) (hR2 : l.length - a5 ≤ 72) : PsRes H s cid m ⟨0, 3, valP V, D, S, (l.drop a5).take (l.length - a5 - 8), l.length⟩ := by
  obtain ⟨m, rfl⟩ : ∃ k, m = k + 1 := ⟨m - 1, by omega⟩
  obtain ⟨H1, k1, n1', K1, z0, z1, hq1, ha⟩ := peekS_pro hs hb hl m (by omega) hO
  have hL : ∀ h, lenA Try.prog 22 s h = some (.int .i64 l.length) := hs.len
  subst h0
  obtain ⟨H2, H4, d, H5, H6, t, H7, f1, f2, q4, f3, do1, g5, f4, q6, f5, to1, g7, q7, ha5, N2', N4, N5, N6, N7, G4, G6, G7, K4, K6, K7, Do, So⟩ := peekS_ids hs hb K1 (q := H.next + 2) (by omega) (by omega) hq1 ha hl m (by omega) hV hN1 hD hN2 hS
  have e40 := (G4 H.next (by omega) (by omega)).trans z0
  have e41 := (G4 (H.next + 1) (by omega) (by omega)).trans z1
  have e60 := (G6 H.next (by omega) (by omega)).trans z0
  have e61 := (G6 (H.next + 1) (by omega) (by omega)).trans z1
  have e70 := (G7 H.next (by omega) (by omega)).trans z0
  have e71 := (G7 (H.next + 1) (by omega) (by omega)).trans z1
  have m0 : ¬ (H.next = H2.next) := by omega
  have m0' : ¬ (H2.next = H.next) := by omega
  have m1 : ¬ (H.next + 1 = H2.next) := by omega
  have m1' : ¬ (H2.next = H.next + 1) := by omega
  have m2 : ¬ (H.next + 2 = H2.next) := by omega
  have m2' : ¬ (H2.next = H.next + 2) := by omega
  have r1 : ¬ (valP O < 64) := by omega
  have r2 : ¬ (valP O < 128) := by omega
  subst h2
  subst h4
  subst h6
  have wf : IntKind.i64.wrap (valP O - 192) = valP O - 192 := wrap_i64 (by omega) (by omega)
  have hk : (valP O - 192).tdiv 16 = 3 := by rw [Int.tdiv_eq_ediv_of_nonneg (by omega)]; omega
  have n3' : ¬ (valP O < 192) := by omega
  have wk : IntKind.i64.wrap 3 = 3 := wrap_i64 (by omega) (by omega)
  have KE : Kp H (H7.set H2.next (.cells 32 false [.int .i64 0, .int .i64 (valP V), d, t, .nilSlice, .int .i64 0, .int .i64 0, .int .i64 0])) := K7.set (by omega) _
  have RT := retry_ev (q := H.next + 2) (v := valP V) hs KE (by omega) (by simp; omega) (by simp [m2, q7]) ha5 hl do1 to1 m (by omega)
  have W0 : ∀ HR, Kx (H.next + 2) (H7.set H2.next (.cells 32 false [.int .i64 0, .int .i64 (valP V), d, t, .nilSlice, .int .i64 0, .int .i64 0, .int .i64 0])) HR → HR.get H.next = some (.cells 32 false zh) := fun HR y2 => by rw [y2.get _ (by simp; omega) (by omega), AH.set_get, if_neg m0]; exact e70
  obtain ⟨rt, HR, y1, y2, y3, y4⟩ := RT.2.2 hR hR2
  have w0 := W0 HR y2
  have KR := y2.kp KE (by omega)
  have hnR := y2.next
  simp only [AH.set_next] at hnR
  clear RT W0
  simp only [hdr] at y1
  simp only [rdB, zh] at *
  unfold PsRes
  rw [ev_eq Try.func38 ok38 m _ H (by simp [Try.f38])]
  simp [Try.f38, push_set2, n11, n21, ldVar, stVar, perr, hdr, hs.one, cells_one hs.one, hL, k1, z0, z1, hq1, evHist, ObsOk, ObOk, f1, f2, q4, f3, do1, cells_one do1, g5, f4, q6, f5, to1, cells_one to1, g7, q7, e40, e41, e60, e61, e70, e71, m0, m0', m1, m1', m2, m2', r1, r2, h3, h5, h7, wf, hk, wk, n3', y1, w0, y3, cells_one y3]
  simp only [AH.set_next] at y4
  exact ⟨_, _, _, _, ⟨⟨rfl, rfl, rfl⟩, rfl⟩, KR.set (Nat.le_refl _) _, (((Do.set _ (by omega)).kx y2 (by omega)).set _ (by omega)).ox (by omega), (((So.set _ (by omega)).kx y2 (by omega)).set _ (by omega)).ox (by omega), (y4.set _ (by omega)).ox (by omega)⟩
theorem peekS_H1 {H : AH} {s : AV} {l : List Int} {cid : Int} (hs : Bs H s l) (hb : By l) (hl : l.length ≤ 65536) (m : Nat) (hm : 40 ≤ m)
    {O : List Int} {a : Nat} {s0 : Bool} (hO : takeS l 0 false 1 = (O, a, s0)) (h0 : s0 = false) (h128 : 128 ≤ valP O)
    {V : List Int} {a1 : Nat} {s1 : Bool} (hV : takeS l a false 4 = (V, a1, s1)) {N1 : List Int} {a2 : Nat} {s2 : Bool} (hN1 : takeS l a1 s1 1 = (N1, a2, s2)) {D : List Int} {a3 : Nat} {s3 : Bool} (hD : takeS l a2 s2 (valP N1) = (D, a3, s3))
    {N2 : List Int} {a4 : Nat} {s4 : Bool} (hN2 : takeS l a3 s3 1 = (N2, a4, s4)) {S : List Int} {a5 : Nat} {s5 : Bool} (hS : takeS l a4 s4 (valP N2) = (S, a5, s5)) (h2 : s2 = false) (h3 : ¬ 8 < valP N1) (h4 : s4 = false) (h5 : ¬ 8 < valP N2) (h6 : s5 = false) (h7 : ¬ valP V = 0) (hx : 224 ≤ valP O) (hx2 : valP O < 240) {n : Int} {a8 : Nat} {s8 : Bool} (hN : varS l a5 false = (n, a8, s8)) {E : List Int} {a9 : Nat} {s9 : Bool} (hE : takeS l a8 s8 n = (E, a9, s9)) (p1 : s8 = true) : PsRes H s cid m (perr 2) := by
  obtain ⟨m, rfl⟩ : ∃ k, m = k + 1 := ⟨m - 1, by omega⟩
  obtain ⟨H1, k1, n1', K1, z0, z1, hq1, ha⟩ := peekS_pro hs hb hl m (by omega) hO
  have hL : ∀ h, lenA Try.prog 22 s h = some (.int .i64 l.length) := hs.len
  subst h0
  obtain ⟨H2, H4, d, H5, H6, t, H7, f1, f2, q4, f3, do1, g5, f4, q6, f5, to1, g7, q7, ha5, N2', N4, N5, N6, N7, G4, G6, G7, K4, K6, K7, Do, So⟩ := peekS_ids hs hb K1 (q := H.next + 2) (by omega) (by omega) hq1 ha hl m (by omega) hV hN1 hD hN2 hS
  have e40 := (G4 H.next (by omega) (by omega)).trans z0
  have e41 := (G4 (H.next + 1) (by omega) (by omega)).trans z1
  have e60 := (G6 H.next (by omega) (by omega)).trans z0
  have e61 := (G6 (H.next + 1) (by omega) (by omega)).trans z1
  have e70 := (G7 H.next (by omega) (by omega)).trans z0
  have e71 := (G7 (H.next + 1) (by omega) (by omega)).trans z1
  have m0 : ¬ (H.next = H2.next) := by omega
  have m0' : ¬ (H2.next = H.next) := by omega
  have m1 : ¬ (H.next + 1 = H2.next) := by omega
  have m1' : ¬ (H2.next = H.next + 1) := by omega
  have m2 : ¬ (H.next + 2 = H2.next) := by omega
  have m2' : ¬ (H2.next = H.next + 2) := by omega
  have r1 : ¬ (valP O < 64) := by omega
  have r2 : ¬ (valP O < 128) := by omega
  subst h2
  subst h4
  subst h6
  have wf : IntKind.i64.wrap (valP O - 192) = valP O - 192 := wrap_i64 (by omega) (by omega)
  have hk : (valP O - 192).tdiv 16 = 2 := by rw [Int.tdiv_eq_ediv_of_nonneg (by omega)]; omega
  have n3' : ¬ (valP O < 192) := by omega
  have wk : IntKind.i64.wrap 2 = 2 := wrap_i64 (by omega) (by omega)
  have KE : Kp H (H7.set H2.next (.cells 32 false [.int .i64 2, .int .i64 (valP V), d, t, .nilSlice, .int .i64 0, .int .i64 0, .int .i64 0])) := K7.set (by omega) _
  obtain ⟨H8, v1, v2, v3, v4, v5⟩ := var_ev (q := H.next + 2) hs hb KE (by omega) (by simp; omega) (show _ = some (rdB s a5 false) by simp [m2, q7]) ha5 hl m (by omega)
  have vr := varS_rng hb a5 false
  rw [hN] at v1 v4 v5 vr; simp only at v1 v4 v5 vr
  simp only [AH.set_next] at v3
  have K8 := v2.kp KE (by omega)
  have u80 : H8.get H.next = some (.cells 32 false zh) := by rw [v2.get _ (by simp; omega) (by omega), AH.set_get, if_neg m0]; exact e70
  have u81 : H8.get (H.next + 1) = some (.cells 32 false zh) := by rw [v2.get _ (by simp; omega) (by omega), AH.set_get, if_neg m1]; exact e71
  have u82 : H8.get H2.next = some (.cells 32 false [.int .i64 2, .int .i64 (valP V), d, t, .nilSlice, .int .i64 0, .int .i64 0, .int .i64 0]) := by rw [v2.get _ (by simp; omega) (by omega)]; simp
  have ft := fault_ev v4 m (by omega)
  obtain ⟨rE, H9, c1, c2, c3, c4, c5⟩ := takeR_ev hs K8 (q := H.next + 2) (by omega) (by omega) v4 v5 hl n vr.1 vr.2 m (by omega)
  rw [hE] at c3 c4 c5; simp only at c3 c4 c5
  have n9 := c2.next
  have K9 := c2.kp K8 (by omega)
  have u90 := (c2.get H.next (by omega) (by omega)).trans u80
  have u91 := (c2.get (H.next + 1) (by omega) (by omega)).trans u81
  have u92 := (c2.get H2.next (by omega) (by omega)).trans u82
  subst p1
  simp only [rdB, zh] at *
  unfold PsRes
  rw [ev_eq Try.func38 ok38 m _ H (by simp [Try.f38])]
  simp [Try.f38, push_set2, n11, n21, ldVar, stVar, perr, hdr, hs.one, cells_one hs.one, hL, k1, z0, z1, hq1, evHist, ObsOk, ObOk, f1, f2, q4, f3, do1, cells_one do1, g5, f4, q6, f5, to1, cells_one to1, g7, q7, e40, e41, e60, e61, e70, e71, m0, m0', m1, m1', m2, m2', r1, r2, h3, h5, h7, wf, hk, wk, n3', v1, v4, u80, u81, u82, c1, c4, u90, u91, u92, ft]
  exact ⟨_, _, _, _, ⟨⟨rfl, rfl, rfl⟩, rfl⟩, K8.set (Nat.le_refl _) _, Ox.nil _ _, Ox.nil _ _, Ox.nil _ _⟩
theorem peekS_H2 {H : AH} {s : AV} {l : List Int} {cid : Int} (hs : Bs H s l) (hb : By l) (hl : l.length ≤ 65536) (m : Nat) (hm : 40 ≤ m)
    {O : List Int} {a : Nat} {s0 : Bool} (hO : takeS l 0 false 1 = (O, a, s0)) (h0 : s0 = false) (h128 : 128 ≤ valP O)
    {V : List Int} {a1 : Nat} {s1 : Bool} (hV : takeS l a false 4 = (V, a1, s1)) {N1 : List Int} {a2 : Nat} {s2 : Bool} (hN1 : takeS l a1 s1 1 = (N1, a2, s2)) {D : List Int} {a3 : Nat} {s3 : Bool} (hD : takeS l a2 s2 (valP N1) = (D, a3, s3))
    {N2 : List Int} {a4 : Nat} {s4 : Bool} (hN2 : takeS l a3 s3 1 = (N2, a4, s4)) {S : List Int} {a5 : Nat} {s5 : Bool} (hS : takeS l a4 s4 (valP N2) = (S, a5, s5)) (h2 : s2 = false) (h3 : ¬ 8 < valP N1) (h4 : s4 = false) (h5 : ¬ 8 < valP N2) (h6 : s5 = false) (h7 : ¬ valP V = 0) (hx : 224 ≤ valP O) (hx2 : valP O < 240) {n : Int} {a8 : Nat} {s8 : Bool} (hN : varS l a5 false = (n, a8, s8)) {E : List Int} {a9 : Nat} {s9 : Bool} (hE : takeS l a8 s8 n = (E, a9, s9)) (p1 : s8 = false) (p2 : n < 12) : PsRes H s cid m (perr 3) := by
  obtain ⟨m, rfl⟩ : ∃ k, m = k + 1 := ⟨m - 1, by omega⟩
  obtain ⟨H1, k1, n1', K1, z0, z1, hq1, ha⟩ := peekS_pro hs hb hl m (by omega) hO
  have hL : ∀ h, lenA Try.prog 22 s h = some (.int .i64 l.length) := hs.len
  subst h0
  obtain ⟨H2, H4, d, H5, H6, t, H7, f1, f2, q4, f3, do1, g5, f4, q6, f5, to1, g7, q7, ha5, N2', N4, N5, N6, N7, G4, G6, G7, K4, K6, K7, Do, So⟩ := peekS_ids hs hb K1 (q := H.next + 2) (by omega) (by omega) hq1 ha hl m (by omega) hV hN1 hD hN2 hS
  have e40 := (G4 H.next (by omega) (by omega)).trans z0
  have e41 := (G4 (H.next + 1) (by omega) (by omega)).trans z1
  have e60 := (G6 H.next (by omega) (by omega)).trans z0
  have e61 := (G6 (H.next + 1) (by omega) (by omega)).trans z1
  have e70 := (G7 H.next (by omega) (by omega)).trans z0
  have e71 := (G7 (H.next + 1) (by omega) (by omega)).trans z1
  have m0 : ¬ (H.next = H2.next) := by omega
  have m0' : ¬ (H2.next = H.next) := by omega
  have m1 : ¬ (H.next + 1 = H2.next) := by omega
  have m1' : ¬ (H2.next = H.next + 1) := by omega
  have m2 : ¬ (H.next + 2 = H2.next) := by omega
  have m2' : ¬ (H2.next = H.next + 2) := by omega
  have r1 : ¬ (valP O < 64) := by omega
  have r2 : ¬ (valP O < 128) := by omega
  subst h2
  subst h4
  subst h6
  have wf : IntKind.i64.wrap (valP O - 192) = valP O - 192 := wrap_i64 (by omega) (by omega)
  have hk : (valP O - 192).tdiv 16 = 2 := by rw [Int.tdiv_eq_ediv_of_nonneg (by omega)]; omega
  have n3' : ¬ (valP O < 192) := by omega
  have wk : IntKind.i64.wrap 2 = 2 := wrap_i64 (by omega) (by omega)
  have KE : Kp H (H7.set H2.next (.cells 32 false [.int .i64 2, .int .i64 (valP V), d, t, .nilSlice, .int .i64 0, .int .i64 0, .int .i64 0])) := K7.set (by omega) _
  obtain ⟨H8, v1, v2, v3, v4, v5⟩ := var_ev (q := H.next + 2) hs hb KE (by omega) (by simp; omega) (show _ = some (rdB s a5 false) by simp [m2, q7]) ha5 hl m (by omega)
  have vr := varS_rng hb a5 false
  rw [hN] at v1 v4 v5 vr; simp only at v1 v4 v5 vr
  simp only [AH.set_next] at v3
  have K8 := v2.kp KE (by omega)
  have u80 : H8.get H.next = some (.cells 32 false zh) := by rw [v2.get _ (by simp; omega) (by omega), AH.set_get, if_neg m0]; exact e70
  have u81 : H8.get (H.next + 1) = some (.cells 32 false zh) := by rw [v2.get _ (by simp; omega) (by omega), AH.set_get, if_neg m1]; exact e71
  have u82 : H8.get H2.next = some (.cells 32 false [.int .i64 2, .int .i64 (valP V), d, t, .nilSlice, .int .i64 0, .int .i64 0, .int .i64 0]) := by rw [v2.get _ (by simp; omega) (by omega)]; simp
  have ft := fault_ev v4 m (by omega)
  obtain ⟨rE, H9, c1, c2, c3, c4, c5⟩ := takeR_ev hs K8 (q := H.next + 2) (by omega) (by omega) v4 v5 hl n vr.1 vr.2 m (by omega)
  rw [hE] at c3 c4 c5; simp only at c3 c4 c5
  have n9 := c2.next
  have K9 := c2.kp K8 (by omega)
  have u90 := (c2.get H.next (by omega) (by omega)).trans u80
  have u91 := (c2.get (H.next + 1) (by omega) (by omega)).trans u81
  have u92 := (c2.get H2.next (by omega) (by omega)).trans u82
  subst p1
  simp only [rdB, zh] at *
  unfold PsRes
  rw [ev_eq Try.func38 ok38 m _ H (by simp [Try.f38])]
  simp [Try.f38, push_set2, n11, n21, ldVar, stVar, perr, hdr, hs.one, cells_one hs.one, hL, k1, z0, z1, hq1, evHist, ObsOk, ObOk, f1, f2, q4, f3, do1, cells_one do1, g5, f4, q6, f5, to1, cells_one to1, g7, q7, e40, e41, e60, e61, e70, e71, m0, m0', m1, m1', m2, m2', r1, r2, h3, h5, h7, wf, hk, wk, n3', v1, v4, u80, u81, u82, c1, c4, u90, u91, u92, ft, p2]
  exact ⟨_, _, _, _, ⟨⟨rfl, rfl, rfl⟩, rfl⟩, K8.set (Nat.le_refl _) _, Ox.nil _ _, Ox.nil _ _, Ox.nil _ _⟩
theorem peekS_H3 {H : AH} {s : AV} {l : List Int} {cid : Int} (hs : Bs H s l) (hb : By l) (hl : l.length ≤ 65536) (m : Nat) (hm : 40 ≤ m)
    {O : List Int} {a : Nat} {s0 : Bool} (hO : takeS l 0 false 1 = (O, a, s0)) (h0 : s0 = false) (h128 : 128 ≤ valP O)
    {V : List Int} {a1 : Nat} {s1 : Bool} (hV : takeS l a false 4 = (V, a1, s1)) {N1 : List Int} {a2 : Nat} {s2 : Bool} (hN1 : takeS l a1 s1 1 = (N1, a2, s2)) {D : List Int} {a3 : Nat} {s3 : Bool} (hD : takeS l a2 s2 (valP N1) = (D, a3, s3))
    {N2 : List Int} {a4 : Nat} {s4 : Bool} (hN2 : takeS l a3 s3 1 = (N2, a4, s4)) {S : List Int} {a5 : Nat} {s5 : Bool} (hS : takeS l a4 s4 (valP N2) = (S, a5, s5)) (h2 : s2 = false) (h3 : ¬ 8 < valP N1) (h4 : s4 = false) (h5 : ¬ 8 < valP N2) (h6 : s5 = false) (h7 : ¬ valP V = 0) (hx : 224 ≤ valP O) (hx2 : valP O < 240) {n : Int} {a8 : Nat} {s8 : Bool} (hN : varS l a5 false = (n, a8, s8)) {E : List Int} {a9 : Nat} {s9 : Bool} (hE : takeS l a8 s8 n = (E, a9, s9)) (p1 : s8 = false) (p2 : ¬ n < 12) (p3 : 1508 < n) : PsRes H s cid m (perr 3) := by
  obtain ⟨m, rfl⟩ : ∃ k, m = k + 1 := ⟨m - 1, by omega⟩
  obtain ⟨H1, k1, n1', K1, z0, z1, hq1, ha⟩ := peekS_pro hs hb hl m (by omega) hO
  have hL : ∀ h, lenA Try.prog 22 s h = some (.int .i64 l.length) := hs.len
  subst h0
  obtain ⟨H2, H4, d, H5, H6, t, H7, f1, f2, q4, f3, do1, g5, f4, q6, f5, to1, g7, q7, ha5, N2', N4, N5, N6, N7, G4, G6, G7, K4, K6, K7, Do, So⟩ := peekS_ids hs hb K1 (q := H.next + 2) (by omega) (by omega) hq1 ha hl m (by omega) hV hN1 hD hN2 hS
  have e40 := (G4 H.next (by omega) (by omega)).trans z0
  have e41 := (G4 (H.next + 1) (by omega) (by omega)).trans z1
  have e60 := (G6 H.next (by omega) (by omega)).trans z0
  have e61 := (G6 (H.next + 1) (by omega) (by omega)).trans z1
  have e70 := (G7 H.next (by omega) (by omega)).trans z0
  have e71 := (G7 (H.next + 1) (by omega) (by omega)).trans z1
  have m0 : ¬ (H.next = H2.next) := by omega
  have m0' : ¬ (H2.next = H.next) := by omega
  have m1 : ¬ (H.next + 1 = H2.next) := by omega
  have m1' : ¬ (H2.next = H.next + 1) := by omega
  have m2 : ¬ (H.next + 2 = H2.next) := by omega
  have m2' : ¬ (H2.next = H.next + 2) := by omega
  have r1 : ¬ (valP O < 64) := by omega
  have r2 : ¬ (valP O < 128) := by omega
  subst h2
  subst h4
  subst h6
  have wf : IntKind.i64.wrap (valP O - 192) = valP O - 192 := wrap_i64 (by omega) (by omega)
  have hk : (valP O - 192).tdiv 16 = 2 := by rw [Int.tdiv_eq_ediv_of_nonneg (by omega)]; omega
  have n3' : ¬ (valP O < 192) := by omega
  have wk : IntKind.i64.wrap 2 = 2 := wrap_i64 (by omega) (by omega)
  have KE : Kp H (H7.set H2.next (.cells 32 false [.int .i64 2, .int .i64 (valP V), d, t, .nilSlice, .int .i64 0, .int .i64 0, .int .i64 0])) := K7.set (by omega) _
  obtain ⟨H8, v1, v2, v3, v4, v5⟩ := var_ev (q := H.next + 2) hs hb KE (by omega) (by simp; omega) (show _ = some (rdB s a5 false) by simp [m2, q7]) ha5 hl m (by omega)
  have vr := varS_rng hb a5 false
  rw [hN] at v1 v4 v5 vr; simp only at v1 v4 v5 vr
  simp only [AH.set_next] at v3
  have K8 := v2.kp KE (by omega)
  have u80 : H8.get H.next = some (.cells 32 false zh) := by rw [v2.get _ (by simp; omega) (by omega), AH.set_get, if_neg m0]; exact e70
  have u81 : H8.get (H.next + 1) = some (.cells 32 false zh) := by rw [v2.get _ (by simp; omega) (by omega), AH.set_get, if_neg m1]; exact e71
  have u82 : H8.get H2.next = some (.cells 32 false [.int .i64 2, .int .i64 (valP V), d, t, .nilSlice, .int .i64 0, .int .i64 0, .int .i64 0]) := by rw [v2.get _ (by simp; omega) (by omega)]; simp
  have ft := fault_ev v4 m (by omega)
  obtain ⟨rE, H9, c1, c2, c3, c4, c5⟩ := takeR_ev hs K8 (q := H.next + 2) (by omega) (by omega) v4 v5 hl n vr.1 vr.2 m (by omega)
  rw [hE] at c3 c4 c5; simp only at c3 c4 c5
  have n9 := c2.next
  have K9 := c2.kp K8 (by omega)
  have u90 := (c2.get H.next (by omega) (by omega)).trans u80
  have u91 := (c2.get (H.next + 1) (by omega) (by omega)).trans u81
  have u92 := (c2.get H2.next (by omega) (by omega)).trans u82
  subst p1
  simp only [rdB, zh] at *
  unfold PsRes
  rw [ev_eq Try.func38 ok38 m _ H (by simp [Try.f38])]
  simp [Try.f38, push_set2, n11, n21, ldVar, stVar, perr, hdr, hs.one, cells_one hs.one, hL, k1, z0, z1, hq1, evHist, ObsOk, ObOk, f1, f2, q4, f3, do1, cells_one do1, g5, f4, q6, f5, to1, cells_one to1, g7, q7, e40, e41, e60, e61, e70, e71, m0, m0', m1, m1', m2, m2', r1, r2, h3, h5, h7, wf, hk, wk, n3', v1, v4, u80, u81, u82, c1, c4, u90, u91, u92, ft, p2, p3]
  exact ⟨_, _, _, _, ⟨⟨rfl, rfl, rfl⟩, rfl⟩, K8.set (Nat.le_refl _) _, Ox.nil _ _, Ox.nil _ _, Ox.nil _ _⟩
theorem peekS_H4 {H : AH} {s : AV} {l : List Int} {cid : Int} (hs : Bs H s l) (hb : By l) (hl : l.length ≤ 65536) (m : Nat) (hm : 40 ≤ m)
    {O : List Int} {a : Nat} {s0 : Bool} (hO : takeS l 0 false 1 = (O, a, s0)) (h0 : s0 = false) (h128 : 128 ≤ valP O)
    {V : List Int} {a1 : Nat} {s1 : Bool} (hV : takeS l a false 4 = (V, a1, s1)) {N1 : List Int} {a2 : Nat} {s2 : Bool} (hN1 : takeS l a1 s1 1 = (N1, a2, s2)) {D : List Int} {a3 : Nat} {s3 : Bool} (hD : takeS l a2 s2 (valP N1) = (D, a3, s3))
    {N2 : List Int} {a4 : Nat} {s4 : Bool} (hN2 : takeS l a3 s3 1 = (N2, a4, s4)) {S : List Int} {a5 : Nat} {s5 : Bool} (hS : takeS l a4 s4 (valP N2) = (S, a5, s5)) (h2 : s2 = false) (h3 : ¬ 8 < valP N1) (h4 : s4 = false) (h5 : ¬ 8 < valP N2) (h6 : s5 = false) (h7 : ¬ valP V = 0) (hx : 224 ≤ valP O) (hx2 : valP O < 240) {n : Int} {a8 : Nat} {s8 : Bool} (hN : varS l a5 false = (n, a8, s8)) {E : List Int} {a9 : Nat} {s9 : Bool} (hE : takeS l a8 s8 n = (E, a9, s9)) (p1 : s8 = false) (p2 : ¬ n < 12) (p3 : ¬ 1508 < n) (p4 : s9 = true) : PsRes H s cid m (perr 2) := by
  obtain ⟨m, rfl⟩ : ∃ k, m = k + 1 := ⟨m - 1, by omega⟩
  obtain ⟨H1, k1, n1', K1, z0, z1, hq1, ha⟩ := peekS_pro hs hb hl m (by omega) hO
  have hL : ∀ h, lenA Try.prog 22 s h = some (.int .i64 l.length) := hs.len
  subst h0
  obtain ⟨H2, H4, d, H5, H6, t, H7, f1, f2, q4, f3, do1, g5, f4, q6, f5, to1, g7, q7, ha5, N2', N4, N5, N6, N7, G4, G6, G7, K4, K6, K7, Do, So⟩ := peekS_ids hs hb K1 (q := H.next + 2) (by omega) (by omega) hq1 ha hl m (by omega) hV hN1 hD hN2 hS
  have e40 := (G4 H.next (by omega) (by omega)).trans z0
  have e41 := (G4 (H.next + 1) (by omega) (by omega)).trans z1
  have e60 := (G6 H.next (by omega) (by omega)).trans z0
  have e61 := (G6 (H.next + 1) (by omega) (by omega)).trans z1
  have e70 := (G7 H.next (by omega) (by omega)).trans z0
  have e71 := (G7 (H.next + 1) (by omega) (by omega)).trans z1
  have m0 : ¬ (H.next = H2.next) := by omega
  have m0' : ¬ (H2.next = H.next) := by omega
  have m1 : ¬ (H.next + 1 = H2.next) := by omega
  have m1' : ¬ (H2.next = H.next + 1) := by omega
  have m2 : ¬ (H.next + 2 = H2.next) := by omega
  have m2' : ¬ (H2.next = H.next + 2) := by omega
  have r1 : ¬ (valP O < 64) := by omega
  have r2 : ¬ (valP O < 128) := by omega
  subst h2
  subst h4
  subst h6
  have wf : IntKind.i64.wrap (valP O - 192) = valP O - 192 := wrap_i64 (by omega) (by omega)
  have hk : (valP O - 192).tdiv 16 = 2 := by rw [Int.tdiv_eq_ediv_of_nonneg (by omega)]; omega
  have n3' : ¬ (valP O < 192) := by omega
  have wk : IntKind.i64.wrap 2 = 2 := wrap_i64 (by omega) (by omega)
  have KE : Kp H (H7.set H2.next (.cells 32 false [.int .i64 2, .int .i64 (valP V), d, t, .nilSlice, .int .i64 0, .int .i64 0, .int .i64 0])) := K7.set (by omega) _
  obtain ⟨H8, v1, v2, v3, v4, v5⟩ := var_ev (q := H.next + 2) hs hb KE (by omega) (by simp; omega) (show _ = some (rdB s a5 false) by simp [m2, q7]) ha5 hl m (by omega)
  have vr := varS_rng hb a5 false
  rw [hN] at v1 v4 v5 vr; simp only at v1 v4 v5 vr
  simp only [AH.set_next] at v3
  have K8 := v2.kp KE (by omega)
  have u80 : H8.get H.next = some (.cells 32 false zh) := by rw [v2.get _ (by simp; omega) (by omega), AH.set_get, if_neg m0]; exact e70
  have u81 : H8.get (H.next + 1) = some (.cells 32 false zh) := by rw [v2.get _ (by simp; omega) (by omega), AH.set_get, if_neg m1]; exact e71
  have u82 : H8.get H2.next = some (.cells 32 false [.int .i64 2, .int .i64 (valP V), d, t, .nilSlice, .int .i64 0, .int .i64 0, .int .i64 0]) := by rw [v2.get _ (by simp; omega) (by omega)]; simp
  have ft := fault_ev v4 m (by omega)
  obtain ⟨rE, H9, c1, c2, c3, c4, c5⟩ := takeR_ev hs K8 (q := H.next + 2) (by omega) (by omega) v4 v5 hl n vr.1 vr.2 m (by omega)
  rw [hE] at c3 c4 c5; simp only at c3 c4 c5
  have n9 := c2.next
  have K9 := c2.kp K8 (by omega)
  have u90 := (c2.get H.next (by omega) (by omega)).trans u80
  have u91 := (c2.get (H.next + 1) (by omega) (by omega)).trans u81
  have u92 := (c2.get H2.next (by omega) (by omega)).trans u82
  subst p1
  subst p4
  simp only [rdB, zh] at *
  unfold PsRes
  rw [ev_eq Try.func38 ok38 m _ H (by simp [Try.f38])]
  simp [Try.f38, push_set2, n11, n21, ldVar, stVar, perr, hdr, hs.one, cells_one hs.one, hL, k1, z0, z1, hq1, evHist, ObsOk, ObOk, f1, f2, q4, f3, do1, cells_one do1, g5, f4, q6, f5, to1, cells_one to1, g7, q7, e40, e41, e60, e61, e70, e71, m0, m0', m1, m1', m2, m2', r1, r2, h3, h5, h7, wf, hk, wk, n3', v1, v4, u80, u81, u82, c1, c4, u90, u91, u92, p2, p3]
  exact ⟨_, _, _, _, ⟨⟨rfl, rfl, rfl⟩, rfl⟩, K9.set (Nat.le_refl _) _, Ox.nil _ _, Ox.nil _ _, Ox.nil _ _⟩
theorem peekS_H5 {H : AH} {s : AV} {l : List Int} {cid : Int} (hs : Bs H s l) (hb : By l) (hl : l.length ≤ 65536) (m : Nat) (hm : 40 ≤ m)
    {O : List Int} {a : Nat} {s0 : Bool} (hO : takeS l 0 false 1 = (O, a, s0)) (h0 : s0 = false) (h128 : 128 ≤ valP O)
    {V : List Int} {a1 : Nat} {s1 : Bool} (hV : takeS l a false 4 = (V, a1, s1)) {N1 : List Int} {a2 : Nat} {s2 : Bool} (hN1 : takeS l a1 s1 1 = (N1, a2, s2)) {D : List Int} {a3 : Nat} {s3 : Bool} (hD : takeS l a2 s2 (valP N1) = (D, a3, s3))
    {N2 : List Int} {a4 : Nat} {s4 : Bool} (hN2 : takeS l a3 s3 1 = (N2, a4, s4)) {S : List Int} {a5 : Nat} {s5 : Bool} (hS : takeS l a4 s4 (valP N2) = (S, a5, s5)) (h2 : s2 = false) (h3 : ¬ 8 < valP N1) (h4 : s4 = false) (h5 : ¬ 8 < valP N2) (h6 : s5 = false) (h7 : ¬ valP V = 0) (hx : 224 ≤ valP O) (hx2 : valP O < 240) {n : Int} {a8 : Nat} {s8 : Bool} (hN : varS l a5 false = (n, a8, s8)) {E : List Int} {a9 : Nat} {s9 : Bool} (hE : takeS l a8 s8 n = (E, a9, s9)) (p1 : s8 = false) (p2 : ¬ n < 12) (p3 : ¬ 1508 < n) (p4 : s9 = false) : PsRes H s cid m ⟨0, 2, valP V, D, S, [], a9⟩ := by
  obtain ⟨m, rfl⟩ : ∃ k, m = k + 1 := ⟨m - 1, by omega⟩
  obtain ⟨H1, k1, n1', K1, z0, z1, hq1, ha⟩ := peekS_pro hs hb hl m (by omega) hO
  have hL : ∀ h, lenA Try.prog 22 s h = some (.int .i64 l.length) := hs.len
  subst h0
  obtain ⟨H2, H4, d, H5, H6, t, H7, f1, f2, q4, f3, do1, g5, f4, q6, f5, to1, g7, q7, ha5, N2', N4, N5, N6, N7, G4, G6, G7, K4, K6, K7, Do, So⟩ := peekS_ids hs hb K1 (q := H.next + 2) (by omega) (by omega) hq1 ha hl m (by omega) hV hN1 hD hN2 hS
  have e40 := (G4 H.next (by omega) (by omega)).trans z0
  have e41 := (G4 (H.next + 1) (by omega) (by omega)).trans z1
  have e60 := (G6 H.next (by omega) (by omega)).trans z0
  have e61 := (G6 (H.next + 1) (by omega) (by omega)).trans z1
  have e70 := (G7 H.next (by omega) (by omega)).trans z0
  have e71 := (G7 (H.next + 1) (by omega) (by omega)).trans z1
  have m0 : ¬ (H.next = H2.next) := by omega
  have m0' : ¬ (H2.next = H.next) := by omega
  have m1 : ¬ (H.next + 1 = H2.next) := by omega
  have m1' : ¬ (H2.next = H.next + 1) := by omega
  have m2 : ¬ (H.next + 2 = H2.next) := by omega
  have m2' : ¬ (H2.next = H.next + 2) := by omega
  have r1 : ¬ (valP O < 64) := by omega
  have r2 : ¬ (valP O < 128) := by omega
  subst h2
  subst h4
  subst h6
  have wf : IntKind.i64.wrap (valP O - 192) = valP O - 192 := wrap_i64 (by omega) (by omega)
  have hk : (valP O - 192).tdiv 16 = 2 := by rw [Int.tdiv_eq_ediv_of_nonneg (by omega)]; omega
  have n3' : ¬ (valP O < 192) := by omega
  have wk : IntKind.i64.wrap 2 = 2 := wrap_i64 (by omega) (by omega)
  have KE : Kp H (H7.set H2.next (.cells 32 false [.int .i64 2, .int .i64 (valP V), d, t, .nilSlice, .int .i64 0, .int .i64 0, .int .i64 0])) := K7.set (by omega) _
  obtain ⟨H8, v1, v2, v3, v4, v5⟩ := var_ev (q := H.next + 2) hs hb KE (by omega) (by simp; omega) (show _ = some (rdB s a5 false) by simp [m2, q7]) ha5 hl m (by omega)
  have vr := varS_rng hb a5 false
  rw [hN] at v1 v4 v5 vr; simp only at v1 v4 v5 vr
  simp only [AH.set_next] at v3
  have K8 := v2.kp KE (by omega)
  have u80 : H8.get H.next = some (.cells 32 false zh) := by rw [v2.get _ (by simp; omega) (by omega), AH.set_get, if_neg m0]; exact e70
  have u81 : H8.get (H.next + 1) = some (.cells 32 false zh) := by rw [v2.get _ (by simp; omega) (by omega), AH.set_get, if_neg m1]; exact e71
  have u82 : H8.get H2.next = some (.cells 32 false [.int .i64 2, .int .i64 (valP V), d, t, .nilSlice, .int .i64 0, .int .i64 0, .int .i64 0]) := by rw [v2.get _ (by simp; omega) (by omega)]; simp
  have ft := fault_ev v4 m (by omega)
  obtain ⟨rE, H9, c1, c2, c3, c4, c5⟩ := takeR_ev hs K8 (q := H.next + 2) (by omega) (by omega) v4 v5 hl n vr.1 vr.2 m (by omega)
  rw [hE] at c3 c4 c5; simp only at c3 c4 c5
  have n9 := c2.next
  have K9 := c2.kp K8 (by omega)
  have u90 := (c2.get H.next (by omega) (by omega)).trans u80
  have u91 := (c2.get (H.next + 1) (by omega) (by omega)).trans u81
  have u92 := (c2.get H2.next (by omega) (by omega)).trans u82
  subst p1
  subst p4
  simp only [rdB, zh] at *
  unfold PsRes
  rw [ev_eq Try.func38 ok38 m _ H (by simp [Try.f38])]
  simp [Try.f38, push_set2, n11, n21, ldVar, stVar, perr, hdr, hs.one, cells_one hs.one, hL, k1, z0, z1, hq1, evHist, ObsOk, ObOk, f1, f2, q4, f3, do1, cells_one do1, g5, f4, q6, f5, to1, cells_one to1, g7, q7, e40, e41, e60, e61, e70, e71, m0, m0', m1, m1', m2, m2', r1, r2, h3, h5, h7, wf, hk, wk, n3', v1, v4, u80, u81, u82, c1, c4, u90, u91, u92, p2, p3]
  exact ⟨_, _, _, _, ⟨⟨rfl, rfl, rfl⟩, rfl⟩, K9.set (Nat.le_refl _) _, ((((Do.set _ (by omega)).kx v2 (by omega)).kx c2 (by omega)).set _ (by omega)).ox (by omega), ((((So.set _ (by omega)).kx v2 (by omega)).kx c2 (by omega)).set _ (by omega)).ox (by omega), Ox.nil _ _⟩
end Go.Ev
