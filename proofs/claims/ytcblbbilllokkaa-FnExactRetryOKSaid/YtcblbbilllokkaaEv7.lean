/- Lemmas of an evaluator of the given code and of what the functions answer; no condition of its own. -/
import Derived.Test.YtcblbbilllokkaaEv6
/- The program's peek: long headers with a number. -/
namespace Go.Ev
open Go Go.Proofs
set_option linter.unusedSimpArgs false
set_option linter.unusedVariables false

theorem peekI_H0 {H : AH} {s : AV} {l : List Int} {cid : Int} (hs : Bs H s l) (hb : By l) (hl : l.length ≤ 65536) (m : Nat) (hm : 30 ≤ m)
    {f : Int} {a : Nat} (hO : octetI l 0 0 = (f, a, 0)) (h128 : 128 ≤ f) (h256 : f < 256) {V : List Int} {a1 : Nat} {c1 : Int} (hV : takeI l a 0 4 = (V, a1, c1)) {D : List Int} {a2 : Nat} {c2 : Int} (hD : cidI l a1 c1 = (D, a2, c2))
    {S : List Int} {a3 : Nat} (hS : cidI l a2 c2 = (S, a3, 0)) (hv0 : ¬ (valP V = 0)) (hx : 224 ≤ f) (hx2 : f < 240) {n : Int} {a4 : Nat} {c4 : Int} (hN : numberI l a3 0 = (n, a4, c4)) {T2 : List Int} {a6 : Nat} {c6 : Int} (hT : takeI l a4 (if (c4 = 0 ∧ (n < 12 ∨ 1508 < n)) ∧ c4 = 0 then 3 else c4) n = (T2, a6, c6)) (hc4 : c4 = 0) (p1 : n < 12) : PkRes H s cid m 2 (valP V) D S [] a6 c6 := by
  obtain ⟨m, rfl⟩ : ∃ k, m = k + 1 := ⟨m - 1, by omega⟩
  obtain ⟨H1, r0, H2, r1, H3, r2, H4, k1, k2, k4, k5, j1, j2, b1, b2, b3, e1, e2, e3, hr, hq4, ha3, K4, n3, n4, hDo, hSo⟩ := peekI_mid hs hb hl m (by omega) hO hV hD hS
  obtain ⟨s5, x1, x2⟩ := cutDrop hs a3 ha3
  have hL : ∀ h, lenA Try.prog 22 s h = some (.int .i64 l.length) := hs.len
  have n1 : ¬ (f < 64) := by omega
  have n2 : ¬ (f < 128) := by omega
  have wf : IntKind.i64.wrap (f - 192) = f - 192 := wrap_i64 (by omega) (by omega)
  have hk : (f - 192).tdiv 16 = 2 := by rw [Int.tdiv_eq_ediv_of_nonneg (by omega)]; omega
  have n3' : ¬ (f < 192) := by omega
  have wk : IntKind.i64.wrap 2 = 2 := wrap_i64 (by omega) (by omega)
  have x3 := x1 _ (K4.set (b := H.next + 2) (by omega) (.cells 32 false [.int .i64 0, .int .i64 0, r1, r2, .nilSlice, .int .i64 0, .int .i64 0, .int .i64 0]))
  have K5 : Kp H (H4.set (H.next + 2) (.cells 32 false [.int .i64 2, .int .i64 (valP V), r1, r2, .nilSlice, .int .i64 0, .int .i64 0, .int .i64 0])) := K4.set (by omega) _
  obtain ⟨H5, H6, r5, H7, u1, u2, u3, u4, u5, u6, u7, u8, u9, u10, u11, u12, u13, u14⟩ := end_ev (q := H.next + 1) (a := a3) (c := 0) hs hb K5 (by omega) (by simp; omega) (by simp [hq4]) ha3 hl (c4 = 0 ∧ (n < 12 ∨ 1508 < n)) hN hT m (by omega)
  simp only [AH.set_next] at u11
  have g1 : H7.get (H.next + 2) = some (.cells 32 false [.int .i64 2, .int .i64 (valP V), r1, r2, .nilSlice, .int .i64 0, .int .i64 0, .int .i64 0]) := by rw [u10.get _ (by simp; omega) (by omega)]; simp
  have g2 : H7.get H.next = some (.cells 32 false zh) := by rw [u10.get _ (by simp; omega) (by omega)]; simp [hr]
  have q1 : n < 12 := p1
  have hP : (c4 = 0 ∧ (n < 12 ∨ 1508 < n)) := ⟨hc4, .inl p1⟩
  replace u3 := u3 hP
  subst hc4
  generalize (if (0 = 0 ∧ (n < 12 ∨ 1508 < n)) ∧ (0 : Int) = 0 then (3 : Int) else 0) = cc at *
  simp only [scB, zh] at *
  unfold PkRes
  rw [ev_eq Try.func43 ok43 m _ H (by simp [Try.f43])]
  simp [Try.f43, ldVar, stVar, hs.one, cells_one hs.one, k1, k2, k4, k5, j1, j2, b1, b2, b3, cells_one b3, e1, e2, e3, cells_one e3, hr, hq4, hL, n1, n2, evHist, ObsOk, ObOk, x3, hv0, wf, hk, wk, n3', u1, u2, u5, u6, u8, g1, g2, u3, p1]
  refine ⟨_, _, _, _, _, ⟨⟨rfl, rfl⟩, rfl⟩, u12.set (by omega) _, H3.next, by omega, H4.next, n4, by simp <;> omega, ?_, ?_, Ow.nil _ _ _⟩
  · exact ((((hDo.set _ (by omega)).kx u10 (by omega)).set _ (by omega)).wide (by omega) (Nat.le_refl _) (by simp; omega))
  · exact ((hSo.set _ (by omega)).kx u10 (by omega)).set _ (by omega)
theorem peekI_H1 {H : AH} {s : AV} {l : List Int} {cid : Int} (hs : Bs H s l) (hb : By l) (hl : l.length ≤ 65536) (m : Nat) (hm : 30 ≤ m)
    {f : Int} {a : Nat} (hO : octetI l 0 0 = (f, a, 0)) (h128 : 128 ≤ f) (h256 : f < 256) {V : List Int} {a1 : Nat} {c1 : Int} (hV : takeI l a 0 4 = (V, a1, c1)) {D : List Int} {a2 : Nat} {c2 : Int} (hD : cidI l a1 c1 = (D, a2, c2))
    {S : List Int} {a3 : Nat} (hS : cidI l a2 c2 = (S, a3, 0)) (hv0 : ¬ (valP V = 0)) (hx : 224 ≤ f) (hx2 : f < 240) {n : Int} {a4 : Nat} {c4 : Int} (hN : numberI l a3 0 = (n, a4, c4)) {T2 : List Int} {a6 : Nat} {c6 : Int} (hT : takeI l a4 (if (c4 = 0 ∧ (n < 12 ∨ 1508 < n)) ∧ c4 = 0 then 3 else c4) n = (T2, a6, c6)) (hc4 : c4 = 0) (p1 : ¬ n < 12) (p2 : 1508 < n) : PkRes H s cid m 2 (valP V) D S [] a6 c6 := by
  obtain ⟨m, rfl⟩ : ∃ k, m = k + 1 := ⟨m - 1, by omega⟩
  obtain ⟨H1, r0, H2, r1, H3, r2, H4, k1, k2, k4, k5, j1, j2, b1, b2, b3, e1, e2, e3, hr, hq4, ha3, K4, n3, n4, hDo, hSo⟩ := peekI_mid hs hb hl m (by omega) hO hV hD hS
  obtain ⟨s5, x1, x2⟩ := cutDrop hs a3 ha3
  have hL : ∀ h, lenA Try.prog 22 s h = some (.int .i64 l.length) := hs.len
  have n1 : ¬ (f < 64) := by omega
  have n2 : ¬ (f < 128) := by omega
  have wf : IntKind.i64.wrap (f - 192) = f - 192 := wrap_i64 (by omega) (by omega)
  have hk : (f - 192).tdiv 16 = 2 := by rw [Int.tdiv_eq_ediv_of_nonneg (by omega)]; omega
  have n3' : ¬ (f < 192) := by omega
  have wk : IntKind.i64.wrap 2 = 2 := wrap_i64 (by omega) (by omega)
  have x3 := x1 _ (K4.set (b := H.next + 2) (by omega) (.cells 32 false [.int .i64 0, .int .i64 0, r1, r2, .nilSlice, .int .i64 0, .int .i64 0, .int .i64 0]))
  have K5 : Kp H (H4.set (H.next + 2) (.cells 32 false [.int .i64 2, .int .i64 (valP V), r1, r2, .nilSlice, .int .i64 0, .int .i64 0, .int .i64 0])) := K4.set (by omega) _
  obtain ⟨H5, H6, r5, H7, u1, u2, u3, u4, u5, u6, u7, u8, u9, u10, u11, u12, u13, u14⟩ := end_ev (q := H.next + 1) (a := a3) (c := 0) hs hb K5 (by omega) (by simp; omega) (by simp [hq4]) ha3 hl (c4 = 0 ∧ (n < 12 ∨ 1508 < n)) hN hT m (by omega)
  simp only [AH.set_next] at u11
  have g1 : H7.get (H.next + 2) = some (.cells 32 false [.int .i64 2, .int .i64 (valP V), r1, r2, .nilSlice, .int .i64 0, .int .i64 0, .int .i64 0]) := by rw [u10.get _ (by simp; omega) (by omega)]; simp
  have g2 : H7.get H.next = some (.cells 32 false zh) := by rw [u10.get _ (by simp; omega) (by omega)]; simp [hr]
  have hP : (c4 = 0 ∧ (n < 12 ∨ 1508 < n)) := ⟨hc4, .inr p2⟩
  replace u3 := u3 hP
  subst hc4
  generalize (if (0 = 0 ∧ (n < 12 ∨ 1508 < n)) ∧ (0 : Int) = 0 then (3 : Int) else 0) = cc at *
  simp only [scB, zh] at *
  unfold PkRes
  rw [ev_eq Try.func43 ok43 m _ H (by simp [Try.f43])]
  simp [Try.f43, ldVar, stVar, hs.one, cells_one hs.one, k1, k2, k4, k5, j1, j2, b1, b2, b3, cells_one b3, e1, e2, e3, cells_one e3, hr, hq4, hL, n1, n2, evHist, ObsOk, ObOk, x3, hv0, wf, hk, wk, n3', u1, u2, u5, u6, u8, g1, g2, u3, p1, p2]
  refine ⟨_, _, _, _, _, ⟨⟨rfl, rfl⟩, rfl⟩, u12.set (by omega) _, H3.next, by omega, H4.next, n4, by simp <;> omega, ?_, ?_, Ow.nil _ _ _⟩
  · exact ((((hDo.set _ (by omega)).kx u10 (by omega)).set _ (by omega)).wide (by omega) (Nat.le_refl _) (by simp; omega))
  · exact ((hSo.set _ (by omega)).kx u10 (by omega)).set _ (by omega)
theorem peekI_H2 {H : AH} {s : AV} {l : List Int} {cid : Int} (hs : Bs H s l) (hb : By l) (hl : l.length ≤ 65536) (m : Nat) (hm : 30 ≤ m)
    {f : Int} {a : Nat} (hO : octetI l 0 0 = (f, a, 0)) (h128 : 128 ≤ f) (h256 : f < 256) {V : List Int} {a1 : Nat} {c1 : Int} (hV : takeI l a 0 4 = (V, a1, c1)) {D : List Int} {a2 : Nat} {c2 : Int} (hD : cidI l a1 c1 = (D, a2, c2))
    {S : List Int} {a3 : Nat} (hS : cidI l a2 c2 = (S, a3, 0)) (hv0 : ¬ (valP V = 0)) (hx : 224 ≤ f) (hx2 : f < 240) {n : Int} {a4 : Nat} {c4 : Int} (hN : numberI l a3 0 = (n, a4, c4)) {T2 : List Int} {a6 : Nat} {c6 : Int} (hT : takeI l a4 (if (c4 = 0 ∧ (n < 12 ∨ 1508 < n)) ∧ c4 = 0 then 3 else c4) n = (T2, a6, c6)) (hc4 : c4 = 0) (p1 : ¬ n < 12) (p2 : ¬ 1508 < n) : PkRes H s cid m 2 (valP V) D S [] a6 c6 := by
  obtain ⟨m, rfl⟩ : ∃ k, m = k + 1 := ⟨m - 1, by omega⟩
  obtain ⟨H1, r0, H2, r1, H3, r2, H4, k1, k2, k4, k5, j1, j2, b1, b2, b3, e1, e2, e3, hr, hq4, ha3, K4, n3, n4, hDo, hSo⟩ := peekI_mid hs hb hl m (by omega) hO hV hD hS
  obtain ⟨s5, x1, x2⟩ := cutDrop hs a3 ha3
  have hL : ∀ h, lenA Try.prog 22 s h = some (.int .i64 l.length) := hs.len
  have n1 : ¬ (f < 64) := by omega
  have n2 : ¬ (f < 128) := by omega
  have wf : IntKind.i64.wrap (f - 192) = f - 192 := wrap_i64 (by omega) (by omega)
  have hk : (f - 192).tdiv 16 = 2 := by rw [Int.tdiv_eq_ediv_of_nonneg (by omega)]; omega
  have n3' : ¬ (f < 192) := by omega
  have wk : IntKind.i64.wrap 2 = 2 := wrap_i64 (by omega) (by omega)
  have x3 := x1 _ (K4.set (b := H.next + 2) (by omega) (.cells 32 false [.int .i64 0, .int .i64 0, r1, r2, .nilSlice, .int .i64 0, .int .i64 0, .int .i64 0]))
  have K5 : Kp H (H4.set (H.next + 2) (.cells 32 false [.int .i64 2, .int .i64 (valP V), r1, r2, .nilSlice, .int .i64 0, .int .i64 0, .int .i64 0])) := K4.set (by omega) _
  obtain ⟨H5, H6, r5, H7, u1, u2, u3, u4, u5, u6, u7, u8, u9, u10, u11, u12, u13, u14⟩ := end_ev (q := H.next + 1) (a := a3) (c := 0) hs hb K5 (by omega) (by simp; omega) (by simp [hq4]) ha3 hl (c4 = 0 ∧ (n < 12 ∨ 1508 < n)) hN hT m (by omega)
  simp only [AH.set_next] at u11
  have g1 : H7.get (H.next + 2) = some (.cells 32 false [.int .i64 2, .int .i64 (valP V), r1, r2, .nilSlice, .int .i64 0, .int .i64 0, .int .i64 0]) := by rw [u10.get _ (by simp; omega) (by omega)]; simp
  have g2 : H7.get H.next = some (.cells 32 false zh) := by rw [u10.get _ (by simp; omega) (by omega)]; simp [hr]
  have hP : ¬ (c4 = 0 ∧ (n < 12 ∨ 1508 < n)) := fun h => by rcases h.2 with h | h <;> omega
  have u4' := u4 hP
  subst u4'
  subst hc4
  generalize (if (0 = 0 ∧ (n < 12 ∨ 1508 < n)) ∧ (0 : Int) = 0 then (3 : Int) else 0) = cc at *
  simp only [scB, zh] at *
  unfold PkRes
  rw [ev_eq Try.func43 ok43 m _ H (by simp [Try.f43])]
  simp [Try.f43, ldVar, stVar, hs.one, cells_one hs.one, k1, k2, k4, k5, j1, j2, b1, b2, b3, cells_one b3, e1, e2, e3, cells_one e3, hr, hq4, hL, n1, n2, evHist, ObsOk, ObOk, x3, hv0, wf, hk, wk, n3', u1, u2, u5, u6, u8, g1, g2, p1, p2]
  refine ⟨_, _, _, _, _, ⟨⟨rfl, rfl⟩, rfl⟩, u12.set (by omega) _, H3.next, by omega, H4.next, n4, by simp <;> omega, ?_, ?_, Ow.nil _ _ _⟩
  · exact ((((hDo.set _ (by omega)).kx u10 (by omega)).set _ (by omega)).wide (by omega) (Nat.le_refl _) (by simp; omega))
  · exact ((hSo.set _ (by omega)).kx u10 (by omega)).set _ (by omega)
theorem peekI_H3 {H : AH} {s : AV} {l : List Int} {cid : Int} (hs : Bs H s l) (hb : By l) (hl : l.length ≤ 65536) (m : Nat) (hm : 30 ≤ m)
    {f : Int} {a : Nat} (hO : octetI l 0 0 = (f, a, 0)) (h128 : 128 ≤ f) (h256 : f < 256) {V : List Int} {a1 : Nat} {c1 : Int} (hV : takeI l a 0 4 = (V, a1, c1)) {D : List Int} {a2 : Nat} {c2 : Int} (hD : cidI l a1 c1 = (D, a2, c2))
    {S : List Int} {a3 : Nat} (hS : cidI l a2 c2 = (S, a3, 0)) (hv0 : ¬ (valP V = 0)) (hx : 224 ≤ f) (hx2 : f < 240) {n : Int} {a4 : Nat} {c4 : Int} (hN : numberI l a3 0 = (n, a4, c4)) {T2 : List Int} {a6 : Nat} {c6 : Int} (hT : takeI l a4 (if (c4 = 0 ∧ (n < 12 ∨ 1508 < n)) ∧ c4 = 0 then 3 else c4) n = (T2, a6, c6)) (hc4 : ¬ c4 = 0) : PkRes H s cid m 2 (valP V) D S [] a6 c6 := by
  obtain ⟨m, rfl⟩ : ∃ k, m = k + 1 := ⟨m - 1, by omega⟩
  obtain ⟨H1, r0, H2, r1, H3, r2, H4, k1, k2, k4, k5, j1, j2, b1, b2, b3, e1, e2, e3, hr, hq4, ha3, K4, n3, n4, hDo, hSo⟩ := peekI_mid hs hb hl m (by omega) hO hV hD hS
  obtain ⟨s5, x1, x2⟩ := cutDrop hs a3 ha3
  have hL : ∀ h, lenA Try.prog 22 s h = some (.int .i64 l.length) := hs.len
  have n1 : ¬ (f < 64) := by omega
  have n2 : ¬ (f < 128) := by omega
  have wf : IntKind.i64.wrap (f - 192) = f - 192 := wrap_i64 (by omega) (by omega)
  have hk : (f - 192).tdiv 16 = 2 := by rw [Int.tdiv_eq_ediv_of_nonneg (by omega)]; omega
  have n3' : ¬ (f < 192) := by omega
  have wk : IntKind.i64.wrap 2 = 2 := wrap_i64 (by omega) (by omega)
  have x3 := x1 _ (K4.set (b := H.next + 2) (by omega) (.cells 32 false [.int .i64 0, .int .i64 0, r1, r2, .nilSlice, .int .i64 0, .int .i64 0, .int .i64 0]))
  have K5 : Kp H (H4.set (H.next + 2) (.cells 32 false [.int .i64 2, .int .i64 (valP V), r1, r2, .nilSlice, .int .i64 0, .int .i64 0, .int .i64 0])) := K4.set (by omega) _
  obtain ⟨H5, H6, r5, H7, u1, u2, u3, u4, u5, u6, u7, u8, u9, u10, u11, u12, u13, u14⟩ := end_ev (q := H.next + 1) (a := a3) (c := 0) hs hb K5 (by omega) (by simp; omega) (by simp [hq4]) ha3 hl (c4 = 0 ∧ (n < 12 ∨ 1508 < n)) hN hT m (by omega)
  simp only [AH.set_next] at u11
  have g1 : H7.get (H.next + 2) = some (.cells 32 false [.int .i64 2, .int .i64 (valP V), r1, r2, .nilSlice, .int .i64 0, .int .i64 0, .int .i64 0]) := by rw [u10.get _ (by simp; omega) (by omega)]; simp
  have g2 : H7.get H.next = some (.cells 32 false zh) := by rw [u10.get _ (by simp; omega) (by omega)]; simp [hr]
  have hP : ¬ (c4 = 0 ∧ (n < 12 ∨ 1508 < n)) := fun h => hc4 h.1
  have u4' := u4 hP
  subst u4'
  generalize (if (c4 = 0 ∧ (n < 12 ∨ 1508 < n)) ∧ c4 = 0 then (3 : Int) else c4) = cc at *
  simp only [scB, zh] at *
  unfold PkRes
  rw [ev_eq Try.func43 ok43 m _ H (by simp [Try.f43])]
  simp [Try.f43, ldVar, stVar, hs.one, cells_one hs.one, k1, k2, k4, k5, j1, j2, b1, b2, b3, cells_one b3, e1, e2, e3, cells_one e3, hr, hq4, hL, n1, n2, evHist, ObsOk, ObOk, x3, hv0, wf, hk, wk, n3', u1, u2, u5, u6, u8, g1, g2, hc4, U]
  refine ⟨_, _, _, _, _, ⟨⟨rfl, rfl⟩, rfl⟩, u12.set (by omega) _, H3.next, by omega, H4.next, n4, by simp <;> omega, ?_, ?_, Ow.nil _ _ _⟩
  · exact ((((hDo.set _ (by omega)).kx u10 (by omega)).set _ (by omega)).wide (by omega) (Nat.le_refl _) (by simp; omega))
  · exact ((hSo.set _ (by omega)).kx u10 (by omega)).set _ (by omega)
end Go.Ev

/- The program's peek: long headers with a token. -/
namespace Go.Ev
open Go Go.Proofs
set_option linter.unusedSimpArgs false
set_option linter.unusedVariables false

theorem peekI_I00 {H : AH} {s : AV} {l : List Int} {cid : Int} (hs : Bs H s l) (hb : By l) (hl : l.length ≤ 65536) (m : Nat) (hm : 30 ≤ m)
    {f : Int} {a : Nat} (hO : octetI l 0 0 = (f, a, 0)) (h128 : 128 ≤ f) (h256 : f < 256) {V : List Int} {a1 : Nat} {c1 : Int} (hV : takeI l a 0 4 = (V, a1, c1)) {D : List Int} {a2 : Nat} {c2 : Int} (hD : cidI l a1 c1 = (D, a2, c2))
    {S : List Int} {a3 : Nat} (hS : cidI l a2 c2 = (S, a3, 0)) (hv0 : ¬ (valP V = 0)) (hx : 192 ≤ f) (hx2 : f < 208) {k : Int} {a5 : Nat} {c5 : Int} (hN0 : numberI l a3 0 = (k, a5, c5)) {T : List Int} {a7 : Nat} {c7 : Int} (hT0 : takeI l a5 (if 64 < k ∧ c5 = 0 then 3 else c5) k = (T, a7, c7)) (hk64 : ¬ 64 < k) {n : Int} {a4 : Nat} {c4 : Int} (hN : numberI l a7 c7 = (n, a4, c4)) {T2 : List Int} {a6 : Nat} {c6 : Int} (hT : takeI l a4 (if (c4 = 0 ∧ (n < 12 ∨ 1508 < n)) ∧ c4 = 0 then 3 else c4) n = (T2, a6, c6)) (hc4 : c4 = 0) (p1 : n < 12) : PkRes H s cid m 1 (valP V) D S T a6 c6 := by
  obtain ⟨m, rfl⟩ : ∃ k, m = k + 1 := ⟨m - 1, by omega⟩
  obtain ⟨H1, r0, H2, r1, H3, r2, H4, k1, k2, k4, k5, j1, j2, b1, b2, b3, e1, e2, e3, hr, hq4, ha3, K4, n3, n4, hDo, hSo⟩ := peekI_mid hs hb hl m (by omega) hO hV hD hS
  obtain ⟨s5, x1, x2⟩ := cutDrop hs a3 ha3
  have hL : ∀ h, lenA Try.prog 22 s h = some (.int .i64 l.length) := hs.len
  have n1 : ¬ (f < 64) := by omega
  have n2 : ¬ (f < 128) := by omega
  have wf : IntKind.i64.wrap (f - 192) = f - 192 := wrap_i64 (by omega) (by omega)
  have hk : (f - 192).tdiv 16 = 0 := by rw [Int.tdiv_eq_ediv_of_nonneg (by omega)]; omega
  have n3' : ¬ (f < 192) := by omega
  have wk : IntKind.i64.wrap 0 = 0 := wrap_i64 (by omega) (by omega)
  have x3 := x1 _ (K4.set (b := H.next + 2) (by omega) (.cells 32 false [.int .i64 0, .int .i64 0, r1, r2, .nilSlice, .int .i64 0, .int .i64 0, .int .i64 0]))
  have K5 : Kp H (H4.set (H.next + 2) (.cells 32 false [.int .i64 1, .int .i64 (valP V), r1, r2, .nilSlice, .int .i64 0, .int .i64 0, .int .i64 0])) := K4.set (by omega) _
  obtain ⟨A5, A6, r5, A7, v1, v2, v3, v4, v5, v6, v7, v8, v9, v10, v11, v12, v13, v14⟩ := end_ev (q := H.next + 1) (a := a3) (c := 0) hs hb K5 (by omega) (by simp; omega) (by simp [hq4]) ha3 hl (64 < k) hN0 hT0 m (by omega)
  simp only [AH.set_next] at v11
  have hTl : T.length ≤ 65536 := by have := (takeI_len l a5 (if 64 < k ∧ c5 = 0 then 3 else c5) k).2; rw [hT0] at this; simp only at this; omega
  obtain ⟨w, A8, y1, y2, y3⟩ := copied_ev v7 v12 (by omega) m (by omega)
  have hwo := y3.bs.one
  have hn8 := y2.next
  have d1 : A7.get (H.next + 2) = some (.cells 32 false [.int .i64 1, .int .i64 (valP V), r1, r2, .nilSlice, .int .i64 0, .int .i64 0, .int .i64 0]) := by rw [v10.get _ (by simp; omega) (by omega)]; simp
  have d2 : A7.get H.next = some (.cells 32 false zh) := by rw [v10.get _ (by simp; omega) (by omega)]; simp [hr]
  have d3 : A8.get (H.next + 2) = some (.cells 32 false [.int .i64 1, .int .i64 (valP V), r1, r2, .nilSlice, .int .i64 0, .int .i64 0, .int .i64 0]) := by rw [y2.get _ (by omega)]; exact d1
  have d4 : A8.get H.next = some (.cells 32 false zh) := by rw [y2.get _ (by omega)]; exact d2
  have d5 : A8.get (H.next + 1) = some (scB s a7 c7) := by rw [y2.get _ (by omega)]; exact v8
  have K8 : Kp H (A8.set (H.next + 2) (.cells 32 false [.int .i64 1, .int .i64 (valP V), r1, r2, w, .int .i64 0, .int .i64 0, .int .i64 0])) := (v12.trans y2).set (by omega) _
  obtain ⟨H5, H6, r6, H7, u1, u2, u3, u4, u5, u6, u7, u8, u9, u10, u11, u12, u13, u14⟩ := end_ev (q := H.next + 1) (a := a7) (c := c7) hs hb K8 (by omega) (by simp; omega) (by simp [d5]) v9 hl (c4 = 0 ∧ (n < 12 ∨ 1508 < n)) hN hT m (by omega)
  simp only [AH.set_next] at u11
  have g1 : H7.get (H.next + 2) = some (.cells 32 false [.int .i64 1, .int .i64 (valP V), r1, r2, w, .int .i64 0, .int .i64 0, .int .i64 0]) := by rw [u10.get _ (by simp; omega) (by omega)]; simp
  have g2 : H7.get H.next = some (.cells 32 false zh) := by rw [u10.get _ (by simp; omega) (by omega)]; simp [d4]
  have v4' := v4 hk64
  subst v4'
  have q1 : n < 12 := p1
  have hP : (c4 = 0 ∧ (n < 12 ∨ 1508 < n)) := ⟨hc4, .inl p1⟩
  replace u3 := u3 hP
  subst hc4
  generalize (if (0 = 0 ∧ (n < 12 ∨ 1508 < n)) ∧ (0 : Int) = 0 then (3 : Int) else 0) = cc at *
  generalize (if 64 < k ∧ c5 = 0 then (3 : Int) else c5) = cd at *
  simp only [scB, zh] at *
  unfold PkRes
  rw [ev_eq Try.func43 ok43 m _ H (by simp [Try.f43])]
  simp [Try.f43, ldVar, stVar, hs.one, cells_one hs.one, k1, k2, k4, k5, j1, j2, b1, b2, b3, cells_one b3, e1, e2, e3, cells_one e3, hr, hq4, hL, n1, n2, evHist, ObsOk, ObOk, x3, hv0, wf, hk, wk, n3', v1, v2, v5, v6, v8, d1, d2, d3, d4, d5, y1, hwo, cells_one hwo, u1, u2, u5, u6, u8, g1, g2, hk64, u3, p1]
  refine ⟨_, _, _, _, _, ⟨⟨rfl, rfl⟩, rfl⟩, u12.set (by omega) _, H3.next, by omega, H4.next, n4, by simp <;> omega, ?_, ?_, ?_⟩
  · exact (((((((hDo.set _ (by omega)).kx v10 (by omega)).kp y2).set _ (by omega)).kx u10 (by omega)).set _ (by omega)).wide (by omega) (Nat.le_refl _) (by simp; omega))
  · exact (((((hSo.set _ (by omega)).kx v10 (by omega)).kp y2).set _ (by omega)).kx u10 (by omega)).set _ (by omega)
  · exact (((y3.set _ (by omega)).kx u10 (by omega)).set _ (by omega)).wide (by omega) (by simp; omega) (by simp)
theorem peekI_I01 {H : AH} {s : AV} {l : List Int} {cid : Int} (hs : Bs H s l) (hb : By l) (hl : l.length ≤ 65536) (m : Nat) (hm : 30 ≤ m)
    {f : Int} {a : Nat} (hO : octetI l 0 0 = (f, a, 0)) (h128 : 128 ≤ f) (h256 : f < 256) {V : List Int} {a1 : Nat} {c1 : Int} (hV : takeI l a 0 4 = (V, a1, c1)) {D : List Int} {a2 : Nat} {c2 : Int} (hD : cidI l a1 c1 = (D, a2, c2))
    {S : List Int} {a3 : Nat} (hS : cidI l a2 c2 = (S, a3, 0)) (hv0 : ¬ (valP V = 0)) (hx : 192 ≤ f) (hx2 : f < 208) {k : Int} {a5 : Nat} {c5 : Int} (hN0 : numberI l a3 0 = (k, a5, c5)) {T : List Int} {a7 : Nat} {c7 : Int} (hT0 : takeI l a5 (if 64 < k ∧ c5 = 0 then 3 else c5) k = (T, a7, c7)) (hk64 : ¬ 64 < k) {n : Int} {a4 : Nat} {c4 : Int} (hN : numberI l a7 c7 = (n, a4, c4)) {T2 : List Int} {a6 : Nat} {c6 : Int} (hT : takeI l a4 (if (c4 = 0 ∧ (n < 12 ∨ 1508 < n)) ∧ c4 = 0 then 3 else c4) n = (T2, a6, c6)) (hc4 : c4 = 0) (p1 : ¬ n < 12) (p2 : 1508 < n) : PkRes H s cid m 1 (valP V) D S T a6 c6 := by
  obtain ⟨m, rfl⟩ : ∃ k, m = k + 1 := ⟨m - 1, by omega⟩
  obtain ⟨H1, r0, H2, r1, H3, r2, H4, k1, k2, k4, k5, j1, j2, b1, b2, b3, e1, e2, e3, hr, hq4, ha3, K4, n3, n4, hDo, hSo⟩ := peekI_mid hs hb hl m (by omega) hO hV hD hS
  obtain ⟨s5, x1, x2⟩ := cutDrop hs a3 ha3
  have hL : ∀ h, lenA Try.prog 22 s h = some (.int .i64 l.length) := hs.len
  have n1 : ¬ (f < 64) := by omega
  have n2 : ¬ (f < 128) := by omega
  have wf : IntKind.i64.wrap (f - 192) = f - 192 := wrap_i64 (by omega) (by omega)
  have hk : (f - 192).tdiv 16 = 0 := by rw [Int.tdiv_eq_ediv_of_nonneg (by omega)]; omega
  have n3' : ¬ (f < 192) := by omega
  have wk : IntKind.i64.wrap 0 = 0 := wrap_i64 (by omega) (by omega)
  have x3 := x1 _ (K4.set (b := H.next + 2) (by omega) (.cells 32 false [.int .i64 0, .int .i64 0, r1, r2, .nilSlice, .int .i64 0, .int .i64 0, .int .i64 0]))
  have K5 : Kp H (H4.set (H.next + 2) (.cells 32 false [.int .i64 1, .int .i64 (valP V), r1, r2, .nilSlice, .int .i64 0, .int .i64 0, .int .i64 0])) := K4.set (by omega) _
  obtain ⟨A5, A6, r5, A7, v1, v2, v3, v4, v5, v6, v7, v8, v9, v10, v11, v12, v13, v14⟩ := end_ev (q := H.next + 1) (a := a3) (c := 0) hs hb K5 (by omega) (by simp; omega) (by simp [hq4]) ha3 hl (64 < k) hN0 hT0 m (by omega)
  simp only [AH.set_next] at v11
  have hTl : T.length ≤ 65536 := by have := (takeI_len l a5 (if 64 < k ∧ c5 = 0 then 3 else c5) k).2; rw [hT0] at this; simp only at this; omega
  obtain ⟨w, A8, y1, y2, y3⟩ := copied_ev v7 v12 (by omega) m (by omega)
  have hwo := y3.bs.one
  have hn8 := y2.next
  have d1 : A7.get (H.next + 2) = some (.cells 32 false [.int .i64 1, .int .i64 (valP V), r1, r2, .nilSlice, .int .i64 0, .int .i64 0, .int .i64 0]) := by rw [v10.get _ (by simp; omega) (by omega)]; simp
  have d2 : A7.get H.next = some (.cells 32 false zh) := by rw [v10.get _ (by simp; omega) (by omega)]; simp [hr]
  have d3 : A8.get (H.next + 2) = some (.cells 32 false [.int .i64 1, .int .i64 (valP V), r1, r2, .nilSlice, .int .i64 0, .int .i64 0, .int .i64 0]) := by rw [y2.get _ (by omega)]; exact d1
  have d4 : A8.get H.next = some (.cells 32 false zh) := by rw [y2.get _ (by omega)]; exact d2
  have d5 : A8.get (H.next + 1) = some (scB s a7 c7) := by rw [y2.get _ (by omega)]; exact v8
  have K8 : Kp H (A8.set (H.next + 2) (.cells 32 false [.int .i64 1, .int .i64 (valP V), r1, r2, w, .int .i64 0, .int .i64 0, .int .i64 0])) := (v12.trans y2).set (by omega) _
  obtain ⟨H5, H6, r6, H7, u1, u2, u3, u4, u5, u6, u7, u8, u9, u10, u11, u12, u13, u14⟩ := end_ev (q := H.next + 1) (a := a7) (c := c7) hs hb K8 (by omega) (by simp; omega) (by simp [d5]) v9 hl (c4 = 0 ∧ (n < 12 ∨ 1508 < n)) hN hT m (by omega)
  simp only [AH.set_next] at u11
  have g1 : H7.get (H.next + 2) = some (.cells 32 false [.int .i64 1, .int .i64 (valP V), r1, r2, w, .int .i64 0, .int .i64 0, .int .i64 0]) := by rw [u10.get _ (by simp; omega) (by omega)]; simp
  have g2 : H7.get H.next = some (.cells 32 false zh) := by rw [u10.get _ (by simp; omega) (by omega)]; simp [d4]
  have v4' := v4 hk64
  subst v4'
  have hP : (c4 = 0 ∧ (n < 12 ∨ 1508 < n)) := ⟨hc4, .inr p2⟩
  replace u3 := u3 hP
  subst hc4
  generalize (if (0 = 0 ∧ (n < 12 ∨ 1508 < n)) ∧ (0 : Int) = 0 then (3 : Int) else 0) = cc at *
  generalize (if 64 < k ∧ c5 = 0 then (3 : Int) else c5) = cd at *
  simp only [scB, zh] at *
  unfold PkRes
  rw [ev_eq Try.func43 ok43 m _ H (by simp [Try.f43])]
  simp [Try.f43, ldVar, stVar, hs.one, cells_one hs.one, k1, k2, k4, k5, j1, j2, b1, b2, b3, cells_one b3, e1, e2, e3, cells_one e3, hr, hq4, hL, n1, n2, evHist, ObsOk, ObOk, x3, hv0, wf, hk, wk, n3', v1, v2, v5, v6, v8, d1, d2, d3, d4, d5, y1, hwo, cells_one hwo, u1, u2, u5, u6, u8, g1, g2, hk64, u3, p1, p2]
  refine ⟨_, _, _, _, _, ⟨⟨rfl, rfl⟩, rfl⟩, u12.set (by omega) _, H3.next, by omega, H4.next, n4, by simp <;> omega, ?_, ?_, ?_⟩
  · exact (((((((hDo.set _ (by omega)).kx v10 (by omega)).kp y2).set _ (by omega)).kx u10 (by omega)).set _ (by omega)).wide (by omega) (Nat.le_refl _) (by simp; omega))
  · exact (((((hSo.set _ (by omega)).kx v10 (by omega)).kp y2).set _ (by omega)).kx u10 (by omega)).set _ (by omega)
  · exact (((y3.set _ (by omega)).kx u10 (by omega)).set _ (by omega)).wide (by omega) (by simp; omega) (by simp)
theorem peekI_I02 {H : AH} {s : AV} {l : List Int} {cid : Int} (hs : Bs H s l) (hb : By l) (hl : l.length ≤ 65536) (m : Nat) (hm : 30 ≤ m)
    {f : Int} {a : Nat} (hO : octetI l 0 0 = (f, a, 0)) (h128 : 128 ≤ f) (h256 : f < 256) {V : List Int} {a1 : Nat} {c1 : Int} (hV : takeI l a 0 4 = (V, a1, c1)) {D : List Int} {a2 : Nat} {c2 : Int} (hD : cidI l a1 c1 = (D, a2, c2))
    {S : List Int} {a3 : Nat} (hS : cidI l a2 c2 = (S, a3, 0)) (hv0 : ¬ (valP V = 0)) (hx : 192 ≤ f) (hx2 : f < 208) {k : Int} {a5 : Nat} {c5 : Int} (hN0 : numberI l a3 0 = (k, a5, c5)) {T : List Int} {a7 : Nat} {c7 : Int} (hT0 : takeI l a5 (if 64 < k ∧ c5 = 0 then 3 else c5) k = (T, a7, c7)) (hk64 : ¬ 64 < k) {n : Int} {a4 : Nat} {c4 : Int} (hN : numberI l a7 c7 = (n, a4, c4)) {T2 : List Int} {a6 : Nat} {c6 : Int} (hT : takeI l a4 (if (c4 = 0 ∧ (n < 12 ∨ 1508 < n)) ∧ c4 = 0 then 3 else c4) n = (T2, a6, c6)) (hc4 : c4 = 0) (p1 : ¬ n < 12) (p2 : ¬ 1508 < n) : PkRes H s cid m 1 (valP V) D S T a6 c6 := by
  obtain ⟨m, rfl⟩ : ∃ k, m = k + 1 := ⟨m - 1, by omega⟩
  obtain ⟨H1, r0, H2, r1, H3, r2, H4, k1, k2, k4, k5, j1, j2, b1, b2, b3, e1, e2, e3, hr, hq4, ha3, K4, n3, n4, hDo, hSo⟩ := peekI_mid hs hb hl m (by omega) hO hV hD hS
  obtain ⟨s5, x1, x2⟩ := cutDrop hs a3 ha3
  have hL : ∀ h, lenA Try.prog 22 s h = some (.int .i64 l.length) := hs.len
  have n1 : ¬ (f < 64) := by omega
  have n2 : ¬ (f < 128) := by omega
  have wf : IntKind.i64.wrap (f - 192) = f - 192 := wrap_i64 (by omega) (by omega)
  have hk : (f - 192).tdiv 16 = 0 := by rw [Int.tdiv_eq_ediv_of_nonneg (by omega)]; omega
  have n3' : ¬ (f < 192) := by omega
  have wk : IntKind.i64.wrap 0 = 0 := wrap_i64 (by omega) (by omega)
  have x3 := x1 _ (K4.set (b := H.next + 2) (by omega) (.cells 32 false [.int .i64 0, .int .i64 0, r1, r2, .nilSlice, .int .i64 0, .int .i64 0, .int .i64 0]))
  have K5 : Kp H (H4.set (H.next + 2) (.cells 32 false [.int .i64 1, .int .i64 (valP V), r1, r2, .nilSlice, .int .i64 0, .int .i64 0, .int .i64 0])) := K4.set (by omega) _
  obtain ⟨A5, A6, r5, A7, v1, v2, v3, v4, v5, v6, v7, v8, v9, v10, v11, v12, v13, v14⟩ := end_ev (q := H.next + 1) (a := a3) (c := 0) hs hb K5 (by omega) (by simp; omega) (by simp [hq4]) ha3 hl (64 < k) hN0 hT0 m (by omega)
  simp only [AH.set_next] at v11
  have hTl : T.length ≤ 65536 := by have := (takeI_len l a5 (if 64 < k ∧ c5 = 0 then 3 else c5) k).2; rw [hT0] at this; simp only at this; omega
  obtain ⟨w, A8, y1, y2, y3⟩ := copied_ev v7 v12 (by omega) m (by omega)
  have hwo := y3.bs.one
  have hn8 := y2.next
  have d1 : A7.get (H.next + 2) = some (.cells 32 false [.int .i64 1, .int .i64 (valP V), r1, r2, .nilSlice, .int .i64 0, .int .i64 0, .int .i64 0]) := by rw [v10.get _ (by simp; omega) (by omega)]; simp
  have d2 : A7.get H.next = some (.cells 32 false zh) := by rw [v10.get _ (by simp; omega) (by omega)]; simp [hr]
  have d3 : A8.get (H.next + 2) = some (.cells 32 false [.int .i64 1, .int .i64 (valP V), r1, r2, .nilSlice, .int .i64 0, .int .i64 0, .int .i64 0]) := by rw [y2.get _ (by omega)]; exact d1
  have d4 : A8.get H.next = some (.cells 32 false zh) := by rw [y2.get _ (by omega)]; exact d2
  have d5 : A8.get (H.next + 1) = some (scB s a7 c7) := by rw [y2.get _ (by omega)]; exact v8
  have K8 : Kp H (A8.set (H.next + 2) (.cells 32 false [.int .i64 1, .int .i64 (valP V), r1, r2, w, .int .i64 0, .int .i64 0, .int .i64 0])) := (v12.trans y2).set (by omega) _
  obtain ⟨H5, H6, r6, H7, u1, u2, u3, u4, u5, u6, u7, u8, u9, u10, u11, u12, u13, u14⟩ := end_ev (q := H.next + 1) (a := a7) (c := c7) hs hb K8 (by omega) (by simp; omega) (by simp [d5]) v9 hl (c4 = 0 ∧ (n < 12 ∨ 1508 < n)) hN hT m (by omega)
  simp only [AH.set_next] at u11
  have g1 : H7.get (H.next + 2) = some (.cells 32 false [.int .i64 1, .int .i64 (valP V), r1, r2, w, .int .i64 0, .int .i64 0, .int .i64 0]) := by rw [u10.get _ (by simp; omega) (by omega)]; simp
  have g2 : H7.get H.next = some (.cells 32 false zh) := by rw [u10.get _ (by simp; omega) (by omega)]; simp [d4]
  have v4' := v4 hk64
  subst v4'
  have hP : ¬ (c4 = 0 ∧ (n < 12 ∨ 1508 < n)) := fun h => by rcases h.2 with h | h <;> omega
  have u4' := u4 hP
  subst u4'
  subst hc4
  generalize (if (0 = 0 ∧ (n < 12 ∨ 1508 < n)) ∧ (0 : Int) = 0 then (3 : Int) else 0) = cc at *
  generalize (if 64 < k ∧ c5 = 0 then (3 : Int) else c5) = cd at *
  simp only [scB, zh] at *
  unfold PkRes
  rw [ev_eq Try.func43 ok43 m _ H (by simp [Try.f43])]
  simp [Try.f43, ldVar, stVar, hs.one, cells_one hs.one, k1, k2, k4, k5, j1, j2, b1, b2, b3, cells_one b3, e1, e2, e3, cells_one e3, hr, hq4, hL, n1, n2, evHist, ObsOk, ObOk, x3, hv0, wf, hk, wk, n3', v1, v2, v5, v6, v8, d1, d2, d3, d4, d5, y1, hwo, cells_one hwo, u1, u2, u5, u6, u8, g1, g2, hk64, p1, p2]
  refine ⟨_, _, _, _, _, ⟨⟨rfl, rfl⟩, rfl⟩, u12.set (by omega) _, H3.next, by omega, H4.next, n4, by simp <;> omega, ?_, ?_, ?_⟩
  · exact (((((((hDo.set _ (by omega)).kx v10 (by omega)).kp y2).set _ (by omega)).kx u10 (by omega)).set _ (by omega)).wide (by omega) (Nat.le_refl _) (by simp; omega))
  · exact (((((hSo.set _ (by omega)).kx v10 (by omega)).kp y2).set _ (by omega)).kx u10 (by omega)).set _ (by omega)
  · exact (((y3.set _ (by omega)).kx u10 (by omega)).set _ (by omega)).wide (by omega) (by simp; omega) (by simp)
theorem peekI_I03 {H : AH} {s : AV} {l : List Int} {cid : Int} (hs : Bs H s l) (hb : By l) (hl : l.length ≤ 65536) (m : Nat) (hm : 30 ≤ m)
    {f : Int} {a : Nat} (hO : octetI l 0 0 = (f, a, 0)) (h128 : 128 ≤ f) (h256 : f < 256) {V : List Int} {a1 : Nat} {c1 : Int} (hV : takeI l a 0 4 = (V, a1, c1)) {D : List Int} {a2 : Nat} {c2 : Int} (hD : cidI l a1 c1 = (D, a2, c2))
    {S : List Int} {a3 : Nat} (hS : cidI l a2 c2 = (S, a3, 0)) (hv0 : ¬ (valP V = 0)) (hx : 192 ≤ f) (hx2 : f < 208) {k : Int} {a5 : Nat} {c5 : Int} (hN0 : numberI l a3 0 = (k, a5, c5)) {T : List Int} {a7 : Nat} {c7 : Int} (hT0 : takeI l a5 (if 64 < k ∧ c5 = 0 then 3 else c5) k = (T, a7, c7)) (hk64 : ¬ 64 < k) {n : Int} {a4 : Nat} {c4 : Int} (hN : numberI l a7 c7 = (n, a4, c4)) {T2 : List Int} {a6 : Nat} {c6 : Int} (hT : takeI l a4 (if (c4 = 0 ∧ (n < 12 ∨ 1508 < n)) ∧ c4 = 0 then 3 else c4) n = (T2, a6, c6)) (hc4 : ¬ c4 = 0) : PkRes H s cid m 1 (valP V) D S T a6 c6 := by
  obtain ⟨m, rfl⟩ : ∃ k, m = k + 1 := ⟨m - 1, by omega⟩
  obtain ⟨H1, r0, H2, r1, H3, r2, H4, k1, k2, k4, k5, j1, j2, b1, b2, b3, e1, e2, e3, hr, hq4, ha3, K4, n3, n4, hDo, hSo⟩ := peekI_mid hs hb hl m (by omega) hO hV hD hS
  obtain ⟨s5, x1, x2⟩ := cutDrop hs a3 ha3
  have hL : ∀ h, lenA Try.prog 22 s h = some (.int .i64 l.length) := hs.len
  have n1 : ¬ (f < 64) := by omega
  have n2 : ¬ (f < 128) := by omega
  have wf : IntKind.i64.wrap (f - 192) = f - 192 := wrap_i64 (by omega) (by omega)
  have hk : (f - 192).tdiv 16 = 0 := by rw [Int.tdiv_eq_ediv_of_nonneg (by omega)]; omega
  have n3' : ¬ (f < 192) := by omega
  have wk : IntKind.i64.wrap 0 = 0 := wrap_i64 (by omega) (by omega)
  have x3 := x1 _ (K4.set (b := H.next + 2) (by omega) (.cells 32 false [.int .i64 0, .int .i64 0, r1, r2, .nilSlice, .int .i64 0, .int .i64 0, .int .i64 0]))
  have K5 : Kp H (H4.set (H.next + 2) (.cells 32 false [.int .i64 1, .int .i64 (valP V), r1, r2, .nilSlice, .int .i64 0, .int .i64 0, .int .i64 0])) := K4.set (by omega) _
  obtain ⟨A5, A6, r5, A7, v1, v2, v3, v4, v5, v6, v7, v8, v9, v10, v11, v12, v13, v14⟩ := end_ev (q := H.next + 1) (a := a3) (c := 0) hs hb K5 (by omega) (by simp; omega) (by simp [hq4]) ha3 hl (64 < k) hN0 hT0 m (by omega)
  simp only [AH.set_next] at v11
  have hTl : T.length ≤ 65536 := by have := (takeI_len l a5 (if 64 < k ∧ c5 = 0 then 3 else c5) k).2; rw [hT0] at this; simp only at this; omega
  obtain ⟨w, A8, y1, y2, y3⟩ := copied_ev v7 v12 (by omega) m (by omega)
  have hwo := y3.bs.one
  have hn8 := y2.next
  have d1 : A7.get (H.next + 2) = some (.cells 32 false [.int .i64 1, .int .i64 (valP V), r1, r2, .nilSlice, .int .i64 0, .int .i64 0, .int .i64 0]) := by rw [v10.get _ (by simp; omega) (by omega)]; simp
  have d2 : A7.get H.next = some (.cells 32 false zh) := by rw [v10.get _ (by simp; omega) (by omega)]; simp [hr]
  have d3 : A8.get (H.next + 2) = some (.cells 32 false [.int .i64 1, .int .i64 (valP V), r1, r2, .nilSlice, .int .i64 0, .int .i64 0, .int .i64 0]) := by rw [y2.get _ (by omega)]; exact d1
  have d4 : A8.get H.next = some (.cells 32 false zh) := by rw [y2.get _ (by omega)]; exact d2
  have d5 : A8.get (H.next + 1) = some (scB s a7 c7) := by rw [y2.get _ (by omega)]; exact v8
  have K8 : Kp H (A8.set (H.next + 2) (.cells 32 false [.int .i64 1, .int .i64 (valP V), r1, r2, w, .int .i64 0, .int .i64 0, .int .i64 0])) := (v12.trans y2).set (by omega) _
  obtain ⟨H5, H6, r6, H7, u1, u2, u3, u4, u5, u6, u7, u8, u9, u10, u11, u12, u13, u14⟩ := end_ev (q := H.next + 1) (a := a7) (c := c7) hs hb K8 (by omega) (by simp; omega) (by simp [d5]) v9 hl (c4 = 0 ∧ (n < 12 ∨ 1508 < n)) hN hT m (by omega)
  simp only [AH.set_next] at u11
  have g1 : H7.get (H.next + 2) = some (.cells 32 false [.int .i64 1, .int .i64 (valP V), r1, r2, w, .int .i64 0, .int .i64 0, .int .i64 0]) := by rw [u10.get _ (by simp; omega) (by omega)]; simp
  have g2 : H7.get H.next = some (.cells 32 false zh) := by rw [u10.get _ (by simp; omega) (by omega)]; simp [d4]
  have v4' := v4 hk64
  subst v4'
  have hP : ¬ (c4 = 0 ∧ (n < 12 ∨ 1508 < n)) := fun h => hc4 h.1
  have u4' := u4 hP
  subst u4'
  generalize (if (c4 = 0 ∧ (n < 12 ∨ 1508 < n)) ∧ c4 = 0 then (3 : Int) else c4) = cc at *
  generalize (if 64 < k ∧ c5 = 0 then (3 : Int) else c5) = cd at *
  simp only [scB, zh] at *
  unfold PkRes
  rw [ev_eq Try.func43 ok43 m _ H (by simp [Try.f43])]
  simp [Try.f43, ldVar, stVar, hs.one, cells_one hs.one, k1, k2, k4, k5, j1, j2, b1, b2, b3, cells_one b3, e1, e2, e3, cells_one e3, hr, hq4, hL, n1, n2, evHist, ObsOk, ObOk, x3, hv0, wf, hk, wk, n3', v1, v2, v5, v6, v8, d1, d2, d3, d4, d5, y1, hwo, cells_one hwo, u1, u2, u5, u6, u8, g1, g2, hk64, hc4, U]
  refine ⟨_, _, _, _, _, ⟨⟨rfl, rfl⟩, rfl⟩, u12.set (by omega) _, H3.next, by omega, H4.next, n4, by simp <;> omega, ?_, ?_, ?_⟩
  · exact (((((((hDo.set _ (by omega)).kx v10 (by omega)).kp y2).set _ (by omega)).kx u10 (by omega)).set _ (by omega)).wide (by omega) (Nat.le_refl _) (by simp; omega))
  · exact (((((hSo.set _ (by omega)).kx v10 (by omega)).kp y2).set _ (by omega)).kx u10 (by omega)).set _ (by omega)
  · exact (((y3.set _ (by omega)).kx u10 (by omega)).set _ (by omega)).wide (by omega) (by simp; omega) (by simp)
theorem peekI_I10 {H : AH} {s : AV} {l : List Int} {cid : Int} (hs : Bs H s l) (hb : By l) (hl : l.length ≤ 65536) (m : Nat) (hm : 30 ≤ m)
    {f : Int} {a : Nat} (hO : octetI l 0 0 = (f, a, 0)) (h128 : 128 ≤ f) (h256 : f < 256) {V : List Int} {a1 : Nat} {c1 : Int} (hV : takeI l a 0 4 = (V, a1, c1)) {D : List Int} {a2 : Nat} {c2 : Int} (hD : cidI l a1 c1 = (D, a2, c2))
    {S : List Int} {a3 : Nat} (hS : cidI l a2 c2 = (S, a3, 0)) (hv0 : ¬ (valP V = 0)) (hx : 192 ≤ f) (hx2 : f < 208) {k : Int} {a5 : Nat} {c5 : Int} (hN0 : numberI l a3 0 = (k, a5, c5)) {T : List Int} {a7 : Nat} {c7 : Int} (hT0 : takeI l a5 (if 64 < k ∧ c5 = 0 then 3 else c5) k = (T, a7, c7)) (hk64 : 64 < k) {n : Int} {a4 : Nat} {c4 : Int} (hN : numberI l a7 c7 = (n, a4, c4)) {T2 : List Int} {a6 : Nat} {c6 : Int} (hT : takeI l a4 (if (c4 = 0 ∧ (n < 12 ∨ 1508 < n)) ∧ c4 = 0 then 3 else c4) n = (T2, a6, c6)) (hc4 : c4 = 0) (p1 : n < 12) : PkRes H s cid m 1 (valP V) D S T a6 c6 := by
  obtain ⟨m, rfl⟩ : ∃ k, m = k + 1 := ⟨m - 1, by omega⟩
  obtain ⟨H1, r0, H2, r1, H3, r2, H4, k1, k2, k4, k5, j1, j2, b1, b2, b3, e1, e2, e3, hr, hq4, ha3, K4, n3, n4, hDo, hSo⟩ := peekI_mid hs hb hl m (by omega) hO hV hD hS
  obtain ⟨s5, x1, x2⟩ := cutDrop hs a3 ha3
  have hL : ∀ h, lenA Try.prog 22 s h = some (.int .i64 l.length) := hs.len
  have n1 : ¬ (f < 64) := by omega
  have n2 : ¬ (f < 128) := by omega
  have wf : IntKind.i64.wrap (f - 192) = f - 192 := wrap_i64 (by omega) (by omega)
  have hk : (f - 192).tdiv 16 = 0 := by rw [Int.tdiv_eq_ediv_of_nonneg (by omega)]; omega
  have n3' : ¬ (f < 192) := by omega
  have wk : IntKind.i64.wrap 0 = 0 := wrap_i64 (by omega) (by omega)
  have x3 := x1 _ (K4.set (b := H.next + 2) (by omega) (.cells 32 false [.int .i64 0, .int .i64 0, r1, r2, .nilSlice, .int .i64 0, .int .i64 0, .int .i64 0]))
  have K5 : Kp H (H4.set (H.next + 2) (.cells 32 false [.int .i64 1, .int .i64 (valP V), r1, r2, .nilSlice, .int .i64 0, .int .i64 0, .int .i64 0])) := K4.set (by omega) _
  obtain ⟨A5, A6, r5, A7, v1, v2, v3, v4, v5, v6, v7, v8, v9, v10, v11, v12, v13, v14⟩ := end_ev (q := H.next + 1) (a := a3) (c := 0) hs hb K5 (by omega) (by simp; omega) (by simp [hq4]) ha3 hl (64 < k) hN0 hT0 m (by omega)
  simp only [AH.set_next] at v11
  have hTl : T.length ≤ 65536 := by have := (takeI_len l a5 (if 64 < k ∧ c5 = 0 then 3 else c5) k).2; rw [hT0] at this; simp only at this; omega
  obtain ⟨w, A8, y1, y2, y3⟩ := copied_ev v7 v12 (by omega) m (by omega)
  have hwo := y3.bs.one
  have hn8 := y2.next
  have d1 : A7.get (H.next + 2) = some (.cells 32 false [.int .i64 1, .int .i64 (valP V), r1, r2, .nilSlice, .int .i64 0, .int .i64 0, .int .i64 0]) := by rw [v10.get _ (by simp; omega) (by omega)]; simp
  have d2 : A7.get H.next = some (.cells 32 false zh) := by rw [v10.get _ (by simp; omega) (by omega)]; simp [hr]
  have d3 : A8.get (H.next + 2) = some (.cells 32 false [.int .i64 1, .int .i64 (valP V), r1, r2, .nilSlice, .int .i64 0, .int .i64 0, .int .i64 0]) := by rw [y2.get _ (by omega)]; exact d1
  have d4 : A8.get H.next = some (.cells 32 false zh) := by rw [y2.get _ (by omega)]; exact d2
  have d5 : A8.get (H.next + 1) = some (scB s a7 c7) := by rw [y2.get _ (by omega)]; exact v8
  have K8 : Kp H (A8.set (H.next + 2) (.cells 32 false [.int .i64 1, .int .i64 (valP V), r1, r2, w, .int .i64 0, .int .i64 0, .int .i64 0])) := (v12.trans y2).set (by omega) _
  obtain ⟨H5, H6, r6, H7, u1, u2, u3, u4, u5, u6, u7, u8, u9, u10, u11, u12, u13, u14⟩ := end_ev (q := H.next + 1) (a := a7) (c := c7) hs hb K8 (by omega) (by simp; omega) (by simp [d5]) v9 hl (c4 = 0 ∧ (n < 12 ∨ 1508 < n)) hN hT m (by omega)
  simp only [AH.set_next] at u11
  have g1 : H7.get (H.next + 2) = some (.cells 32 false [.int .i64 1, .int .i64 (valP V), r1, r2, w, .int .i64 0, .int .i64 0, .int .i64 0]) := by rw [u10.get _ (by simp; omega) (by omega)]; simp
  have g2 : H7.get H.next = some (.cells 32 false zh) := by rw [u10.get _ (by simp; omega) (by omega)]; simp [d4]
  replace v3 := v3 hk64
  have q1 : n < 12 := p1
  have hP : (c4 = 0 ∧ (n < 12 ∨ 1508 < n)) := ⟨hc4, .inl p1⟩
  replace u3 := u3 hP
  subst hc4
  generalize (if (0 = 0 ∧ (n < 12 ∨ 1508 < n)) ∧ (0 : Int) = 0 then (3 : Int) else 0) = cc at *
  generalize (if 64 < k ∧ c5 = 0 then (3 : Int) else c5) = cd at *
  simp only [scB, zh] at *
  unfold PkRes
  rw [ev_eq Try.func43 ok43 m _ H (by simp [Try.f43])]
  simp [Try.f43, ldVar, stVar, hs.one, cells_one hs.one, k1, k2, k4, k5, j1, j2, b1, b2, b3, cells_one b3, e1, e2, e3, cells_one e3, hr, hq4, hL, n1, n2, evHist, ObsOk, ObOk, x3, hv0, wf, hk, wk, n3', v1, v2, v5, v6, v8, d1, d2, d3, d4, d5, y1, hwo, cells_one hwo, u1, u2, u5, u6, u8, g1, g2, v3, hk64, u3, p1]
  refine ⟨_, _, _, _, _, ⟨⟨rfl, rfl⟩, rfl⟩, u12.set (by omega) _, H3.next, by omega, H4.next, n4, by simp <;> omega, ?_, ?_, ?_⟩
  · exact (((((((hDo.set _ (by omega)).kx v10 (by omega)).kp y2).set _ (by omega)).kx u10 (by omega)).set _ (by omega)).wide (by omega) (Nat.le_refl _) (by simp; omega))
  · exact (((((hSo.set _ (by omega)).kx v10 (by omega)).kp y2).set _ (by omega)).kx u10 (by omega)).set _ (by omega)
  · exact (((y3.set _ (by omega)).kx u10 (by omega)).set _ (by omega)).wide (by omega) (by simp; omega) (by simp)
theorem peekI_I11 {H : AH} {s : AV} {l : List Int} {cid : Int} (hs : Bs H s l) (hb : By l) (hl : l.length ≤ 65536) (m : Nat) (hm : 30 ≤ m)
    {f : Int} {a : Nat} (hO : octetI l 0 0 = (f, a, 0)) (h128 : 128 ≤ f) (h256 : f < 256) {V : List Int} {a1 : Nat} {c1 : Int} (hV : takeI l a 0 4 = (V, a1, c1)) {D : List Int} {a2 : Nat} {c2 : Int} (hD : cidI l a1 c1 = (D, a2, c2))
    {S : List Int} {a3 : Nat} (hS : cidI l a2 c2 = (S, a3, 0)) (hv0 : ¬ (valP V = 0)) (hx : 192 ≤ f) (hx2 : f < 208) {k : Int} {a5 : Nat} {c5 : Int} (hN0 : numberI l a3 0 = (k, a5, c5)) {T : List Int} {a7 : Nat} {c7 : Int} (hT0 : takeI l a5 (if 64 < k ∧ c5 = 0 then 3 else c5) k = (T, a7, c7)) (hk64 : 64 < k) {n : Int} {a4 : Nat} {c4 : Int} (hN : numberI l a7 c7 = (n, a4, c4)) {T2 : List Int} {a6 : Nat} {c6 : Int} (hT : takeI l a4 (if (c4 = 0 ∧ (n < 12 ∨ 1508 < n)) ∧ c4 = 0 then 3 else c4) n = (T2, a6, c6)) (hc4 : c4 = 0) (p1 : ¬ n < 12) (p2 : 1508 < n) : PkRes H s cid m 1 (valP V) D S T a6 c6 := by
  obtain ⟨m, rfl⟩ : ∃ k, m = k + 1 := ⟨m - 1, by omega⟩
  obtain ⟨H1, r0, H2, r1, H3, r2, H4, k1, k2, k4, k5, j1, j2, b1, b2, b3, e1, e2, e3, hr, hq4, ha3, K4, n3, n4, hDo, hSo⟩ := peekI_mid hs hb hl m (by omega) hO hV hD hS
  obtain ⟨s5, x1, x2⟩ := cutDrop hs a3 ha3
  have hL : ∀ h, lenA Try.prog 22 s h = some (.int .i64 l.length) := hs.len
  have n1 : ¬ (f < 64) := by omega
  have n2 : ¬ (f < 128) := by omega
  have wf : IntKind.i64.wrap (f - 192) = f - 192 := wrap_i64 (by omega) (by omega)
  have hk : (f - 192).tdiv 16 = 0 := by rw [Int.tdiv_eq_ediv_of_nonneg (by omega)]; omega
  have n3' : ¬ (f < 192) := by omega
  have wk : IntKind.i64.wrap 0 = 0 := wrap_i64 (by omega) (by omega)
  have x3 := x1 _ (K4.set (b := H.next + 2) (by omega) (.cells 32 false [.int .i64 0, .int .i64 0, r1, r2, .nilSlice, .int .i64 0, .int .i64 0, .int .i64 0]))
  have K5 : Kp H (H4.set (H.next + 2) (.cells 32 false [.int .i64 1, .int .i64 (valP V), r1, r2, .nilSlice, .int .i64 0, .int .i64 0, .int .i64 0])) := K4.set (by omega) _
  obtain ⟨A5, A6, r5, A7, v1, v2, v3, v4, v5, v6, v7, v8, v9, v10, v11, v12, v13, v14⟩ := end_ev (q := H.next + 1) (a := a3) (c := 0) hs hb K5 (by omega) (by simp; omega) (by simp [hq4]) ha3 hl (64 < k) hN0 hT0 m (by omega)
  simp only [AH.set_next] at v11
  have hTl : T.length ≤ 65536 := by have := (takeI_len l a5 (if 64 < k ∧ c5 = 0 then 3 else c5) k).2; rw [hT0] at this; simp only at this; omega
  obtain ⟨w, A8, y1, y2, y3⟩ := copied_ev v7 v12 (by omega) m (by omega)
  have hwo := y3.bs.one
  have hn8 := y2.next
  have d1 : A7.get (H.next + 2) = some (.cells 32 false [.int .i64 1, .int .i64 (valP V), r1, r2, .nilSlice, .int .i64 0, .int .i64 0, .int .i64 0]) := by rw [v10.get _ (by simp; omega) (by omega)]; simp
  have d2 : A7.get H.next = some (.cells 32 false zh) := by rw [v10.get _ (by simp; omega) (by omega)]; simp [hr]
  have d3 : A8.get (H.next + 2) = some (.cells 32 false [.int .i64 1, .int .i64 (valP V), r1, r2, .nilSlice, .int .i64 0, .int .i64 0, .int .i64 0]) := by rw [y2.get _ (by omega)]; exact d1
  have d4 : A8.get H.next = some (.cells 32 false zh) := by rw [y2.get _ (by omega)]; exact d2
  have d5 : A8.get (H.next + 1) = some (scB s a7 c7) := by rw [y2.get _ (by omega)]; exact v8
  have K8 : Kp H (A8.set (H.next + 2) (.cells 32 false [.int .i64 1, .int .i64 (valP V), r1, r2, w, .int .i64 0, .int .i64 0, .int .i64 0])) := (v12.trans y2).set (by omega) _
  obtain ⟨H5, H6, r6, H7, u1, u2, u3, u4, u5, u6, u7, u8, u9, u10, u11, u12, u13, u14⟩ := end_ev (q := H.next + 1) (a := a7) (c := c7) hs hb K8 (by omega) (by simp; omega) (by simp [d5]) v9 hl (c4 = 0 ∧ (n < 12 ∨ 1508 < n)) hN hT m (by omega)
  simp only [AH.set_next] at u11
  have g1 : H7.get (H.next + 2) = some (.cells 32 false [.int .i64 1, .int .i64 (valP V), r1, r2, w, .int .i64 0, .int .i64 0, .int .i64 0]) := by rw [u10.get _ (by simp; omega) (by omega)]; simp
  have g2 : H7.get H.next = some (.cells 32 false zh) := by rw [u10.get _ (by simp; omega) (by omega)]; simp [d4]
  replace v3 := v3 hk64
  have hP : (c4 = 0 ∧ (n < 12 ∨ 1508 < n)) := ⟨hc4, .inr p2⟩
  replace u3 := u3 hP
  subst hc4
  generalize (if (0 = 0 ∧ (n < 12 ∨ 1508 < n)) ∧ (0 : Int) = 0 then (3 : Int) else 0) = cc at *
  generalize (if 64 < k ∧ c5 = 0 then (3 : Int) else c5) = cd at *
  simp only [scB, zh] at *
  unfold PkRes
  rw [ev_eq Try.func43 ok43 m _ H (by simp [Try.f43])]
  simp [Try.f43, ldVar, stVar, hs.one, cells_one hs.one, k1, k2, k4, k5, j1, j2, b1, b2, b3, cells_one b3, e1, e2, e3, cells_one e3, hr, hq4, hL, n1, n2, evHist, ObsOk, ObOk, x3, hv0, wf, hk, wk, n3', v1, v2, v5, v6, v8, d1, d2, d3, d4, d5, y1, hwo, cells_one hwo, u1, u2, u5, u6, u8, g1, g2, v3, hk64, u3, p1, p2]
  refine ⟨_, _, _, _, _, ⟨⟨rfl, rfl⟩, rfl⟩, u12.set (by omega) _, H3.next, by omega, H4.next, n4, by simp <;> omega, ?_, ?_, ?_⟩
  · exact (((((((hDo.set _ (by omega)).kx v10 (by omega)).kp y2).set _ (by omega)).kx u10 (by omega)).set _ (by omega)).wide (by omega) (Nat.le_refl _) (by simp; omega))
  · exact (((((hSo.set _ (by omega)).kx v10 (by omega)).kp y2).set _ (by omega)).kx u10 (by omega)).set _ (by omega)
  · exact (((y3.set _ (by omega)).kx u10 (by omega)).set _ (by omega)).wide (by omega) (by simp; omega) (by simp)
theorem peekI_I12 {H : AH} {s : AV} {l : List Int} {cid : Int} (hs : Bs H s l) (hb : By l) (hl : l.length ≤ 65536) (m : Nat) (hm : 30 ≤ m)
    {f : Int} {a : Nat} (hO : octetI l 0 0 = (f, a, 0)) (h128 : 128 ≤ f) (h256 : f < 256) {V : List Int} {a1 : Nat} {c1 : Int} (hV : takeI l a 0 4 = (V, a1, c1)) {D : List Int} {a2 : Nat} {c2 : Int} (hD : cidI l a1 c1 = (D, a2, c2))
    {S : List Int} {a3 : Nat} (hS : cidI l a2 c2 = (S, a3, 0)) (hv0 : ¬ (valP V = 0)) (hx : 192 ≤ f) (hx2 : f < 208) {k : Int} {a5 : Nat} {c5 : Int} (hN0 : numberI l a3 0 = (k, a5, c5)) {T : List Int} {a7 : Nat} {c7 : Int} (hT0 : takeI l a5 (if 64 < k ∧ c5 = 0 then 3 else c5) k = (T, a7, c7)) (hk64 : 64 < k) {n : Int} {a4 : Nat} {c4 : Int} (hN : numberI l a7 c7 = (n, a4, c4)) {T2 : List Int} {a6 : Nat} {c6 : Int} (hT : takeI l a4 (if (c4 = 0 ∧ (n < 12 ∨ 1508 < n)) ∧ c4 = 0 then 3 else c4) n = (T2, a6, c6)) (hc4 : c4 = 0) (p1 : ¬ n < 12) (p2 : ¬ 1508 < n) : PkRes H s cid m 1 (valP V) D S T a6 c6 := by
  obtain ⟨m, rfl⟩ : ∃ k, m = k + 1 := ⟨m - 1, by omega⟩
  obtain ⟨H1, r0, H2, r1, H3, r2, H4, k1, k2, k4, k5, j1, j2, b1, b2, b3, e1, e2, e3, hr, hq4, ha3, K4, n3, n4, hDo, hSo⟩ := peekI_mid hs hb hl m (by omega) hO hV hD hS
  obtain ⟨s5, x1, x2⟩ := cutDrop hs a3 ha3
  have hL : ∀ h, lenA Try.prog 22 s h = some (.int .i64 l.length) := hs.len
  have n1 : ¬ (f < 64) := by omega
  have n2 : ¬ (f < 128) := by omega
  have wf : IntKind.i64.wrap (f - 192) = f - 192 := wrap_i64 (by omega) (by omega)
  have hk : (f - 192).tdiv 16 = 0 := by rw [Int.tdiv_eq_ediv_of_nonneg (by omega)]; omega
  have n3' : ¬ (f < 192) := by omega
  have wk : IntKind.i64.wrap 0 = 0 := wrap_i64 (by omega) (by omega)
  have x3 := x1 _ (K4.set (b := H.next + 2) (by omega) (.cells 32 false [.int .i64 0, .int .i64 0, r1, r2, .nilSlice, .int .i64 0, .int .i64 0, .int .i64 0]))
  have K5 : Kp H (H4.set (H.next + 2) (.cells 32 false [.int .i64 1, .int .i64 (valP V), r1, r2, .nilSlice, .int .i64 0, .int .i64 0, .int .i64 0])) := K4.set (by omega) _
  obtain ⟨A5, A6, r5, A7, v1, v2, v3, v4, v5, v6, v7, v8, v9, v10, v11, v12, v13, v14⟩ := end_ev (q := H.next + 1) (a := a3) (c := 0) hs hb K5 (by omega) (by simp; omega) (by simp [hq4]) ha3 hl (64 < k) hN0 hT0 m (by omega)
  simp only [AH.set_next] at v11
  have hTl : T.length ≤ 65536 := by have := (takeI_len l a5 (if 64 < k ∧ c5 = 0 then 3 else c5) k).2; rw [hT0] at this; simp only at this; omega
  obtain ⟨w, A8, y1, y2, y3⟩ := copied_ev v7 v12 (by omega) m (by omega)
  have hwo := y3.bs.one
  have hn8 := y2.next
  have d1 : A7.get (H.next + 2) = some (.cells 32 false [.int .i64 1, .int .i64 (valP V), r1, r2, .nilSlice, .int .i64 0, .int .i64 0, .int .i64 0]) := by rw [v10.get _ (by simp; omega) (by omega)]; simp
  have d2 : A7.get H.next = some (.cells 32 false zh) := by rw [v10.get _ (by simp; omega) (by omega)]; simp [hr]
  have d3 : A8.get (H.next + 2) = some (.cells 32 false [.int .i64 1, .int .i64 (valP V), r1, r2, .nilSlice, .int .i64 0, .int .i64 0, .int .i64 0]) := by rw [y2.get _ (by omega)]; exact d1
  have d4 : A8.get H.next = some (.cells 32 false zh) := by rw [y2.get _ (by omega)]; exact d2
  have d5 : A8.get (H.next + 1) = some (scB s a7 c7) := by rw [y2.get _ (by omega)]; exact v8
  have K8 : Kp H (A8.set (H.next + 2) (.cells 32 false [.int .i64 1, .int .i64 (valP V), r1, r2, w, .int .i64 0, .int .i64 0, .int .i64 0])) := (v12.trans y2).set (by omega) _
  obtain ⟨H5, H6, r6, H7, u1, u2, u3, u4, u5, u6, u7, u8, u9, u10, u11, u12, u13, u14⟩ := end_ev (q := H.next + 1) (a := a7) (c := c7) hs hb K8 (by omega) (by simp; omega) (by simp [d5]) v9 hl (c4 = 0 ∧ (n < 12 ∨ 1508 < n)) hN hT m (by omega)
  simp only [AH.set_next] at u11
  have g1 : H7.get (H.next + 2) = some (.cells 32 false [.int .i64 1, .int .i64 (valP V), r1, r2, w, .int .i64 0, .int .i64 0, .int .i64 0]) := by rw [u10.get _ (by simp; omega) (by omega)]; simp
  have g2 : H7.get H.next = some (.cells 32 false zh) := by rw [u10.get _ (by simp; omega) (by omega)]; simp [d4]
  replace v3 := v3 hk64
  have hP : ¬ (c4 = 0 ∧ (n < 12 ∨ 1508 < n)) := fun h => by rcases h.2 with h | h <;> omega
  have u4' := u4 hP
  subst u4'
  subst hc4
  generalize (if (0 = 0 ∧ (n < 12 ∨ 1508 < n)) ∧ (0 : Int) = 0 then (3 : Int) else 0) = cc at *
  generalize (if 64 < k ∧ c5 = 0 then (3 : Int) else c5) = cd at *
  simp only [scB, zh] at *
  unfold PkRes
  rw [ev_eq Try.func43 ok43 m _ H (by simp [Try.f43])]
  simp [Try.f43, ldVar, stVar, hs.one, cells_one hs.one, k1, k2, k4, k5, j1, j2, b1, b2, b3, cells_one b3, e1, e2, e3, cells_one e3, hr, hq4, hL, n1, n2, evHist, ObsOk, ObOk, x3, hv0, wf, hk, wk, n3', v1, v2, v5, v6, v8, d1, d2, d3, d4, d5, y1, hwo, cells_one hwo, u1, u2, u5, u6, u8, g1, g2, v3, hk64, p1, p2]
  refine ⟨_, _, _, _, _, ⟨⟨rfl, rfl⟩, rfl⟩, u12.set (by omega) _, H3.next, by omega, H4.next, n4, by simp <;> omega, ?_, ?_, ?_⟩
  · exact (((((((hDo.set _ (by omega)).kx v10 (by omega)).kp y2).set _ (by omega)).kx u10 (by omega)).set _ (by omega)).wide (by omega) (Nat.le_refl _) (by simp; omega))
  · exact (((((hSo.set _ (by omega)).kx v10 (by omega)).kp y2).set _ (by omega)).kx u10 (by omega)).set _ (by omega)
  · exact (((y3.set _ (by omega)).kx u10 (by omega)).set _ (by omega)).wide (by omega) (by simp; omega) (by simp)
theorem peekI_I13 {H : AH} {s : AV} {l : List Int} {cid : Int} (hs : Bs H s l) (hb : By l) (hl : l.length ≤ 65536) (m : Nat) (hm : 30 ≤ m)
    {f : Int} {a : Nat} (hO : octetI l 0 0 = (f, a, 0)) (h128 : 128 ≤ f) (h256 : f < 256) {V : List Int} {a1 : Nat} {c1 : Int} (hV : takeI l a 0 4 = (V, a1, c1)) {D : List Int} {a2 : Nat} {c2 : Int} (hD : cidI l a1 c1 = (D, a2, c2))
    {S : List Int} {a3 : Nat} (hS : cidI l a2 c2 = (S, a3, 0)) (hv0 : ¬ (valP V = 0)) (hx : 192 ≤ f) (hx2 : f < 208) {k : Int} {a5 : Nat} {c5 : Int} (hN0 : numberI l a3 0 = (k, a5, c5)) {T : List Int} {a7 : Nat} {c7 : Int} (hT0 : takeI l a5 (if 64 < k ∧ c5 = 0 then 3 else c5) k = (T, a7, c7)) (hk64 : 64 < k) {n : Int} {a4 : Nat} {c4 : Int} (hN : numberI l a7 c7 = (n, a4, c4)) {T2 : List Int} {a6 : Nat} {c6 : Int} (hT : takeI l a4 (if (c4 = 0 ∧ (n < 12 ∨ 1508 < n)) ∧ c4 = 0 then 3 else c4) n = (T2, a6, c6)) (hc4 : ¬ c4 = 0) : PkRes H s cid m 1 (valP V) D S T a6 c6 := by
  obtain ⟨m, rfl⟩ : ∃ k, m = k + 1 := ⟨m - 1, by omega⟩
  obtain ⟨H1, r0, H2, r1, H3, r2, H4, k1, k2, k4, k5, j1, j2, b1, b2, b3, e1, e2, e3, hr, hq4, ha3, K4, n3, n4, hDo, hSo⟩ := peekI_mid hs hb hl m (by omega) hO hV hD hS
  obtain ⟨s5, x1, x2⟩ := cutDrop hs a3 ha3
  have hL : ∀ h, lenA Try.prog 22 s h = some (.int .i64 l.length) := hs.len
  have n1 : ¬ (f < 64) := by omega
  have n2 : ¬ (f < 128) := by omega
  have wf : IntKind.i64.wrap (f - 192) = f - 192 := wrap_i64 (by omega) (by omega)
  have hk : (f - 192).tdiv 16 = 0 := by rw [Int.tdiv_eq_ediv_of_nonneg (by omega)]; omega
  have n3' : ¬ (f < 192) := by omega
  have wk : IntKind.i64.wrap 0 = 0 := wrap_i64 (by omega) (by omega)
  have x3 := x1 _ (K4.set (b := H.next + 2) (by omega) (.cells 32 false [.int .i64 0, .int .i64 0, r1, r2, .nilSlice, .int .i64 0, .int .i64 0, .int .i64 0]))
  have K5 : Kp H (H4.set (H.next + 2) (.cells 32 false [.int .i64 1, .int .i64 (valP V), r1, r2, .nilSlice, .int .i64 0, .int .i64 0, .int .i64 0])) := K4.set (by omega) _
  obtain ⟨A5, A6, r5, A7, v1, v2, v3, v4, v5, v6, v7, v8, v9, v10, v11, v12, v13, v14⟩ := end_ev (q := H.next + 1) (a := a3) (c := 0) hs hb K5 (by omega) (by simp; omega) (by simp [hq4]) ha3 hl (64 < k) hN0 hT0 m (by omega)
  simp only [AH.set_next] at v11
  have hTl : T.length ≤ 65536 := by have := (takeI_len l a5 (if 64 < k ∧ c5 = 0 then 3 else c5) k).2; rw [hT0] at this; simp only at this; omega
  obtain ⟨w, A8, y1, y2, y3⟩ := copied_ev v7 v12 (by omega) m (by omega)
  have hwo := y3.bs.one
  have hn8 := y2.next
  have d1 : A7.get (H.next + 2) = some (.cells 32 false [.int .i64 1, .int .i64 (valP V), r1, r2, .nilSlice, .int .i64 0, .int .i64 0, .int .i64 0]) := by rw [v10.get _ (by simp; omega) (by omega)]; simp
  have d2 : A7.get H.next = some (.cells 32 false zh) := by rw [v10.get _ (by simp; omega) (by omega)]; simp [hr]
  have d3 : A8.get (H.next + 2) = some (.cells 32 false [.int .i64 1, .int .i64 (valP V), r1, r2, .nilSlice, .int .i64 0, .int .i64 0, .int .i64 0]) := by rw [y2.get _ (by omega)]; exact d1
  have d4 : A8.get H.next = some (.cells 32 false zh) := by rw [y2.get _ (by omega)]; exact d2
  have d5 : A8.get (H.next + 1) = some (scB s a7 c7) := by rw [y2.get _ (by omega)]; exact v8
  have K8 : Kp H (A8.set (H.next + 2) (.cells 32 false [.int .i64 1, .int .i64 (valP V), r1, r2, w, .int .i64 0, .int .i64 0, .int .i64 0])) := (v12.trans y2).set (by omega) _
  obtain ⟨H5, H6, r6, H7, u1, u2, u3, u4, u5, u6, u7, u8, u9, u10, u11, u12, u13, u14⟩ := end_ev (q := H.next + 1) (a := a7) (c := c7) hs hb K8 (by omega) (by simp; omega) (by simp [d5]) v9 hl (c4 = 0 ∧ (n < 12 ∨ 1508 < n)) hN hT m (by omega)
  simp only [AH.set_next] at u11
  have g1 : H7.get (H.next + 2) = some (.cells 32 false [.int .i64 1, .int .i64 (valP V), r1, r2, w, .int .i64 0, .int .i64 0, .int .i64 0]) := by rw [u10.get _ (by simp; omega) (by omega)]; simp
  have g2 : H7.get H.next = some (.cells 32 false zh) := by rw [u10.get _ (by simp; omega) (by omega)]; simp [d4]
  replace v3 := v3 hk64
  have hP : ¬ (c4 = 0 ∧ (n < 12 ∨ 1508 < n)) := fun h => hc4 h.1
  have u4' := u4 hP
  subst u4'
  generalize (if (c4 = 0 ∧ (n < 12 ∨ 1508 < n)) ∧ c4 = 0 then (3 : Int) else c4) = cc at *
  generalize (if 64 < k ∧ c5 = 0 then (3 : Int) else c5) = cd at *
  simp only [scB, zh] at *
  unfold PkRes
  rw [ev_eq Try.func43 ok43 m _ H (by simp [Try.f43])]
  simp [Try.f43, ldVar, stVar, hs.one, cells_one hs.one, k1, k2, k4, k5, j1, j2, b1, b2, b3, cells_one b3, e1, e2, e3, cells_one e3, hr, hq4, hL, n1, n2, evHist, ObsOk, ObOk, x3, hv0, wf, hk, wk, n3', v1, v2, v5, v6, v8, d1, d2, d3, d4, d5, y1, hwo, cells_one hwo, u1, u2, u5, u6, u8, g1, g2, v3, hk64, hc4, U]
  refine ⟨_, _, _, _, _, ⟨⟨rfl, rfl⟩, rfl⟩, u12.set (by omega) _, H3.next, by omega, H4.next, n4, by simp <;> omega, ?_, ?_, ?_⟩
  · exact (((((((hDo.set _ (by omega)).kx v10 (by omega)).kp y2).set _ (by omega)).kx u10 (by omega)).set _ (by omega)).wide (by omega) (Nat.le_refl _) (by simp; omega))
  · exact (((((hSo.set _ (by omega)).kx v10 (by omega)).kp y2).set _ (by omega)).kx u10 (by omega)).set _ (by omega)
  · exact (((y3.set _ (by omega)).kx u10 (by omega)).set _ (by omega)).wide (by omega) (by simp; omega) (by simp)
end Go.Ev

/- The program's peek, whole; Peek. -/
namespace Go.Ev
open Go Go.Proofs
set_option linter.unusedSimpArgs false
set_option linter.unusedVariables false

/-- code, form, version, the three rows, the length -/
structure PR where
  c : Int
  f : Int
  v : Int
  D : List Int
  S : List Int
  T : List Int
  n : Int
def perr (c : Int) : PR := ⟨c, 0, 0, [], [], [], 0⟩
def endP (l : List Int) (f v : Int) (D S T : List Int) (a : Nat) (c : Int) : PR :=
  if (takeI l (numberI l a c).2.1 (if ((numberI l a c).2.2 = 0 ∧ ((numberI l a c).1 < 12 ∨ 1508 < (numberI l a c).1)) ∧ (numberI l a c).2.2 = 0 then 3 else (numberI l a c).2.2) (numberI l a c).1).2.2 ≠ 0
  then perr (takeI l (numberI l a c).2.1 (if ((numberI l a c).2.2 = 0 ∧ ((numberI l a c).1 < 12 ∨ 1508 < (numberI l a c).1)) ∧ (numberI l a c).2.2 = 0 then 3 else (numberI l a c).2.2) (numberI l a c).1).2.2
  else ⟨0, f, v, D, S, T, (takeI l (numberI l a c).2.1 (if ((numberI l a c).2.2 = 0 ∧ ((numberI l a c).1 < 12 ∨ 1508 < (numberI l a c).1)) ∧ (numberI l a c).2.2 = 0 then 3 else (numberI l a c).2.2) (numberI l a c).1).2.1⟩
def tokP (l : List Int) (v : Int) (D S : List Int) (k : Int × Nat × Int) : PR :=
  endP l 1 v D S (takeI l k.2.1 (if 64 < k.1 ∧ k.2.2 = 0 then 3 else k.2.2) k.1).1 (takeI l k.2.1 (if 64 < k.1 ∧ k.2.2 = 0 then 3 else k.2.2) k.1).2.1 (takeI l k.2.1 (if 64 < k.1 ∧ k.2.2 = 0 then 3 else k.2.2) k.1).2.2
def longP (l : List Int) (f : Int) (V : List Int × Nat × Int) (D : List Int × Nat × Int) (S : List Int × Nat × Int) : PR :=
  if S.2.2 ≠ 0 then perr S.2.2
  else if valP V.1 = 0 then (if f = 128 ∧ versP (l.drop S.2.1) = true then ⟨0, 5, 0, D.1, S.1, [], l.length⟩ else perr 3)
  else if f < 192 ∨ (208 ≤ f ∧ f < 224) then perr 3
  else if 240 ≤ f then (if l.length - S.2.1 < 9 then perr 2 else if 72 < l.length - S.2.1 then perr 3 else ⟨0, 3, valP V.1, D.1, S.1, (l.drop S.2.1).take (l.length - S.2.1 - 8), l.length⟩)
  else if 224 ≤ f then endP l 2 (valP V.1) D.1 S.1 [] S.2.1 0
  else tokP l (valP V.1) D.1 S.1 (numberI l S.2.1 0)
def idsP (l : List Int) (f : Int) (V : List Int × Nat × Int) : PR :=
  longP l f V (cidI l V.2.1 V.2.2) (cidI l (cidI l V.2.1 V.2.2).2.1 (cidI l V.2.1 V.2.2).2.2)
def peekP (l : List Int) (cid : Int) : PR :=
  if (octetI l 0 0).2.2 ≠ 0 then perr (octetI l 0 0).2.2
  else if (octetI l 0 0).1 < 64 then perr 3
  else if (octetI l 0 0).1 < 128 then
    (if (takeI l (takeI l (octetI l 0 0).2.1 0 cid).2.1 (takeI l (octetI l 0 0).2.1 0 cid).2.2 12).2.2 ≠ 0 then perr (takeI l (takeI l (octetI l 0 0).2.1 0 cid).2.1 (takeI l (octetI l 0 0).2.1 0 cid).2.2 12).2.2
      else ⟨0, 4, 0, (takeI l (octetI l 0 0).2.1 0 cid).1, [], [], l.length⟩)
  else idsP l (octetI l 0 0).1 (takeI l (octetI l 0 0).2.1 0 4)

def PkAll (H : AH) (s : AV) (cid : Int) (m : Nat) (R : PR) : Prop := (∃ c, c ≠ 0 ∧ R = perr c ∧ PkErr H s cid m c) ∨ (R.c = 0 ∧ PkOk H s cid m R.f R.v R.D R.S R.T R.n)
theorem PkAll.err {H : AH} {s : AV} {cid : Int} {m : Nat} {c : Int} (hc : c ≠ 0) (h : PkErr H s cid m c) : PkAll H s cid m (perr c) := .inl ⟨c, hc, rfl, h⟩
theorem PkRes.all {H : AH} {s : AV} {cid : Int} {m : Nat} {f v : Int} {D S T : List Int} {n c : Int} (h : PkRes H s cid m f v D S T n c) : PkAll H s cid m (if c ≠ 0 then perr c else ⟨0, f, v, D, S, T, n⟩) := by
  by_cases hc : c = 0
  · subst hc; simp; exact .inr ⟨rfl, h.ok⟩
  · rw [if_pos hc]; exact .err hc h.err

theorem peekI_all {H : AH} {s : AV} {l : List Int} {cid : Int} (hs : Bs H s l) (hb : By l) (hl : l.length ≤ 65536) (hcid : 0 ≤ cid) (hcid8 : cid ≤ 8) (m : Nat) (hm : 30 ≤ m) : PkAll H s cid m (peekP l cid) := by
  unfold peekP
  have hf : 0 ≤ (octetI l 0 0).1 ∧ (octetI l 0 0).1 < 256 := octV_by (takeI_by hb _ _ _)
  by_cases hc : (octetI l 0 0).2.2 = 0
  · rw [if_neg (fun h => h hc)]
    by_cases h64 : (octetI l 0 0).1 < 64
    · rw [if_pos h64]; exact .err (by decide) (peekI_B hs hb hl m hm hc h64)
    · rw [if_neg h64]
      generalize hO : octetI l 0 0 = O at *
      obtain ⟨f, a, c⟩ := O
      simp only at hc h64 hf ⊢
      subst hc
      by_cases h128 : f < 128
      · rw [if_pos h128]
        generalize hD : takeI l a 0 cid = D at *
        obtain ⟨D, a1, c1⟩ := D
        simp only
        generalize hT : takeI l a1 c1 12 = T at *
        obtain ⟨T, a2, c2⟩ := T
        exact (peekI_C hs hb hl hcid hcid8 m hm hO (by omega) h128 hD hT).all
      · rw [if_neg h128]
        unfold idsP
        generalize hV : takeI l a 0 4 = V at *
        obtain ⟨V, a1, c1⟩ := V
        simp only
        generalize hD : cidI l a1 c1 = D at *
        obtain ⟨D, a2, c2⟩ := D
        simp only
        generalize hS : cidI l a2 c2 = S at *
        obtain ⟨S, a3, c3⟩ := S
        unfold longP
        simp only
        by_cases hc3 : c3 = 0
        · subst hc3
          rw [if_neg (by decide)]
          have h128' : 128 ≤ f := by omega
          by_cases h0 : valP V = 0
          · rw [if_pos h0]
            by_cases hx : f = 128
            · by_cases hv : versP (l.drop a3) = true
              · rw [if_pos ⟨hx, hv⟩]; exact .inr ⟨rfl, (peekI_E1 hs hb hl m hm hO h128' hf.2 hV hD hS h0 hx hv).ok⟩
              · rw [if_neg (fun h => hv h.2)]; exact .err (by decide) (peekI_E3 hs hb hl m hm hO h128' hf.2 hV hD hS h0 hx (by simpa using hv)).err
            · rw [if_neg (fun h => hx h.1)]; exact .err (by decide) (peekI_E2 hs hb hl m hm hO h128' hf.2 hV hD hS h0 hx).err
          · rw [if_neg h0]
            by_cases hx : f < 192
            · rw [if_pos (.inl hx)]; exact .err (by decide) (peekI_F1 hs hb hl m hm hO h128' hf.2 hV hD hS h0 hx).err
            · by_cases hy : 208 ≤ f ∧ f < 224
              · rw [if_pos (.inr hy)]; exact .err (by decide) (peekI_F2 hs hb hl m hm hO h128' hf.2 hV hD hS h0 hy.1 hy.2).err
              · rw [if_neg (by omega)]
                by_cases hz : 240 ≤ f
                · rw [if_pos hz]
                  by_cases hR : l.length - a3 < 9
                  · rw [if_pos hR]; exact .err (by decide) (peekI_G1 hs hb hl m hm hO h128' hf.2 hV hD hS h0 hz hR).err
                  · rw [if_neg hR]
                    by_cases hR2 : 72 < l.length - a3
                    · rw [if_pos hR2]; exact .err (by decide) (peekI_G2 hs hb hl m hm hO h128' hf.2 hV hD hS h0 hz hR2).err
                    · rw [if_neg hR2]; exact .inr ⟨rfl, (peekI_G3 hs hb hl m hm hO h128' hf.2 hV hD hS h0 hz (by omega) (by omega)).ok⟩
                · rw [if_neg hz]
                  by_cases hw : 224 ≤ f
                  · rw [if_pos hw]
                    unfold endP
                    generalize hN : numberI l a3 0 = N at *
                    obtain ⟨n, a4, c4⟩ := N
                    simp only
                    generalize hT : takeI l a4 (if (c4 = 0 ∧ (n < 12 ∨ 1508 < n)) ∧ c4 = 0 then 3 else c4) n = T at *
                    obtain ⟨T, a6, c6⟩ := T
                    simp only
                    by_cases q0 : c4 = 0
                    · by_cases q1 : n < 12
                      · exact (peekI_H0 hs hb hl m hm hO h128' hf.2 hV hD hS h0 hw (by omega) hN hT q0 q1).all
                      · by_cases q2 : 1508 < n
                        · exact (peekI_H1 hs hb hl m hm hO h128' hf.2 hV hD hS h0 hw (by omega) hN hT q0 q1 q2).all
                        · exact (peekI_H2 hs hb hl m hm hO h128' hf.2 hV hD hS h0 hw (by omega) hN hT q0 q1 q2).all
                    · exact (peekI_H3 hs hb hl m hm hO h128' hf.2 hV hD hS h0 hw (by omega) hN hT q0).all
                  · rw [if_neg hw]
                    unfold tokP
                    generalize hN0 : numberI l a3 0 = N0 at *
                    obtain ⟨k, a5, c5⟩ := N0
                    simp only
                    generalize hT0 : takeI l a5 (if 64 < k ∧ c5 = 0 then 3 else c5) k = T0 at *
                    obtain ⟨T0, a7, c7⟩ := T0
                    simp only
                    unfold endP
                    generalize hN : numberI l a7 c7 = N at *
                    obtain ⟨n, a4, c4⟩ := N
                    simp only
                    generalize hT : takeI l a4 (if (c4 = 0 ∧ (n < 12 ∨ 1508 < n)) ∧ c4 = 0 then 3 else c4) n = T at *
                    obtain ⟨T, a6, c6⟩ := T
                    simp only
                    by_cases q3 : 64 < k
                    · by_cases q0 : c4 = 0
                      · by_cases q1 : n < 12
                        · exact (peekI_I10 hs hb hl m hm hO h128' hf.2 hV hD hS h0 (by omega) (by omega) hN0 hT0 q3 hN hT q0 q1).all
                        · by_cases q2 : 1508 < n
                          · exact (peekI_I11 hs hb hl m hm hO h128' hf.2 hV hD hS h0 (by omega) (by omega) hN0 hT0 q3 hN hT q0 q1 q2).all
                          · exact (peekI_I12 hs hb hl m hm hO h128' hf.2 hV hD hS h0 (by omega) (by omega) hN0 hT0 q3 hN hT q0 q1 q2).all
                      · exact (peekI_I13 hs hb hl m hm hO h128' hf.2 hV hD hS h0 (by omega) (by omega) hN0 hT0 q3 hN hT q0).all
                    · by_cases q0 : c4 = 0
                      · by_cases q1 : n < 12
                        · exact (peekI_I00 hs hb hl m hm hO h128' hf.2 hV hD hS h0 (by omega) (by omega) hN0 hT0 q3 hN hT q0 q1).all
                        · by_cases q2 : 1508 < n
                          · exact (peekI_I01 hs hb hl m hm hO h128' hf.2 hV hD hS h0 (by omega) (by omega) hN0 hT0 q3 hN hT q0 q1 q2).all
                          · exact (peekI_I02 hs hb hl m hm hO h128' hf.2 hV hD hS h0 (by omega) (by omega) hN0 hT0 q3 hN hT q0 q1 q2).all
                      · exact (peekI_I03 hs hb hl m hm hO h128' hf.2 hV hD hS h0 (by omega) (by omega) hN0 hT0 q3 hN hT q0).all
        · rw [if_pos hc3]
          exact .err hc3 (peekI_D hs hb hl m hm hO (by omega) hV hD hS hc3)
  · rw [if_pos hc]; exact .err hc (peekI_A hs hb hl m hm hc)

/-- what Peek answers -/
def PeekP (l : List Int) (cid : Int) : PR := if 65536 < l.length then perr 4 else if cid < 0 ∨ 8 < cid then perr 1 else peekP l cid
theorem PeekI_ev {H : AH} {s : AV} {l : List Int} {cid : Int} (hs : Bs H s l) (hb : By l) (m : Nat) (hm : 31 ≤ m) :
    ∃ d s' t H' a b, ev Try.prog m 16 [s, .int .i64 cid] H = some (.tuple [hdr (PeekP l cid).f (PeekP l cid).v d s' t, .int .i64 (PeekP l cid).n, .int .i64 (PeekP l cid).c], H') ∧ Kp H H' ∧
      H.next ≤ a ∧ a ≤ b ∧ b ≤ H'.next ∧ Ow H.next a H' d (PeekP l cid).D ∧ Ow a b H' s' (PeekP l cid).S ∧ Ow b H'.next H' t (PeekP l cid).T := by
  obtain ⟨m, rfl⟩ : ∃ k, m = k + 1 := ⟨m - 1, by omega⟩
  rw [ev_eq Try.func16 ok16 m _ H (by simp [Try.f16])]
  have c1 := tooLong_ev hs (H.push (.cells 32 false zh)) m (by omega)
  unfold PeekP
  simp only [zh] at *
  by_cases h1 : 65536 < l.length
  · have h1' : 65536 < (l.length : Int) := by omega
    simp [h1'] at c1
    rw [if_pos h1]
    simp [Try.f16, ldVar, stVar, c1, perr, hdr]
    exact ⟨_, _, _, _, ⟨⟨rfl, rfl, rfl⟩, rfl⟩, (Kp.refl H).push _, H.next, Nat.le_refl _, H.next, Nat.le_refl _, by simp, Ow.nil _ _ _, Ow.nil _ _ _, Ow.nil _ _ _⟩
  · have h1' : ¬ (65536 < (l.length : Int)) := by omega
    simp [h1'] at c1
    rw [if_neg h1]
    by_cases h2 : cid < 0
    · rw [if_pos (.inl h2)]
      simp [Try.f16, ldVar, stVar, c1, perr, hdr, h2]
      exact ⟨_, _, _, _, ⟨⟨rfl, rfl, rfl⟩, rfl⟩, (Kp.refl H).push _, H.next, Nat.le_refl _, H.next, Nat.le_refl _, by simp, Ow.nil _ _ _, Ow.nil _ _ _, Ow.nil _ _ _⟩
    · by_cases h3 : 8 < cid
      · rw [if_pos (.inr h3)]
        simp [Try.f16, ldVar, stVar, c1, perr, hdr, h2, h3]
        exact ⟨_, _, _, _, ⟨⟨rfl, rfl, rfl⟩, rfl⟩, (Kp.refl H).push _, H.next, Nat.le_refl _, H.next, Nat.le_refl _, by simp, Ow.nil _ _ _, Ow.nil _ _ _, Ow.nil _ _ _⟩
      · rw [if_neg (by omega)]
        have hK0 : Kp H (H.push (.cells 32 false [.int .i64 0, .int .i64 0, .nilSlice, .nilSlice, .nilSlice, .int .i64 0, .int .i64 0, .int .i64 0])) := (Kp.refl H).push _
        rcases peekI_all (hs.kp hK0) hb (by omega) (by omega) (by omega) m (by omega) (cid := cid) with ⟨c, hc, hR, f, v, d, s', t, n, num, H', g1, g2, g3, g4, g5⟩ | ⟨hc, d, s', t, num, H', a, b, g1, g2, g3, g4, g5, g6, g7, g8⟩
        · have e1 : H'.get H.next = some (.cells 32 false [.int .i64 0, .int .i64 0, .nilSlice, .nilSlice, .nilSlice, .int .i64 0, .int .i64 0, .int .i64 0]) := by rw [g2.get _ (by simp)]; simp
          have hn := g2.next
          simp only [AH.push_next] at hn
          have hne : ¬ (H.next = H'.next) := by omega
          rw [hR]
          simp only [hdr] at g1
          simp [Try.f16, ldVar, stVar, c1, perr, hdr, h2, h3, g1, e1, hne, g3, g4, g5, hc]
          exact ⟨_, _, _, _, ⟨⟨rfl, rfl, rfl⟩, rfl⟩, ((hK0.trans g2).push _).set (Nat.le_refl _) _, H.next, Nat.le_refl _, H.next, Nat.le_refl _, by simp; omega, Ow.nil _ _ _, Ow.nil _ _ _, Ow.nil _ _ _⟩
        · have e1 : H'.get H.next = some (.cells 32 false [.int .i64 0, .int .i64 0, .nilSlice, .nilSlice, .nilSlice, .int .i64 0, .int .i64 0, .int .i64 0]) := by rw [g2.get _ (by simp)]; simp
          have hn := g2.next
          simp only [AH.push_next] at hn g3
          have hne : ¬ (H.next = H'.next) := by omega
          generalize peekP l cid = R at *
          obtain ⟨rc, rf, rv, RD, RS, RT, rn⟩ := R
          simp only at *
          subst hc
          simp only [hdr] at g1
          simp [Try.f16, ldVar, stVar, c1, hdr, h2, h3, g1, e1, hne, g6.bs.one, g7.bs.one, g8.bs.one]
          simp only [AH.push_next] at g6
          have kk := (Kp.refl H').push (.cells 32 false [.int .i64 rf, .int .i64 rv, d, s', t, .int .i64 0, .int .i64 0, .int .i64 0])
          exact ⟨_, _, _, _, ⟨⟨rfl, rfl, rfl⟩, rfl⟩, ((hK0.trans g2).push _).set (Nat.le_refl _) _, a, by omega, b, g4, by simp; omega, ((g6.kp kk).set _ (by omega)).wide (by omega) (Nat.le_refl _) (by simp; omega), (g7.kp kk).set _ (by omega), ((g8.kp kk).set _ (by omega)).wide (Nat.le_refl _) (by simp) (by simp)⟩
end Go.Ev

/- The specification's reader. -/
namespace Go.Ev
open Go Go.Proofs
set_option linter.unusedSimpArgs false
set_option linter.unusedVariables false

def rdB (s : AV) (a : Nat) (sh : Bool) : Blk := .cells 76 false [s, .int .i64 a, .bool sh]
def takeS (l : List Int) (a : Nat) (sh : Bool) (n : Int) : List Int × Nat × Bool :=
  if sh = true ∨ (l.length : Int) - a < n then ([], a, true) else ((l.drop a).take n.toNat, a + n.toNat, false)
theorem takeS_by {l : List Int} (hb : By l) (a : Nat) (sh : Bool) (n : Int) : By (takeS l a sh n).1 := by
  unfold takeS; split
  · intro x hx; simp at hx
  · exact (hb.drop _).take _
theorem takeS_len (l : List Int) (a : Nat) (sh : Bool) (n : Int) : (takeS l a sh n).1.length ≤ n.toNat ∧ (takeS l a sh n).1.length ≤ l.length := by
  unfold takeS; split
  · simp
  · simp; omega
theorem takeR_ev {Hb H : AH} {q a : Nat} {s : AV} {l : List Int} {sh : Bool} (hs : Bs Hb s l) (hK : Kp Hb H) (hqb : Hb.next ≤ q) (hqn : q < H.next) (hq : H.get q = some (rdB s a sh)) (ha : a ≤ l.length) (hl : l.length ≤ 65536) (n : Int) (hn0 : 0 ≤ n) (hn1 : n ≤ 4611686018427387904) (m : Nat) (hm : 2 ≤ m) :
    ∃ r H', ev Try.prog m 64 [.ptr q 0, .int .i64 n] H = some (r, H') ∧ Kx q H H' ∧ Ow H.next H'.next H' r (takeS l a sh n).1 ∧ H'.get q = some (rdB s (takeS l a sh n).2.1 (takeS l a sh n).2.2) ∧ (takeS l a sh n).2.1 ≤ l.length := by
  obtain ⟨m, rfl⟩ : ∃ k, m = k + 1 := ⟨m - 1, by omega⟩
  have hs' := hs.kp hK
  have hne : ¬ (q = H.next) := by omega
  unfold rdB at *
  rw [ev_eq Try.func64 ok64 m _ H (by simp [Try.f64])]
  have w0 : IntKind.i64.wrap ((l.length : Int) - a) = l.length - a := wrap_i64 (by omega) (by omega)
  have fin : Kx q H ((H.set q (rdB s a true)).push (.cells 5 false [])) := ⟨by simp, fun b hb hbq => by simp [hbq]; intro h; omega⟩
  cases sh with
  | true =>
    refine ⟨.slice H.next 0 0, (H.set q (rdB s a true)).push (.cells 5 false []), ?_, fin, .inr ⟨H.next, Nat.le_refl _, by simp, by simp, ?_, ?_⟩, ?_⟩
    · simp [Try.f64, ldVar, stVar, hq, hne, rdB, hs.one]
    · simp [takeS]
    · simp [takeS, u8L]
    · simp [takeS, hne, rdB, ha]
  | false =>
    by_cases h2 : (l.length : Int) - a < n
    · refine ⟨.slice H.next 0 0, (H.set q (rdB s a true)).push (.cells 5 false []), ?_, fin, .inr ⟨H.next, Nat.le_refl _, by simp, by simp, ?_, ?_⟩, ?_⟩
      · simp [Try.f64, ldVar, stVar, hq, hne, rdB, hs.one, hs'.len, w0, h2]
      · simp [takeS, h2]
      · simp [takeS, h2, u8L]
      · simp [takeS, h2, hne, rdB, ha]
    · obtain ⟨N, rfl⟩ := Int.eq_ofNat_of_zero_le hn0
      have w1 : IntKind.i64.wrap ((a : Int) + N) = a + N := wrap_i64 (by omega) (by omega)
      have w2 : IntKind.i64.wrap (a : Int) = a := wrap_i64 (by omega) (by omega)
      obtain ⟨s', k1, k2⟩ := cutBs hs a N (by omega) rfl rfl
      have K2 : Kp Hb (H.set q (rdB s (a + N) false)) := hK.set hqb _
      have k3 := k1 _ K2
      obtain ⟨r, H', y1, y2, y3⟩ := l03Copy_ev k2 K2 (by simp; omega) m (by omega)
      have hn := y2.next
      simp only [AH.set_next] at hn y3
      refine ⟨r, H', ?_, ⟨hn, fun b hb hbq => ?_⟩, ?_, ?_⟩
      · simp only [rdB] at *
        push_cast at y1 k3
        simp [Try.f64, ldVar, stVar, hq, hne, hs.one, hs'.len, w0, h2, w1, w2, k3, y1]
      · rw [y2.get b (by simpa using hb), AH.set_get, if_neg hbq]
      · simp [takeS, h2]; exact y3
      · simp [takeS, h2]
        exact ⟨by rw [y2.get q (by simpa using hqn)]; simp [rdB], by omega⟩
theorem fixed_ev {Hb H : AH} {q a : Nat} {s : AV} {l : List Int} {sh : Bool} (hs : Bs Hb s l) (hb : By l) (hK : Kp Hb H) (hqb : Hb.next ≤ q) (hqn : q < H.next) (hq : H.get q = some (rdB s a sh)) (ha : a ≤ l.length) (hl : l.length ≤ 65536) (n : Int) (hn0 : 0 ≤ n) (hn1 : n ≤ 4) (m : Nat) (hm : 11 ≤ m) :
    ∃ H', ev Try.prog m 63 [.ptr q 0, .int .i64 n] H = some (.int .i64 (valP (takeS l a sh n).1), H') ∧ Kx q H H' ∧ H'.get q = some (rdB s (takeS l a sh n).2.1 (takeS l a sh n).2.2) ∧ (takeS l a sh n).2.1 ≤ l.length := by
  obtain ⟨m, rfl⟩ : ∃ k, m = k + 1 := ⟨m - 1, by omega⟩
  obtain ⟨r, H', k1, k2, k3, k4, k5⟩ := takeR_ev hs hK hqb hqn hq ha hl n hn0 (by omega) m (by omega)
  have hv := l01Value_ev k3.bs (Kp.refl H') (takeS_by hb _ _ _) (by have := (takeS_len l a sh n).1; omega) m (by omega)
  refine ⟨H', ?_, k2, k4, k5⟩
  rw [ev_eq Try.func63 ok63 m _ H (by simp [Try.f63])]
  simp [Try.f63, k1, hv]
def varS (l : List Int) (a : Nat) (sh : Bool) : Int × Nat × Bool :=
  if sh = true then (0, a, true) else if (getVarP l a).2.2 ≠ 0 then (0, a, true) else ((getVarP l a).1, (getVarP l a).2.1.toNat, false)
theorem getVarP_nn {l : List Int} (a : Nat) : 0 ≤ (getVarP l a).1 := by
  simp only [getVarP]
  split
  · simp
  · split
    · simp
    · simp only
      exact Int.emod_nonneg _ (Int.pow_ne_zero (by decide))
theorem gvN_cases {l : List Int} (hb : By l) (a : Nat) : gvN (l.getD a 0) ≤ 8 := by
  have hx : 0 ≤ l.getD a 0 ∧ l.getD a 0 < 256 := by
    rw [List.getD_eq_getElem?_getD]
    cases h : l[a]? with
    | none => simp
    | some x => exact hb x (List.mem_of_getElem? h)
  unfold gvN
  have : (l.getD a 0 / 64).toNat ≤ 3 := by omega
  have h2 : 2 ^ (l.getD a 0 / 64).toNat ≤ 2 ^ 3 := Nat.pow_le_pow_right (by omega) this
  omega
theorem getVarP_lt {l : List Int} (hb : By l) (a : Nat) : (getVarP l a).1 ≤ 4611686018427387904 := by
  simp only [getVarP]
  split
  · simp
  · split
    · simp
    · simp only
      have h1 := gvN_cases hb a
      generalize gvN (l.getD a 0) = g at *
      have hp : (0 : Int) < 2 ^ (8 * g - 2) := Int.pow_pos (by decide)
      have h2 := Int.emod_lt_of_pos (valP ((l.drop a).take g)) hp
      have h3 : 2 ^ (8 * g - 2) ≤ 2 ^ 62 := Nat.pow_le_pow_right (by omega) (by omega)
      have h4 := Int.ofNat_le.mpr h3
      rw [Int.natCast_pow, Int.natCast_pow] at h4
      have h5 : ((2 : Nat) : Int) ^ 62 = 4611686018427387904 := by decide
      have h6 : ((2 : Nat) : Int) = 2 := rfl
      rw [h5, h6] at h4
      omega
theorem varS_rng {l : List Int} (hb : By l) (a : Nat) (sh : Bool) : 0 ≤ (varS l a sh).1 ∧ (varS l a sh).1 ≤ 4611686018427387904 := by
  unfold varS
  split
  · simp
  · split
    · simp
    · exact ⟨getVarP_nn a, getVarP_lt hb a⟩
theorem var_ev {Hb H : AH} {q a : Nat} {s : AV} {l : List Int} {sh : Bool} (hs : Bs Hb s l) (hb : By l) (hK : Kp Hb H) (hqb : Hb.next ≤ q) (hqn : q < H.next) (hq : H.get q = some (rdB s a sh)) (ha : a ≤ l.length) (hl : l.length ≤ 65536) (m : Nat) (hm : 21 ≤ m) :
    ∃ H', ev Try.prog m 68 [.ptr q 0] H = some (.int .i64 (varS l a sh).1, H') ∧ Kx q H H' ∧ H'.next = H.next ∧ H'.get q = some (rdB s (varS l a sh).2.1 (varS l a sh).2.2) ∧ (varS l a sh).2.1 ≤ l.length := by
  obtain ⟨m, rfl⟩ : ∃ k, m = k + 1 := ⟨m - 1, by omega⟩
  rw [ev_eq Try.func68 ok68 m _ H (by simp [Try.f68])]
  have hq0 := hq
  unfold rdB at hq
  have hg := GetVarS_ev hs hK hb hl a ha m (by omega)
  cases sh with
  | false =>
    by_cases h2 : (getVarP l a).2.2 = 0
    · obtain ⟨e, h3, h4, h5⟩ := getVarP_end h2
      refine ⟨H.set q (rdB s e false), ?_, (Kx.refl q H).set _, rfl, ?_⟩
      · simp [Try.f68, ldVar, stVar, hq, hg, h2, h3, varS, rdB, hs.one]
      · simp [varS, h2, h3, h5]
    · refine ⟨H.set q (rdB s a true), ?_, (Kx.refl q H).set _, rfl, ?_⟩
      · simp [Try.f68, ldVar, stVar, hq, hg, h2, varS, rdB, hs.one]
      · simp [varS, h2, ha]
  | true =>
    refine ⟨H, ?_, Kx.refl q H, rfl, ?_⟩
    · simp [Try.f68, ldVar, hq, varS]
    · simp [varS, ha, hq0]
theorem fault_ev {H : AH} {q a : Nat} {s : AV} {sh : Bool} (hq : H.get q = some (rdB s a sh)) (m : Nat) (hm : 1 ≤ m) :
    ev Try.prog m 65 [.ptr q 0] H = some (.int .i64 (if sh = true then 2 else 3), H) := by
  obtain ⟨m, rfl⟩ : ∃ k, m = k + 1 := ⟨m - 1, by omega⟩
  unfold rdB at hq
  rw [ev_eq Try.func65 ok65 m _ H (by simp [Try.f65])]
  cases sh <;> simp [Try.f65, ldVar, hq]
end Go.Ev

/- The specification's list of versions; a token to be tried. -/
namespace Go.Ev
open Go Go.Proofs
set_option linter.unusedSimpArgs false
set_option linter.unusedVariables false

theorem rvLoop {Hb H : AH} {q a : Nat} {s : AV} {l : List Int} (hs : Bs Hb s l) (hb : By l) (hK : Kp Hb H) (hqb : Hb.next ≤ q) (hqn : q < H.next) (ha : a ≤ l.length) (hl : l.length ≤ 65536) (G : Nat) (hG : l.length = a + 4 * G) (hG8 : G ≤ 8) (m : Nat) (hm : 20 ≤ m) (τ : Tm) (h : AH) (hK0 : Kx q H h)
    (hq : h.get q = some (rdB s a false)) (t0 : τ 0 = .ptr q 0) (b : Nat) (t3 : τ 3 = .slice b 0 0) (hb0 : H.next ≤ b) (hb1 : b < h.next) (hb2 : h.get b = some (.cells 3 false [])) :
    ∃ e τ' H', evLoop Try.prog (ev Try.prog m) m (lp Try.prog 66 124) τ h = some (e, τ', H') ∧ Kx q H H' ∧
      ((e = .exit 0 ∧ (∃ b, τ' 3 = .slice b 0 G) ∧ (∀ j, j < G → grp (l.drop a) j ≠ 0)) ∨ (e = .ret ∧ (∃ b, τ' 2 = .slice b 0 0) ∧ ¬ (∀ j, j < G → grp (l.drop a) j ≠ 0))) := by
  refine loop_rule (d := G) (fun d τ h => Kx q H h ∧ ∃ k, k + d = G ∧ τ 0 = .ptr q 0 ∧ h.get q = some (rdB s (a + 4 * k) false) ∧ (∃ b xs, τ 3 = .slice b 0 k ∧ xs.length = k ∧ H.next ≤ b ∧ b < h.next ∧ h.get b = some (.cells 3 false xs)) ∧ ∀ j, j < k → grp (l.drop a) j ≠ 0)
    (fun e τ h => Kx q H h ∧ ((e = .exit 0 ∧ (∃ b, τ 3 = .slice b 0 G) ∧ (∀ j, j < G → grp (l.drop a) j ≠ 0)) ∨ (e = .ret ∧ (∃ b, τ 2 = .slice b 0 0) ∧ ¬ (∀ j, j < G → grp (l.drop a) j ≠ 0))))
    ?_ ⟨hK0, 0, by omega, t0, by simpa using hq, ⟨b, [], t3, rfl, hb0, hb1, hb2⟩, by omega⟩ (by omega)
  rintro d τ h ⟨hk, k, hkd, t0, hq, ⟨b, xs, t3, hx, hb0, hb1, hb2⟩, hnz⟩
  have hKh := hk.kp hK hqb
  have hs' := hs.kp hKh
  have hL : ∀ h, lenA Try.prog 22 s h = some (.int .i64 l.length) := hs.len
  have hq0 := hq
  generalize hA : a + 4 * k = A at *
  unfold rdB at hq
  by_cases h0 : d = 0
  · subst h0
    have e1 : A = l.length := by omega
    subst e1
    have hkG : k = G := by omega
    subst hkG
    rewrite [lp66_124]
    simp [Try.f66, t0, hq, ldVar, hL, t3]
    exact ⟨hk, hnz⟩
  · have hd0 : 1 ≤ d := by omega
    have hlt : (A : Int) < l.length := by omega
    obtain ⟨h2, k1, k2, k3, k4⟩ := fixed_ev hs hb hKh hqb (by have := hk.next; omega) hq0 (by omega) hl 4 (by omega) (by omega) m (by omega)
    have hT : takeS l A false 4 = ((l.drop A).take 4, A + 4, false) := by
      unfold takeS; rw [if_neg (by simp; omega)]; rfl
    rw [hT] at k1 k3 k4
    simp only at k1 k3 k4
    have hgr : valP ((l.drop A).take 4) = grp (l.drop a) k := by unfold grp; rw [List.drop_drop, hA]
    rw [hgr] at k1
    have hb2' : h2.get b = some (.cells 3 false xs) := by rw [k2.get b hb1 (by omega)]; exact hb2
    have hbn : b < h2.next := Nat.lt_of_lt_of_le hb1 k2.next
    have happ := appInt (v := .int .i64 (grp (l.drop a) k)) hb2' hx (by omega) hbn
    have hqn2 : q < h2.next := by have := hk.next; have := k2.next; omega
    by_cases hg : grp (l.drop a) k = 0
    · rewrite [lp66_124]
      simp only [hg] at k1
      simp [Try.f66, t0, hq, ldVar, hL, t3, hlt, k1]
      refine ⟨?_, k, by omega, hg⟩
      exact (hk.trans k2).trans (Kx.of ((Kp.refl _).push _))
    · rewrite [lp66_124]
      simp [Try.f66, t0, hq, ldVar, hL, t3, hlt, k1, hg, happ, zerosA]
      have hkn := hk.next
      have h2n := k2.next
      have hget : (((h2.push (.cells 3 false [.int .i64 (grp (l.drop a) k)])).kill b).push (.cells 3 false (xs ++ [.int .i64 (grp (l.drop a) k)]))).get q = some (rdB s (a + 4 * (k + 1)) false) := by
        rw [AH.push_get, if_neg (by simp; omega), AH.kill_get, if_neg (by omega), AH.push_get, if_neg (by omega), k3, show a + 4 * (k + 1) = A + 4 by omega]
      refine ⟨d - 1, by omega, ?_, k + 1, by omega, by simpa using hget, ⟨h2.next + 1, ⟨rfl, rfl⟩, xs ++ [.int .i64 (grp (l.drop a) k)], by simp [hx], by omega, by omega, by simp⟩, ?_⟩
      · refine ⟨by simp; omega, fun c hc hcq => ?_⟩
        rw [AH.push_get, if_neg (by simp; omega), AH.kill_get, if_neg (by omega), AH.push_get, if_neg (by omega), k2.get c (by omega) hcq, hk.get c hc hcq]
      · intro j hj
        by_cases hjk : j = k
        · subst hjk; exact hg
        · exact hnz j (by omega)
theorem readVersions_ev {Hb H : AH} {q a : Nat} {s : AV} {l : List Int} (hs : Bs Hb s l) (hb : By l) (hK : Kp Hb H) (hqb : Hb.next ≤ q) (hqn : q < H.next) (hq : H.get q = some (rdB s a false)) (ha : a ≤ l.length) (hl : l.length ≤ 65536) (m : Nat) (hm : 21 ≤ m) :
    ∃ r H' n, ev Try.prog m 66 [.ptr q 0] H = some (r, H') ∧ Kx q H H' ∧ (∀ h, lenA Try.prog 43 r h = some (.int .i64 n)) ∧ (versP (l.drop a) = true → ¬ n = 0) ∧ (versP (l.drop a) = false → n = 0) := by
  obtain ⟨m, rfl⟩ : ∃ k, m = k + 1 := ⟨m - 1, by omega⟩
  have hs' := hs.kp hK
  have hL : ∀ h, lenA Try.prog 22 s h = some (.int .i64 l.length) := hs.len
  have hne : ¬ (q = H.next) := by omega
  have hq0 := hq
  unfold rdB at hq
  rw [ev_eq Try.func66 ok66 m _ H (by simp [Try.f66])]
  generalize hR : (l.length - a : Nat) = R at *
  have hRl : (l.drop a).length = R := by rw [List.length_drop]; exact hR
  have w0 : IntKind.i64.wrap ((l.length : Int) - a) = R := by rw [wrap_i64 (by omega) (by omega)]; omega
  have hw' : (R : Int).tmod 4 = (R % 4 : Nat) := by rw [Int.tmod_eq_emod_of_nonneg (by omega)]; omega
  have hw : IntKind.i64.wrap ((R % 4 : Nat) : Int) = (R % 4 : Nat) := wrap_i64 (by omega) (by omega)
  by_cases h2 : R % 4 = 0
  · by_cases h1 : R < 4
    · have hf : versP (l.drop a) = false := by simp only [versP, decide_eq_false_iff_not, hRl]; intro hh; omega
      have h1' : (R : Int) < 4 := by omega
      refine ⟨.slice H.next 0 0, H.push (.cells 3 false []), 0, ?_, Kx.of ((Kp.refl H).push _), by simp, by simp [hf], by simp⟩
      simp [Try.f66, hq, hne, ldVar, hL, w0, hw', hw, h2, h1', wrap_i64 (n := 0) (by omega) (by omega)]
    · by_cases h3 : R ≤ 32
      · have h1' : ¬ ((R : Int) < 4) := by omega
        have h3' : ¬ (32 < (R : Int)) := by omega
        simp [Try.f66, hq, hne, ldVar, hL, w0, hw', hw, h2, h1', h3', wrap_i64 (n := 0) (by omega) (by omega)]
        generalize hLp : evLoop _ _ _ _ _ _ = X
        obtain ⟨e, τ', H', rfl, hK', ⟨rfl, ⟨b, g1⟩, g⟩ | ⟨rfl, ⟨b, g1⟩, g⟩⟩ := loop_at hLp (rvLoop hs hb hK hqb hqn ha hl (R / 4) (by omega) (by omega) m (by omega) _ _ (Kx.of ((Kp.refl H).push _)) (by simp [hne, hq, rdB]) (by simp) H.next (by simp) (Nat.le_refl _) (by simp) (by simp))
        · have hv : versP (l.drop a) = true := by simp only [versP, decide_eq_true_eq, hRl]; exact ⟨by omega, h2, h3, g⟩
          simp [g1]
          exact ⟨_, _, ⟨rfl, rfl⟩, hK', ((R / 4 : Nat) : Int), fun h => by simp, fun _ => by omega, by simp [hv]⟩
        · have hv : versP (l.drop a) = false := by simp only [versP, decide_eq_false_iff_not, hRl]; intro hh; exact g hh.2.2.2
          simp [g1]
          exact ⟨_, _, ⟨rfl, rfl⟩, hK', 0, fun h => by simp, by simp [hv], fun _ => rfl⟩
      · have hf : versP (l.drop a) = false := by simp only [versP, decide_eq_false_iff_not, hRl]; intro hh; omega
        have h1' : ¬ ((R : Int) < 4) := by omega
        have h3' : 32 < (R : Int) := by omega
        refine ⟨.slice H.next 0 0, H.push (.cells 3 false []), 0, ?_, Kx.of ((Kp.refl H).push _), by simp, by simp [hf], by simp⟩
        simp [Try.f66, hq, hne, ldVar, hL, w0, hw', hw, h2, h1', h3', wrap_i64 (n := 0) (by omega) (by omega)]
  · have hf : versP (l.drop a) = false := by simp only [versP, decide_eq_false_iff_not, hRl]; intro hh; omega
    refine ⟨.slice H.next 0 0, H.push (.cells 3 false []), 0, ?_, Kx.of ((Kp.refl H).push _), by simp, by simp [hf], by simp⟩
    generalize (R % 4 : Nat) = Y at *
    simp [Try.f66, hq, hne, ldVar, hL, w0, hw', hw, h2]
end Go.Ev
