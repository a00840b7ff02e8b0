/- Lemmas of an evaluator of the given code and of what the functions answer; no condition of its own. -/
import Derived.Test.YtcblbbilllokkaaEv8
import Derived.Test.YtcblbbilllokkaaEv5
/- The specification's peek: initial. -/
namespace Go.Ev
open Go Go.Proofs
set_option linter.unusedSimpArgs false
set_option linter.unusedVariables false

theorem peekS_T1 {H : AH} {s : AV} {l : List Int} {cid : Int} (hs : Bs H s l) (hb : By l) (hl : l.length ≤ 65536) (m : Nat) (hm : 40 ≤ m)
    {O : List Int} {a : Nat} {s0 : Bool} (hO : takeS l 0 false 1 = (O, a, s0)) (h0 : s0 = false) (h128 : 128 ≤ valP O)
    {V : List Int} {a1 : Nat} {s1 : Bool} (hV : takeS l a false 4 = (V, a1, s1)) {N1 : List Int} {a2 : Nat} {s2 : Bool} (hN1 : takeS l a1 s1 1 = (N1, a2, s2)) {D : List Int} {a3 : Nat} {s3 : Bool} (hD : takeS l a2 s2 (valP N1) = (D, a3, s3))
    {N2 : List Int} {a4 : Nat} {s4 : Bool} (hN2 : takeS l a3 s3 1 = (N2, a4, s4)) {S : List Int} {a5 : Nat} {s5 : Bool} (hS : takeS l a4 s4 (valP N2) = (S, a5, s5)) (h2 : s2 = false) (h3 : ¬ 8 < valP N1) (h4 : s4 = false) (h5 : ¬ 8 < valP N2) (h6 : s5 = false) (h7 : ¬ valP V = 0) (hx : 192 ≤ valP O) (hx2 : valP O < 208) {k : Int} {a6 : Nat} {s6 : Bool} (hN0 : varS l a5 false = (k, a6, s6)) {T : List Int} {a7 : Nat} {s7 : Bool} (hT : takeS l a6 s6 k = (T, a7, s7)) (z1' : s6 = true) : PsRes H s cid m (perr 2) := by
  obtain ⟨m, rfl⟩ : ∃ k, m = k + 1 := ⟨m - 1, by omega⟩
  obtain ⟨H1, k1, n1', K1, z0, z1, hq1, ha⟩ := peekS_pro hs hb hl m (by omega) hO
  have hL : ∀ h, lenA Try.prog 22 s h = some (.int .i64 l.length) := hs.len
  subst h0
  obtain ⟨H2, H4, d, H5, H6, t, H7, f1, f2, q4, f3, do1, g5, f4, q6, f5, to1, g7, q7, ha5, N2', N4, N5, N6, N7, G4, G6, G7, K4, K6, K7, Do, So⟩ := peekS_ids hs hb K1 (q := H.next + 2) (by omega) (by omega) hq1 ha hl m (by omega) hV hN1 hD hN2 hS
  have e40 := (G4 H.next (by omega) (by omega)).trans z0
  have e41 := (G4 (H.next + 1) (by omega) (by omega)).trans z1
  have e60 := (G6 H.next (by omega) (by omega)).trans z0
  have e61 := (G6 (H.next + 1) (by omega) (by omega)).trans z1
  have e70 := (G7 H.next (by omega) (by omega)).trans z0
  have e71 := (G7 (H.next + 1) (by omega) (by omega)).trans z1
  have m0 : ¬ (H.next = H2.next) := by omega
  have m0' : ¬ (H2.next = H.next) := by omega
  have m1 : ¬ (H.next + 1 = H2.next) := by omega
  have m1' : ¬ (H2.next = H.next + 1) := by omega
  have m2 : ¬ (H.next + 2 = H2.next) := by omega
  have m2' : ¬ (H2.next = H.next + 2) := by omega
  have r1 : ¬ (valP O < 64) := by omega
  have r2 : ¬ (valP O < 128) := by omega
  subst h2
  subst h4
  subst h6
  have wf : IntKind.i64.wrap (valP O - 192) = valP O - 192 := wrap_i64 (by omega) (by omega)
  have hk : (valP O - 192).tdiv 16 = 0 := by rw [Int.tdiv_eq_ediv_of_nonneg (by omega)]; omega
  have n3' : ¬ (valP O < 192) := by omega
  have wk : IntKind.i64.wrap 0 = 0 := wrap_i64 (by omega) (by omega)
  have KD : Kp H (H7.set H2.next (.cells 32 false [.int .i64 1, .int .i64 (valP V), d, t, .nilSlice, .int .i64 0, .int .i64 0, .int .i64 0])) := K7.set (by omega) _
  obtain ⟨A8, b1, b2, b3, b4, b5⟩ := var_ev (q := H.next + 2) hs hb KD (by omega) (by simp; omega) (show _ = some (rdB s a5 false) by simp [m2, q7]) ha5 hl m (by omega)
  have br := varS_rng hb a5 false
  rw [hN0] at b1 b4 b5 br; simp only at b1 b4 b5 br
  simp only [AH.set_next] at b3
  have KA := b2.kp KD (by omega)
  have x80 : A8.get H.next = some (.cells 32 false zh) := by rw [b2.get _ (by simp; omega) (by omega), AH.set_get, if_neg m0]; exact e70
  have x81 : A8.get (H.next + 1) = some (.cells 32 false zh) := by rw [b2.get _ (by simp; omega) (by omega), AH.set_get, if_neg m1]; exact e71
  have x82 : A8.get H2.next = some (.cells 32 false [.int .i64 1, .int .i64 (valP V), d, t, .nilSlice, .int .i64 0, .int .i64 0, .int .i64 0]) := by rw [b2.get _ (by simp; omega) (by omega)]; simp
  have fa := fault_ev b4 m (by omega)
  obtain ⟨w, A9, g1, g2, g3, g4, g5'⟩ := takeR_ev hs KA (q := H.next + 2) (by omega) (by omega) b4 b5 hl k br.1 br.2 m (by omega)
  rw [hT] at g3 g4 g5'; simp only at g3 g4 g5'
  have na9 := g2.next
  have KA9 := g2.kp KA (by omega)
  have x90 := (g2.get H.next (by omega) (by omega)).trans x80
  have x91 := (g2.get (H.next + 1) (by omega) (by omega)).trans x81
  have x92 := (g2.get H2.next (by omega) (by omega)).trans x82
  have wo := g3.bs.one
  subst z1'
  simp only [rdB, zh] at *
  unfold PsRes
  rw [ev_eq Try.func38 ok38 m _ H (by simp [Try.f38])]
  simp [Try.f38, push_set2, n11, n21, ldVar, stVar, perr, hdr, hs.one, cells_one hs.one, hL, k1, z0, z1, hq1, evHist, ObsOk, ObOk, f1, f2, q4, f3, do1, cells_one do1, g5, f4, q6, f5, to1, cells_one to1, g7, q7, e40, e41, e60, e61, e70, e71, m0, m0', m1, m1', m2, m2', r1, r2, h3, h5, h7, wf, hk, wk, n3', b1, b4, x80, x81, x82, g1, g4, x90, x91, x92, wo, cells_one wo, fa]
  exact ⟨_, _, _, _, ⟨⟨rfl, rfl, rfl⟩, rfl⟩, KA.set (Nat.le_refl _) _, Ox.nil _ _, Ox.nil _ _, Ox.nil _ _⟩
theorem peekS_T2 {H : AH} {s : AV} {l : List Int} {cid : Int} (hs : Bs H s l) (hb : By l) (hl : l.length ≤ 65536) (m : Nat) (hm : 40 ≤ m)
    {O : List Int} {a : Nat} {s0 : Bool} (hO : takeS l 0 false 1 = (O, a, s0)) (h0 : s0 = false) (h128 : 128 ≤ valP O)
    {V : List Int} {a1 : Nat} {s1 : Bool} (hV : takeS l a false 4 = (V, a1, s1)) {N1 : List Int} {a2 : Nat} {s2 : Bool} (hN1 : takeS l a1 s1 1 = (N1, a2, s2)) {D : List Int} {a3 : Nat} {s3 : Bool} (hD : takeS l a2 s2 (valP N1) = (D, a3, s3))
    {N2 : List Int} {a4 : Nat} {s4 : Bool} (hN2 : takeS l a3 s3 1 = (N2, a4, s4)) {S : List Int} {a5 : Nat} {s5 : Bool} (hS : takeS l a4 s4 (valP N2) = (S, a5, s5)) (h2 : s2 = false) (h3 : ¬ 8 < valP N1) (h4 : s4 = false) (h5 : ¬ 8 < valP N2) (h6 : s5 = false) (h7 : ¬ valP V = 0) (hx : 192 ≤ valP O) (hx2 : valP O < 208) {k : Int} {a6 : Nat} {s6 : Bool} (hN0 : varS l a5 false = (k, a6, s6)) {T : List Int} {a7 : Nat} {s7 : Bool} (hT : takeS l a6 s6 k = (T, a7, s7)) (z1' : s6 = false) (z2' : 64 < k) : PsRes H s cid m (perr 3) := by
  obtain ⟨m, rfl⟩ : ∃ k, m = k + 1 := ⟨m - 1, by omega⟩
  obtain ⟨H1, k1, n1', K1, z0, z1, hq1, ha⟩ := peekS_pro hs hb hl m (by omega) hO
  have hL : ∀ h, lenA Try.prog 22 s h = some (.int .i64 l.length) := hs.len
  subst h0
  obtain ⟨H2, H4, d, H5, H6, t, H7, f1, f2, q4, f3, do1, g5, f4, q6, f5, to1, g7, q7, ha5, N2', N4, N5, N6, N7, G4, G6, G7, K4, K6, K7, Do, So⟩ := peekS_ids hs hb K1 (q := H.next + 2) (by omega) (by omega) hq1 ha hl m (by omega) hV hN1 hD hN2 hS
  have e40 := (G4 H.next (by omega) (by omega)).trans z0
  have e41 := (G4 (H.next + 1) (by omega) (by omega)).trans z1
  have e60 := (G6 H.next (by omega) (by omega)).trans z0
  have e61 := (G6 (H.next + 1) (by omega) (by omega)).trans z1
  have e70 := (G7 H.next (by omega) (by omega)).trans z0
  have e71 := (G7 (H.next + 1) (by omega) (by omega)).trans z1
  have m0 : ¬ (H.next = H2.next) := by omega
  have m0' : ¬ (H2.next = H.next) := by omega
  have m1 : ¬ (H.next + 1 = H2.next) := by omega
  have m1' : ¬ (H2.next = H.next + 1) := by omega
  have m2 : ¬ (H.next + 2 = H2.next) := by omega
  have m2' : ¬ (H2.next = H.next + 2) := by omega
  have r1 : ¬ (valP O < 64) := by omega
  have r2 : ¬ (valP O < 128) := by omega
  subst h2
  subst h4
  subst h6
  have wf : IntKind.i64.wrap (valP O - 192) = valP O - 192 := wrap_i64 (by omega) (by omega)
  have hk : (valP O - 192).tdiv 16 = 0 := by rw [Int.tdiv_eq_ediv_of_nonneg (by omega)]; omega
  have n3' : ¬ (valP O < 192) := by omega
  have wk : IntKind.i64.wrap 0 = 0 := wrap_i64 (by omega) (by omega)
  have KD : Kp H (H7.set H2.next (.cells 32 false [.int .i64 1, .int .i64 (valP V), d, t, .nilSlice, .int .i64 0, .int .i64 0, .int .i64 0])) := K7.set (by omega) _
  obtain ⟨A8, b1, b2, b3, b4, b5⟩ := var_ev (q := H.next + 2) hs hb KD (by omega) (by simp; omega) (show _ = some (rdB s a5 false) by simp [m2, q7]) ha5 hl m (by omega)
  have br := varS_rng hb a5 false
  rw [hN0] at b1 b4 b5 br; simp only at b1 b4 b5 br
  simp only [AH.set_next] at b3
  have KA := b2.kp KD (by omega)
  have x80 : A8.get H.next = some (.cells 32 false zh) := by rw [b2.get _ (by simp; omega) (by omega), AH.set_get, if_neg m0]; exact e70
  have x81 : A8.get (H.next + 1) = some (.cells 32 false zh) := by rw [b2.get _ (by simp; omega) (by omega), AH.set_get, if_neg m1]; exact e71
  have x82 : A8.get H2.next = some (.cells 32 false [.int .i64 1, .int .i64 (valP V), d, t, .nilSlice, .int .i64 0, .int .i64 0, .int .i64 0]) := by rw [b2.get _ (by simp; omega) (by omega)]; simp
  have fa := fault_ev b4 m (by omega)
  obtain ⟨w, A9, g1, g2, g3, g4, g5'⟩ := takeR_ev hs KA (q := H.next + 2) (by omega) (by omega) b4 b5 hl k br.1 br.2 m (by omega)
  rw [hT] at g3 g4 g5'; simp only at g3 g4 g5'
  have na9 := g2.next
  have KA9 := g2.kp KA (by omega)
  have x90 := (g2.get H.next (by omega) (by omega)).trans x80
  have x91 := (g2.get (H.next + 1) (by omega) (by omega)).trans x81
  have x92 := (g2.get H2.next (by omega) (by omega)).trans x82
  have wo := g3.bs.one
  subst z1'
  simp only [rdB, zh] at *
  unfold PsRes
  rw [ev_eq Try.func38 ok38 m _ H (by simp [Try.f38])]
  simp [Try.f38, push_set2, n11, n21, ldVar, stVar, perr, hdr, hs.one, cells_one hs.one, hL, k1, z0, z1, hq1, evHist, ObsOk, ObOk, f1, f2, q4, f3, do1, cells_one do1, g5, f4, q6, f5, to1, cells_one to1, g7, q7, e40, e41, e60, e61, e70, e71, m0, m0', m1, m1', m2, m2', r1, r2, h3, h5, h7, wf, hk, wk, n3', b1, b4, x80, x81, x82, g1, g4, x90, x91, x92, wo, cells_one wo, fa, z2']
  exact ⟨_, _, _, _, ⟨⟨rfl, rfl, rfl⟩, rfl⟩, KA.set (Nat.le_refl _) _, Ox.nil _ _, Ox.nil _ _, Ox.nil _ _⟩
theorem peekS_I1 {H : AH} {s : AV} {l : List Int} {cid : Int} (hs : Bs H s l) (hb : By l) (hl : l.length ≤ 65536) (m : Nat) (hm : 40 ≤ m)
    {O : List Int} {a : Nat} {s0 : Bool} (hO : takeS l 0 false 1 = (O, a, s0)) (h0 : s0 = false) (h128 : 128 ≤ valP O)
    {V : List Int} {a1 : Nat} {s1 : Bool} (hV : takeS l a false 4 = (V, a1, s1)) {N1 : List Int} {a2 : Nat} {s2 : Bool} (hN1 : takeS l a1 s1 1 = (N1, a2, s2)) {D : List Int} {a3 : Nat} {s3 : Bool} (hD : takeS l a2 s2 (valP N1) = (D, a3, s3))
    {N2 : List Int} {a4 : Nat} {s4 : Bool} (hN2 : takeS l a3 s3 1 = (N2, a4, s4)) {S : List Int} {a5 : Nat} {s5 : Bool} (hS : takeS l a4 s4 (valP N2) = (S, a5, s5)) (h2 : s2 = false) (h3 : ¬ 8 < valP N1) (h4 : s4 = false) (h5 : ¬ 8 < valP N2) (h6 : s5 = false) (h7 : ¬ valP V = 0) (hx : 192 ≤ valP O) (hx2 : valP O < 208) {k : Int} {a6 : Nat} {s6 : Bool} (hN0 : varS l a5 false = (k, a6, s6)) {T : List Int} {a7 : Nat} {s7 : Bool} (hT : takeS l a6 s6 k = (T, a7, s7)) (z1' : s6 = false) (z2' : ¬ 64 < k) {n : Int} {a8 : Nat} {s8 : Bool} (hN : varS l a7 s7 = (n, a8, s8)) {E : List Int} {a9 : Nat} {s9 : Bool} (hE : takeS l a8 s8 n = (E, a9, s9)) (p1 : s8 = true) : PsRes H s cid m (perr 2) := by
  obtain ⟨m, rfl⟩ : ∃ k, m = k + 1 := ⟨m - 1, by omega⟩
  obtain ⟨H1, k1, n1', K1, z0, z1, hq1, ha⟩ := peekS_pro hs hb hl m (by omega) hO
  have hL : ∀ h, lenA Try.prog 22 s h = some (.int .i64 l.length) := hs.len
  subst h0
  obtain ⟨H2, H4, d, H5, H6, t, H7, f1, f2, q4, f3, do1, g5, f4, q6, f5, to1, g7, q7, ha5, N2', N4, N5, N6, N7, G4, G6, G7, K4, K6, K7, Do, So⟩ := peekS_ids hs hb K1 (q := H.next + 2) (by omega) (by omega) hq1 ha hl m (by omega) hV hN1 hD hN2 hS
  have e40 := (G4 H.next (by omega) (by omega)).trans z0
  have e41 := (G4 (H.next + 1) (by omega) (by omega)).trans z1
  have e60 := (G6 H.next (by omega) (by omega)).trans z0
  have e61 := (G6 (H.next + 1) (by omega) (by omega)).trans z1
  have e70 := (G7 H.next (by omega) (by omega)).trans z0
  have e71 := (G7 (H.next + 1) (by omega) (by omega)).trans z1
  have m0 : ¬ (H.next = H2.next) := by omega
  have m0' : ¬ (H2.next = H.next) := by omega
  have m1 : ¬ (H.next + 1 = H2.next) := by omega
  have m1' : ¬ (H2.next = H.next + 1) := by omega
  have m2 : ¬ (H.next + 2 = H2.next) := by omega
  have m2' : ¬ (H2.next = H.next + 2) := by omega
  have r1 : ¬ (valP O < 64) := by omega
  have r2 : ¬ (valP O < 128) := by omega
  subst h2
  subst h4
  subst h6
  have wf : IntKind.i64.wrap (valP O - 192) = valP O - 192 := wrap_i64 (by omega) (by omega)
  have hk : (valP O - 192).tdiv 16 = 0 := by rw [Int.tdiv_eq_ediv_of_nonneg (by omega)]; omega
  have n3' : ¬ (valP O < 192) := by omega
  have wk : IntKind.i64.wrap 0 = 0 := wrap_i64 (by omega) (by omega)
  have KD : Kp H (H7.set H2.next (.cells 32 false [.int .i64 1, .int .i64 (valP V), d, t, .nilSlice, .int .i64 0, .int .i64 0, .int .i64 0])) := K7.set (by omega) _
  obtain ⟨A8, b1, b2, b3, b4, b5⟩ := var_ev (q := H.next + 2) hs hb KD (by omega) (by simp; omega) (show _ = some (rdB s a5 false) by simp [m2, q7]) ha5 hl m (by omega)
  have br := varS_rng hb a5 false
  rw [hN0] at b1 b4 b5 br; simp only at b1 b4 b5 br
  simp only [AH.set_next] at b3
  have KA := b2.kp KD (by omega)
  have x80 : A8.get H.next = some (.cells 32 false zh) := by rw [b2.get _ (by simp; omega) (by omega), AH.set_get, if_neg m0]; exact e70
  have x81 : A8.get (H.next + 1) = some (.cells 32 false zh) := by rw [b2.get _ (by simp; omega) (by omega), AH.set_get, if_neg m1]; exact e71
  have x82 : A8.get H2.next = some (.cells 32 false [.int .i64 1, .int .i64 (valP V), d, t, .nilSlice, .int .i64 0, .int .i64 0, .int .i64 0]) := by rw [b2.get _ (by simp; omega) (by omega)]; simp
  have fa := fault_ev b4 m (by omega)
  obtain ⟨w, A9, g1, g2, g3, g4, g5'⟩ := takeR_ev hs KA (q := H.next + 2) (by omega) (by omega) b4 b5 hl k br.1 br.2 m (by omega)
  rw [hT] at g3 g4 g5'; simp only at g3 g4 g5'
  have na9 := g2.next
  have KA9 := g2.kp KA (by omega)
  have x90 := (g2.get H.next (by omega) (by omega)).trans x80
  have x91 := (g2.get (H.next + 1) (by omega) (by omega)).trans x81
  have x92 := (g2.get H2.next (by omega) (by omega)).trans x82
  have wo := g3.bs.one
  subst z1'
  have KE : Kp H (A9.set H2.next (.cells 32 false [.int .i64 1, .int .i64 (valP V), d, t, w, .int .i64 0, .int .i64 0, .int .i64 0])) := KA9.set (by omega) _
  obtain ⟨H8, v1, v2, v3, v4, v5⟩ := var_ev (q := H.next + 2) hs hb KE (by omega) (by simp; omega) (show _ = some (rdB s a7 s7) by simp [m2, g4]) g5' hl m (by omega)
  have vr := varS_rng hb a7 s7
  rw [hN] at v1 v4 v5 vr; simp only at v1 v4 v5 vr
  simp only [AH.set_next] at v3
  have K8 := v2.kp KE (by omega)
  have u80 : H8.get H.next = some (.cells 32 false zh) := by rw [v2.get _ (by simp; omega) (by omega), AH.set_get, if_neg m0]; exact x90
  have u81 : H8.get (H.next + 1) = some (.cells 32 false zh) := by rw [v2.get _ (by simp; omega) (by omega), AH.set_get, if_neg m1]; exact x91
  have u82 : H8.get H2.next = some (.cells 32 false [.int .i64 1, .int .i64 (valP V), d, t, w, .int .i64 0, .int .i64 0, .int .i64 0]) := by rw [v2.get _ (by simp; omega) (by omega)]; simp
  have ft := fault_ev v4 m (by omega)
  obtain ⟨rE, H9, c1, c2, c3, c4, c5⟩ := takeR_ev hs K8 (q := H.next + 2) (by omega) (by omega) v4 v5 hl n vr.1 vr.2 m (by omega)
  rw [hE] at c3 c4 c5; simp only at c3 c4 c5
  have n9 := c2.next
  have K9 := c2.kp K8 (by omega)
  have u90 := (c2.get H.next (by omega) (by omega)).trans u80
  have u91 := (c2.get (H.next + 1) (by omega) (by omega)).trans u81
  have u92 := (c2.get H2.next (by omega) (by omega)).trans u82
  subst p1
  simp only [rdB, zh] at *
  unfold PsRes
  rw [ev_eq Try.func38 ok38 m _ H (by simp [Try.f38])]
  simp [Try.f38, push_set2, n11, n21, ldVar, stVar, perr, hdr, hs.one, cells_one hs.one, hL, k1, z0, z1, hq1, evHist, ObsOk, ObOk, f1, f2, q4, f3, do1, cells_one do1, g5, f4, q6, f5, to1, cells_one to1, g7, q7, e40, e41, e60, e61, e70, e71, m0, m0', m1, m1', m2, m2', r1, r2, h3, h5, h7, wf, hk, wk, n3', b1, b4, x80, x81, x82, g1, g4, x90, x91, x92, wo, cells_one wo, z2', v1, v4, u80, u81, u82, c1, c4, u90, u91, u92, ft]
  exact ⟨_, _, _, _, ⟨⟨rfl, rfl, rfl⟩, rfl⟩, K8.set (Nat.le_refl _) _, Ox.nil _ _, Ox.nil _ _, Ox.nil _ _⟩
theorem peekS_I2 {H : AH} {s : AV} {l : List Int} {cid : Int} (hs : Bs H s l) (hb : By l) (hl : l.length ≤ 65536) (m : Nat) (hm : 40 ≤ m)
    {O : List Int} {a : Nat} {s0 : Bool} (hO : takeS l 0 false 1 = (O, a, s0)) (h0 : s0 = false) (h128 : 128 ≤ valP O)
    {V : List Int} {a1 : Nat} {s1 : Bool} (hV : takeS l a false 4 = (V, a1, s1)) {N1 : List Int} {a2 : Nat} {s2 : Bool} (hN1 : takeS l a1 s1 1 = (N1, a2, s2)) {D : List Int} {a3 : Nat} {s3 : Bool} (hD : takeS l a2 s2 (valP N1) = (D, a3, s3))
    {N2 : List Int} {a4 : Nat} {s4 : Bool} (hN2 : takeS l a3 s3 1 = (N2, a4, s4)) {S : List Int} {a5 : Nat} {s5 : Bool} (hS : takeS l a4 s4 (valP N2) = (S, a5, s5)) (h2 : s2 = false) (h3 : ¬ 8 < valP N1) (h4 : s4 = false) (h5 : ¬ 8 < valP N2) (h6 : s5 = false) (h7 : ¬ valP V = 0) (hx : 192 ≤ valP O) (hx2 : valP O < 208) {k : Int} {a6 : Nat} {s6 : Bool} (hN0 : varS l a5 false = (k, a6, s6)) {T : List Int} {a7 : Nat} {s7 : Bool} (hT : takeS l a6 s6 k = (T, a7, s7)) (z1' : s6 = false) (z2' : ¬ 64 < k) {n : Int} {a8 : Nat} {s8 : Bool} (hN : varS l a7 s7 = (n, a8, s8)) {E : List Int} {a9 : Nat} {s9 : Bool} (hE : takeS l a8 s8 n = (E, a9, s9)) (p1 : s8 = false) (p2 : n < 12) : PsRes H s cid m (perr 3) := by
  obtain ⟨m, rfl⟩ : ∃ k, m = k + 1 := ⟨m - 1, by omega⟩
  obtain ⟨H1, k1, n1', K1, z0, z1, hq1, ha⟩ := peekS_pro hs hb hl m (by omega) hO
  have hL : ∀ h, lenA Try.prog 22 s h = some (.int .i64 l.length) := hs.len
  subst h0
  obtain ⟨H2, H4, d, H5, H6, t, H7, f1, f2, q4, f3, do1, g5, f4, q6, f5, to1, g7, q7, ha5, N2', N4, N5, N6, N7, G4, G6, G7, K4, K6, K7, Do, So⟩ := peekS_ids hs hb K1 (q := H.next + 2) (by omega) (by omega) hq1 ha hl m (by omega) hV hN1 hD hN2 hS
  have e40 := (G4 H.next (by omega) (by omega)).trans z0
  have e41 := (G4 (H.next + 1) (by omega) (by omega)).trans z1
  have e60 := (G6 H.next (by omega) (by omega)).trans z0
  have e61 := (G6 (H.next + 1) (by omega) (by omega)).trans z1
  have e70 := (G7 H.next (by omega) (by omega)).trans z0
  have e71 := (G7 (H.next + 1) (by omega) (by omega)).trans z1
  have m0 : ¬ (H.next = H2.next) := by omega
  have m0' : ¬ (H2.next = H.next) := by omega
  have m1 : ¬ (H.next + 1 = H2.next) := by omega
  have m1' : ¬ (H2.next = H.next + 1) := by omega
  have m2 : ¬ (H.next + 2 = H2.next) := by omega
  have m2' : ¬ (H2.next = H.next + 2) := by omega
  have r1 : ¬ (valP O < 64) := by omega
  have r2 : ¬ (valP O < 128) := by omega
  subst h2
  subst h4
  subst h6
  have wf : IntKind.i64.wrap (valP O - 192) = valP O - 192 := wrap_i64 (by omega) (by omega)
  have hk : (valP O - 192).tdiv 16 = 0 := by rw [Int.tdiv_eq_ediv_of_nonneg (by omega)]; omega
  have n3' : ¬ (valP O < 192) := by omega
  have wk : IntKind.i64.wrap 0 = 0 := wrap_i64 (by omega) (by omega)
  have KD : Kp H (H7.set H2.next (.cells 32 false [.int .i64 1, .int .i64 (valP V), d, t, .nilSlice, .int .i64 0, .int .i64 0, .int .i64 0])) := K7.set (by omega) _
  obtain ⟨A8, b1, b2, b3, b4, b5⟩ := var_ev (q := H.next + 2) hs hb KD (by omega) (by simp; omega) (show _ = some (rdB s a5 false) by simp [m2, q7]) ha5 hl m (by omega)
  have br := varS_rng hb a5 false
  rw [hN0] at b1 b4 b5 br; simp only at b1 b4 b5 br
  simp only [AH.set_next] at b3
  have KA := b2.kp KD (by omega)
  have x80 : A8.get H.next = some (.cells 32 false zh) := by rw [b2.get _ (by simp; omega) (by omega), AH.set_get, if_neg m0]; exact e70
  have x81 : A8.get (H.next + 1) = some (.cells 32 false zh) := by rw [b2.get _ (by simp; omega) (by omega), AH.set_get, if_neg m1]; exact e71
  have x82 : A8.get H2.next = some (.cells 32 false [.int .i64 1, .int .i64 (valP V), d, t, .nilSlice, .int .i64 0, .int .i64 0, .int .i64 0]) := by rw [b2.get _ (by simp; omega) (by omega)]; simp
  have fa := fault_ev b4 m (by omega)
  obtain ⟨w, A9, g1, g2, g3, g4, g5'⟩ := takeR_ev hs KA (q := H.next + 2) (by omega) (by omega) b4 b5 hl k br.1 br.2 m (by omega)
  rw [hT] at g3 g4 g5'; simp only at g3 g4 g5'
  have na9 := g2.next
  have KA9 := g2.kp KA (by omega)
  have x90 := (g2.get H.next (by omega) (by omega)).trans x80
  have x91 := (g2.get (H.next + 1) (by omega) (by omega)).trans x81
  have x92 := (g2.get H2.next (by omega) (by omega)).trans x82
  have wo := g3.bs.one
  subst z1'
  have KE : Kp H (A9.set H2.next (.cells 32 false [.int .i64 1, .int .i64 (valP V), d, t, w, .int .i64 0, .int .i64 0, .int .i64 0])) := KA9.set (by omega) _
  obtain ⟨H8, v1, v2, v3, v4, v5⟩ := var_ev (q := H.next + 2) hs hb KE (by omega) (by simp; omega) (show _ = some (rdB s a7 s7) by simp [m2, g4]) g5' hl m (by omega)
  have vr := varS_rng hb a7 s7
  rw [hN] at v1 v4 v5 vr; simp only at v1 v4 v5 vr
  simp only [AH.set_next] at v3
  have K8 := v2.kp KE (by omega)
  have u80 : H8.get H.next = some (.cells 32 false zh) := by rw [v2.get _ (by simp; omega) (by omega), AH.set_get, if_neg m0]; exact x90
  have u81 : H8.get (H.next + 1) = some (.cells 32 false zh) := by rw [v2.get _ (by simp; omega) (by omega), AH.set_get, if_neg m1]; exact x91
  have u82 : H8.get H2.next = some (.cells 32 false [.int .i64 1, .int .i64 (valP V), d, t, w, .int .i64 0, .int .i64 0, .int .i64 0]) := by rw [v2.get _ (by simp; omega) (by omega)]; simp
  have ft := fault_ev v4 m (by omega)
  obtain ⟨rE, H9, c1, c2, c3, c4, c5⟩ := takeR_ev hs K8 (q := H.next + 2) (by omega) (by omega) v4 v5 hl n vr.1 vr.2 m (by omega)
  rw [hE] at c3 c4 c5; simp only at c3 c4 c5
  have n9 := c2.next
  have K9 := c2.kp K8 (by omega)
  have u90 := (c2.get H.next (by omega) (by omega)).trans u80
  have u91 := (c2.get (H.next + 1) (by omega) (by omega)).trans u81
  have u92 := (c2.get H2.next (by omega) (by omega)).trans u82
  subst p1
  simp only [rdB, zh] at *
  unfold PsRes
  rw [ev_eq Try.func38 ok38 m _ H (by simp [Try.f38])]
  simp [Try.f38, push_set2, n11, n21, ldVar, stVar, perr, hdr, hs.one, cells_one hs.one, hL, k1, z0, z1, hq1, evHist, ObsOk, ObOk, f1, f2, q4, f3, do1, cells_one do1, g5, f4, q6, f5, to1, cells_one to1, g7, q7, e40, e41, e60, e61, e70, e71, m0, m0', m1, m1', m2, m2', r1, r2, h3, h5, h7, wf, hk, wk, n3', b1, b4, x80, x81, x82, g1, g4, x90, x91, x92, wo, cells_one wo, z2', v1, v4, u80, u81, u82, c1, c4, u90, u91, u92, ft, p2]
  exact ⟨_, _, _, _, ⟨⟨rfl, rfl, rfl⟩, rfl⟩, K8.set (Nat.le_refl _) _, Ox.nil _ _, Ox.nil _ _, Ox.nil _ _⟩
theorem peekS_I3 {H : AH} {s : AV} {l : List Int} {cid : Int} (hs : Bs H s l) (hb : By l) (hl : l.length ≤ 65536) (m : Nat) (hm : 40 ≤ m)
    {O : List Int} {a : Nat} {s0 : Bool} (hO : takeS l 0 false 1 = (O, a, s0)) (h0 : s0 = false) (h128 : 128 ≤ valP O)
    {V : List Int} {a1 : Nat} {s1 : Bool} (hV : takeS l a false 4 = (V, a1, s1)) {N1 : List Int} {a2 : Nat} {s2 : Bool} (hN1 : takeS l a1 s1 1 = (N1, a2, s2)) {D : List Int} {a3 : Nat} {s3 : Bool} (hD : takeS l a2 s2 (valP N1) = (D, a3, s3))
    {N2 : List Int} {a4 : Nat} {s4 : Bool} (hN2 : takeS l a3 s3 1 = (N2, a4, s4)) {S : List Int} {a5 : Nat} {s5 : Bool} (hS : takeS l a4 s4 (valP N2) = (S, a5, s5)) (h2 : s2 = false) (h3 : ¬ 8 < valP N1) (h4 : s4 = false) (h5 : ¬ 8 < valP N2) (h6 : s5 = false) (h7 : ¬ valP V = 0) (hx : 192 ≤ valP O) (hx2 : valP O < 208) {k : Int} {a6 : Nat} {s6 : Bool} (hN0 : varS l a5 false = (k, a6, s6)) {T : List Int} {a7 : Nat} {s7 : Bool} (hT : takeS l a6 s6 k = (T, a7, s7)) (z1' : s6 = false) (z2' : ¬ 64 < k) {n : Int} {a8 : Nat} {s8 : Bool} (hN : varS l a7 s7 = (n, a8, s8)) {E : List Int} {a9 : Nat} {s9 : Bool} (hE : takeS l a8 s8 n = (E, a9, s9)) (p1 : s8 = false) (p2 : ¬ n < 12) (p3 : 1508 < n) : PsRes H s cid m (perr 3) := by
  obtain ⟨m, rfl⟩ : ∃ k, m = k + 1 := ⟨m - 1, by omega⟩
  obtain ⟨H1, k1, n1', K1, z0, z1, hq1, ha⟩ := peekS_pro hs hb hl m (by omega) hO
  have hL : ∀ h, lenA Try.prog 22 s h = some (.int .i64 l.length) := hs.len
  subst h0
  obtain ⟨H2, H4, d, H5, H6, t, H7, f1, f2, q4, f3, do1, g5, f4, q6, f5, to1, g7, q7, ha5, N2', N4, N5, N6, N7, G4, G6, G7, K4, K6, K7, Do, So⟩ := peekS_ids hs hb K1 (q := H.next + 2) (by omega) (by omega) hq1 ha hl m (by omega) hV hN1 hD hN2 hS
  have e40 := (G4 H.next (by omega) (by omega)).trans z0
  have e41 := (G4 (H.next + 1) (by omega) (by omega)).trans z1
  have e60 := (G6 H.next (by omega) (by omega)).trans z0
  have e61 := (G6 (H.next + 1) (by omega) (by omega)).trans z1
  have e70 := (G7 H.next (by omega) (by omega)).trans z0
  have e71 := (G7 (H.next + 1) (by omega) (by omega)).trans z1
  have m0 : ¬ (H.next = H2.next) := by omega
  have m0' : ¬ (H2.next = H.next) := by omega
  have m1 : ¬ (H.next + 1 = H2.next) := by omega
  have m1' : ¬ (H2.next = H.next + 1) := by omega
  have m2 : ¬ (H.next + 2 = H2.next) := by omega
  have m2' : ¬ (H2.next = H.next + 2) := by omega
  have r1 : ¬ (valP O < 64) := by omega
  have r2 : ¬ (valP O < 128) := by omega
  subst h2
  subst h4
  subst h6
  have wf : IntKind.i64.wrap (valP O - 192) = valP O - 192 := wrap_i64 (by omega) (by omega)
  have hk : (valP O - 192).tdiv 16 = 0 := by rw [Int.tdiv_eq_ediv_of_nonneg (by omega)]; omega
  have n3' : ¬ (valP O < 192) := by omega
  have wk : IntKind.i64.wrap 0 = 0 := wrap_i64 (by omega) (by omega)
  have KD : Kp H (H7.set H2.next (.cells 32 false [.int .i64 1, .int .i64 (valP V), d, t, .nilSlice, .int .i64 0, .int .i64 0, .int .i64 0])) := K7.set (by omega) _
  obtain ⟨A8, b1, b2, b3, b4, b5⟩ := var_ev (q := H.next + 2) hs hb KD (by omega) (by simp; omega) (show _ = some (rdB s a5 false) by simp [m2, q7]) ha5 hl m (by omega)
  have br := varS_rng hb a5 false
  rw [hN0] at b1 b4 b5 br; simp only at b1 b4 b5 br
  simp only [AH.set_next] at b3
  have KA := b2.kp KD (by omega)
  have x80 : A8.get H.next = some (.cells 32 false zh) := by rw [b2.get _ (by simp; omega) (by omega), AH.set_get, if_neg m0]; exact e70
  have x81 : A8.get (H.next + 1) = some (.cells 32 false zh) := by rw [b2.get _ (by simp; omega) (by omega), AH.set_get, if_neg m1]; exact e71
  have x82 : A8.get H2.next = some (.cells 32 false [.int .i64 1, .int .i64 (valP V), d, t, .nilSlice, .int .i64 0, .int .i64 0, .int .i64 0]) := by rw [b2.get _ (by simp; omega) (by omega)]; simp
  have fa := fault_ev b4 m (by omega)
  obtain ⟨w, A9, g1, g2, g3, g4, g5'⟩ := takeR_ev hs KA (q := H.next + 2) (by omega) (by omega) b4 b5 hl k br.1 br.2 m (by omega)
  rw [hT] at g3 g4 g5'; simp only at g3 g4 g5'
  have na9 := g2.next
  have KA9 := g2.kp KA (by omega)
  have x90 := (g2.get H.next (by omega) (by omega)).trans x80
  have x91 := (g2.get (H.next + 1) (by omega) (by omega)).trans x81
  have x92 := (g2.get H2.next (by omega) (by omega)).trans x82
  have wo := g3.bs.one
  subst z1'
  have KE : Kp H (A9.set H2.next (.cells 32 false [.int .i64 1, .int .i64 (valP V), d, t, w, .int .i64 0, .int .i64 0, .int .i64 0])) := KA9.set (by omega) _
  obtain ⟨H8, v1, v2, v3, v4, v5⟩ := var_ev (q := H.next + 2) hs hb KE (by omega) (by simp; omega) (show _ = some (rdB s a7 s7) by simp [m2, g4]) g5' hl m (by omega)
  have vr := varS_rng hb a7 s7
  rw [hN] at v1 v4 v5 vr; simp only at v1 v4 v5 vr
  simp only [AH.set_next] at v3
  have K8 := v2.kp KE (by omega)
  have u80 : H8.get H.next = some (.cells 32 false zh) := by rw [v2.get _ (by simp; omega) (by omega), AH.set_get, if_neg m0]; exact x90
  have u81 : H8.get (H.next + 1) = some (.cells 32 false zh) := by rw [v2.get _ (by simp; omega) (by omega), AH.set_get, if_neg m1]; exact x91
  have u82 : H8.get H2.next = some (.cells 32 false [.int .i64 1, .int .i64 (valP V), d, t, w, .int .i64 0, .int .i64 0, .int .i64 0]) := by rw [v2.get _ (by simp; omega) (by omega)]; simp
  have ft := fault_ev v4 m (by omega)
  obtain ⟨rE, H9, c1, c2, c3, c4, c5⟩ := takeR_ev hs K8 (q := H.next + 2) (by omega) (by omega) v4 v5 hl n vr.1 vr.2 m (by omega)
  rw [hE] at c3 c4 c5; simp only at c3 c4 c5
  have n9 := c2.next
  have K9 := c2.kp K8 (by omega)
  have u90 := (c2.get H.next (by omega) (by omega)).trans u80
  have u91 := (c2.get (H.next + 1) (by omega) (by omega)).trans u81
  have u92 := (c2.get H2.next (by omega) (by omega)).trans u82
  subst p1
  simp only [rdB, zh] at *
  unfold PsRes
  rw [ev_eq Try.func38 ok38 m _ H (by simp [Try.f38])]
  simp [Try.f38, push_set2, n11, n21, ldVar, stVar, perr, hdr, hs.one, cells_one hs.one, hL, k1, z0, z1, hq1, evHist, ObsOk, ObOk, f1, f2, q4, f3, do1, cells_one do1, g5, f4, q6, f5, to1, cells_one to1, g7, q7, e40, e41, e60, e61, e70, e71, m0, m0', m1, m1', m2, m2', r1, r2, h3, h5, h7, wf, hk, wk, n3', b1, b4, x80, x81, x82, g1, g4, x90, x91, x92, wo, cells_one wo, z2', v1, v4, u80, u81, u82, c1, c4, u90, u91, u92, ft, p2, p3]
  exact ⟨_, _, _, _, ⟨⟨rfl, rfl, rfl⟩, rfl⟩, K8.set (Nat.le_refl _) _, Ox.nil _ _, Ox.nil _ _, Ox.nil _ _⟩
theorem peekS_I4 {H : AH} {s : AV} {l : List Int} {cid : Int} (hs : Bs H s l) (hb : By l) (hl : l.length ≤ 65536) (m : Nat) (hm : 40 ≤ m)
    {O : List Int} {a : Nat} {s0 : Bool} (hO : takeS l 0 false 1 = (O, a, s0)) (h0 : s0 = false) (h128 : 128 ≤ valP O)
    {V : List Int} {a1 : Nat} {s1 : Bool} (hV : takeS l a false 4 = (V, a1, s1)) {N1 : List Int} {a2 : Nat} {s2 : Bool} (hN1 : takeS l a1 s1 1 = (N1, a2, s2)) {D : List Int} {a3 : Nat} {s3 : Bool} (hD : takeS l a2 s2 (valP N1) = (D, a3, s3))
    {N2 : List Int} {a4 : Nat} {s4 : Bool} (hN2 : takeS l a3 s3 1 = (N2, a4, s4)) {S : List Int} {a5 : Nat} {s5 : Bool} (hS : takeS l a4 s4 (valP N2) = (S, a5, s5)) (h2 : s2 = false) (h3 : ¬ 8 < valP N1) (h4 : s4 = false) (h5 : ¬ 8 < valP N2) (h6 : s5 = false) (h7 : ¬ valP V = 0) (hx : 192 ≤ valP O) (hx2 : valP O < 208) {k : Int} {a6 : Nat} {s6 : Bool} (hN0 : varS l a5 false = (k, a6, s6)) {T : List Int} {a7 : Nat} {s7 : Bool} (hT : takeS l a6 s6 k = (T, a7, s7)) (z1' : s6 = false) (z2' : ¬ 64 < k) {n : Int} {a8 : Nat} {s8 : Bool} (hN : varS l a7 s7 = (n, a8, s8)) {E : List Int} {a9 : Nat} {s9 : Bool} (hE : takeS l a8 s8 n = (E, a9, s9)) (p1 : s8 = false) (p2 : ¬ n < 12) (p3 : ¬ 1508 < n) (p4 : s9 = true) : PsRes H s cid m (perr 2) := by
  obtain ⟨m, rfl⟩ : ∃ k, m = k + 1 := ⟨m - 1, by omega⟩
  obtain ⟨H1, k1, n1', K1, z0, z1, hq1, ha⟩ := peekS_pro hs hb hl m (by omega) hO
  have hL : ∀ h, lenA Try.prog 22 s h = some (.int .i64 l.length) := hs.len
  subst h0
  obtain ⟨H2, H4, d, H5, H6, t, H7, f1, f2, q4, f3, do1, g5, f4, q6, f5, to1, g7, q7, ha5, N2', N4, N5, N6, N7, G4, G6, G7, K4, K6, K7, Do, So⟩ := peekS_ids hs hb K1 (q := H.next + 2) (by omega) (by omega) hq1 ha hl m (by omega) hV hN1 hD hN2 hS
  have e40 := (G4 H.next (by omega) (by omega)).trans z0
  have e41 := (G4 (H.next + 1) (by omega) (by omega)).trans z1
  have e60 := (G6 H.next (by omega) (by omega)).trans z0
  have e61 := (G6 (H.next + 1) (by omega) (by omega)).trans z1
  have e70 := (G7 H.next (by omega) (by omega)).trans z0
  have e71 := (G7 (H.next + 1) (by omega) (by omega)).trans z1
  have m0 : ¬ (H.next = H2.next) := by omega
  have m0' : ¬ (H2.next = H.next) := by omega
  have m1 : ¬ (H.next + 1 = H2.next) := by omega
  have m1' : ¬ (H2.next = H.next + 1) := by omega
  have m2 : ¬ (H.next + 2 = H2.next) := by omega
  have m2' : ¬ (H2.next = H.next + 2) := by omega
  have r1 : ¬ (valP O < 64) := by omega
  have r2 : ¬ (valP O < 128) := by omega
  subst h2
  subst h4
  subst h6
  have wf : IntKind.i64.wrap (valP O - 192) = valP O - 192 := wrap_i64 (by omega) (by omega)
  have hk : (valP O - 192).tdiv 16 = 0 := by rw [Int.tdiv_eq_ediv_of_nonneg (by omega)]; omega
  have n3' : ¬ (valP O < 192) := by omega
  have wk : IntKind.i64.wrap 0 = 0 := wrap_i64 (by omega) (by omega)
  have KD : Kp H (H7.set H2.next (.cells 32 false [.int .i64 1, .int .i64 (valP V), d, t, .nilSlice, .int .i64 0, .int .i64 0, .int .i64 0])) := K7.set (by omega) _
  obtain ⟨A8, b1, b2, b3, b4, b5⟩ := var_ev (q := H.next + 2) hs hb KD (by omega) (by simp; omega) (show _ = some (rdB s a5 false) by simp [m2, q7]) ha5 hl m (by omega)
  have br := varS_rng hb a5 false
  rw [hN0] at b1 b4 b5 br; simp only at b1 b4 b5 br
  simp only [AH.set_next] at b3
  have KA := b2.kp KD (by omega)
  have x80 : A8.get H.next = some (.cells 32 false zh) := by rw [b2.get _ (by simp; omega) (by omega), AH.set_get, if_neg m0]; exact e70
  have x81 : A8.get (H.next + 1) = some (.cells 32 false zh) := by rw [b2.get _ (by simp; omega) (by omega), AH.set_get, if_neg m1]; exact e71
  have x82 : A8.get H2.next = some (.cells 32 false [.int .i64 1, .int .i64 (valP V), d, t, .nilSlice, .int .i64 0, .int .i64 0, .int .i64 0]) := by rw [b2.get _ (by simp; omega) (by omega)]; simp
  have fa := fault_ev b4 m (by omega)
  obtain ⟨w, A9, g1, g2, g3, g4, g5'⟩ := takeR_ev hs KA (q := H.next + 2) (by omega) (by omega) b4 b5 hl k br.1 br.2 m (by omega)
  rw [hT] at g3 g4 g5'; simp only at g3 g4 g5'
  have na9 := g2.next
  have KA9 := g2.kp KA (by omega)
  have x90 := (g2.get H.next (by omega) (by omega)).trans x80
  have x91 := (g2.get (H.next + 1) (by omega) (by omega)).trans x81
  have x92 := (g2.get H2.next (by omega) (by omega)).trans x82
  have wo := g3.bs.one
  subst z1'
  have KE : Kp H (A9.set H2.next (.cells 32 false [.int .i64 1, .int .i64 (valP V), d, t, w, .int .i64 0, .int .i64 0, .int .i64 0])) := KA9.set (by omega) _
  obtain ⟨H8, v1, v2, v3, v4, v5⟩ := var_ev (q := H.next + 2) hs hb KE (by omega) (by simp; omega) (show _ = some (rdB s a7 s7) by simp [m2, g4]) g5' hl m (by omega)
  have vr := varS_rng hb a7 s7
  rw [hN] at v1 v4 v5 vr; simp only at v1 v4 v5 vr
  simp only [AH.set_next] at v3
  have K8 := v2.kp KE (by omega)
  have u80 : H8.get H.next = some (.cells 32 false zh) := by rw [v2.get _ (by simp; omega) (by omega), AH.set_get, if_neg m0]; exact x90
  have u81 : H8.get (H.next + 1) = some (.cells 32 false zh) := by rw [v2.get _ (by simp; omega) (by omega), AH.set_get, if_neg m1]; exact x91
  have u82 : H8.get H2.next = some (.cells 32 false [.int .i64 1, .int .i64 (valP V), d, t, w, .int .i64 0, .int .i64 0, .int .i64 0]) := by rw [v2.get _ (by simp; omega) (by omega)]; simp
  have ft := fault_ev v4 m (by omega)
  obtain ⟨rE, H9, c1, c2, c3, c4, c5⟩ := takeR_ev hs K8 (q := H.next + 2) (by omega) (by omega) v4 v5 hl n vr.1 vr.2 m (by omega)
  rw [hE] at c3 c4 c5; simp only at c3 c4 c5
  have n9 := c2.next
  have K9 := c2.kp K8 (by omega)
  have u90 := (c2.get H.next (by omega) (by omega)).trans u80
  have u91 := (c2.get (H.next + 1) (by omega) (by omega)).trans u81
  have u92 := (c2.get H2.next (by omega) (by omega)).trans u82
  subst p1
  subst p4
  simp only [rdB, zh] at *
  unfold PsRes
  rw [ev_eq Try.func38 ok38 m _ H (by simp [Try.f38])]
  simp [Try.f38, push_set2, n11, n21, ldVar, stVar, perr, hdr, hs.one, cells_one hs.one, hL, k1, z0, z1, hq1, evHist, ObsOk, ObOk, f1, f2, q4, f3, do1, cells_one do1, g5, f4, q6, f5, to1, cells_one to1, g7, q7, e40, e41, e60, e61, e70, e71, m0, m0', m1, m1', m2, m2', r1, r2, h3, h5, h7, wf, hk, wk, n3', b1, b4, x80, x81, x82, g1, g4, x90, x91, x92, wo, cells_one wo, z2', v1, v4, u80, u81, u82, c1, c4, u90, u91, u92, p2, p3]
  exact ⟨_, _, _, _, ⟨⟨rfl, rfl, rfl⟩, rfl⟩, K9.set (Nat.le_refl _) _, Ox.nil _ _, Ox.nil _ _, Ox.nil _ _⟩
theorem peekS_I5 {H : AH} {s : AV} {l : List Int} {cid : Int} (hs : Bs H s l) (hb : By l) (hl : l.length ≤ 65536) (m : Nat) (hm : 40 ≤ m)
    {O : List Int} {a : Nat} {s0 : Bool} (hO : takeS l 0 false 1 = (O, a, s0)) (h0 : s0 = false) (h128 : 128 ≤ valP O)
    {V : List Int} {a1 : Nat} {s1 : Bool} (hV : takeS l a false 4 = (V, a1, s1)) {N1 : List Int} {a2 : Nat} {s2 : Bool} (hN1 : takeS l a1 s1 1 = (N1, a2, s2)) {D : List Int} {a3 : Nat} {s3 : Bool} (hD : takeS l a2 s2 (valP N1) = (D, a3, s3))
    {N2 : List Int} {a4 : Nat} {s4 : Bool} (hN2 : takeS l a3 s3 1 = (N2, a4, s4)) {S : List Int} {a5 : Nat} {s5 : Bool} (hS : takeS l a4 s4 (valP N2) = (S, a5, s5)) (h2 : s2 = false) (h3 : ¬ 8 < valP N1) (h4 : s4 = false) (h5 : ¬ 8 < valP N2) (h6 : s5 = false) (h7 : ¬ valP V = 0) (hx : 192 ≤ valP O) (hx2 : valP O < 208) {k : Int} {a6 : Nat} {s6 : Bool} (hN0 : varS l a5 false = (k, a6, s6)) {T : List Int} {a7 : Nat} {s7 : Bool} (hT : takeS l a6 s6 k = (T, a7, s7)) (z1' : s6 = false) (z2' : ¬ 64 < k) {n : Int} {a8 : Nat} {s8 : Bool} (hN : varS l a7 s7 = (n, a8, s8)) {E : List Int} {a9 : Nat} {s9 : Bool} (hE : takeS l a8 s8 n = (E, a9, s9)) (p1 : s8 = false) (p2 : ¬ n < 12) (p3 : ¬ 1508 < n) (p4 : s9 = false) : PsRes H s cid m ⟨0, 1, valP V, D, S, T, a9⟩ := by
  obtain ⟨m, rfl⟩ : ∃ k, m = k + 1 := ⟨m - 1, by omega⟩
  obtain ⟨H1, k1, n1', K1, z0, z1, hq1, ha⟩ := peekS_pro hs hb hl m (by omega) hO
  have hL : ∀ h, lenA Try.prog 22 s h = some (.int .i64 l.length) := hs.len
  subst h0
  obtain ⟨H2, H4, d, H5, H6, t, H7, f1, f2, q4, f3, do1, g5, f4, q6, f5, to1, g7, q7, ha5, N2', N4, N5, N6, N7, G4, G6, G7, K4, K6, K7, Do, So⟩ := peekS_ids hs hb K1 (q := H.next + 2) (by omega) (by omega) hq1 ha hl m (by omega) hV hN1 hD hN2 hS
  have e40 := (G4 H.next (by omega) (by omega)).trans z0
  have e41 := (G4 (H.next + 1) (by omega) (by omega)).trans z1
  have e60 := (G6 H.next (by omega) (by omega)).trans z0
  have e61 := (G6 (H.next + 1) (by omega) (by omega)).trans z1
  have e70 := (G7 H.next (by omega) (by omega)).trans z0
  have e71 := (G7 (H.next + 1) (by omega) (by omega)).trans z1
  have m0 : ¬ (H.next = H2.next) := by omega
  have m0' : ¬ (H2.next = H.next) := by omega
  have m1 : ¬ (H.next + 1 = H2.next) := by omega
  have m1' : ¬ (H2.next = H.next + 1) := by omega
  have m2 : ¬ (H.next + 2 = H2.next) := by omega
  have m2' : ¬ (H2.next = H.next + 2) := by omega
  have r1 : ¬ (valP O < 64) := by omega
  have r2 : ¬ (valP O < 128) := by omega
  subst h2
  subst h4
  subst h6
  have wf : IntKind.i64.wrap (valP O - 192) = valP O - 192 := wrap_i64 (by omega) (by omega)
  have hk : (valP O - 192).tdiv 16 = 0 := by rw [Int.tdiv_eq_ediv_of_nonneg (by omega)]; omega
  have n3' : ¬ (valP O < 192) := by omega
  have wk : IntKind.i64.wrap 0 = 0 := wrap_i64 (by omega) (by omega)
  have KD : Kp H (H7.set H2.next (.cells 32 false [.int .i64 1, .int .i64 (valP V), d, t, .nilSlice, .int .i64 0, .int .i64 0, .int .i64 0])) := K7.set (by omega) _
  obtain ⟨A8, b1, b2, b3, b4, b5⟩ := var_ev (q := H.next + 2) hs hb KD (by omega) (by simp; omega) (show _ = some (rdB s a5 false) by simp [m2, q7]) ha5 hl m (by omega)
  have br := varS_rng hb a5 false
  rw [hN0] at b1 b4 b5 br; simp only at b1 b4 b5 br
  simp only [AH.set_next] at b3
  have KA := b2.kp KD (by omega)
  have x80 : A8.get H.next = some (.cells 32 false zh) := by rw [b2.get _ (by simp; omega) (by omega), AH.set_get, if_neg m0]; exact e70
  have x81 : A8.get (H.next + 1) = some (.cells 32 false zh) := by rw [b2.get _ (by simp; omega) (by omega), AH.set_get, if_neg m1]; exact e71
  have x82 : A8.get H2.next = some (.cells 32 false [.int .i64 1, .int .i64 (valP V), d, t, .nilSlice, .int .i64 0, .int .i64 0, .int .i64 0]) := by rw [b2.get _ (by simp; omega) (by omega)]; simp
  have fa := fault_ev b4 m (by omega)
  obtain ⟨w, A9, g1, g2, g3, g4, g5'⟩ := takeR_ev hs KA (q := H.next + 2) (by omega) (by omega) b4 b5 hl k br.1 br.2 m (by omega)
  rw [hT] at g3 g4 g5'; simp only at g3 g4 g5'
  have na9 := g2.next
  have KA9 := g2.kp KA (by omega)
  have x90 := (g2.get H.next (by omega) (by omega)).trans x80
  have x91 := (g2.get (H.next + 1) (by omega) (by omega)).trans x81
  have x92 := (g2.get H2.next (by omega) (by omega)).trans x82
  have wo := g3.bs.one
  subst z1'
  have KE : Kp H (A9.set H2.next (.cells 32 false [.int .i64 1, .int .i64 (valP V), d, t, w, .int .i64 0, .int .i64 0, .int .i64 0])) := KA9.set (by omega) _
  obtain ⟨H8, v1, v2, v3, v4, v5⟩ := var_ev (q := H.next + 2) hs hb KE (by omega) (by simp; omega) (show _ = some (rdB s a7 s7) by simp [m2, g4]) g5' hl m (by omega)
  have vr := varS_rng hb a7 s7
  rw [hN] at v1 v4 v5 vr; simp only at v1 v4 v5 vr
  simp only [AH.set_next] at v3
  have K8 := v2.kp KE (by omega)
  have u80 : H8.get H.next = some (.cells 32 false zh) := by rw [v2.get _ (by simp; omega) (by omega), AH.set_get, if_neg m0]; exact x90
  have u81 : H8.get (H.next + 1) = some (.cells 32 false zh) := by rw [v2.get _ (by simp; omega) (by omega), AH.set_get, if_neg m1]; exact x91
  have u82 : H8.get H2.next = some (.cells 32 false [.int .i64 1, .int .i64 (valP V), d, t, w, .int .i64 0, .int .i64 0, .int .i64 0]) := by rw [v2.get _ (by simp; omega) (by omega)]; simp
  have ft := fault_ev v4 m (by omega)
  obtain ⟨rE, H9, c1, c2, c3, c4, c5⟩ := takeR_ev hs K8 (q := H.next + 2) (by omega) (by omega) v4 v5 hl n vr.1 vr.2 m (by omega)
  rw [hE] at c3 c4 c5; simp only at c3 c4 c5
  have n9 := c2.next
  have K9 := c2.kp K8 (by omega)
  have u90 := (c2.get H.next (by omega) (by omega)).trans u80
  have u91 := (c2.get (H.next + 1) (by omega) (by omega)).trans u81
  have u92 := (c2.get H2.next (by omega) (by omega)).trans u82
  subst p1
  subst p4
  simp only [rdB, zh] at *
  unfold PsRes
  rw [ev_eq Try.func38 ok38 m _ H (by simp [Try.f38])]
  simp [Try.f38, push_set2, n11, n21, ldVar, stVar, perr, hdr, hs.one, cells_one hs.one, hL, k1, z0, z1, hq1, evHist, ObsOk, ObOk, f1, f2, q4, f3, do1, cells_one do1, g5, f4, q6, f5, to1, cells_one to1, g7, q7, e40, e41, e60, e61, e70, e71, m0, m0', m1, m1', m2, m2', r1, r2, h3, h5, h7, wf, hk, wk, n3', b1, b4, x80, x81, x82, g1, g4, x90, x91, x92, wo, cells_one wo, z2', v1, v4, u80, u81, u82, c1, c4, u90, u91, u92, p2, p3]
  exact ⟨_, _, _, _, ⟨⟨rfl, rfl, rfl⟩, rfl⟩, K9.set (Nat.le_refl _) _, (((((((Do.set _ (by omega)).kx b2 (by omega)).kx g2 (by omega)).set _ (by omega)).kx v2 (by omega)).kx c2 (by omega)).set _ (by omega)).ox (by omega), (((((((So.set _ (by omega)).kx b2 (by omega)).kx g2 (by omega)).set _ (by omega)).kx v2 (by omega)).kx c2 (by omega)).set _ (by omega)).ox (by omega), ((((g3.set _ (by omega)).kx v2 (by omega)).kx c2 (by omega)).set _ (by omega)).ox (by omega)⟩
end Go.Ev

/- Both answer alike: the specification's peek, whole. -/
namespace Go.Ev
open Go Go.Proofs
set_option linter.unusedSimpArgs false
set_option linter.unusedVariables false

def cO (sh : Bool) : Int := if sh = true then 2 else 0
@[simp] theorem cO_t : cO true = 2 := rfl
@[simp] theorem cO_f : cO false = 0 := rfl
theorem takeI_S {l : List Int} {a : Nat} {sh : Bool} {n : Int} (hn : 0 ≤ n) : takeI l a (cO sh) n = ((takeS l a sh n).1, (takeS l a sh n).2.1, cO (takeS l a sh n).2.2) := by
  cases sh with
  | true => simp [takeI, takeS]
  | false =>
    by_cases h : (l.length : Int) - a < n
    · simp [takeI, takeS, h]
    · have : ¬ n < 0 := by omega
      simp [takeI, takeS, h, this]
theorem octV_valP {l : List Int} (h : l.length ≤ 1) : octV l = valP l := by
  match l, h with
  | [], _ => rfl
  | [x], _ => simp [octV, valP]
  | x :: y :: t, h => simp at h
theorem octetI_S {l : List Int} {a : Nat} {sh : Bool} {O : List Int} {a' : Nat} {s' : Bool} (h : takeS l a sh 1 = (O, a', s')) : octetI l a (cO sh) = (valP O, a', cO s') := by
  have h1 := (takeS_len l a sh 1).1
  unfold octetI
  rw [takeI_S (by decide), h]
  rw [h] at h1
  simp only
  rw [octV_valP (by simpa using h1)]
theorem numberI_S {l : List Int} {a : Nat} {sh : Bool} {n : Int} {a' : Nat} {s' : Bool} (h : varS l a sh = (n, a', s')) : numberI l a (cO sh) = (n, a', cO s') := by
  cases sh with
  | true =>
    simp [varS] at h
    obtain ⟨rfl, rfl, rfl⟩ := h
    simp [numberI]
  | false =>
    rcases getVarP_code l a with h2 | h2
    · simp [varS, h2] at h
      obtain ⟨rfl, rfl, rfl⟩ := h
      simp [numberI, h2]
    · simp [varS, h2] at h
      obtain ⟨rfl, rfl, rfl⟩ := h
      simp [numberI, h2]
theorem endP_S {l : List Int} (hb : By l) {f v : Int} {D S T : List Int} {a : Nat} {sh : Bool} {n : Int} {a8 : Nat} {s8 : Bool} (hN : varS l a sh = (n, a8, s8)) {E : List Int} {a9 : Nat} {s9 : Bool} (hE : takeS l a8 s8 n = (E, a9, s9)) :
    endP l f v D S T a (cO sh) = if s8 = true then perr 2 else if n < 12 ∨ 1508 < n then perr 3 else if s9 = true then perr 2 else ⟨0, f, v, D, S, T, a9⟩ := by
  have hn := (varS_rng hb a sh).1
  rw [hN] at hn; simp only at hn
  unfold endP
  rw [numberI_S hN]
  simp only
  cases s8 with
  | true => simp [takeI]
  | false =>
    by_cases h1 : n < 12 ∨ 1508 < n
    · simp [h1, takeI]
    · have := takeI_S (l := l) (a := a8) (sh := false) hn
      rw [hE] at this
      simp only [cO_f] at this
      simp only [h1, and_false, false_and, if_false, cO_f, this]
      cases s9 <;> simp
end Go.Ev

/- The specification's peek, whole; Peek. -/
namespace Go.Ev
open Go Go.Proofs
set_option linter.unusedSimpArgs false
set_option linter.unusedVariables false

theorem cidI_S {l : List Int} (hb : By l) {a : Nat} {sh : Bool} {N1 : List Int} {a2 : Nat} {s2 : Bool} (hN : takeS l a sh 1 = (N1, a2, s2)) {D : List Int} {a3 : Nat} {s3 : Bool} (hD : takeS l a2 s2 (valP N1) = (D, a3, s3)) :
    cidI l a (cO sh) = if s2 = true then ([], a2, 2) else if 8 < valP N1 then ([], a2, 3) else (D, a3, cO s3) := by
  have hn := valP1 (takeS_by hb a sh 1) (by simpa using (takeS_len l a sh 1).1)
  rw [hN] at hn; simp only at hn
  unfold cidI
  rw [octetI_S hN]
  cases s2 with
  | true => simp [takeI]
  | false =>
    by_cases h8 : 8 < valP N1
    · simp [takeI, h8]
    · have := takeI_S (l := l) (a := a2) (sh := false) hn.1
      rw [hD] at this
      simp only [cO_f] at this
      simp [h8, this]
theorem peekS_all {H : AH} {s : AV} {l : List Int} {cid : Int} (hs : Bs H s l) (hb : By l) (hl : l.length ≤ 65536) (hcid : 0 ≤ cid) (hcid8 : cid ≤ 8) (m : Nat) (hm : 40 ≤ m) : PsRes H s cid m (peekP l cid) := by
  unfold peekP
  obtain ⟨⟨O, a, s0⟩, hO⟩ : ∃ x, takeS l 0 false 1 = x := ⟨_, rfl⟩
  have hof := valP1 (takeS_by hb 0 false 1) (by simpa using (takeS_len l 0 false 1).1)
  rw [hO] at hof; simp only at hof
  have hO' : octetI l 0 0 = (valP O, a, cO s0) := octetI_S (sh := false) hO
  rw [hO']
  simp only
  cases s0 with
  | true => rw [if_pos (by simp)]; exact peekS_A hs hb hl m hm hO rfl
  | false =>
    rw [if_neg (by simp)]
    by_cases h64 : valP O < 64
    · rw [if_pos h64]; exact peekS_B hs hb hl m hm hO rfl h64
    · rw [if_neg h64]
      by_cases h128 : valP O < 128
      · rw [if_pos h128]
        obtain ⟨⟨D, a1, s1⟩, hD⟩ : ∃ x, takeS l a false cid = x := ⟨_, rfl⟩
        have hD' := takeI_S (l := l) (a := a) (sh := false) hcid
        rw [hD] at hD'
        simp only [cO_f] at hD'
        rw [hD']
        simp only
        cases s1 with
        | true => rw [if_pos (by simp [takeI])]; simp only [cO_t, takeI]; simp; exact peekS_C1 hs hb hl m hm hO rfl h64 h128 hcid hcid8 hD rfl
        | false =>
          by_cases h2 : (l.length : Int) - a1 < 12
          · rw [if_pos (by simp [takeI, h2])]; simp [takeI, h2]; exact peekS_C2 hs hb hl m hm hO rfl h64 h128 hcid hcid8 hD rfl h2
          · rw [if_neg (by simp [takeI, h2])]; exact peekS_C3 hs hb hl m hm hO rfl h64 h128 hcid hcid8 hD rfl h2
      · rw [if_neg h128]
        have h128' : 128 ≤ valP O := by omega
        obtain ⟨⟨V, a1, s1⟩, hV⟩ : ∃ x, takeS l a false 4 = x := ⟨_, rfl⟩
        obtain ⟨⟨N1, a2, s2⟩, hN1⟩ : ∃ x, takeS l a1 s1 1 = x := ⟨_, rfl⟩
        obtain ⟨⟨D, a3, s3⟩, hD⟩ : ∃ x, takeS l a2 s2 (valP N1) = x := ⟨_, rfl⟩
        obtain ⟨⟨N2, a4, s4⟩, hN2⟩ : ∃ x, takeS l a3 s3 1 = x := ⟨_, rfl⟩
        obtain ⟨⟨S, a5, s5⟩, hS⟩ : ∃ x, takeS l a4 s4 (valP N2) = x := ⟨_, rfl⟩
        have hV' : takeI l a 0 4 = (V, a1, cO s1) := by
          have := takeI_S (l := l) (a := a) (sh := false) (n := 4) (by decide)
          rw [hV] at this; simpa using this
        rw [hV']
        unfold idsP
        simp only [cidI_S hb hN1 hD]
        cases s2 with
        | true => simp only [if_true, cidI_st (show (2 : Int) ≠ 0 by decide)]; unfold longP; rw [if_pos (by simp)]; exact peekS_L1 hs hb hl m hm hO rfl h128' hV hN1 hD hN2 hS rfl
        | false =>
          by_cases h3 : 8 < valP N1
          · simp only [h3, if_true, cidI_st (show (3 : Int) ≠ 0 by decide)]; unfold longP; simp; exact peekS_L2 hs hb hl m hm hO rfl h128' hV hN1 hD hN2 hS rfl h3
          · simp only [h3, if_false, cidI_S hb hN2 hS, Bool.false_eq_true]
            cases s4 with
            | true => simp only [if_true]; unfold longP; simp; exact peekS_L3 hs hb hl m hm hO rfl h128' hV hN1 hD hN2 hS rfl h3 rfl
            | false =>
              by_cases h5 : 8 < valP N2
              · simp only [h5, if_true, Bool.false_eq_true, if_false]; unfold longP; simp; exact peekS_L4 hs hb hl m hm hO rfl h128' hV hN1 hD hN2 hS rfl h3 rfl h5
              · simp only [h5, if_false, Bool.false_eq_true]
                unfold longP
                cases s5 with
                | true => simp; exact peekS_L5 hs hb hl m hm hO rfl h128' hV hN1 hD hN2 hS rfl h3 rfl h5 rfl
                | false =>
                  simp only [cO_f]
                  rw [if_neg (by decide)]
                  by_cases h7 : valP V = 0
                  · rw [if_pos h7]
                    by_cases h8 : valP O = 128
                    · by_cases h9 : versP (l.drop a5) = true
                      · rw [if_pos ⟨h8, h9⟩]; exact peekS_E1 hs hb hl m hm hO rfl h128' hV hN1 hD hN2 hS rfl h3 rfl h5 rfl h7 h8 h9
                      · rw [if_neg (fun h => h9 h.2)]; exact peekS_E3 hs hb hl m hm hO rfl h128' hV hN1 hD hN2 hS rfl h3 rfl h5 rfl h7 h8 (by simpa using h9)
                    · rw [if_neg (fun h => h8 h.1)]; exact peekS_E2 hs hb hl m hm hO rfl h128' hV hN1 hD hN2 hS rfl h3 rfl h5 rfl h7 h8
                  · rw [if_neg h7]
                    by_cases hx : valP O < 192
                    · rw [if_pos (.inl hx)]; exact peekS_F1 hs hb hl m hm hO rfl h128' hV hN1 hD hN2 hS rfl h3 rfl h5 rfl h7 hx
                    · by_cases hy : 208 ≤ valP O ∧ valP O < 224
                      · rw [if_pos (.inr hy)]; exact peekS_F2 hs hb hl m hm hO rfl h128' hV hN1 hD hN2 hS rfl h3 rfl h5 rfl h7 hy.1 hy.2
                      · rw [if_neg (by omega)]
                        by_cases hz : 240 ≤ valP O
                        · rw [if_pos hz]
                          by_cases hR : l.length - a5 < 9
                          · rw [if_pos hR]; exact peekS_G1 hs hb hl m hm hO rfl h128' hV hN1 hD hN2 hS rfl h3 rfl h5 rfl h7 hz hof.2 hR
                          · rw [if_neg hR]
                            by_cases hR2 : 72 < l.length - a5
                            · rw [if_pos hR2]; exact peekS_G2 hs hb hl m hm hO rfl h128' hV hN1 hD hN2 hS rfl h3 rfl h5 rfl h7 hz hof.2 hR2
                            · rw [if_neg hR2]; exact peekS_G3 hs hb hl m hm hO rfl h128' hV hN1 hD hN2 hS rfl h3 rfl h5 rfl h7 hz hof.2 (by omega) (by omega)
                        · rw [if_neg hz]
                          by_cases hw : 224 ≤ valP O
                          · rw [if_pos hw]
                            obtain ⟨⟨n, a8, s8⟩, hN⟩ : ∃ x, varS l a5 false = x := ⟨_, rfl⟩
                            obtain ⟨⟨E, a9, s9⟩, hE⟩ : ∃ x, takeS l a8 s8 n = x := ⟨_, rfl⟩
                            have e := endP_S hb (f := 2) (v := valP V) (D := D) (S := S) (T := []) hN hE
                            rw [cO_f] at e
                            rw [e]
                            cases s8 with
                            | true => rw [if_pos rfl]; exact peekS_H1 hs hb hl m hm hO rfl h128' hV hN1 hD hN2 hS rfl h3 rfl h5 rfl h7 hw (by omega) hN hE rfl
                            | false =>
                              rw [if_neg (by decide)]
                              by_cases q1 : n < 12
                              · rw [if_pos (.inl q1)]; exact peekS_H2 hs hb hl m hm hO rfl h128' hV hN1 hD hN2 hS rfl h3 rfl h5 rfl h7 hw (by omega) hN hE rfl q1
                              · by_cases q2 : 1508 < n
                                · rw [if_pos (.inr q2)]; exact peekS_H3 hs hb hl m hm hO rfl h128' hV hN1 hD hN2 hS rfl h3 rfl h5 rfl h7 hw (by omega) hN hE rfl q1 q2
                                · rw [if_neg (by omega)]
                                  cases s9 with
                                  | true => rw [if_pos rfl]; exact peekS_H4 hs hb hl m hm hO rfl h128' hV hN1 hD hN2 hS rfl h3 rfl h5 rfl h7 hw (by omega) hN hE rfl q1 q2 rfl
                                  | false => rw [if_neg (by decide)]; exact peekS_H5 hs hb hl m hm hO rfl h128' hV hN1 hD hN2 hS rfl h3 rfl h5 rfl h7 hw (by omega) hN hE rfl q1 q2 rfl
                          · rw [if_neg hw]
                            obtain ⟨⟨k, a6, s6⟩, hN0⟩ : ∃ x, varS l a5 false = x := ⟨_, rfl⟩
                            obtain ⟨⟨T, a7, s7⟩, hT⟩ : ∃ x, takeS l a6 s6 k = x := ⟨_, rfl⟩
                            have hk := (varS_rng hb a5 false).1
                            rw [hN0] at hk; simp only at hk
                            have e0 := numberI_S hN0
                            rw [cO_f] at e0
                            rw [e0]
                            unfold tokP
                            simp only
                            cases s6 with
                            | true =>
                              simp [takeI, endP, numberI]
                              exact peekS_T1 hs hb hl m hm hO rfl h128' hV hN1 hD hN2 hS rfl h3 rfl h5 rfl h7 (by omega) (by omega) hN0 hT rfl
                            | false =>
                              by_cases z2 : 64 < k
                              · simp [takeI, endP, numberI, z2]
                                exact peekS_T2 hs hb hl m hm hO rfl h128' hV hN1 hD hN2 hS rfl h3 rfl h5 rfl h7 (by omega) (by omega) hN0 hT rfl z2
                              · have hT' := takeI_S (l := l) (a := a6) (sh := false) hk
                                rw [hT] at hT'
                                simp only [cO_f] at hT'
                                simp only [z2, false_and, if_false, cO_f, hT']
                                obtain ⟨⟨n, a8, s8⟩, hN⟩ : ∃ x, varS l a7 s7 = x := ⟨_, rfl⟩
                                obtain ⟨⟨E, a9, s9⟩, hE⟩ : ∃ x, takeS l a8 s8 n = x := ⟨_, rfl⟩
                                rw [endP_S hb hN hE]
                                cases s8 with
                                | true => rw [if_pos rfl]; exact peekS_I1 hs hb hl m hm hO rfl h128' hV hN1 hD hN2 hS rfl h3 rfl h5 rfl h7 (by omega) (by omega) hN0 hT rfl z2 hN hE rfl
                                | false =>
                                  rw [if_neg (by decide)]
                                  by_cases q1 : n < 12
                                  · rw [if_pos (.inl q1)]; exact peekS_I2 hs hb hl m hm hO rfl h128' hV hN1 hD hN2 hS rfl h3 rfl h5 rfl h7 (by omega) (by omega) hN0 hT rfl z2 hN hE rfl q1
                                  · by_cases q2 : 1508 < n
                                    · rw [if_pos (.inr q2)]; exact peekS_I3 hs hb hl m hm hO rfl h128' hV hN1 hD hN2 hS rfl h3 rfl h5 rfl h7 (by omega) (by omega) hN0 hT rfl z2 hN hE rfl q1 q2
                                    · rw [if_neg (by omega)]
                                      cases s9 with
                                      | true => rw [if_pos rfl]; exact peekS_I4 hs hb hl m hm hO rfl h128' hV hN1 hD hN2 hS rfl h3 rfl h5 rfl h7 (by omega) (by omega) hN0 hT rfl z2 hN hE rfl q1 q2 rfl
                                      | false => rw [if_neg (by decide)]; exact peekS_I5 hs hb hl m hm hO rfl h128' hV hN1 hD hN2 hS rfl h3 rfl h5 rfl h7 (by omega) (by omega) hN0 hT rfl z2 hN hE rfl q1 q2 rfl
end Go.Ev

/- The specification's Peek. -/
namespace Go.Ev
open Go Go.Proofs
set_option linter.unusedSimpArgs false
set_option linter.unusedVariables false

theorem PeekS_ev {H : AH} {s : AV} {l : List Int} {cid : Int} (hs : Bs H s l) (hb : By l) (m : Nat) (hm : 41 ≤ m) :
    ∃ d s' t H', ev Try.prog m 15 [s, .int .i64 cid] H = some (.tuple [hdr (PeekP l cid).f (PeekP l cid).v d s' t, .int .i64 (PeekP l cid).n, .int .i64 (PeekP l cid).c], H') ∧ Kp H H' ∧
      Bs H' d (PeekP l cid).D ∧ Bs H' s' (PeekP l cid).S ∧ Bs H' t (PeekP l cid).T := by
  obtain ⟨m, rfl⟩ : ∃ k, m = k + 1 := ⟨m - 1, by omega⟩
  rw [ev_eq Try.func15 ok15 m _ H (by simp [Try.f15])]
  have hL : ∀ h, lenA Try.prog 22 s h = some (.int .i64 l.length) := hs.len
  unfold PeekP
  by_cases h1 : 65536 < l.length
  · have h1' : 65536 < (l.length : Int) := by omega
    rw [if_pos h1]
    simp [Try.f15, ldVar, stVar, hL, h1', perr, hdr]
    exact ⟨_, _, _, _, ⟨⟨rfl, rfl, rfl⟩, rfl⟩, (Kp.refl H).push _, Bs.nil _, Bs.nil _, Bs.nil _⟩
  · have h1' : ¬ (65536 < (l.length : Int)) := by omega
    rw [if_neg h1]
    by_cases h2 : cid < 0
    · rw [if_pos (.inl h2)]
      simp [Try.f15, ldVar, stVar, hL, h1', perr, hdr, h2]
      exact ⟨_, _, _, _, ⟨⟨rfl, rfl, rfl⟩, rfl⟩, (Kp.refl H).push _, Bs.nil _, Bs.nil _, Bs.nil _⟩
    · by_cases h3 : 8 < cid
      · rw [if_pos (.inr h3)]
        simp [Try.f15, ldVar, stVar, hL, h1', perr, hdr, h2, h3]
        exact ⟨_, _, _, _, ⟨⟨rfl, rfl, rfl⟩, rfl⟩, (Kp.refl H).push _, Bs.nil _, Bs.nil _, Bs.nil _⟩
      · rw [if_neg (by omega)]
        have hK0 : Kp H (H.push (.cells 32 false [.int .i64 0, .int .i64 0, .nilSlice, .nilSlice, .nilSlice, .int .i64 0, .int .i64 0, .int .i64 0])) := (Kp.refl H).push _
        obtain ⟨d, s', t, H', g1, g2, g3, g4, g5⟩ := peekS_all (hs.kp hK0) hb (by omega) (by omega) (by omega) m (by omega) (cid := cid)
        have e1 : H'.get H.next = some (.cells 32 false [.int .i64 0, .int .i64 0, .nilSlice, .nilSlice, .nilSlice, .int .i64 0, .int .i64 0, .int .i64 0]) := by rw [g2.get _ (by simp)]; simp
        generalize peekP l cid = R at *
        simp only [hdr] at g1
        simp [Try.f15, ldVar, stVar, hL, h1', hdr, h2, h3, g1, e1, g3.bs.one, g4.bs.one, g5.bs.one]
        exact ⟨_, _, _, _, ⟨⟨rfl, rfl, rfl⟩, rfl⟩, (hK0.trans g2).set (Nat.le_refl _) _, (g3.set _ (by simp)).bs, (g4.set _ (by simp)).bs, (g5.set _ (by simp)).bs⟩
end Go.Ev

/- The law FnExactPeek by the evaluator. -/
namespace Go.Ev
open Go Go.Proofs
set_option linter.unusedSimpArgs false
set_option linter.unusedVariables false

theorem toByteS_evm {s : AV} {l : List Int} {Hb H : AH} (hs : Bs Hb s l) (hK : Kp Hb H) (hl : l.length ≤ 1048576) (m : Nat) (hm : l.length + 2 ≤ m) :
    ∃ r H', ev Try.prog m 8 [s] H = some (r, H') ∧ Kp H H' ∧ Ow H.next H'.next H' r l := by
  obtain ⟨m, rfl⟩ : ∃ k, m = k + 1 := ⟨m - 1, by omega⟩
  obtain ⟨H', h1, h2, h3, h4⟩ := toByteS_ev (hs.kp hK) (by omega) m (by omega)
  exact ⟨_, H', h1, h2, .inr ⟨H.next, Nat.le_refl _, by omega, Nat.le_refl _, rfl, h4⟩⟩
def Sh (l : List Int) (R : PR) : Prop := R.D.length ≤ l.length ∧ R.S.length ≤ l.length ∧ R.T.length ≤ l.length
theorem Sh.err (l : List Int) (c : Int) : Sh l (perr c) := by simp [Sh, perr]
theorem endP_sh {l : List Int} {f v : Int} {D S T : List Int} {a : Nat} {c : Int} (hD : D.length ≤ l.length) (hS : S.length ≤ l.length) (hT : T.length ≤ l.length) : Sh l (endP l f v D S T a c) := by
  unfold endP
  repeat' split
  all_goals first | exact Sh.err _ _ | exact ⟨hD, hS, hT⟩
theorem cidI_len (l : List Int) (a : Nat) (c : Int) : (cidI l a c).1.length ≤ l.length := (takeI_len _ _ _ _).2
theorem peekP_sh (l : List Int) (cid : Int) : Sh l (PeekP l cid) := by
  unfold PeekP
  split
  · exact Sh.err _ _
  · split
    · exact Sh.err _ _
    · unfold peekP
      split
      · exact Sh.err _ _
      · split
        · exact Sh.err _ _
        · split
          · split
            · exact Sh.err _ _
            · exact ⟨(takeI_len _ _ _ _).2, by simp, by simp⟩
          · unfold idsP longP
            split
            · exact Sh.err _ _
            · split
              · split
                · exact ⟨cidI_len _ _ _, cidI_len _ _ _, by simp⟩
                · exact Sh.err _ _
              · split
                · exact Sh.err _ _
                · split
                  · split
                    · exact Sh.err _ _
                    · split
                      · exact Sh.err _ _
                      · exact ⟨cidI_len _ _ _, cidI_len _ _ _, by simp; omega⟩
                  · split
                    · exact endP_sh (cidI_len _ _ _) (cidI_len _ _ _) (by simp)
                    · exact endP_sh (cidI_len _ _ _) (cidI_len _ _ _) (takeI_len _ _ _ _).2
theorem law4 {H : AH} {s : AV} {l : List Int} {cid : Int} (hs : Bs H s l) (hb : By l) (m : Nat) (hm : 2000000 ≤ m) : ∃ H', ev Try.prog m 4 [s, .int .i64 cid] H = some (.bool true, H') := by
  obtain ⟨m, rfl⟩ : ∃ k, m = k + 1 := ⟨m - 1, by omega⟩
  have hL : ∀ h, lenA Try.prog 22 s h = some (.int .i64 l.length) := hs.len
  rw [ev_eq Try.func4 ok4 m _ H (by simp [Try.f4])]
  by_cases h1 : 1048576 < l.length
  · have h1' : 1048576 < (l.length : Int) := by omega
    simp [Try.f4, hL, h1']
  · have h1' : ¬ (1048576 < (l.length : Int)) := by omega
    have hsh := peekP_sh l cid
    obtain ⟨x0, H1, a1, a2, a3⟩ := toByteS_evm hs (Kp.refl H) (by omega) m (by omega)
    obtain ⟨d, s', t, H2, b1, b2, b3, b4, b5⟩ := PeekS_ev (cid := cid) a3.bs hb m (by omega)
    -- the specification's answer in its block
    generalize hR : PeekP l cid = R at *
    obtain ⟨hD, hS, hT⟩ := hsh
    have K2 := a2.trans b2
    let W := hdr R.f R.v d s' t
    let B2 : Blk := .cells 32 false [.int .i64 R.f, .int .i64 R.v, d, s', t, .int .i64 0, .int .i64 0, .int .i64 0]
    have K3 : Kp H (H2.push B2) := K2.push _
    obtain ⟨x1, H4, c1, c2, c3⟩ := toByteS_evm hs K3 (by omega) m (by omega)
    have K4 := K3.trans c2
    obtain ⟨d1, s1, t1, H5, ra, rb, e1, e2, e3, e4, e5, e6, e7, e8⟩ := PeekI_ev (cid := cid) c3.bs hb m (by omega)
    rw [hR] at e1 e6 e7 e8
    let B5 : Blk := .cells 32 false [.int .i64 R.f, .int .i64 R.v, d1, s1, t1, .int .i64 0, .int .i64 0, .int .i64 0]
    have k6 : Kp H5 (H5.push B5) := (Kp.refl H5).push _
    -- what came of the specification stays: base H2.push B2
    have KW6 : Kp (H2.push B2) (H5.push B5) := (c2.trans e2).trans k6
    have P2 : Kp H2 (H2.push B2) := (Kp.refl H2).push _
    obtain ⟨H7, f1, f2⟩ := eqHeader_ev (f := R.f) (v := R.v) ((e6.kp k6).bs) (b3.kp (P2.trans KW6)) ((e7.kp k6).bs) (b4.kp (P2.trans KW6)) ((e8.kp k6).bs) (b5.kp (P2.trans KW6)) (B := 1048576) (by omega) (by omega) (by omega) (by omega) m (by omega)
    obtain ⟨x2, H8, g1, g2, g3⟩ := toByteS_evm hs ((K4.trans e2).trans (k6.trans f2)) (by omega) m (by omega)
    have o8 : Ow (H2.push B2).next H4.next H8 x1 l := ((((c3.kp e2).kp k6).kp f2).kp g2)
    have q1 := eqByteS_ev o8.bs g3.bs (by omega) m (by omega)
    simp only [decide_true] at q1
    obtain ⟨H9, i1, i2, i3, i4⟩ := markByteS_ev o8 (by omega) 1 (by omega) (by omega) m (by omega)
    have KW8 : Kp (H2.push B2) H8 := (KW6.trans f2).trans g2
    have KW9 : Kp (H2.push B2) H9 := i2.kp KW8 (Nat.le_refl _)
    have D9 : Ow H4.next ra H9 d1 R.D := ((((e6.kp k6).kp f2).kp g2).ko i2 (.inr (Nat.le_refl _)))
    have S9 : Ow ra rb H9 s1 R.S := ((((e7.kp k6).kp f2).kp g2).ko i2 (.inr e3))
    have T9 : Ow rb H5.next H9 t1 R.T := ((((e8.kp k6).kp f2).kp g2).ko i2 (.inr (by omega)))
    obtain ⟨H10, j1, j2⟩ := eqHeader_ev (f := R.f) (v := R.v) D9.bs (b3.kp (P2.trans KW9)) S9.bs (b4.kp (P2.trans KW9)) T9.bs (b5.kp (P2.trans KW9)) (B := 1048576) (by omega) (by omega) (by omega) (by omega) m (by omega)
    have n5 : H5.next ≤ H9.next := by have := k6.next; have := f2.next; have := g2.next; have := i2.next; omega
    obtain ⟨H11, m1, m2, m3, m4, m5⟩ := markHeader_ev (f := R.f) (v := R.v) (D9.kp j2) (S9.kp j2) (T9.kp j2) e3 e4 e5 (by have := j2.next; omega) (B := 1048576) (by omega) (by omega) (by omega) (by omega) 1 (by omega) (by omega) m (by omega)
    obtain ⟨H12, p1, p2⟩ := heldHeader_ev (f := R.f) (v := R.v) m3.bs m4.bs m5.bs (B := 1048576) (by omega) (by omega) (by omega) (by omega) (by omega) (by omega) m (by omega)
    have KH8 : Kp H H8 := ((K4.trans e2).trans (k6.trans f2)).trans g2
    have n3 : H.next ≤ (H2.push B2).next := K3.next
    have n34 : (H2.push B2).next ≤ H4.next := c2.next
    have KH9 : Kp H H9 := i2.kp KH8 n3
    have KH11 : Kp H H11 := m2.kp (KH9.trans j2) (by omega)
    have KW11 : Kp (H2.push B2) H11 := m2.kp (KW9.trans j2) n34
    obtain ⟨x3, H13, r1, r2, r3⟩ := toByteS_evm hs (KH11.trans p2) (by omega) m (by omega)
    obtain ⟨d2, s2, t2, H14, rc, rd, u1, u2, u3, u4, u5, u6, u7, u8⟩ := PeekI_ev (cid := cid) r3.bs hb m (by omega)
    rw [hR] at u1 u6 u7 u8
    let B14 : Blk := .cells 32 false [.int .i64 R.f, .int .i64 R.v, d2, s2, t2, .int .i64 0, .int .i64 0, .int .i64 0]
    have k15 : Kp H14 (H14.push B14) := (Kp.refl H14).push _
    have KW15 : Kp (H2.push B2) (H14.push B14) := (((KW11.trans p2).trans r2).trans u2).trans k15
    obtain ⟨H16, v1, v2⟩ := eqHeader_ev (f := R.f) (v := R.v) ((u6.kp k15).bs) (b3.kp (P2.trans KW15)) ((u7.kp k15).bs) (b4.kp (P2.trans KW15)) ((u8.kp k15).bs) (b5.kp (P2.trans KW15)) (B := 1048576) (by omega) (by omega) (by omega) (by omega) m (by omega)
    have k16 : Kp H11 H16 := (((p2.trans r2).trans u2).trans k15).trans v2
    obtain ⟨H17, w1, w2⟩ := heldHeader_ev (f := R.f) (v := R.v) (m3.kp k16).bs (m4.kp k16).bs (m5.kp k16).bs (B := 1048576) (by omega) (by omega) (by omega) (by omega) (by omega) (by omega) m (by omega)
    have n45 := e2.next
    have hW : (H2.push B2).get H2.next = some B2 := by rw [AH.push_get, if_pos rfl]
    have hWn : H2.next < (H2.push B2).next := by simp
    have y5 : H5.get H2.next = some B2 := ((c2.trans e2).get _ hWn).trans hW
    have y9 : H9.get H2.next = some B2 := (KW9.get _ hWn).trans hW
    have y14 : H14.get H2.next = some B2 := ((((KW11.trans p2).trans r2).trans u2).get _ hWn).trans hW
    have z6 : (H5.push B5).get H5.next = some B5 := by rw [AH.push_get, if_pos rfl]
    have z8 : H8.get H5.next = some B5 := ((f2.trans g2).get _ (by simp)).trans z6
    have n8 : H5.next < H8.next := by have := f2.next; have := g2.next; simp at *; omega
    have z9 : H9.get H5.next = some B5 := (i2.get _ n8 (.inr n45)).trans z8
    have n9 : H5.next < H9.next := by have := i2.next; omega
    have z10 : H10.get H5.next = some B5 := (j2.get _ n9).trans z9
    have n10 : H5.next < H10.next := by have := j2.next; omega
    have z11 : H11.get H5.next = some B5 := (m2.get _ n10 (.inr (Nat.le_refl _))).trans z10
    have n11' : H5.next < H11.next := by have := m2.next; omega
    have z16 : H16.get H5.next = some B5 := (k16.get _ n11').trans z11
    have hw1 : (H2.push B2).next = H2.next + 1 := rfl
    have ne1 : ¬ (H2.next = H5.next) := by omega
    have nn14 : H5.next < H14.next := by have := p2.next; have := r2.next; have := u2.next; omega
    have ne2 : ¬ (H2.next = H14.next) := by omega
    have ne3 : ¬ (H5.next = H14.next) := by omega
    have od := b3.one
    have os := b4.one
    have ot := b5.one
    have od1 := e6.bs.one
    have os1 := e7.bs.one
    have ot1 := e8.bs.one
    have od2 := u6.bs.one
    have os2 := u7.bs.one
    have ot2 := u8.bs.one
    have t1' : ¬ (1 + (l.length : Int) < 0) := by omega
    have t2' : ¬ (1 + (R.D.length : Int) + R.S.length + R.T.length < 0) := by omega
    simp only [hdr, W, B2, B5, B14] at *
    exact ⟨H17, by simp [Try.f4, hL, h1', ldVar, stVar, a1, b1, c1, e1, f1, g1, q1, i1, j1, m1, p1, r1, u1, v1, w1, y5, y9, y14, z6, z8, z9, z10, z11, z16, ne1, ne2, ne3, od, os, ot, od1, os1, ot1, od2, os2, ot2, t1', t2', evHist, ObsOk, ObOk]⟩
end Go.Ev

/- Rows of bytes that came in, as the laws' contracts want them. -/
namespace Go.Ev
open Go Go.RowKit Go.Proofs
set_option linter.unusedSimpArgs false
set_option linter.unusedVariables false

theorem bs_row {w : World} {rs : List InRow} {b : Nat} {r : InRow} (hb : rs[b]? = some r) (h : r.ok Try.prog w) (he : r.e = 5) (hk : r.k = .u8) :
    Bs (H0 rs) (r.av b) (r.zs.take r.len) ∧ By (r.zs.take r.len) := by
  have hs := sl_row (t := 22) hb h (by rw [he]; simp) (by rw [he]; simp) (by rw [he]; simp)
  rw [he, hk] at hs
  refine ⟨hs, fun x hx => ?_⟩
  rcases h.2 with ⟨_, _, _, h4⟩ | ⟨_, _, _, _, _, _, h6⟩
  · rw [h4] at hx; simp at hx
  · have := h6 x (List.mem_of_mem_take hx)
    rw [hk] at this
    have h1 : IntKind.min .u8 = 0 := by decide
    have h2 : IntKind.max .u8 = 255 := by decide
    simp only [Lit.wf, h1, h2, Bool.and_eq_true, decide_eq_true_eq] at this
    omega
end Go.Ev

/- Data of a type, and how an abstract value shows it in the memory. -/
namespace Go.Ev
open Go Go.RowKit
set_option linter.unusedSimpArgs false
set_option linter.unusedVariables false

/-- The kinds of data: whole numbers, bools, strings, slices (of elements of type e), structs as pairs of fields. -/
inductive Ty where
  | int (k : IntKind)
  | bool
  | str
  | sl (e : TypeId) (t : Ty)
  | pair (a b : Ty)
/-- The data of a kind. -/
@[reducible] def Ty.D : Ty → Type
  | .int _ => Int
  | .bool => Bool
  | .str => ByteArray
  | .sl _ t => List t.D
  | .pair a b => a.D × b.D
/-- How many cells. -/
def Ty.n : Ty → Nat
  | .int _ => 1
  | .bool => 1
  | .str => 1
  | .sl _ _ => 1
  | .pair a b => a.n + b.n

/-- A row of n-cell elements: the cells, what they show, the blocks that they lead to. -/
def Rows {α : Type} (R : List AV → α → List Nat → Prop) (n : Nat) : List AV → List α → List Nat → Prop
  | xs, [], bs => xs = [] ∧ bs = []
  | xs, d :: ds, bs => ∃ c r b1 b2, xs = c ++ r ∧ c.length = n ∧ bs = b1 ++ b2 ∧ R c d b1 ∧ Rows R n r ds b2

/-- The cells c show the datum d; the blocks bs are all that it leads to. With rw: each block is whole and may be written. -/
def Ty.R (rw : Bool) (H : AH) : (t : Ty) → List AV → t.D → List Nat → Prop
  | .int k, c, d, bs => c = [.int k d] ∧ k.min ≤ d ∧ d ≤ k.max ∧ bs = []
  | .bool, c, d, bs => c = [.bool d] ∧ bs = []
  | .str, c, d, bs => c = [.str d] ∧ bs = []
  | .sl e t, c, d, bs => (c = [.nilSlice] ∧ d = [] ∧ bs = []) ∨
      ∃ b o ro xs b', c = [.slice b o d.length] ∧ bs = b :: b' ∧ b < H.next ∧ H.get b = some (.cells e ro xs) ∧ (rw = true → ro = false ∧ o = 0 ∧ xs.length = d.length * t.n) ∧
        o + d.length * t.n ≤ xs.length ∧ Rows (t.R rw H) t.n ((xs.drop o).take (d.length * t.n)) d b'
  | .pair a b, c, d, bs => ∃ c1 c2 b1 b2, c = c1 ++ c2 ∧ bs = b1 ++ b2 ∧ a.R rw H c1 d.1 b1 ∧ b.R rw H c2 d.2 b2

theorem Rows.len {α : Type} {R : List AV → α → List Nat → Prop} {n : Nat} : ∀ {ds : List α} {xs : List AV} {bs : List Nat}, Rows R n xs ds bs → xs.length = ds.length * n
  | [], xs, bs, h => by rw [h.1]; simp
  | d :: ds, xs, bs, ⟨c, r, b1, b2, h1, h2, h3, h4, h5⟩ => by
    rw [h1, List.length_append, h2, h5.len, List.length_cons, Nat.succ_mul]; omega
theorem Rows.imp {α : Type} {R R' : List AV → α → List Nat → Prop} {n : Nat} : ∀ {ds : List α} {xs : List AV} {bs : List Nat}, Rows R n xs ds bs → (∀ c d b1, d ∈ ds → (∀ b ∈ b1, b ∈ bs) → R c d b1 → R' c d b1) → Rows R' n xs ds bs
  | [], xs, bs, h, _ => h
  | d :: ds, xs, bs, ⟨c, r, b1, b2, h1, h2, h3, h4, h5⟩, f =>
    ⟨c, r, b1, b2, h1, h2, h3, f c d b1 (by simp) (fun b hb => by rw [h3]; exact List.mem_append_left _ hb) h4,
      h5.imp fun c d b1 hd hb h => f c d b1 (by simp [hd]) (fun b hb' => by rw [h3]; exact List.mem_append_right _ (hb b hb')) h⟩
theorem Rows.mem {α : Type} {R : List AV → α → List Nat → Prop} {n : Nat} {Q : Nat → Prop} (hR : ∀ c d bs, R c d bs → ∀ b ∈ bs, Q b) : ∀ {ds : List α} {xs : List AV} {bs : List Nat}, Rows R n xs ds bs → ∀ b ∈ bs, Q b
  | [], xs, bs, h => by rw [h.2]; simp
  | d :: ds, xs, bs, ⟨c, r, b1, b2, h1, h2, h3, h4, h5⟩ => by
    intro b hb
    rw [h3] at hb
    rcases List.mem_append.1 hb with hb | hb
    · exact hR _ _ _ h4 b hb
    · exact Rows.mem hR h5 b hb
theorem Rows.app {α : Type} {R : List AV → α → List Nat → Prop} {n : Nat} : ∀ {d1 d2 : List α} {x1 x2 : List AV} {b1 b2 : List Nat}, Rows R n x1 d1 b1 → Rows R n x2 d2 b2 → Rows R n (x1 ++ x2) (d1 ++ d2) (b1 ++ b2)
  | [], d2, x1, x2, b1, b2, h, k => by rw [h.1, h.2]; exact k
  | d :: d1, d2, x1, x2, b1, b2, ⟨c, r, p, q, h1, h2, h3, h4, h5⟩, k =>
    ⟨c, r ++ x2, p, q ++ b2, by rw [h1, List.append_assoc], h2, by rw [h3, List.append_assoc], h4, h5.app k⟩
theorem Rows.split {α : Type} {R : List AV → α → List Nat → Prop} {n : Nat} : ∀ {d1 d2 : List α} {xs : List AV} {bs : List Nat}, Rows R n xs (d1 ++ d2) bs → ∃ x1 x2 b1 b2, xs = x1 ++ x2 ∧ bs = b1 ++ b2 ∧ Rows R n x1 d1 b1 ∧ Rows R n x2 d2 b2
  | [], d2, xs, bs, h => ⟨[], xs, [], bs, rfl, rfl, ⟨rfl, rfl⟩, h⟩
  | d :: d1, d2, xs, bs, ⟨c, r, p, q, h1, h2, h3, h4, h5⟩ => by
    obtain ⟨x1, x2, b1, b2, e1, e2, e3, e4⟩ := Rows.split (d1 := d1) h5
    exact ⟨c ++ x1, x2, p ++ b1, b2, by rw [h1, e1, List.append_assoc], by rw [h3, e2, List.append_assoc], ⟨c, x1, p, b1, rfl, h2, rfl, h4, e3⟩, e4⟩
theorem Rows.one {α : Type} {R : List AV → α → List Nat → Prop} {n : Nat} {d : α} {c : List AV} {bs : List Nat} (h : R c d bs) (hc : c.length = n) : Rows R n c [d] bs :=
  ⟨c, [], bs, [], by simp, hc, by simp, h, rfl, rfl⟩

theorem Ty.R.len {rw : Bool} {H : AH} : ∀ {t : Ty} {c : List AV} {d : t.D} {bs : List Nat}, t.R rw H c d bs → c.length = t.n
  | .int k, c, d, bs, h => by rw [h.1]; rfl
  | .bool, c, d, bs, h => by rw [h.1]; rfl
  | .str, c, d, bs, h => by rw [h.1]; rfl
  | .sl e t, c, d, bs, h => by
    rcases h with h | ⟨b, o, ro, xs, b', h, _⟩
    · rw [h.1]; rfl
    · rw [h]; rfl
  | .pair a b, c, d, bs, ⟨c1, c2, b1, b2, h1, h2, h3, h4⟩ => by
    rw [h1, List.length_append, Ty.R.len h3, Ty.R.len h4]; rfl
theorem Ty.R.mem {rw : Bool} {H : AH} : ∀ {t : Ty} {c : List AV} {d : t.D} {bs : List Nat}, t.R rw H c d bs → ∀ b ∈ bs, b < H.next
  | .int k, c, d, bs, h => by rw [h.2.2.2]; simp
  | .bool, c, d, bs, h => by rw [h.2]; simp
  | .str, c, d, bs, h => by rw [h.2]; simp
  | .sl e t, c, d, bs, h => by
    rcases h with h | ⟨b, o, ro, xs, b', h1, h2, h3, h4, h5, h6, h7⟩
    · rw [h.2.2]; simp
    · intro x hx
      rw [h2] at hx
      rcases List.mem_cons.1 hx with rfl | hx
      · exact h3
      · exact Rows.mem (fun c d bs h => Ty.R.mem h) h7 x hx
  | .pair a b, c, d, bs, ⟨c1, c2, b1, b2, h1, h2, h3, h4⟩ => by
    intro x hx
    rw [h2] at hx
    rcases List.mem_append.1 hx with hx | hx
    · exact Ty.R.mem h3 x hx
    · exact Ty.R.mem h4 x hx
/-- It stays where its blocks stay. -/
theorem Ty.R.stay {rw : Bool} {H H' : AH} (hn : H.next ≤ H'.next) : ∀ {t : Ty} {c : List AV} {d : t.D} {bs : List Nat}, t.R rw H c d bs → (∀ b ∈ bs, H'.get b = H.get b) → t.R rw H' c d bs
  | .int k, c, d, bs, h, _ => h
  | .bool, c, d, bs, h, _ => h
  | .str, c, d, bs, h, _ => h
  | .sl e t, c, d, bs, h, hg => by
    rcases h with h | ⟨b, o, ro, xs, b', h1, h2, h3, h4, h5, h6, h7⟩
    · exact .inl h
    · refine .inr ⟨b, o, ro, xs, b', h1, h2, Nat.lt_of_lt_of_le h3 hn, by rw [hg b (by rw [h2]; simp)]; exact h4, h5, h6, h7.imp fun c d b1 _ hb h => Ty.R.stay hn h fun x hx => hg x (by rw [h2]; exact List.mem_cons_of_mem _ (hb x hx))⟩
  | .pair a b, c, d, bs, ⟨c1, c2, b1, b2, h1, h2, h3, h4⟩, hg =>
    ⟨c1, c2, b1, b2, h1, h2, Ty.R.stay hn h3 fun x hx => hg x (by rw [h2]; exact List.mem_append_left _ hx), Ty.R.stay hn h4 fun x hx => hg x (by rw [h2]; exact List.mem_append_right _ hx)⟩
theorem Ty.R.kp {rw : Bool} {H H' : AH} {t : Ty} {c : List AV} {d : t.D} {bs : List Nat} (h : t.R rw H c d bs) (hK : Kp H H') : t.R rw H' c d bs :=
  h.stay hK.next fun b hb => hK.get b (h.mem b hb)
theorem Ty.R.weak {H : AH} : ∀ {t : Ty} {c : List AV} {d : t.D} {bs : List Nat}, t.R true H c d bs → t.R false H c d bs
  | .int k, c, d, bs, h => h
  | .bool, c, d, bs, h => h
  | .str, c, d, bs, h => h
  | .sl e t, c, d, bs, h => by
    rcases h with h | ⟨b, o, ro, xs, b', h1, h2, h3, h4, h5, h6, h7⟩
    · exact .inl h
    · exact .inr ⟨b, o, ro, xs, b', h1, h2, h3, h4, by simp, h6, h7.imp fun c d b1 _ _ h => Ty.R.weak h⟩
  | .pair a b, c, d, bs, ⟨c1, c2, b1, b2, h1, h2, h3, h4⟩ => ⟨c1, c2, b1, b2, h1, h2, h3.weak, h4.weak⟩
theorem Ty.R.one {rw : Bool} {H : AH} : ∀ {t : Ty} {c : List AV} {d : t.D} {bs : List Nat}, t.R rw H c d bs → c.all AV.one = true
  | .int k, c, d, bs, h => by rw [h.1]; rfl
  | .bool, c, d, bs, h => by rw [h.1]; rfl
  | .str, c, d, bs, h => by rw [h.1]; rfl
  | .sl e t, c, d, bs, h => by
    rcases h with h | ⟨b, o, ro, xs, b', h1, _⟩
    · rw [h.1]; rfl
    · rw [h1]; rfl
  | .pair a b, c, d, bs, ⟨c1, c2, b1, b2, h1, h2, h3, h4⟩ => by
    rw [h1, List.all_append, Ty.R.one h3, Ty.R.one h4]; rfl
/-- Nothing but the blocks of bs turned. -/
structure KoL (bs : List Nat) (H H' : AH) : Prop where
  next : H'.next = H.next
  get : ∀ b, b < H.next → b ∉ bs → H'.get b = H.get b
theorem KoL.refl (bs : List Nat) (H : AH) : KoL bs H H := ⟨rfl, fun _ _ _ => rfl⟩
theorem KoL.trans {bs : List Nat} {A B C : AH} (h : KoL bs A B) (k : KoL bs B C) : KoL bs A C := ⟨k.next.trans h.next, fun b hn hb => (k.get b (by rw [h.next]; exact hn) hb).trans (h.get b hn hb)⟩
theorem KoL.mono {bs bs' : List Nat} {A B : AH} (h : KoL bs A B) (hs : ∀ b ∈ bs, b ∈ bs') : KoL bs' A B := ⟨h.next, fun b hn hb => h.get b hn fun hx => hb (hs b hx)⟩
theorem KoL.kp {bs : List Nat} {A B C : AH} (h : Kp A B) (k : KoL bs B C) (hlo : ∀ b ∈ bs, A.next ≤ b) : Kp A C :=
  ⟨by rw [k.next]; exact h.next, fun b hb => by rw [k.get b (by have := h.next; omega) fun hx => absurd (hlo b hx) (by omega)]; exact h.get b hb⟩
theorem KoL.set {bs : List Nat} {A B : AH} {b : Nat} (h : KoL bs A B) (hb : b ∈ bs) (x : Blk) : KoL bs A (B.set b x) :=
  ⟨h.next, fun c hn hc => by rw [AH.set_get, if_neg (fun e => hc (by rw [e]; exact hb))]; exact h.get c hn hc⟩
theorem Ty.R.koL {rw : Bool} {H H' : AH} {t : Ty} {c : List AV} {d : t.D} {bs bs' : List Nat} (h : t.R rw H c d bs) (hK : KoL bs' H H') (hd : ∀ b ∈ bs, b ∉ bs') : t.R rw H' c d bs :=
  h.stay (by rw [hK.next]; exact Nat.le_refl _) fun b hb => hK.get b (h.mem b hb) (hd b hb)
/-- made anew behind H -/
def Fresh (H H' : AH) (t : Ty) (c : List AV) (d : t.D) (bs : List Nat) : Prop := t.R true H' c d bs ∧ bs.Nodup ∧ ∀ b ∈ bs, H.next ≤ b
/-- The value of cells: a struct is all of them, anything else is its one cell. -/
def vof (agg : Bool) (c : List AV) : AV := if agg then .agg c else c.headD .nilPtr
@[simp] theorem vof_t (c : List AV) : vof true c = .agg c := rfl
@[simp] theorem vof_f (v : AV) (l : List AV) : vof false (v :: l) = v := rfl

/-! slices -/
section
variable {P : Program}
theorem Ty.R.lenA {rw : Bool} {H : AH} {e : TypeId} {t : Ty} {s : AV} {d : List t.D} {bs : List Nat} (h : (Ty.sl e t).R rw H [s] d bs) {T : TypeId} (hT : P.underlying T = some (.slice e)) (h' : AH) : Go.Ev.lenA P T s h' = some (.int .i64 d.length) := by
  rcases h with ⟨h1, h2, _⟩ | ⟨b, o, ro, xs, b', h1, _⟩
  · simp only [List.cons.injEq, and_true] at h1; subst h1; subst h2; simp [Go.Ev.lenA, hT]
  · simp only [List.cons.injEq, and_true] at h1; subst h1; simp [Go.Ev.lenA, hT]
/-- an element: where it lies and what it shows -/
theorem Ty.R.at_ {rw : Bool} {H : AH} {e : TypeId} {t : Ty} {s : AV} {d : List t.D} {bs : List Nat} (h : (Ty.sl e t).R rw H [s] d bs) {T : TypeId} (hT : P.underlying T = some (.slice e)) (hn : sizeT P e = some t.n) {k : Nat} (hk : k < d.length) :
    ∃ b o ro x1 c x2 bk, idxA P T s (.int .i64 k) = some (.ptr b o) ∧ b < H.next ∧ H.get b = some (.cells e ro (x1 ++ c ++ x2)) ∧ x1.length = o ∧ t.R rw H c d[k] bk ∧ (∀ x ∈ bk, x ∈ bs) ∧ b ∈ bs ∧ (rw = true → ro = false) := by
  rcases h with ⟨h1, h2, _⟩ | ⟨b, o, ro, xs, b', h1, h2, h3, h4, h5, h6, h7⟩
  · subst h2; simp at hk
  · simp only [List.cons.injEq, and_true] at h1; subst h1
    have hd : d = d.take k ++ d[k] :: d.drop (k + 1) := by rw [← List.drop_eq_getElem_cons hk, List.take_append_drop]
    rw [hd] at h7
    obtain ⟨p1, p2, q1, q2, e1, e2, e3, e4⟩ := h7.split
    obtain ⟨c, r, b1, b2, g1, g2, g3, g4, g5⟩ := e4
    rw [← hd] at e1
    have hp := e3.len
    rw [List.length_take, Nat.min_eq_left (Nat.le_of_lt hk)] at hp
    have hx : xs = (xs.take o ++ p1) ++ c ++ (r ++ (xs.drop o).drop (d.length * t.n)) := by
      rw [g1] at e1
      have := List.take_append_drop o xs
      rw [← List.take_append_drop (d.length * t.n) (xs.drop o), e1] at this
      refine this.symm.trans ?_
      simp only [List.append_assoc]
    refine ⟨b, o + k * t.n, ro, _, c, _, b1, ?_, h3, by rw [h4]; congr 2, ?_, g4, ?_, by rw [h2]; simp, fun hr => (h5 hr).1⟩
    · simp [idxA, hT, hn, hk]
    · rw [List.length_append, List.length_take, hp, Nat.min_eq_left (by omega)]
    · intro x hx'
      rw [h2, e2, g3]
      simp [hx']
/-- an element that may be written: what else must stay -/
theorem Ty.R.upd {H : AH} {e : TypeId} {t : Ty} {s : AV} {d : List t.D} {bs : List Nat} (h : (Ty.sl e t).R true H [s] d bs) (hnd : bs.Nodup) {T : TypeId} (hT : P.underlying T = some (.slice e)) (hn : sizeT P e = some t.n) {k : Nat} (hk : k < d.length) :
    ∃ b o x1 c x2 bk, idxA P T s (.int .i64 k) = some (.ptr b o) ∧ b < H.next ∧ H.get b = some (.cells e false (x1 ++ c ++ x2)) ∧ x1.length = o ∧ t.R true H c d[k] bk ∧ (∀ x ∈ bk, x ∈ bs) ∧ b ∈ bs ∧ b ∉ bk ∧ bk.Nodup ∧
      ∀ (H' : AH) (c' : List AV) (d' : t.D), H.next ≤ H'.next → (∀ x ∈ bs, x ≠ b → x ∉ bk → H'.get x = H.get x) → H'.get b = some (.cells e false (x1 ++ c' ++ x2)) → t.R true H' c' d' bk → (Ty.sl e t).R true H' [s] (d.set k d') bs := by
  rcases h with ⟨h1, h2, _⟩ | ⟨b, o, ro, xs, b', h1, h2, h3, h4, h5, h6, h7⟩
  · subst h2; simp at hk
  · simp only [List.cons.injEq, and_true] at h1; subst h1
    obtain ⟨rfl, rfl, hw⟩ := h5 rfl
    have hd : d = d.take k ++ d[k] :: d.drop (k + 1) := by rw [← List.drop_eq_getElem_cons hk, List.take_append_drop]
    rw [List.drop_zero, ← hw, List.take_length] at h7
    rw [hd] at h7
    obtain ⟨p1, p2, q1, q2, e1, e2, e3, e4⟩ := h7.split
    obtain ⟨c, r, b1, b2, g1, g2, g3, g4, g5⟩ := e4
    have hp := e3.len
    rw [List.length_take, Nat.min_eq_left (Nat.le_of_lt hk)] at hp
    have hx : xs = p1 ++ c ++ r := by rw [e1, g1, List.append_assoc]
    rw [h2, e2, g3] at hnd
    have hnd' := hnd
    rw [List.nodup_cons, List.nodup_append, List.nodup_append] at hnd
    obtain ⟨n1, n2, ⟨n3, n4, n5⟩, n6⟩ := hnd
    refine ⟨b, 0 + k * t.n, p1, c, r, b1, ?_, h3, by rw [h4, hx], by omega, g4, ?_, by rw [h2]; simp, fun hb => n1 (by simp [hb]), n3, ?_⟩
    · simp [idxA, hT, hn, hk]
    · intro x hx'
      rw [h2, e2, g3]
      simp [hx']
    · intro H' c' d' hnx hst hgb hR
      have hst1 : ∀ x ∈ q1, H'.get x = H.get x := fun x hx' => hst x (by rw [h2, e2, g3]; simp [hx']) (fun e => n1 (by rw [← e]; simp [hx'])) (fun hb => n6 x hx' x (by simp [hb]) rfl)
      have hst2 : ∀ x ∈ b2, H'.get x = H.get x := fun x hx' => hst x (by rw [h2, e2, g3]; simp [hx']) (fun e => n1 (by rw [← e]; simp [hx'])) (fun hb => n5 x hb x hx' rfl)
      have hset : d.set k d' = d.take k ++ d' :: d.drop (k + 1) := by
        rw [List.set_eq_take_append_cons_drop, if_pos hk]
      have hlc := hR.len
      have hlr := g5.len
      have hl : (p1 ++ c' ++ r).length = xs.length := by rw [hx]; simp; omega
      refine .inr ⟨b, 0, false, p1 ++ c' ++ r, b', by simp, h2, Nat.lt_of_lt_of_le h3 hnx, hgb, fun _ => ⟨rfl, rfl, by rw [hl, hw]; simp⟩, by rw [hl, hw]; simp, ?_⟩
      rw [List.length_set, List.drop_zero, ← hw, ← hl, List.take_length, hset, e2, g3, List.append_assoc]
      exact (e3.imp fun c d b3 _ hb h => h.stay hnx fun x hx' => hst1 x (hb x hx')).app ⟨c', r, b1, b2, rfl, hlc, rfl, hR, g5.imp fun c d b3 _ hb h => h.stay hnx fun x hx' => hst2 x (hb x hx')⟩
/-- a load from the middle of a block -/
theorem ld_mid {H : AH} {b o j : Nat} {e T : TypeId} {ro : Bool} {x1 c x2 : List AV} (h : H.get b = some (.cells e ro (x1 ++ c ++ x2))) (ho : x1.length = o) (ha : aggT P T = some false) (hj : j < c.length) : ldVar P T b (o + j) H = c[j]? := by
  rw [ld_one h ha, List.append_assoc, List.getElem?_append_right (by omega), List.getElem?_append_left (by omega)]
  congr 1; omega
theorem ld_mid0 {H : AH} {b o : Nat} {e T : TypeId} {ro : Bool} {x1 x2 : List AV} {v : AV} (h : H.get b = some (.cells e ro (x1 ++ [v] ++ x2))) (ho : x1.length = o) (ha : aggT P T = some false) : ldVar P T b o H = some v := by
  have := ld_mid (j := 0) h ho ha (by simp)
  simpa using this
theorem ld_midA {H : AH} {b o j n : Nat} {e T : TypeId} {ro : Bool} {x1 c x2 : List AV} (h : H.get b = some (.cells e ro (x1 ++ c ++ x2))) (ho : x1.length = o) (ha : aggT P T = some true) (hs : sizeT P T = some n) (hj : j + n ≤ c.length) : ldVar P T b (o + j) H = some (.agg ((c.drop j).take n)) := by
  have hl : (x1 ++ c ++ x2).length = o + c.length + x2.length := by simp; omega
  rw [ld_agg h ha hs (by omega)]
  congr 2
  rw [List.append_assoc, List.drop_append, List.drop_eq_nil_of_le (by omega), List.nil_append]
  have : o + j - x1.length = j := by omega
  rw [this, List.drop_append_of_le_length (by omega), List.take_append_of_le_length (by simp; omega)]
/-- a store into the middle of a block -/
theorem st_mid {H : AH} {b o j : Nat} {e T : TypeId} {x1 c x2 : List AV} {v : AV} (h : H.get b = some (.cells e false (x1 ++ c ++ x2))) (ho : x1.length = o) (hs : sizeT P T = some 1) (h1 : v.one = true) (hj : j < c.length) :
    stVar P T b (o + j) v H = some (H.set b (.cells e false (x1 ++ c.set j v ++ x2))) := by
  rw [st_one h hs h1 (by simp; omega)]
  congr 4
  rw [List.append_assoc, List.set_append_right _ _ (by omega), List.set_append_left _ _ (by omega), ← List.append_assoc]
  congr 3; omega
end

/-! marks -/
/-- the name that mark lays into a string -/
def markTextD (k : Int) : ByteArray := ByteArray.empty
def mkRow {α : Type} (f : Int → α → α) (c : α → Nat) : Int → List α → List α
  | _, [] => []
  | k, d :: ds => f k d :: mkRow f c (k + c d) ds
theorem mkRow_len {α : Type} (f : Int → α → α) (c : α → Nat) : ∀ (k : Int) (ds : List α), (mkRow f c k ds).length = ds.length
  | _, [] => rfl
  | k, d :: ds => by simp [mkRow, mkRow_len f c]
def cntL {α : Type} (c : α → Nat) : List α → Nat
  | [] => 0
  | d :: ds => c d + cntL c ds
theorem cntL_app {α : Type} (c : α → Nat) : ∀ (l r : List α), cntL c (l ++ r) = cntL c l + cntL c r
  | [], r => by simp [cntL]
  | d :: l, r => by simp only [List.cons_append, cntL, cntL_app c l r]; omega
theorem mkRow_app {α : Type} (f : Int → α → α) (c : α → Nat) : ∀ (l r : List α) (k : Int), mkRow f c k (l ++ r) = mkRow f c k l ++ mkRow f c (k + (cntL c l : Nat)) r
  | [], r, k => by simp [mkRow, cntL]
  | d :: l, r, k => by
    simp only [List.cons_append, mkRow, mkRow_app f c l r, cntL]
    congr 3; push_cast; omega
/-- how many marks (slot: in a slice's slot) -/
def Ty.cnt (slot : Bool) : (t : Ty) → t.D → Nat
  | .int _, _ => if slot then 1 else 0
  | .bool, _ => if slot then 1 else 0
  | .str, _ => if slot then 1 else 0
  | .sl _ t, ds => cntL (t.cnt true) ds
  | .pair a b, d => a.cnt slot d.1 + b.cnt slot d.2
/-- what mark leaves -/
def Ty.mk (slot : Bool) : (t : Ty) → Int → t.D → t.D
  | .int k, m, d => if slot then k.wrap m else d
  | .bool, m, d => if slot then decide (m % 3 = 0) else d
  | .str, m, d => if slot then markTextD m else d
  | .sl _ t, m, ds => mkRow (t.mk true) (t.cnt true) m ds
  | .pair a b, m, d => (a.mk slot m d.1, b.mk slot (m + (a.cnt slot d.1 : Nat)) d.2)
theorem cnt_int (k : IntKind) (l : List Int) : cntL ((Ty.int k).cnt true) l = l.length := by
  induction l with
  | nil => rfl
  | cons d l ih =>
    have : cntL ((Ty.int k).cnt true) (d :: l) = 1 + cntL ((Ty.int k).cnt true) l := rfl
    rw [this, ih, List.length_cons]; omega
instance Ty.dec : (t : Ty) → DecidableEq t.D
  | .int _ => inferInstanceAs (DecidableEq Int)
  | .bool => inferInstanceAs (DecidableEq Bool)
  | .str => inferInstanceAs (DecidableEq ByteArray)
  | .sl _ t => @instDecidableEqList _ (Ty.dec t)
  | .pair a b => @instDecidableEqProd _ _ (Ty.dec a) (Ty.dec b)
end Go.Ev
