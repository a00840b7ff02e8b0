/- Lemmas of an evaluator of the given code and of what the functions answer; no condition of its own. -/
import Derived.Test.YtomhcdfflfonfaaEv9
/- The specification's peek: both ids. -/
namespace Go.Ev
open Go Go.Proofs
set_option linter.unusedSimpArgs false
set_option linter.unusedVariables false

theorem peekS_L1 {H : AH} {s : AV} {l : List Int} {cid : Int} (hs : Bs H s l) (hb : By l) (hl : l.length ≤ 65536) (m : Nat) (hm : 40 ≤ m)
    {O : List Int} {a : Nat} {s0 : Bool} (hO : takeS l 0 false 1 = (O, a, s0)) (h0 : s0 = false) (h128 : 128 ≤ valP O)
    {V : List Int} {a1 : Nat} {s1 : Bool} (hV : takeS l a false 4 = (V, a1, s1)) {N1 : List Int} {a2 : Nat} {s2 : Bool} (hN1 : takeS l a1 s1 1 = (N1, a2, s2)) {D : List Int} {a3 : Nat} {s3 : Bool} (hD : takeS l a2 s2 (valP N1) = (D, a3, s3))
    {N2 : List Int} {a4 : Nat} {s4 : Bool} (hN2 : takeS l a3 s3 1 = (N2, a4, s4)) {S : List Int} {a5 : Nat} {s5 : Bool} (hS : takeS l a4 s4 (valP N2) = (S, a5, s5)) (h2 : s2 = true) : PsRes H s cid m (perr 2) := by
  obtain ⟨m, rfl⟩ : ∃ k, m = k + 1 := ⟨m - 1, by omega⟩
  obtain ⟨H1, k1, n1', K1, z0, z1, hq1, ha⟩ := peekS_pro hs hb hl m (by omega) hO
  have hL : ∀ h, lenA Try.prog 22 s h = some (.int .i64 l.length) := hs.len
  subst h0
  obtain ⟨H2, H4, d, H5, H6, t, H7, f1, f2, q4, f3, do1, g5, f4, q6, f5, to1, g7, q7, ha5, N2', N4, N5, N6, N7, G4, G6, G7, K4, K6, K7, Do, So⟩ := peekS_ids hs hb K1 (q := H.next + 2) (by omega) (by omega) hq1 ha hl m (by omega) hV hN1 hD hN2 hS
  have e40 := (G4 H.next (by omega) (by omega)).trans z0
  have e41 := (G4 (H.next + 1) (by omega) (by omega)).trans z1
  have e60 := (G6 H.next (by omega) (by omega)).trans z0
  have e61 := (G6 (H.next + 1) (by omega) (by omega)).trans z1
  have e70 := (G7 H.next (by omega) (by omega)).trans z0
  have e71 := (G7 (H.next + 1) (by omega) (by omega)).trans z1
  have m0 : ¬ (H.next = H2.next) := by omega
  have m0' : ¬ (H2.next = H.next) := by omega
  have m1 : ¬ (H.next + 1 = H2.next) := by omega
  have m1' : ¬ (H2.next = H.next + 1) := by omega
  have m2 : ¬ (H.next + 2 = H2.next) := by omega
  have m2' : ¬ (H2.next = H.next + 2) := by omega
  have r1 : ¬ (valP O < 64) := by omega
  have r2 : ¬ (valP O < 128) := by omega
  subst h2
  have ft := fault_ev q4 m (by omega)
  simp only [rdB, zh] at *
  unfold PsRes
  rw [ev_eq Try.func58 ok58 m _ H (by simp [Try.f58])]
  simp [Try.f58, push_set2P, n11, n21, ldVar, stVar, perr, hdr, hs.one, cells_one hs.one, hL, k1, z0, z1, hq1, evHist, ObsOk, ObOk, f1, f2, q4, f3, do1, cells_one do1, g5, f4, q6, f5, to1, cells_one to1, g7, q7, e40, e41, e60, e61, e70, e71, m0, m0', m1, m1', m2, m2', r1, r2, ft]
  exact ⟨_, _, _, _, ⟨⟨rfl, rfl, rfl⟩, rfl⟩, K4.set (Nat.le_refl _) _, Ox.nil _ _, Ox.nil _ _, Ox.nil _ _⟩
theorem peekS_L2 {H : AH} {s : AV} {l : List Int} {cid : Int} (hs : Bs H s l) (hb : By l) (hl : l.length ≤ 65536) (m : Nat) (hm : 40 ≤ m)
    {O : List Int} {a : Nat} {s0 : Bool} (hO : takeS l 0 false 1 = (O, a, s0)) (h0 : s0 = false) (h128 : 128 ≤ valP O)
    {V : List Int} {a1 : Nat} {s1 : Bool} (hV : takeS l a false 4 = (V, a1, s1)) {N1 : List Int} {a2 : Nat} {s2 : Bool} (hN1 : takeS l a1 s1 1 = (N1, a2, s2)) {D : List Int} {a3 : Nat} {s3 : Bool} (hD : takeS l a2 s2 (valP N1) = (D, a3, s3))
    {N2 : List Int} {a4 : Nat} {s4 : Bool} (hN2 : takeS l a3 s3 1 = (N2, a4, s4)) {S : List Int} {a5 : Nat} {s5 : Bool} (hS : takeS l a4 s4 (valP N2) = (S, a5, s5)) (h2 : s2 = false) (h3 : 8 < valP N1) : PsRes H s cid m (perr 3) := by
  obtain ⟨m, rfl⟩ : ∃ k, m = k + 1 := ⟨m - 1, by omega⟩
  obtain ⟨H1, k1, n1', K1, z0, z1, hq1, ha⟩ := peekS_pro hs hb hl m (by omega) hO
  have hL : ∀ h, lenA Try.prog 22 s h = some (.int .i64 l.length) := hs.len
  subst h0
  obtain ⟨H2, H4, d, H5, H6, t, H7, f1, f2, q4, f3, do1, g5, f4, q6, f5, to1, g7, q7, ha5, N2', N4, N5, N6, N7, G4, G6, G7, K4, K6, K7, Do, So⟩ := peekS_ids hs hb K1 (q := H.next + 2) (by omega) (by omega) hq1 ha hl m (by omega) hV hN1 hD hN2 hS
  have e40 := (G4 H.next (by omega) (by omega)).trans z0
  have e41 := (G4 (H.next + 1) (by omega) (by omega)).trans z1
  have e60 := (G6 H.next (by omega) (by omega)).trans z0
  have e61 := (G6 (H.next + 1) (by omega) (by omega)).trans z1
  have e70 := (G7 H.next (by omega) (by omega)).trans z0
  have e71 := (G7 (H.next + 1) (by omega) (by omega)).trans z1
  have m0 : ¬ (H.next = H2.next) := by omega
  have m0' : ¬ (H2.next = H.next) := by omega
  have m1 : ¬ (H.next + 1 = H2.next) := by omega
  have m1' : ¬ (H2.next = H.next + 1) := by omega
  have m2 : ¬ (H.next + 2 = H2.next) := by omega
  have m2' : ¬ (H2.next = H.next + 2) := by omega
  have r1 : ¬ (valP O < 64) := by omega
  have r2 : ¬ (valP O < 128) := by omega
  subst h2
  have ft := fault_ev q4 m (by omega)
  simp only [rdB, zh] at *
  unfold PsRes
  rw [ev_eq Try.func58 ok58 m _ H (by simp [Try.f58])]
  simp [Try.f58, push_set2P, n11, n21, ldVar, stVar, perr, hdr, hs.one, cells_one hs.one, hL, k1, z0, z1, hq1, evHist, ObsOk, ObOk, f1, f2, q4, f3, do1, cells_one do1, g5, f4, q6, f5, to1, cells_one to1, g7, q7, e40, e41, e60, e61, e70, e71, m0, m0', m1, m1', m2, m2', r1, r2, ft, h3]
  exact ⟨_, _, _, _, ⟨⟨rfl, rfl, rfl⟩, rfl⟩, K4.set (Nat.le_refl _) _, Ox.nil _ _, Ox.nil _ _, Ox.nil _ _⟩
theorem peekS_L3 {H : AH} {s : AV} {l : List Int} {cid : Int} (hs : Bs H s l) (hb : By l) (hl : l.length ≤ 65536) (m : Nat) (hm : 40 ≤ m)
    {O : List Int} {a : Nat} {s0 : Bool} (hO : takeS l 0 false 1 = (O, a, s0)) (h0 : s0 = false) (h128 : 128 ≤ valP O)
    {V : List Int} {a1 : Nat} {s1 : Bool} (hV : takeS l a false 4 = (V, a1, s1)) {N1 : List Int} {a2 : Nat} {s2 : Bool} (hN1 : takeS l a1 s1 1 = (N1, a2, s2)) {D : List Int} {a3 : Nat} {s3 : Bool} (hD : takeS l a2 s2 (valP N1) = (D, a3, s3))
    {N2 : List Int} {a4 : Nat} {s4 : Bool} (hN2 : takeS l a3 s3 1 = (N2, a4, s4)) {S : List Int} {a5 : Nat} {s5 : Bool} (hS : takeS l a4 s4 (valP N2) = (S, a5, s5)) (h2 : s2 = false) (h3 : ¬ 8 < valP N1) (h4 : s4 = true) : PsRes H s cid m (perr 2) := by
  obtain ⟨m, rfl⟩ : ∃ k, m = k + 1 := ⟨m - 1, by omega⟩
  obtain ⟨H1, k1, n1', K1, z0, z1, hq1, ha⟩ := peekS_pro hs hb hl m (by omega) hO
  have hL : ∀ h, lenA Try.prog 22 s h = some (.int .i64 l.length) := hs.len
  subst h0
  obtain ⟨H2, H4, d, H5, H6, t, H7, f1, f2, q4, f3, do1, g5, f4, q6, f5, to1, g7, q7, ha5, N2', N4, N5, N6, N7, G4, G6, G7, K4, K6, K7, Do, So⟩ := peekS_ids hs hb K1 (q := H.next + 2) (by omega) (by omega) hq1 ha hl m (by omega) hV hN1 hD hN2 hS
  have e40 := (G4 H.next (by omega) (by omega)).trans z0
  have e41 := (G4 (H.next + 1) (by omega) (by omega)).trans z1
  have e60 := (G6 H.next (by omega) (by omega)).trans z0
  have e61 := (G6 (H.next + 1) (by omega) (by omega)).trans z1
  have e70 := (G7 H.next (by omega) (by omega)).trans z0
  have e71 := (G7 (H.next + 1) (by omega) (by omega)).trans z1
  have m0 : ¬ (H.next = H2.next) := by omega
  have m0' : ¬ (H2.next = H.next) := by omega
  have m1 : ¬ (H.next + 1 = H2.next) := by omega
  have m1' : ¬ (H2.next = H.next + 1) := by omega
  have m2 : ¬ (H.next + 2 = H2.next) := by omega
  have m2' : ¬ (H2.next = H.next + 2) := by omega
  have r1 : ¬ (valP O < 64) := by omega
  have r2 : ¬ (valP O < 128) := by omega
  subst h2
  subst h4
  have ft := fault_ev q6 m (by omega)
  simp only [rdB, zh] at *
  unfold PsRes
  rw [ev_eq Try.func58 ok58 m _ H (by simp [Try.f58])]
  simp [Try.f58, push_set2P, n11, n21, ldVar, stVar, perr, hdr, hs.one, cells_one hs.one, hL, k1, z0, z1, hq1, evHist, ObsOk, ObOk, f1, f2, q4, f3, do1, cells_one do1, g5, f4, q6, f5, to1, cells_one to1, g7, q7, e40, e41, e60, e61, e70, e71, m0, m0', m1, m1', m2, m2', r1, r2, ft, h3]
  exact ⟨_, _, _, _, ⟨⟨rfl, rfl, rfl⟩, rfl⟩, K6.set (Nat.le_refl _) _, Ox.nil _ _, Ox.nil _ _, Ox.nil _ _⟩
theorem peekS_L4 {H : AH} {s : AV} {l : List Int} {cid : Int} (hs : Bs H s l) (hb : By l) (hl : l.length ≤ 65536) (m : Nat) (hm : 40 ≤ m)
    {O : List Int} {a : Nat} {s0 : Bool} (hO : takeS l 0 false 1 = (O, a, s0)) (h0 : s0 = false) (h128 : 128 ≤ valP O)
    {V : List Int} {a1 : Nat} {s1 : Bool} (hV : takeS l a false 4 = (V, a1, s1)) {N1 : List Int} {a2 : Nat} {s2 : Bool} (hN1 : takeS l a1 s1 1 = (N1, a2, s2)) {D : List Int} {a3 : Nat} {s3 : Bool} (hD : takeS l a2 s2 (valP N1) = (D, a3, s3))
    {N2 : List Int} {a4 : Nat} {s4 : Bool} (hN2 : takeS l a3 s3 1 = (N2, a4, s4)) {S : List Int} {a5 : Nat} {s5 : Bool} (hS : takeS l a4 s4 (valP N2) = (S, a5, s5)) (h2 : s2 = false) (h3 : ¬ 8 < valP N1) (h4 : s4 = false) (h5 : 8 < valP N2) : PsRes H s cid m (perr 3) := by
  obtain ⟨m, rfl⟩ : ∃ k, m = k + 1 := ⟨m - 1, by omega⟩
  obtain ⟨H1, k1, n1', K1, z0, z1, hq1, ha⟩ := peekS_pro hs hb hl m (by omega) hO
  have hL : ∀ h, lenA Try.prog 22 s h = some (.int .i64 l.length) := hs.len
  subst h0
  obtain ⟨H2, H4, d, H5, H6, t, H7, f1, f2, q4, f3, do1, g5, f4, q6, f5, to1, g7, q7, ha5, N2', N4, N5, N6, N7, G4, G6, G7, K4, K6, K7, Do, So⟩ := peekS_ids hs hb K1 (q := H.next + 2) (by omega) (by omega) hq1 ha hl m (by omega) hV hN1 hD hN2 hS
  have e40 := (G4 H.next (by omega) (by omega)).trans z0
  have e41 := (G4 (H.next + 1) (by omega) (by omega)).trans z1
  have e60 := (G6 H.next (by omega) (by omega)).trans z0
  have e61 := (G6 (H.next + 1) (by omega) (by omega)).trans z1
  have e70 := (G7 H.next (by omega) (by omega)).trans z0
  have e71 := (G7 (H.next + 1) (by omega) (by omega)).trans z1
  have m0 : ¬ (H.next = H2.next) := by omega
  have m0' : ¬ (H2.next = H.next) := by omega
  have m1 : ¬ (H.next + 1 = H2.next) := by omega
  have m1' : ¬ (H2.next = H.next + 1) := by omega
  have m2 : ¬ (H.next + 2 = H2.next) := by omega
  have m2' : ¬ (H2.next = H.next + 2) := by omega
  have r1 : ¬ (valP O < 64) := by omega
  have r2 : ¬ (valP O < 128) := by omega
  subst h2
  subst h4
  have ft := fault_ev q6 m (by omega)
  simp only [rdB, zh] at *
  unfold PsRes
  rw [ev_eq Try.func58 ok58 m _ H (by simp [Try.f58])]
  simp [Try.f58, push_set2P, n11, n21, ldVar, stVar, perr, hdr, hs.one, cells_one hs.one, hL, k1, z0, z1, hq1, evHist, ObsOk, ObOk, f1, f2, q4, f3, do1, cells_one do1, g5, f4, q6, f5, to1, cells_one to1, g7, q7, e40, e41, e60, e61, e70, e71, m0, m0', m1, m1', m2, m2', r1, r2, ft, h3, h5]
  exact ⟨_, _, _, _, ⟨⟨rfl, rfl, rfl⟩, rfl⟩, K6.set (Nat.le_refl _) _, Ox.nil _ _, Ox.nil _ _, Ox.nil _ _⟩
theorem peekS_L5 {H : AH} {s : AV} {l : List Int} {cid : Int} (hs : Bs H s l) (hb : By l) (hl : l.length ≤ 65536) (m : Nat) (hm : 40 ≤ m)
    {O : List Int} {a : Nat} {s0 : Bool} (hO : takeS l 0 false 1 = (O, a, s0)) (h0 : s0 = false) (h128 : 128 ≤ valP O)
    {V : List Int} {a1 : Nat} {s1 : Bool} (hV : takeS l a false 4 = (V, a1, s1)) {N1 : List Int} {a2 : Nat} {s2 : Bool} (hN1 : takeS l a1 s1 1 = (N1, a2, s2)) {D : List Int} {a3 : Nat} {s3 : Bool} (hD : takeS l a2 s2 (valP N1) = (D, a3, s3))
    {N2 : List Int} {a4 : Nat} {s4 : Bool} (hN2 : takeS l a3 s3 1 = (N2, a4, s4)) {S : List Int} {a5 : Nat} {s5 : Bool} (hS : takeS l a4 s4 (valP N2) = (S, a5, s5)) (h2 : s2 = false) (h3 : ¬ 8 < valP N1) (h4 : s4 = false) (h5 : ¬ 8 < valP N2) (h6 : s5 = true) : PsRes H s cid m (perr 2) := by
  obtain ⟨m, rfl⟩ : ∃ k, m = k + 1 := ⟨m - 1, by omega⟩
  obtain ⟨H1, k1, n1', K1, z0, z1, hq1, ha⟩ := peekS_pro hs hb hl m (by omega) hO
  have hL : ∀ h, lenA Try.prog 22 s h = some (.int .i64 l.length) := hs.len
  subst h0
  obtain ⟨H2, H4, d, H5, H6, t, H7, f1, f2, q4, f3, do1, g5, f4, q6, f5, to1, g7, q7, ha5, N2', N4, N5, N6, N7, G4, G6, G7, K4, K6, K7, Do, So⟩ := peekS_ids hs hb K1 (q := H.next + 2) (by omega) (by omega) hq1 ha hl m (by omega) hV hN1 hD hN2 hS
  have e40 := (G4 H.next (by omega) (by omega)).trans z0
  have e41 := (G4 (H.next + 1) (by omega) (by omega)).trans z1
  have e60 := (G6 H.next (by omega) (by omega)).trans z0
  have e61 := (G6 (H.next + 1) (by omega) (by omega)).trans z1
  have e70 := (G7 H.next (by omega) (by omega)).trans z0
  have e71 := (G7 (H.next + 1) (by omega) (by omega)).trans z1
  have m0 : ¬ (H.next = H2.next) := by omega
  have m0' : ¬ (H2.next = H.next) := by omega
  have m1 : ¬ (H.next + 1 = H2.next) := by omega
  have m1' : ¬ (H2.next = H.next + 1) := by omega
  have m2 : ¬ (H.next + 2 = H2.next) := by omega
  have m2' : ¬ (H2.next = H.next + 2) := by omega
  have r1 : ¬ (valP O < 64) := by omega
  have r2 : ¬ (valP O < 128) := by omega
  subst h2
  subst h4
  subst h6
  simp only [rdB, zh] at *
  unfold PsRes
  rw [ev_eq Try.func58 ok58 m _ H (by simp [Try.f58])]
  simp [Try.f58, push_set2P, n11, n21, ldVar, stVar, perr, hdr, hs.one, cells_one hs.one, hL, k1, z0, z1, hq1, evHist, ObsOk, ObOk, f1, f2, q4, f3, do1, cells_one do1, g5, f4, q6, f5, to1, cells_one to1, g7, q7, e40, e41, e60, e61, e70, e71, m0, m0', m1, m1', m2, m2', r1, r2, h3, h5]
  exact ⟨_, _, _, _, ⟨⟨rfl, rfl, rfl⟩, rfl⟩, (K7.set (by omega) _).set (Nat.le_refl _) _, Ox.nil _ _, Ox.nil _ _, Ox.nil _ _⟩
end Go.Ev

/- The specification's peek: versions. -/
namespace Go.Ev
open Go Go.Proofs
set_option linter.unusedSimpArgs false
set_option linter.unusedVariables false

theorem peekS_E1 {H : AH} {s : AV} {l : List Int} {cid : Int} (hs : Bs H s l) (hb : By l) (hl : l.length ≤ 65536) (m : Nat) (hm : 40 ≤ m)
    {O : List Int} {a : Nat} {s0 : Bool} (hO : takeS l 0 false 1 = (O, a, s0)) (h0 : s0 = false) (h128 : 128 ≤ valP O)
    {V : List Int} {a1 : Nat} {s1 : Bool} (hV : takeS l a false 4 = (V, a1, s1)) {N1 : List Int} {a2 : Nat} {s2 : Bool} (hN1 : takeS l a1 s1 1 = (N1, a2, s2)) {D : List Int} {a3 : Nat} {s3 : Bool} (hD : takeS l a2 s2 (valP N1) = (D, a3, s3))
    {N2 : List Int} {a4 : Nat} {s4 : Bool} (hN2 : takeS l a3 s3 1 = (N2, a4, s4)) {S : List Int} {a5 : Nat} {s5 : Bool} (hS : takeS l a4 s4 (valP N2) = (S, a5, s5)) (h2 : s2 = false) (h3 : ¬ 8 < valP N1) (h4 : s4 = false) (h5 : ¬ 8 < valP N2) (h6 : s5 = false) (h7 : valP V = 0) (h8 : valP O = 128) (h9 : versP (l.drop a5) = true) : PsRes H s cid m ⟨0, 5, 0, D, S, [], l.length⟩ := by
  obtain ⟨m, rfl⟩ : ∃ k, m = k + 1 := ⟨m - 1, by omega⟩
  obtain ⟨H1, k1, n1', K1, z0, z1, hq1, ha⟩ := peekS_pro hs hb hl m (by omega) hO
  have hL : ∀ h, lenA Try.prog 22 s h = some (.int .i64 l.length) := hs.len
  subst h0
  obtain ⟨H2, H4, d, H5, H6, t, H7, f1, f2, q4, f3, do1, g5, f4, q6, f5, to1, g7, q7, ha5, N2', N4, N5, N6, N7, G4, G6, G7, K4, K6, K7, Do, So⟩ := peekS_ids hs hb K1 (q := H.next + 2) (by omega) (by omega) hq1 ha hl m (by omega) hV hN1 hD hN2 hS
  have e40 := (G4 H.next (by omega) (by omega)).trans z0
  have e41 := (G4 (H.next + 1) (by omega) (by omega)).trans z1
  have e60 := (G6 H.next (by omega) (by omega)).trans z0
  have e61 := (G6 (H.next + 1) (by omega) (by omega)).trans z1
  have e70 := (G7 H.next (by omega) (by omega)).trans z0
  have e71 := (G7 (H.next + 1) (by omega) (by omega)).trans z1
  have m0 : ¬ (H.next = H2.next) := by omega
  have m0' : ¬ (H2.next = H.next) := by omega
  have m1 : ¬ (H.next + 1 = H2.next) := by omega
  have m1' : ¬ (H2.next = H.next + 1) := by omega
  have m2 : ¬ (H.next + 2 = H2.next) := by omega
  have m2' : ¬ (H2.next = H.next + 2) := by omega
  have r1 : ¬ (valP O < 64) := by omega
  have r2 : ¬ (valP O < 128) := by omega
  subst h2
  subst h4
  subst h6
  simp only [h7] at f1 f2 g5 f4 g7
  have KE : Kp H (H7.set H2.next (.cells 24 false [.int .i64 5, .int .i64 0, d, t, .nilSlice, .int .i64 0, .int .i64 0, .int .i64 0])) := K7.set (by omega) _
  obtain ⟨rv, HR, nV, y1, y2, y3, y4, y5⟩ := readVersions_ev (q := H.next + 2) hs hb KE (by omega) (by simp; omega) (by simp [m2, q7]) ha5 hl m (by omega)
  have w0 : HR.get H.next = some (.cells 24 false zh) := by rw [y2.get _ (by simp; omega) (by omega), AH.set_get, if_neg m0]; exact e70
  have w1 : HR.get (H.next + 1) = some (.cells 24 false zh) := by rw [y2.get _ (by simp; omega) (by omega), AH.set_get, if_neg m1]; exact e71
  have w2 : HR.get H2.next = some (.cells 24 false [.int .i64 5, .int .i64 0, d, t, .nilSlice, .int .i64 0, .int .i64 0, .int .i64 0]) := by rw [y2.get _ (by simp; omega) (by omega)]; simp
  have KR := y2.kp KE (by omega)
  have hnR := y2.next
  simp only [AH.set_next] at hnR
  have y6 := y4 h9
  simp only [rdB, zh] at *
  unfold PsRes
  rw [ev_eq Try.func58 ok58 m _ H (by simp [Try.f58])]
  simp [Try.f58, push_set2P, n11, n21, ldVar, stVar, perr, hdr, hs.one, cells_one hs.one, hL, k1, z0, z1, hq1, evHist, ObsOk, ObOk, f1, f2, q4, f3, do1, cells_one do1, g5, f4, q6, f5, to1, cells_one to1, g7, q7, e40, e41, e60, e61, e70, e71, m0, m0', m1, m1', m2, m2', r1, r2, h3, h5, y1, y3, w0, w1, w2, h8, y6]
  exact ⟨_, _, _, _, ⟨⟨rfl, rfl, rfl⟩, rfl⟩, KR.set (Nat.le_refl _) _, (((Do.set _ (by omega)).kx y2 (by omega)).set _ (by omega)).ox (by omega), (((So.set _ (by omega)).kx y2 (by omega)).set _ (by omega)).ox (by omega), Ox.nil _ _⟩
theorem peekS_E2 {H : AH} {s : AV} {l : List Int} {cid : Int} (hs : Bs H s l) (hb : By l) (hl : l.length ≤ 65536) (m : Nat) (hm : 40 ≤ m)
    {O : List Int} {a : Nat} {s0 : Bool} (hO : takeS l 0 false 1 = (O, a, s0)) (h0 : s0 = false) (h128 : 128 ≤ valP O)
    {V : List Int} {a1 : Nat} {s1 : Bool} (hV : takeS l a false 4 = (V, a1, s1)) {N1 : List Int} {a2 : Nat} {s2 : Bool} (hN1 : takeS l a1 s1 1 = (N1, a2, s2)) {D : List Int} {a3 : Nat} {s3 : Bool} (hD : takeS l a2 s2 (valP N1) = (D, a3, s3))
    {N2 : List Int} {a4 : Nat} {s4 : Bool} (hN2 : takeS l a3 s3 1 = (N2, a4, s4)) {S : List Int} {a5 : Nat} {s5 : Bool} (hS : takeS l a4 s4 (valP N2) = (S, a5, s5)) (h2 : s2 = false) (h3 : ¬ 8 < valP N1) (h4 : s4 = false) (h5 : ¬ 8 < valP N2) (h6 : s5 = false) (h7 : valP V = 0) (h8 : ¬ valP O = 128) : PsRes H s cid m (perr 3) := by
  obtain ⟨m, rfl⟩ : ∃ k, m = k + 1 := ⟨m - 1, by omega⟩
  obtain ⟨H1, k1, n1', K1, z0, z1, hq1, ha⟩ := peekS_pro hs hb hl m (by omega) hO
  have hL : ∀ h, lenA Try.prog 22 s h = some (.int .i64 l.length) := hs.len
  subst h0
  obtain ⟨H2, H4, d, H5, H6, t, H7, f1, f2, q4, f3, do1, g5, f4, q6, f5, to1, g7, q7, ha5, N2', N4, N5, N6, N7, G4, G6, G7, K4, K6, K7, Do, So⟩ := peekS_ids hs hb K1 (q := H.next + 2) (by omega) (by omega) hq1 ha hl m (by omega) hV hN1 hD hN2 hS
  have e40 := (G4 H.next (by omega) (by omega)).trans z0
  have e41 := (G4 (H.next + 1) (by omega) (by omega)).trans z1
  have e60 := (G6 H.next (by omega) (by omega)).trans z0
  have e61 := (G6 (H.next + 1) (by omega) (by omega)).trans z1
  have e70 := (G7 H.next (by omega) (by omega)).trans z0
  have e71 := (G7 (H.next + 1) (by omega) (by omega)).trans z1
  have m0 : ¬ (H.next = H2.next) := by omega
  have m0' : ¬ (H2.next = H.next) := by omega
  have m1 : ¬ (H.next + 1 = H2.next) := by omega
  have m1' : ¬ (H2.next = H.next + 1) := by omega
  have m2 : ¬ (H.next + 2 = H2.next) := by omega
  have m2' : ¬ (H2.next = H.next + 2) := by omega
  have r1 : ¬ (valP O < 64) := by omega
  have r2 : ¬ (valP O < 128) := by omega
  subst h2
  subst h4
  subst h6
  simp only [h7] at f1 f2 g5 f4 g7
  have KE : Kp H (H7.set H2.next (.cells 24 false [.int .i64 5, .int .i64 0, d, t, .nilSlice, .int .i64 0, .int .i64 0, .int .i64 0])) := K7.set (by omega) _
  obtain ⟨rv, HR, nV, y1, y2, y3, y4, y5⟩ := readVersions_ev (q := H.next + 2) hs hb KE (by omega) (by simp; omega) (by simp [m2, q7]) ha5 hl m (by omega)
  have w0 : HR.get H.next = some (.cells 24 false zh) := by rw [y2.get _ (by simp; omega) (by omega), AH.set_get, if_neg m0]; exact e70
  have w1 : HR.get (H.next + 1) = some (.cells 24 false zh) := by rw [y2.get _ (by simp; omega) (by omega), AH.set_get, if_neg m1]; exact e71
  have w2 : HR.get H2.next = some (.cells 24 false [.int .i64 5, .int .i64 0, d, t, .nilSlice, .int .i64 0, .int .i64 0, .int .i64 0]) := by rw [y2.get _ (by simp; omega) (by omega)]; simp
  have KR := y2.kp KE (by omega)
  have hnR := y2.next
  simp only [AH.set_next] at hnR
  simp only [rdB, zh] at *
  unfold PsRes
  rw [ev_eq Try.func58 ok58 m _ H (by simp [Try.f58])]
  simp [Try.f58, push_set2P, n11, n21, ldVar, stVar, perr, hdr, hs.one, cells_one hs.one, hL, k1, z0, z1, hq1, evHist, ObsOk, ObOk, f1, f2, q4, f3, do1, cells_one do1, g5, f4, q6, f5, to1, cells_one to1, g7, q7, e40, e41, e60, e61, e70, e71, m0, m0', m1, m1', m2, m2', r1, r2, h3, h5, y1, y3, w0, w1, w2, h8]
  exact ⟨_, _, _, _, ⟨⟨rfl, rfl, rfl⟩, rfl⟩, (K7.set (by omega) _).set (Nat.le_refl _) _, Ox.nil _ _, Ox.nil _ _, Ox.nil _ _⟩
theorem peekS_E3 {H : AH} {s : AV} {l : List Int} {cid : Int} (hs : Bs H s l) (hb : By l) (hl : l.length ≤ 65536) (m : Nat) (hm : 40 ≤ m)
    {O : List Int} {a : Nat} {s0 : Bool} (hO : takeS l 0 false 1 = (O, a, s0)) (h0 : s0 = false) (h128 : 128 ≤ valP O)
    {V : List Int} {a1 : Nat} {s1 : Bool} (hV : takeS l a false 4 = (V, a1, s1)) {N1 : List Int} {a2 : Nat} {s2 : Bool} (hN1 : takeS l a1 s1 1 = (N1, a2, s2)) {D : List Int} {a3 : Nat} {s3 : Bool} (hD : takeS l a2 s2 (valP N1) = (D, a3, s3))
    {N2 : List Int} {a4 : Nat} {s4 : Bool} (hN2 : takeS l a3 s3 1 = (N2, a4, s4)) {S : List Int} {a5 : Nat} {s5 : Bool} (hS : takeS l a4 s4 (valP N2) = (S, a5, s5)) (h2 : s2 = false) (h3 : ¬ 8 < valP N1) (h4 : s4 = false) (h5 : ¬ 8 < valP N2) (h6 : s5 = false) (h7 : valP V = 0) (h8 : valP O = 128) (h9 : versP (l.drop a5) = false) : PsRes H s cid m (perr 3) := by
  obtain ⟨m, rfl⟩ : ∃ k, m = k + 1 := ⟨m - 1, by omega⟩
  obtain ⟨H1, k1, n1', K1, z0, z1, hq1, ha⟩ := peekS_pro hs hb hl m (by omega) hO
  have hL : ∀ h, lenA Try.prog 22 s h = some (.int .i64 l.length) := hs.len
  subst h0
  obtain ⟨H2, H4, d, H5, H6, t, H7, f1, f2, q4, f3, do1, g5, f4, q6, f5, to1, g7, q7, ha5, N2', N4, N5, N6, N7, G4, G6, G7, K4, K6, K7, Do, So⟩ := peekS_ids hs hb K1 (q := H.next + 2) (by omega) (by omega) hq1 ha hl m (by omega) hV hN1 hD hN2 hS
  have e40 := (G4 H.next (by omega) (by omega)).trans z0
  have e41 := (G4 (H.next + 1) (by omega) (by omega)).trans z1
  have e60 := (G6 H.next (by omega) (by omega)).trans z0
  have e61 := (G6 (H.next + 1) (by omega) (by omega)).trans z1
  have e70 := (G7 H.next (by omega) (by omega)).trans z0
  have e71 := (G7 (H.next + 1) (by omega) (by omega)).trans z1
  have m0 : ¬ (H.next = H2.next) := by omega
  have m0' : ¬ (H2.next = H.next) := by omega
  have m1 : ¬ (H.next + 1 = H2.next) := by omega
  have m1' : ¬ (H2.next = H.next + 1) := by omega
  have m2 : ¬ (H.next + 2 = H2.next) := by omega
  have m2' : ¬ (H2.next = H.next + 2) := by omega
  have r1 : ¬ (valP O < 64) := by omega
  have r2 : ¬ (valP O < 128) := by omega
  subst h2
  subst h4
  subst h6
  simp only [h7] at f1 f2 g5 f4 g7
  have KE : Kp H (H7.set H2.next (.cells 24 false [.int .i64 5, .int .i64 0, d, t, .nilSlice, .int .i64 0, .int .i64 0, .int .i64 0])) := K7.set (by omega) _
  obtain ⟨rv, HR, nV, y1, y2, y3, y4, y5⟩ := readVersions_ev (q := H.next + 2) hs hb KE (by omega) (by simp; omega) (by simp [m2, q7]) ha5 hl m (by omega)
  have w0 : HR.get H.next = some (.cells 24 false zh) := by rw [y2.get _ (by simp; omega) (by omega), AH.set_get, if_neg m0]; exact e70
  have w1 : HR.get (H.next + 1) = some (.cells 24 false zh) := by rw [y2.get _ (by simp; omega) (by omega), AH.set_get, if_neg m1]; exact e71
  have w2 : HR.get H2.next = some (.cells 24 false [.int .i64 5, .int .i64 0, d, t, .nilSlice, .int .i64 0, .int .i64 0, .int .i64 0]) := by rw [y2.get _ (by simp; omega) (by omega)]; simp
  have KR := y2.kp KE (by omega)
  have hnR := y2.next
  simp only [AH.set_next] at hnR
  have y6 := y5 h9
  subst y6
  simp only [rdB, zh] at *
  unfold PsRes
  rw [ev_eq Try.func58 ok58 m _ H (by simp [Try.f58])]
  simp [Try.f58, push_set2P, n11, n21, ldVar, stVar, perr, hdr, hs.one, cells_one hs.one, hL, k1, z0, z1, hq1, evHist, ObsOk, ObOk, f1, f2, q4, f3, do1, cells_one do1, g5, f4, q6, f5, to1, cells_one to1, g7, q7, e40, e41, e60, e61, e70, e71, m0, m0', m1, m1', m2, m2', r1, r2, h3, h5, y1, y3, w0, w1, w2, h8]
  exact ⟨_, _, _, _, ⟨⟨rfl, rfl, rfl⟩, rfl⟩, KR.set (Nat.le_refl _) _, Ox.nil _ _, Ox.nil _ _, Ox.nil _ _⟩
theorem peekS_F1 {H : AH} {s : AV} {l : List Int} {cid : Int} (hs : Bs H s l) (hb : By l) (hl : l.length ≤ 65536) (m : Nat) (hm : 40 ≤ m)
    {O : List Int} {a : Nat} {s0 : Bool} (hO : takeS l 0 false 1 = (O, a, s0)) (h0 : s0 = false) (h128 : 128 ≤ valP O)
    {V : List Int} {a1 : Nat} {s1 : Bool} (hV : takeS l a false 4 = (V, a1, s1)) {N1 : List Int} {a2 : Nat} {s2 : Bool} (hN1 : takeS l a1 s1 1 = (N1, a2, s2)) {D : List Int} {a3 : Nat} {s3 : Bool} (hD : takeS l a2 s2 (valP N1) = (D, a3, s3))
    {N2 : List Int} {a4 : Nat} {s4 : Bool} (hN2 : takeS l a3 s3 1 = (N2, a4, s4)) {S : List Int} {a5 : Nat} {s5 : Bool} (hS : takeS l a4 s4 (valP N2) = (S, a5, s5)) (h2 : s2 = false) (h3 : ¬ 8 < valP N1) (h4 : s4 = false) (h5 : ¬ 8 < valP N2) (h6 : s5 = false) (h7 : ¬ valP V = 0) (hx : valP O < 192) : PsRes H s cid m (perr 3) := by
  obtain ⟨m, rfl⟩ : ∃ k, m = k + 1 := ⟨m - 1, by omega⟩
  obtain ⟨H1, k1, n1', K1, z0, z1, hq1, ha⟩ := peekS_pro hs hb hl m (by omega) hO
  have hL : ∀ h, lenA Try.prog 22 s h = some (.int .i64 l.length) := hs.len
  subst h0
  obtain ⟨H2, H4, d, H5, H6, t, H7, f1, f2, q4, f3, do1, g5, f4, q6, f5, to1, g7, q7, ha5, N2', N4, N5, N6, N7, G4, G6, G7, K4, K6, K7, Do, So⟩ := peekS_ids hs hb K1 (q := H.next + 2) (by omega) (by omega) hq1 ha hl m (by omega) hV hN1 hD hN2 hS
  have e40 := (G4 H.next (by omega) (by omega)).trans z0
  have e41 := (G4 (H.next + 1) (by omega) (by omega)).trans z1
  have e60 := (G6 H.next (by omega) (by omega)).trans z0
  have e61 := (G6 (H.next + 1) (by omega) (by omega)).trans z1
  have e70 := (G7 H.next (by omega) (by omega)).trans z0
  have e71 := (G7 (H.next + 1) (by omega) (by omega)).trans z1
  have m0 : ¬ (H.next = H2.next) := by omega
  have m0' : ¬ (H2.next = H.next) := by omega
  have m1 : ¬ (H.next + 1 = H2.next) := by omega
  have m1' : ¬ (H2.next = H.next + 1) := by omega
  have m2 : ¬ (H.next + 2 = H2.next) := by omega
  have m2' : ¬ (H2.next = H.next + 2) := by omega
  have r1 : ¬ (valP O < 64) := by omega
  have r2 : ¬ (valP O < 128) := by omega
  subst h2
  subst h4
  subst h6
  simp only [rdB, zh] at *
  unfold PsRes
  rw [ev_eq Try.func58 ok58 m _ H (by simp [Try.f58])]
  simp [Try.f58, push_set2P, n11, n21, ldVar, stVar, perr, hdr, hs.one, cells_one hs.one, hL, k1, z0, z1, hq1, evHist, ObsOk, ObOk, f1, f2, q4, f3, do1, cells_one do1, g5, f4, q6, f5, to1, cells_one to1, g7, q7, e40, e41, e60, e61, e70, e71, m0, m0', m1, m1', m2, m2', r1, r2, h3, h5, h7, hx]
  exact ⟨_, _, _, _, ⟨⟨rfl, rfl, rfl⟩, rfl⟩, (K7.set (by omega) _).set (Nat.le_refl _) _, Ox.nil _ _, Ox.nil _ _, Ox.nil _ _⟩
theorem peekS_F2 {H : AH} {s : AV} {l : List Int} {cid : Int} (hs : Bs H s l) (hb : By l) (hl : l.length ≤ 65536) (m : Nat) (hm : 40 ≤ m)
    {O : List Int} {a : Nat} {s0 : Bool} (hO : takeS l 0 false 1 = (O, a, s0)) (h0 : s0 = false) (h128 : 128 ≤ valP O)
    {V : List Int} {a1 : Nat} {s1 : Bool} (hV : takeS l a false 4 = (V, a1, s1)) {N1 : List Int} {a2 : Nat} {s2 : Bool} (hN1 : takeS l a1 s1 1 = (N1, a2, s2)) {D : List Int} {a3 : Nat} {s3 : Bool} (hD : takeS l a2 s2 (valP N1) = (D, a3, s3))
    {N2 : List Int} {a4 : Nat} {s4 : Bool} (hN2 : takeS l a3 s3 1 = (N2, a4, s4)) {S : List Int} {a5 : Nat} {s5 : Bool} (hS : takeS l a4 s4 (valP N2) = (S, a5, s5)) (h2 : s2 = false) (h3 : ¬ 8 < valP N1) (h4 : s4 = false) (h5 : ¬ 8 < valP N2) (h6 : s5 = false) (h7 : ¬ valP V = 0) (hx : 208 ≤ valP O) (hx2 : valP O < 224) : PsRes H s cid m (perr 3) := by
  obtain ⟨m, rfl⟩ : ∃ k, m = k + 1 := ⟨m - 1, by omega⟩
  obtain ⟨H1, k1, n1', K1, z0, z1, hq1, ha⟩ := peekS_pro hs hb hl m (by omega) hO
  have hL : ∀ h, lenA Try.prog 22 s h = some (.int .i64 l.length) := hs.len
  subst h0
  obtain ⟨H2, H4, d, H5, H6, t, H7, f1, f2, q4, f3, do1, g5, f4, q6, f5, to1, g7, q7, ha5, N2', N4, N5, N6, N7, G4, G6, G7, K4, K6, K7, Do, So⟩ := peekS_ids hs hb K1 (q := H.next + 2) (by omega) (by omega) hq1 ha hl m (by omega) hV hN1 hD hN2 hS
  have e40 := (G4 H.next (by omega) (by omega)).trans z0
  have e41 := (G4 (H.next + 1) (by omega) (by omega)).trans z1
  have e60 := (G6 H.next (by omega) (by omega)).trans z0
  have e61 := (G6 (H.next + 1) (by omega) (by omega)).trans z1
  have e70 := (G7 H.next (by omega) (by omega)).trans z0
  have e71 := (G7 (H.next + 1) (by omega) (by omega)).trans z1
  have m0 : ¬ (H.next = H2.next) := by omega
  have m0' : ¬ (H2.next = H.next) := by omega
  have m1 : ¬ (H.next + 1 = H2.next) := by omega
  have m1' : ¬ (H2.next = H.next + 1) := by omega
  have m2 : ¬ (H.next + 2 = H2.next) := by omega
  have m2' : ¬ (H2.next = H.next + 2) := by omega
  have r1 : ¬ (valP O < 64) := by omega
  have r2 : ¬ (valP O < 128) := by omega
  subst h2
  subst h4
  subst h6
  have wf : IntKind.i64.wrap (valP O - 192) = valP O - 192 := wrap_i64 (by omega) (by omega)
  have hk : (valP O - 192).tdiv 16 = 1 := by rw [Int.tdiv_eq_ediv_of_nonneg (by omega)]; omega
  have n3' : ¬ (valP O < 192) := by omega
  have wk : IntKind.i64.wrap 1 = 1 := wrap_i64 (by omega) (by omega)
  simp only [rdB, zh] at *
  unfold PsRes
  rw [ev_eq Try.func58 ok58 m _ H (by simp [Try.f58])]
  simp [Try.f58, push_set2P, n11, n21, ldVar, stVar, perr, hdr, hs.one, cells_one hs.one, hL, k1, z0, z1, hq1, evHist, ObsOk, ObOk, f1, f2, q4, f3, do1, cells_one do1, g5, f4, q6, f5, to1, cells_one to1, g7, q7, e40, e41, e60, e61, e70, e71, m0, m0', m1, m1', m2, m2', r1, r2, h3, h5, h7, wf, hk, wk, n3']
  exact ⟨_, _, _, _, ⟨⟨rfl, rfl, rfl⟩, rfl⟩, (K7.set (by omega) _).set (Nat.le_refl _) _, Ox.nil _ _, Ox.nil _ _, Ox.nil _ _⟩
end Go.Ev

/- The specification's retry. -/
namespace Go.Ev
open Go Go.Proofs
set_option linter.unusedSimpArgs false
set_option linter.unusedVariables false

theorem retry_ev {Hb H : AH} {q a : Nat} {s d t : AV} {v : Int} {l : List Int} (hs : Bs Hb s l) (hK : Kp Hb H) (hqb : Hb.next ≤ q) (hqn : q < H.next) (hq : H.get q = some (rdB s a false)) (ha : a ≤ l.length) (hl : l.length ≤ 65536) (hd : d.one = true) (ht : t.one = true) (m : Nat) (hm : 3 ≤ m) :
    (l.length - a < 9 → ∃ H', ev Try.prog m 102 [.ptr q 0, hdr 0 v d t .nilSlice] H = some (.tuple [hdr 0 0 .nilSlice .nilSlice .nilSlice, .int .i64 0, .int .i64 2], H') ∧ Kx q H H') ∧
    (72 < l.length - a → ∃ H', ev Try.prog m 102 [.ptr q 0, hdr 0 v d t .nilSlice] H = some (.tuple [hdr 0 0 .nilSlice .nilSlice .nilSlice, .int .i64 0, .int .i64 3], H') ∧ Kx q H H') ∧
    (9 ≤ l.length - a → l.length - a ≤ 72 → ∃ r H', ev Try.prog m 102 [.ptr q 0, hdr 0 v d t .nilSlice] H = some (.tuple [hdr 3 v d t r, .int .i64 l.length, .int .i64 0], H') ∧ Kx q H H' ∧ r.one = true ∧ Ow (H.next + 2) H'.next H' r ((l.drop a).take (l.length - a - 8))) := by
  obtain ⟨m, rfl⟩ : ∃ k, m = k + 1 := ⟨m - 1, by omega⟩
  have hL : ∀ h, lenA Try.prog 22 s h = some (.int .i64 l.length) := hs.len
  have hne : ¬ (q = H.next) := by omega
  have hne' : ¬ (q = H.next + 1) := by omega
  have hq0 := hq
  have w0 : IntKind.i64.wrap ((l.length : Int) - a) = l.length - a := wrap_i64 (by omega) (by omega)
  have w1 : IntKind.i64.wrap ((l.length : Int) - a - 8) = l.length - a - 8 := wrap_i64 (by omega) (by omega)
  unfold rdB at hq
  refine ⟨fun h1 => ?_, fun h1 => ?_, fun h1 h2 => ?_⟩
  · have c1 : (l.length : Int) - a - 8 < 1 := by omega
    rw [ev_eq Try.func102 ok102 m _ H (by simp [Try.f102])]
    refine ⟨(H.push (.cells 24 false [.int .i64 0, .int .i64 v, d, t, .nilSlice, .int .i64 0, .int .i64 0, .int .i64 0])).push (.cells 24 false zh), ?_, Kx.of (((Kp.refl H).push _).push _)⟩
    simp [Try.f102, hdr, ldVar, stVar, hd, ht, hq, hne, hne', hL, w0, w1, c1, push_set2P, zh, n11]
  · have c1 : ¬ ((l.length : Int) - a - 8 < 1) := by omega
    have c2 : 64 < (l.length : Int) - a - 8 := by omega
    rw [ev_eq Try.func102 ok102 m _ H (by simp [Try.f102])]
    refine ⟨(H.push (.cells 24 false [.int .i64 0, .int .i64 v, d, t, .nilSlice, .int .i64 0, .int .i64 0, .int .i64 0])).push (.cells 24 false zh), ?_, Kx.of (((Kp.refl H).push _).push _)⟩
    simp [Try.f102, hdr, ldVar, stVar, hd, ht, hq, hne, hne', hL, w0, w1, c1, c2, push_set2P, zh, n11]
  · have c1 : ¬ ((l.length : Int) - a - 8 < 1) := by omega
    have c2 : ¬ (64 < (l.length : Int) - a - 8) := by omega
    have K1 : Kp H (((H.push (.cells 24 false [.int .i64 0, .int .i64 v, d, t, .nilSlice, .int .i64 0, .int .i64 0, .int .i64 0])).push (.cells 24 false zh)).set H.next (.cells 24 false [.int .i64 3, .int .i64 v, d, t, .nilSlice, .int .i64 0, .int .i64 0, .int .i64 0])) := (((Kp.refl H).push _).push _).set (Nat.le_refl _) _
    obtain ⟨r, H2, i1, i2, i3, i4, i5⟩ := takeR_ev hs (hK.trans K1) hqb (by simp; omega) ((K1.get q hqn).trans hq0) ha hl ((l.length : Int) - a - 8) (by omega) (by omega) m (by omega)
    have hT : takeS l a false ((l.length : Int) - a - 8) = ((l.drop a).take (l.length - a - 8), a + (l.length - a - 8), false) := by
      unfold takeS
      rw [if_neg (by simp; omega), show ((l.length : Int) - a - 8).toNat = l.length - a - 8 by omega]
    rw [hT] at i3 i4
    simp only at i3 i4
    have n2 := i2.next
    simp only [AH.set_next, AH.push_next] at n2
    have g1 : H2.get H.next = some (.cells 24 false [.int .i64 3, .int .i64 v, d, t, .nilSlice, .int .i64 0, .int .i64 0, .int .i64 0]) := by rw [i2.get _ (by simp; omega) (by omega)]; simp
    have g2 : H2.get (H.next + 1) = some (.cells 24 false zh) := by rw [i2.get _ (by simp) (by omega)]; simp
    have hro := i3.bs.one
    have x1 : ¬ (H.next + 1 = H.next) := by omega
    simp only [rdB, zh] at *
    rw [ev_eq Try.func102 ok102 m _ H (by simp [Try.f102])]
    refine ⟨r, (H2.set H.next (.cells 24 false [.int .i64 3, .int .i64 v, d, t, r, .int .i64 0, .int .i64 0, .int .i64 0])).set (H.next + 1) (.cells 24 false [.int .i64 3, .int .i64 v, d, t, r, .int .i64 0, .int .i64 0, .int .i64 0]), ?_, ?_, hro, ?_⟩
    · simp [Try.f102, hdr, ldVar, stVar, hd, ht, cells_one hd, cells_one ht, hq, hne, hne', hL, w0, w1, c1, c2, push_set2P, n11, i1, i4, g1, g2, hro, cells_one hro, x1, evHist, ObsOk, ObOk]
    · refine ⟨by simp; omega, fun b hb hbq => ?_⟩
      rw [AH.set_get, if_neg (by omega), AH.set_get, if_neg (by omega), i2.get b (by simp; omega) hbq]
      exact K1.get b hb
    · simp only [AH.set_next, AH.push_next] at i3
      exact (i3.set _ (by omega)).set _ (by omega)
end Go.Ev

/- The specification's peek: retry and handshake. -/
namespace Go.Ev
open Go Go.Proofs
set_option linter.unusedSimpArgs false
set_option linter.unusedVariables false

theorem peekS_G1 {H : AH} {s : AV} {l : List Int} {cid : Int} (hs : Bs H s l) (hb : By l) (hl : l.length ≤ 65536) (m : Nat) (hm : 40 ≤ m)
    {O : List Int} {a : Nat} {s0 : Bool} (hO : takeS l 0 false 1 = (O, a, s0)) (h0 : s0 = false) (h128 : 128 ≤ valP O)
    {V : List Int} {a1 : Nat} {s1 : Bool} (hV : takeS l a false 4 = (V, a1, s1)) {N1 : List Int} {a2 : Nat} {s2 : Bool} (hN1 : takeS l a1 s1 1 = (N1, a2, s2)) {D : List Int} {a3 : Nat} {s3 : Bool} (hD : takeS l a2 s2 (valP N1) = (D, a3, s3))
    {N2 : List Int} {a4 : Nat} {s4 : Bool} (hN2 : takeS l a3 s3 1 = (N2, a4, s4)) {S : List Int} {a5 : Nat} {s5 : Bool} (hS : takeS l a4 s4 (valP N2) = (S, a5, s5)) (h2 : s2 = false) (h3 : ¬ 8 < valP N1) (h4 : s4 = false) (h5 : ¬ 8 < valP N2) (h6 : s5 = false) (h7 : ¬ valP V = 0) (hx : 240 ≤ valP O) (hx2 : valP O < 256) (hR : l.length - a5 < 9) : PsRes H s cid m (perr 2) := by
  obtain ⟨m, rfl⟩ : ∃ k, m = k + 1 := ⟨m - 1, by omega⟩
  obtain ⟨H1, k1, n1', K1, z0, z1, hq1, ha⟩ := peekS_pro hs hb hl m (by omega) hO
  have hL : ∀ h, lenA Try.prog 22 s h = some (.int .i64 l.length) := hs.len
  subst h0
  obtain ⟨H2, H4, d, H5, H6, t, H7, f1, f2, q4, f3, do1, g5, f4, q6, f5, to1, g7, q7, ha5, N2', N4, N5, N6, N7, G4, G6, G7, K4, K6, K7, Do, So⟩ := peekS_ids hs hb K1 (q := H.next + 2) (by omega) (by omega) hq1 ha hl m (by omega) hV hN1 hD hN2 hS
  have e40 := (G4 H.next (by omega) (by omega)).trans z0
  have e41 := (G4 (H.next + 1) (by omega) (by omega)).trans z1
  have e60 := (G6 H.next (by omega) (by omega)).trans z0
  have e61 := (G6 (H.next + 1) (by omega) (by omega)).trans z1
  have e70 := (G7 H.next (by omega) (by omega)).trans z0
  have e71 := (G7 (H.next + 1) (by omega) (by omega)).trans z1
  have m0 : ¬ (H.next = H2.next) := by omega
  have m0' : ¬ (H2.next = H.next) := by omega
  have m1 : ¬ (H.next + 1 = H2.next) := by omega
  have m1' : ¬ (H2.next = H.next + 1) := by omega
  have m2 : ¬ (H.next + 2 = H2.next) := by omega
  have m2' : ¬ (H2.next = H.next + 2) := by omega
  have r1 : ¬ (valP O < 64) := by omega
  have r2 : ¬ (valP O < 128) := by omega
  subst h2
  subst h4
  subst h6
  have wf : IntKind.i64.wrap (valP O - 192) = valP O - 192 := wrap_i64 (by omega) (by omega)
  have hk : (valP O - 192).tdiv 16 = 3 := by rw [Int.tdiv_eq_ediv_of_nonneg (by omega)]; omega
  have n3' : ¬ (valP O < 192) := by omega
  have wk : IntKind.i64.wrap 3 = 3 := wrap_i64 (by omega) (by omega)
  have KE : Kp H (H7.set H2.next (.cells 24 false [.int .i64 0, .int .i64 (valP V), d, t, .nilSlice, .int .i64 0, .int .i64 0, .int .i64 0])) := K7.set (by omega) _
  have RT := retry_ev (q := H.next + 2) (v := valP V) hs KE (by omega) (by simp; omega) (by simp [m2, q7]) ha5 hl do1 to1 m (by omega)
  have W0 : ∀ HR, Kx (H.next + 2) (H7.set H2.next (.cells 24 false [.int .i64 0, .int .i64 (valP V), d, t, .nilSlice, .int .i64 0, .int .i64 0, .int .i64 0])) HR → HR.get H.next = some (.cells 24 false zh) := fun HR y2 => by rw [y2.get _ (by simp; omega) (by omega), AH.set_get, if_neg m0]; exact e70
  obtain ⟨HR, y1, y2⟩ := RT.1 hR
  have w0 := W0 HR y2
  have KR := y2.kp KE (by omega)
  have hnR := y2.next
  simp only [AH.set_next] at hnR
  clear RT W0
  simp only [hdr] at y1
  simp only [rdB, zh] at *
  unfold PsRes
  rw [ev_eq Try.func58 ok58 m _ H (by simp [Try.f58])]
  simp [Try.f58, push_set2P, n11, n21, ldVar, stVar, perr, hdr, hs.one, cells_one hs.one, hL, k1, z0, z1, hq1, evHist, ObsOk, ObOk, f1, f2, q4, f3, do1, cells_one do1, g5, f4, q6, f5, to1, cells_one to1, g7, q7, e40, e41, e60, e61, e70, e71, m0, m0', m1, m1', m2, m2', r1, r2, h3, h5, h7, wf, hk, wk, n3', y1, w0]
  exact ⟨_, _, _, _, ⟨⟨rfl, rfl, rfl⟩, rfl⟩, KR.set (Nat.le_refl _) _, Ox.nil _ _, Ox.nil _ _, Ox.nil _ _⟩
theorem peekS_G2 {H : AH} {s : AV} {l : List Int} {cid : Int} (hs : Bs H s l) (hb : By l) (hl : l.length ≤ 65536) (m : Nat) (hm : 40 ≤ m)
    {O : List Int} {a : Nat} {s0 : Bool} (hO : takeS l 0 false 1 = (O, a, s0)) (h0 : s0 = false) (h128 : 128 ≤ valP O)
    {V : List Int} {a1 : Nat} {s1 : Bool} (hV : takeS l a false 4 = (V, a1, s1)) {N1 : List Int} {a2 : Nat} {s2 : Bool} (hN1 : takeS l a1 s1 1 = (N1, a2, s2)) {D : List Int} {a3 : Nat} {s3 : Bool} (hD : takeS l a2 s2 (valP N1) = (D, a3, s3))
    {N2 : List Int} {a4 : Nat} {s4 : Bool} (hN2 : takeS l a3 s3 1 = (N2, a4, s4)) {S : List Int} {a5 : Nat} {s5 : Bool} (hS : takeS l a4 s4 (valP N2) = (S, a5, s5)) (h2 : s2 = false) (h3 : ¬ 8 < valP N1) (h4 : s4 = false) (h5 : ¬ 8 < valP N2) (h6 : s5 = false) (h7 : ¬ valP V = 0) (hx : 240 ≤ valP O) (hx2 : valP O < 256) (hR : 72 < l.length - a5) : PsRes H s cid m (perr 3) := by
  obtain ⟨m, rfl⟩ : ∃ k, m = k + 1 := ⟨m - 1, by omega⟩
  obtain ⟨H1, k1, n1', K1, z0, z1, hq1, ha⟩ := peekS_pro hs hb hl m (by omega) hO
  have hL : ∀ h, lenA Try.prog 22 s h = some (.int .i64 l.length) := hs.len
  subst h0
  obtain ⟨H2, H4, d, H5, H6, t, H7, f1, f2, q4, f3, do1, g5, f4, q6, f5, to1, g7, q7, ha5, N2', N4, N5, N6, N7, G4, G6, G7, K4, K6, K7, Do, So⟩ := peekS_ids hs hb K1 (q := H.next + 2) (by omega) (by omega) hq1 ha hl m (by omega) hV hN1 hD hN2 hS
  have e40 := (G4 H.next (by omega) (by omega)).trans z0
  have e41 := (G4 (H.next + 1) (by omega) (by omega)).trans z1
  have e60 := (G6 H.next (by omega) (by omega)).trans z0
  have e61 := (G6 (H.next + 1) (by omega) (by omega)).trans z1
  have e70 := (G7 H.next (by omega) (by omega)).trans z0
  have e71 := (G7 (H.next + 1) (by omega) (by omega)).trans z1
  have m0 : ¬ (H.next = H2.next) := by omega
  have m0' : ¬ (H2.next = H.next) := by omega
  have m1 : ¬ (H.next + 1 = H2.next) := by omega
  have m1' : ¬ (H2.next = H.next + 1) := by omega
  have m2 : ¬ (H.next + 2 = H2.next) := by omega
  have m2' : ¬ (H2.next = H.next + 2) := by omega
  have r1 : ¬ (valP O < 64) := by omega
  have r2 : ¬ (valP O < 128) := by omega
  subst h2
  subst h4
  subst h6
  have wf : IntKind.i64.wrap (valP O - 192) = valP O - 192 := wrap_i64 (by omega) (by omega)
  have hk : (valP O - 192).tdiv 16 = 3 := by rw [Int.tdiv_eq_ediv_of_nonneg (by omega)]; omega
  have n3' : ¬ (valP O < 192) := by omega
  have wk : IntKind.i64.wrap 3 = 3 := wrap_i64 (by omega) (by omega)
  have KE : Kp H (H7.set H2.next (.cells 24 false [.int .i64 0, .int .i64 (valP V), d, t, .nilSlice, .int .i64 0, .int .i64 0, .int .i64 0])) := K7.set (by omega) _
  have RT := retry_ev (q := H.next + 2) (v := valP V) hs KE (by omega) (by simp; omega) (by simp [m2, q7]) ha5 hl do1 to1 m (by omega)
  have W0 : ∀ HR, Kx (H.next + 2) (H7.set H2.next (.cells 24 false [.int .i64 0, .int .i64 (valP V), d, t, .nilSlice, .int .i64 0, .int .i64 0, .int .i64 0])) HR → HR.get H.next = some (.cells 24 false zh) := fun HR y2 => by rw [y2.get _ (by simp; omega) (by omega), AH.set_get, if_neg m0]; exact e70
  obtain ⟨HR, y1, y2⟩ := RT.2.1 hR
  have w0 := W0 HR y2
  have KR := y2.kp KE (by omega)
  have hnR := y2.next
  simp only [AH.set_next] at hnR
  clear RT W0
  simp only [hdr] at y1
  simp only [rdB, zh] at *
  unfold PsRes
  rw [ev_eq Try.func58 ok58 m _ H (by simp [Try.f58])]
  simp [Try.f58, push_set2P, n11, n21, ldVar, stVar, perr, hdr, hs.one, cells_one hs.one, hL, k1, z0, z1, hq1, evHist, ObsOk, ObOk, f1, f2, q4, f3, do1, cells_one do1, g5, f4, q6, f5, to1, cells_one to1, g7, q7, e40, e41, e60, e61, e70, e71, m0, m0', m1, m1', m2, m2', r1, r2, h3, h5, h7, wf, hk, wk, n3', y1, w0]
  exact ⟨_, _, _, _, ⟨⟨rfl, rfl, rfl⟩, rfl⟩, KR.set (Nat.le_refl _) _, Ox.nil _ _, Ox.nil _ _, Ox.nil _ _⟩
theorem peekS_G3 {H : AH} {s : AV} {l : List Int} {cid : Int} (hs : Bs H s l) (hb : By l) (hl : l.length ≤ 65536) (m : Nat) (hm : 40 ≤ m)
    {O : List Int} {a : Nat} {s0 : Bool} (hO : takeS l 0 false 1 = (O, a, s0)) (h0 : s0 = false) (h128 : 128 ≤ valP O)
    {V : List Int} {a1 : Nat} {s1 : Bool} (hV : takeS l a false 4 = (V, a1, s1)) {N1 : List Int} {a2 : Nat} {s2 : Bool} (hN1 : takeS l a1 s1 1 = (N1, a2, s2)) {D : List Int} {a3 : Nat} {s3 : Bool} (hD : takeS l a2 s2 (valP N1) = (D, a3, s3))
    {N2 : List Int} {a4 : Nat} {s4 : Bool} (hN2 : takeS l a3 s3 1 = (N2, a4, s4)) {S : List Int} {a5 : Nat} {s5 : Bool} (hS : takeS l a4 s4 (valP N2) = (S, a5, s5)) (h2 : s2 = false) (h3 : ¬ 8 < valP N1) (h4 : s4 = false) (h5 : ¬ 8 < valP N2) (h6 : s5 = false) (h7 : ¬ valP V = 0) (hx : 240 ≤ valP O) (hx2 : valP O < 256) (hR : 9 ≤ l.length - a5) (hR2 : l.length - a5 ≤ 72) : PsRes H s cid m ⟨0, 3, valP V, D, S, (l.drop a5).take (l.length - a5 - 8), l.length⟩ := by
  obtain ⟨m, rfl⟩ : ∃ k, m = k + 1 := ⟨m - 1, by omega⟩
  obtain ⟨H1, k1, n1', K1, z0, z1, hq1, ha⟩ := peekS_pro hs hb hl m (by omega) hO
  have hL : ∀ h, lenA Try.prog 22 s h = some (.int .i64 l.length) := hs.len
  subst h0
  obtain ⟨H2, H4, d, H5, H6, t, H7, f1, f2, q4, f3, do1, g5, f4, q6, f5, to1, g7, q7, ha5, N2', N4, N5, N6, N7, G4, G6, G7, K4, K6, K7, Do, So⟩ := peekS_ids hs hb K1 (q := H.next + 2) (by omega) (by omega) hq1 ha hl m (by omega) hV hN1 hD hN2 hS
  have e40 := (G4 H.next (by omega) (by omega)).trans z0
  have e41 := (G4 (H.next + 1) (by omega) (by omega)).trans z1
  have e60 := (G6 H.next (by omega) (by omega)).trans z0
  have e61 := (G6 (H.next + 1) (by omega) (by omega)).trans z1
  have e70 := (G7 H.next (by omega) (by omega)).trans z0
  have e71 := (G7 (H.next + 1) (by omega) (by omega)).trans z1
  have m0 : ¬ (H.next = H2.next) := by omega
  have m0' : ¬ (H2.next = H.next) := by omega
  have m1 : ¬ (H.next + 1 = H2.next) := by omega
  have m1' : ¬ (H2.next = H.next + 1) := by omega
  have m2 : ¬ (H.next + 2 = H2.next) := by omega
  have m2' : ¬ (H2.next = H.next + 2) := by omega
  have r1 : ¬ (valP O < 64) := by omega
  have r2 : ¬ (valP O < 128) := by omega
  subst h2
  subst h4
  subst h6
  have wf : IntKind.i64.wrap (valP O - 192) = valP O - 192 := wrap_i64 (by omega) (by omega)
  have hk : (valP O - 192).tdiv 16 = 3 := by rw [Int.tdiv_eq_ediv_of_nonneg (by omega)]; omega
  have n3' : ¬ (valP O < 192) := by omega
  have wk : IntKind.i64.wrap 3 = 3 := wrap_i64 (by omega) (by omega)
  have KE : Kp H (H7.set H2.next (.cells 24 false [.int .i64 0, .int .i64 (valP V), d, t, .nilSlice, .int .i64 0, .int .i64 0, .int .i64 0])) := K7.set (by omega) _
  have RT := retry_ev (q := H.next + 2) (v := valP V) hs KE (by omega) (by simp; omega) (by simp [m2, q7]) ha5 hl do1 to1 m (by omega)
  have W0 : ∀ HR, Kx (H.next + 2) (H7.set H2.next (.cells 24 false [.int .i64 0, .int .i64 (valP V), d, t, .nilSlice, .int .i64 0, .int .i64 0, .int .i64 0])) HR → HR.get H.next = some (.cells 24 false zh) := fun HR y2 => by rw [y2.get _ (by simp; omega) (by omega), AH.set_get, if_neg m0]; exact e70
  obtain ⟨rt, HR, y1, y2, y3, y4⟩ := RT.2.2 hR hR2
  have w0 := W0 HR y2
  have KR := y2.kp KE (by omega)
  have hnR := y2.next
  simp only [AH.set_next] at hnR
  clear RT W0
  simp only [hdr] at y1
  simp only [rdB, zh] at *
  unfold PsRes
  rw [ev_eq Try.func58 ok58 m _ H (by simp [Try.f58])]
  simp [Try.f58, push_set2P, n11, n21, ldVar, stVar, perr, hdr, hs.one, cells_one hs.one, hL, k1, z0, z1, hq1, evHist, ObsOk, ObOk, f1, f2, q4, f3, do1, cells_one do1, g5, f4, q6, f5, to1, cells_one to1, g7, q7, e40, e41, e60, e61, e70, e71, m0, m0', m1, m1', m2, m2', r1, r2, h3, h5, h7, wf, hk, wk, n3', y1, w0, y3, cells_one y3]
  simp only [AH.set_next] at y4
  exact ⟨_, _, _, _, ⟨⟨rfl, rfl, rfl⟩, rfl⟩, KR.set (Nat.le_refl _) _, (((Do.set _ (by omega)).kx y2 (by omega)).set _ (by omega)).ox (by omega), (((So.set _ (by omega)).kx y2 (by omega)).set _ (by omega)).ox (by omega), (y4.set _ (by omega)).ox (by omega)⟩
theorem peekS_H1 {H : AH} {s : AV} {l : List Int} {cid : Int} (hs : Bs H s l) (hb : By l) (hl : l.length ≤ 65536) (m : Nat) (hm : 40 ≤ m)
    {O : List Int} {a : Nat} {s0 : Bool} (hO : takeS l 0 false 1 = (O, a, s0)) (h0 : s0 = false) (h128 : 128 ≤ valP O)
    {V : List Int} {a1 : Nat} {s1 : Bool} (hV : takeS l a false 4 = (V, a1, s1)) {N1 : List Int} {a2 : Nat} {s2 : Bool} (hN1 : takeS l a1 s1 1 = (N1, a2, s2)) {D : List Int} {a3 : Nat} {s3 : Bool} (hD : takeS l a2 s2 (valP N1) = (D, a3, s3))
    {N2 : List Int} {a4 : Nat} {s4 : Bool} (hN2 : takeS l a3 s3 1 = (N2, a4, s4)) {S : List Int} {a5 : Nat} {s5 : Bool} (hS : takeS l a4 s4 (valP N2) = (S, a5, s5)) (h2 : s2 = false) (h3 : ¬ 8 < valP N1) (h4 : s4 = false) (h5 : ¬ 8 < valP N2) (h6 : s5 = false) (h7 : ¬ valP V = 0) (hx : 224 ≤ valP O) (hx2 : valP O < 240) {n : Int} {a8 : Nat} {s8 : Bool} (hN : varS l a5 false = (n, a8, s8)) {E : List Int} {a9 : Nat} {s9 : Bool} (hE : takeS l a8 s8 n = (E, a9, s9)) (p1 : s8 = true) : PsRes H s cid m (perr 2) := by
  obtain ⟨m, rfl⟩ : ∃ k, m = k + 1 := ⟨m - 1, by omega⟩
  obtain ⟨H1, k1, n1', K1, z0, z1, hq1, ha⟩ := peekS_pro hs hb hl m (by omega) hO
  have hL : ∀ h, lenA Try.prog 22 s h = some (.int .i64 l.length) := hs.len
  subst h0
  obtain ⟨H2, H4, d, H5, H6, t, H7, f1, f2, q4, f3, do1, g5, f4, q6, f5, to1, g7, q7, ha5, N2', N4, N5, N6, N7, G4, G6, G7, K4, K6, K7, Do, So⟩ := peekS_ids hs hb K1 (q := H.next + 2) (by omega) (by omega) hq1 ha hl m (by omega) hV hN1 hD hN2 hS
  have e40 := (G4 H.next (by omega) (by omega)).trans z0
  have e41 := (G4 (H.next + 1) (by omega) (by omega)).trans z1
  have e60 := (G6 H.next (by omega) (by omega)).trans z0
  have e61 := (G6 (H.next + 1) (by omega) (by omega)).trans z1
  have e70 := (G7 H.next (by omega) (by omega)).trans z0
  have e71 := (G7 (H.next + 1) (by omega) (by omega)).trans z1
  have m0 : ¬ (H.next = H2.next) := by omega
  have m0' : ¬ (H2.next = H.next) := by omega
  have m1 : ¬ (H.next + 1 = H2.next) := by omega
  have m1' : ¬ (H2.next = H.next + 1) := by omega
  have m2 : ¬ (H.next + 2 = H2.next) := by omega
  have m2' : ¬ (H2.next = H.next + 2) := by omega
  have r1 : ¬ (valP O < 64) := by omega
  have r2 : ¬ (valP O < 128) := by omega
  subst h2
  subst h4
  subst h6
  have wf : IntKind.i64.wrap (valP O - 192) = valP O - 192 := wrap_i64 (by omega) (by omega)
  have hk : (valP O - 192).tdiv 16 = 2 := by rw [Int.tdiv_eq_ediv_of_nonneg (by omega)]; omega
  have n3' : ¬ (valP O < 192) := by omega
  have wk : IntKind.i64.wrap 2 = 2 := wrap_i64 (by omega) (by omega)
  have KE : Kp H (H7.set H2.next (.cells 24 false [.int .i64 2, .int .i64 (valP V), d, t, .nilSlice, .int .i64 0, .int .i64 0, .int .i64 0])) := K7.set (by omega) _
  obtain ⟨H8, v1, v2, v3, v4, v5⟩ := var_ev (q := H.next + 2) hs hb KE (by omega) (by simp; omega) (show _ = some (rdB s a5 false) by simp [m2, q7]) ha5 hl m (by omega)
  have vr := varS_rng hb a5 false
  rw [hN] at v1 v4 v5 vr; simp only at v1 v4 v5 vr
  simp only [AH.set_next] at v3
  have K8 := v2.kp KE (by omega)
  have u80 : H8.get H.next = some (.cells 24 false zh) := by rw [v2.get _ (by simp; omega) (by omega), AH.set_get, if_neg m0]; exact e70
  have u81 : H8.get (H.next + 1) = some (.cells 24 false zh) := by rw [v2.get _ (by simp; omega) (by omega), AH.set_get, if_neg m1]; exact e71
  have u82 : H8.get H2.next = some (.cells 24 false [.int .i64 2, .int .i64 (valP V), d, t, .nilSlice, .int .i64 0, .int .i64 0, .int .i64 0]) := by rw [v2.get _ (by simp; omega) (by omega)]; simp
  have ft := fault_ev v4 m (by omega)
  obtain ⟨rE, H9, c1, c2, c3, c4, c5⟩ := takeR_ev hs K8 (q := H.next + 2) (by omega) (by omega) v4 v5 hl n vr.1 vr.2 m (by omega)
  rw [hE] at c3 c4 c5; simp only at c3 c4 c5
  have n9 := c2.next
  have K9 := c2.kp K8 (by omega)
  have u90 := (c2.get H.next (by omega) (by omega)).trans u80
  have u91 := (c2.get (H.next + 1) (by omega) (by omega)).trans u81
  have u92 := (c2.get H2.next (by omega) (by omega)).trans u82
  subst p1
  simp only [rdB, zh] at *
  unfold PsRes
  rw [ev_eq Try.func58 ok58 m _ H (by simp [Try.f58])]
  simp [Try.f58, push_set2P, n11, n21, ldVar, stVar, perr, hdr, hs.one, cells_one hs.one, hL, k1, z0, z1, hq1, evHist, ObsOk, ObOk, f1, f2, q4, f3, do1, cells_one do1, g5, f4, q6, f5, to1, cells_one to1, g7, q7, e40, e41, e60, e61, e70, e71, m0, m0', m1, m1', m2, m2', r1, r2, h3, h5, h7, wf, hk, wk, n3', v1, v4, u80, u81, u82, c1, c4, u90, u91, u92, ft]
  exact ⟨_, _, _, _, ⟨⟨rfl, rfl, rfl⟩, rfl⟩, K8.set (Nat.le_refl _) _, Ox.nil _ _, Ox.nil _ _, Ox.nil _ _⟩
theorem peekS_H2 {H : AH} {s : AV} {l : List Int} {cid : Int} (hs : Bs H s l) (hb : By l) (hl : l.length ≤ 65536) (m : Nat) (hm : 40 ≤ m)
    {O : List Int} {a : Nat} {s0 : Bool} (hO : takeS l 0 false 1 = (O, a, s0)) (h0 : s0 = false) (h128 : 128 ≤ valP O)
    {V : List Int} {a1 : Nat} {s1 : Bool} (hV : takeS l a false 4 = (V, a1, s1)) {N1 : List Int} {a2 : Nat} {s2 : Bool} (hN1 : takeS l a1 s1 1 = (N1, a2, s2)) {D : List Int} {a3 : Nat} {s3 : Bool} (hD : takeS l a2 s2 (valP N1) = (D, a3, s3))
    {N2 : List Int} {a4 : Nat} {s4 : Bool} (hN2 : takeS l a3 s3 1 = (N2, a4, s4)) {S : List Int} {a5 : Nat} {s5 : Bool} (hS : takeS l a4 s4 (valP N2) = (S, a5, s5)) (h2 : s2 = false) (h3 : ¬ 8 < valP N1) (h4 : s4 = false) (h5 : ¬ 8 < valP N2) (h6 : s5 = false) (h7 : ¬ valP V = 0) (hx : 224 ≤ valP O) (hx2 : valP O < 240) {n : Int} {a8 : Nat} {s8 : Bool} (hN : varS l a5 false = (n, a8, s8)) {E : List Int} {a9 : Nat} {s9 : Bool} (hE : takeS l a8 s8 n = (E, a9, s9)) (p1 : s8 = false) (p2 : n < 12) : PsRes H s cid m (perr 3) := by
  obtain ⟨m, rfl⟩ : ∃ k, m = k + 1 := ⟨m - 1, by omega⟩
  obtain ⟨H1, k1, n1', K1, z0, z1, hq1, ha⟩ := peekS_pro hs hb hl m (by omega) hO
  have hL : ∀ h, lenA Try.prog 22 s h = some (.int .i64 l.length) := hs.len
  subst h0
  obtain ⟨H2, H4, d, H5, H6, t, H7, f1, f2, q4, f3, do1, g5, f4, q6, f5, to1, g7, q7, ha5, N2', N4, N5, N6, N7, G4, G6, G7, K4, K6, K7, Do, So⟩ := peekS_ids hs hb K1 (q := H.next + 2) (by omega) (by omega) hq1 ha hl m (by omega) hV hN1 hD hN2 hS
  have e40 := (G4 H.next (by omega) (by omega)).trans z0
  have e41 := (G4 (H.next + 1) (by omega) (by omega)).trans z1
  have e60 := (G6 H.next (by omega) (by omega)).trans z0
  have e61 := (G6 (H.next + 1) (by omega) (by omega)).trans z1
  have e70 := (G7 H.next (by omega) (by omega)).trans z0
  have e71 := (G7 (H.next + 1) (by omega) (by omega)).trans z1
  have m0 : ¬ (H.next = H2.next) := by omega
  have m0' : ¬ (H2.next = H.next) := by omega
  have m1 : ¬ (H.next + 1 = H2.next) := by omega
  have m1' : ¬ (H2.next = H.next + 1) := by omega
  have m2 : ¬ (H.next + 2 = H2.next) := by omega
  have m2' : ¬ (H2.next = H.next + 2) := by omega
  have r1 : ¬ (valP O < 64) := by omega
  have r2 : ¬ (valP O < 128) := by omega
  subst h2
  subst h4
  subst h6
  have wf : IntKind.i64.wrap (valP O - 192) = valP O - 192 := wrap_i64 (by omega) (by omega)
  have hk : (valP O - 192).tdiv 16 = 2 := by rw [Int.tdiv_eq_ediv_of_nonneg (by omega)]; omega
  have n3' : ¬ (valP O < 192) := by omega
  have wk : IntKind.i64.wrap 2 = 2 := wrap_i64 (by omega) (by omega)
  have KE : Kp H (H7.set H2.next (.cells 24 false [.int .i64 2, .int .i64 (valP V), d, t, .nilSlice, .int .i64 0, .int .i64 0, .int .i64 0])) := K7.set (by omega) _
  obtain ⟨H8, v1, v2, v3, v4, v5⟩ := var_ev (q := H.next + 2) hs hb KE (by omega) (by simp; omega) (show _ = some (rdB s a5 false) by simp [m2, q7]) ha5 hl m (by omega)
  have vr := varS_rng hb a5 false
  rw [hN] at v1 v4 v5 vr; simp only at v1 v4 v5 vr
  simp only [AH.set_next] at v3
  have K8 := v2.kp KE (by omega)
  have u80 : H8.get H.next = some (.cells 24 false zh) := by rw [v2.get _ (by simp; omega) (by omega), AH.set_get, if_neg m0]; exact e70
  have u81 : H8.get (H.next + 1) = some (.cells 24 false zh) := by rw [v2.get _ (by simp; omega) (by omega), AH.set_get, if_neg m1]; exact e71
  have u82 : H8.get H2.next = some (.cells 24 false [.int .i64 2, .int .i64 (valP V), d, t, .nilSlice, .int .i64 0, .int .i64 0, .int .i64 0]) := by rw [v2.get _ (by simp; omega) (by omega)]; simp
  have ft := fault_ev v4 m (by omega)
  obtain ⟨rE, H9, c1, c2, c3, c4, c5⟩ := takeR_ev hs K8 (q := H.next + 2) (by omega) (by omega) v4 v5 hl n vr.1 vr.2 m (by omega)
  rw [hE] at c3 c4 c5; simp only at c3 c4 c5
  have n9 := c2.next
  have K9 := c2.kp K8 (by omega)
  have u90 := (c2.get H.next (by omega) (by omega)).trans u80
  have u91 := (c2.get (H.next + 1) (by omega) (by omega)).trans u81
  have u92 := (c2.get H2.next (by omega) (by omega)).trans u82
  subst p1
  simp only [rdB, zh] at *
  unfold PsRes
  rw [ev_eq Try.func58 ok58 m _ H (by simp [Try.f58])]
  simp [Try.f58, push_set2P, n11, n21, ldVar, stVar, perr, hdr, hs.one, cells_one hs.one, hL, k1, z0, z1, hq1, evHist, ObsOk, ObOk, f1, f2, q4, f3, do1, cells_one do1, g5, f4, q6, f5, to1, cells_one to1, g7, q7, e40, e41, e60, e61, e70, e71, m0, m0', m1, m1', m2, m2', r1, r2, h3, h5, h7, wf, hk, wk, n3', v1, v4, u80, u81, u82, c1, c4, u90, u91, u92, ft, p2]
  exact ⟨_, _, _, _, ⟨⟨rfl, rfl, rfl⟩, rfl⟩, K8.set (Nat.le_refl _) _, Ox.nil _ _, Ox.nil _ _, Ox.nil _ _⟩
theorem peekS_H3 {H : AH} {s : AV} {l : List Int} {cid : Int} (hs : Bs H s l) (hb : By l) (hl : l.length ≤ 65536) (m : Nat) (hm : 40 ≤ m)
    {O : List Int} {a : Nat} {s0 : Bool} (hO : takeS l 0 false 1 = (O, a, s0)) (h0 : s0 = false) (h128 : 128 ≤ valP O)
    {V : List Int} {a1 : Nat} {s1 : Bool} (hV : takeS l a false 4 = (V, a1, s1)) {N1 : List Int} {a2 : Nat} {s2 : Bool} (hN1 : takeS l a1 s1 1 = (N1, a2, s2)) {D : List Int} {a3 : Nat} {s3 : Bool} (hD : takeS l a2 s2 (valP N1) = (D, a3, s3))
    {N2 : List Int} {a4 : Nat} {s4 : Bool} (hN2 : takeS l a3 s3 1 = (N2, a4, s4)) {S : List Int} {a5 : Nat} {s5 : Bool} (hS : takeS l a4 s4 (valP N2) = (S, a5, s5)) (h2 : s2 = false) (h3 : ¬ 8 < valP N1) (h4 : s4 = false) (h5 : ¬ 8 < valP N2) (h6 : s5 = false) (h7 : ¬ valP V = 0) (hx : 224 ≤ valP O) (hx2 : valP O < 240) {n : Int} {a8 : Nat} {s8 : Bool} (hN : varS l a5 false = (n, a8, s8)) {E : List Int} {a9 : Nat} {s9 : Bool} (hE : takeS l a8 s8 n = (E, a9, s9)) (p1 : s8 = false) (p2 : ¬ n < 12) (p3 : 1508 < n) : PsRes H s cid m (perr 3) := by
  obtain ⟨m, rfl⟩ : ∃ k, m = k + 1 := ⟨m - 1, by omega⟩
  obtain ⟨H1, k1, n1', K1, z0, z1, hq1, ha⟩ := peekS_pro hs hb hl m (by omega) hO
  have hL : ∀ h, lenA Try.prog 22 s h = some (.int .i64 l.length) := hs.len
  subst h0
  obtain ⟨H2, H4, d, H5, H6, t, H7, f1, f2, q4, f3, do1, g5, f4, q6, f5, to1, g7, q7, ha5, N2', N4, N5, N6, N7, G4, G6, G7, K4, K6, K7, Do, So⟩ := peekS_ids hs hb K1 (q := H.next + 2) (by omega) (by omega) hq1 ha hl m (by omega) hV hN1 hD hN2 hS
  have e40 := (G4 H.next (by omega) (by omega)).trans z0
  have e41 := (G4 (H.next + 1) (by omega) (by omega)).trans z1
  have e60 := (G6 H.next (by omega) (by omega)).trans z0
  have e61 := (G6 (H.next + 1) (by omega) (by omega)).trans z1
  have e70 := (G7 H.next (by omega) (by omega)).trans z0
  have e71 := (G7 (H.next + 1) (by omega) (by omega)).trans z1
  have m0 : ¬ (H.next = H2.next) := by omega
  have m0' : ¬ (H2.next = H.next) := by omega
  have m1 : ¬ (H.next + 1 = H2.next) := by omega
  have m1' : ¬ (H2.next = H.next + 1) := by omega
  have m2 : ¬ (H.next + 2 = H2.next) := by omega
  have m2' : ¬ (H2.next = H.next + 2) := by omega
  have r1 : ¬ (valP O < 64) := by omega
  have r2 : ¬ (valP O < 128) := by omega
  subst h2
  subst h4
  subst h6
  have wf : IntKind.i64.wrap (valP O - 192) = valP O - 192 := wrap_i64 (by omega) (by omega)
  have hk : (valP O - 192).tdiv 16 = 2 := by rw [Int.tdiv_eq_ediv_of_nonneg (by omega)]; omega
  have n3' : ¬ (valP O < 192) := by omega
  have wk : IntKind.i64.wrap 2 = 2 := wrap_i64 (by omega) (by omega)
  have KE : Kp H (H7.set H2.next (.cells 24 false [.int .i64 2, .int .i64 (valP V), d, t, .nilSlice, .int .i64 0, .int .i64 0, .int .i64 0])) := K7.set (by omega) _
  obtain ⟨H8, v1, v2, v3, v4, v5⟩ := var_ev (q := H.next + 2) hs hb KE (by omega) (by simp; omega) (show _ = some (rdB s a5 false) by simp [m2, q7]) ha5 hl m (by omega)
  have vr := varS_rng hb a5 false
  rw [hN] at v1 v4 v5 vr; simp only at v1 v4 v5 vr
  simp only [AH.set_next] at v3
  have K8 := v2.kp KE (by omega)
  have u80 : H8.get H.next = some (.cells 24 false zh) := by rw [v2.get _ (by simp; omega) (by omega), AH.set_get, if_neg m0]; exact e70
  have u81 : H8.get (H.next + 1) = some (.cells 24 false zh) := by rw [v2.get _ (by simp; omega) (by omega), AH.set_get, if_neg m1]; exact e71
  have u82 : H8.get H2.next = some (.cells 24 false [.int .i64 2, .int .i64 (valP V), d, t, .nilSlice, .int .i64 0, .int .i64 0, .int .i64 0]) := by rw [v2.get _ (by simp; omega) (by omega)]; simp
  have ft := fault_ev v4 m (by omega)
  obtain ⟨rE, H9, c1, c2, c3, c4, c5⟩ := takeR_ev hs K8 (q := H.next + 2) (by omega) (by omega) v4 v5 hl n vr.1 vr.2 m (by omega)
  rw [hE] at c3 c4 c5; simp only at c3 c4 c5
  have n9 := c2.next
  have K9 := c2.kp K8 (by omega)
  have u90 := (c2.get H.next (by omega) (by omega)).trans u80
  have u91 := (c2.get (H.next + 1) (by omega) (by omega)).trans u81
  have u92 := (c2.get H2.next (by omega) (by omega)).trans u82
  subst p1
  simp only [rdB, zh] at *
  unfold PsRes
  rw [ev_eq Try.func58 ok58 m _ H (by simp [Try.f58])]
  simp [Try.f58, push_set2P, n11, n21, ldVar, stVar, perr, hdr, hs.one, cells_one hs.one, hL, k1, z0, z1, hq1, evHist, ObsOk, ObOk, f1, f2, q4, f3, do1, cells_one do1, g5, f4, q6, f5, to1, cells_one to1, g7, q7, e40, e41, e60, e61, e70, e71, m0, m0', m1, m1', m2, m2', r1, r2, h3, h5, h7, wf, hk, wk, n3', v1, v4, u80, u81, u82, c1, c4, u90, u91, u92, ft, p2, p3]
  exact ⟨_, _, _, _, ⟨⟨rfl, rfl, rfl⟩, rfl⟩, K8.set (Nat.le_refl _) _, Ox.nil _ _, Ox.nil _ _, Ox.nil _ _⟩
theorem peekS_H4 {H : AH} {s : AV} {l : List Int} {cid : Int} (hs : Bs H s l) (hb : By l) (hl : l.length ≤ 65536) (m : Nat) (hm : 40 ≤ m)
    {O : List Int} {a : Nat} {s0 : Bool} (hO : takeS l 0 false 1 = (O, a, s0)) (h0 : s0 = false) (h128 : 128 ≤ valP O)
    {V : List Int} {a1 : Nat} {s1 : Bool} (hV : takeS l a false 4 = (V, a1, s1)) {N1 : List Int} {a2 : Nat} {s2 : Bool} (hN1 : takeS l a1 s1 1 = (N1, a2, s2)) {D : List Int} {a3 : Nat} {s3 : Bool} (hD : takeS l a2 s2 (valP N1) = (D, a3, s3))
    {N2 : List Int} {a4 : Nat} {s4 : Bool} (hN2 : takeS l a3 s3 1 = (N2, a4, s4)) {S : List Int} {a5 : Nat} {s5 : Bool} (hS : takeS l a4 s4 (valP N2) = (S, a5, s5)) (h2 : s2 = false) (h3 : ¬ 8 < valP N1) (h4 : s4 = false) (h5 : ¬ 8 < valP N2) (h6 : s5 = false) (h7 : ¬ valP V = 0) (hx : 224 ≤ valP O) (hx2 : valP O < 240) {n : Int} {a8 : Nat} {s8 : Bool} (hN : varS l a5 false = (n, a8, s8)) {E : List Int} {a9 : Nat} {s9 : Bool} (hE : takeS l a8 s8 n = (E, a9, s9)) (p1 : s8 = false) (p2 : ¬ n < 12) (p3 : ¬ 1508 < n) (p4 : s9 = true) : PsRes H s cid m (perr 2) := by
  obtain ⟨m, rfl⟩ : ∃ k, m = k + 1 := ⟨m - 1, by omega⟩
  obtain ⟨H1, k1, n1', K1, z0, z1, hq1, ha⟩ := peekS_pro hs hb hl m (by omega) hO
  have hL : ∀ h, lenA Try.prog 22 s h = some (.int .i64 l.length) := hs.len
  subst h0
  obtain ⟨H2, H4, d, H5, H6, t, H7, f1, f2, q4, f3, do1, g5, f4, q6, f5, to1, g7, q7, ha5, N2', N4, N5, N6, N7, G4, G6, G7, K4, K6, K7, Do, So⟩ := peekS_ids hs hb K1 (q := H.next + 2) (by omega) (by omega) hq1 ha hl m (by omega) hV hN1 hD hN2 hS
  have e40 := (G4 H.next (by omega) (by omega)).trans z0
  have e41 := (G4 (H.next + 1) (by omega) (by omega)).trans z1
  have e60 := (G6 H.next (by omega) (by omega)).trans z0
  have e61 := (G6 (H.next + 1) (by omega) (by omega)).trans z1
  have e70 := (G7 H.next (by omega) (by omega)).trans z0
  have e71 := (G7 (H.next + 1) (by omega) (by omega)).trans z1
  have m0 : ¬ (H.next = H2.next) := by omega
  have m0' : ¬ (H2.next = H.next) := by omega
  have m1 : ¬ (H.next + 1 = H2.next) := by omega
  have m1' : ¬ (H2.next = H.next + 1) := by omega
  have m2 : ¬ (H.next + 2 = H2.next) := by omega
  have m2' : ¬ (H2.next = H.next + 2) := by omega
  have r1 : ¬ (valP O < 64) := by omega
  have r2 : ¬ (valP O < 128) := by omega
  subst h2
  subst h4
  subst h6
  have wf : IntKind.i64.wrap (valP O - 192) = valP O - 192 := wrap_i64 (by omega) (by omega)
  have hk : (valP O - 192).tdiv 16 = 2 := by rw [Int.tdiv_eq_ediv_of_nonneg (by omega)]; omega
  have n3' : ¬ (valP O < 192) := by omega
  have wk : IntKind.i64.wrap 2 = 2 := wrap_i64 (by omega) (by omega)
  have KE : Kp H (H7.set H2.next (.cells 24 false [.int .i64 2, .int .i64 (valP V), d, t, .nilSlice, .int .i64 0, .int .i64 0, .int .i64 0])) := K7.set (by omega) _
  obtain ⟨H8, v1, v2, v3, v4, v5⟩ := var_ev (q := H.next + 2) hs hb KE (by omega) (by simp; omega) (show _ = some (rdB s a5 false) by simp [m2, q7]) ha5 hl m (by omega)
  have vr := varS_rng hb a5 false
  rw [hN] at v1 v4 v5 vr; simp only at v1 v4 v5 vr
  simp only [AH.set_next] at v3
  have K8 := v2.kp KE (by omega)
  have u80 : H8.get H.next = some (.cells 24 false zh) := by rw [v2.get _ (by simp; omega) (by omega), AH.set_get, if_neg m0]; exact e70
  have u81 : H8.get (H.next + 1) = some (.cells 24 false zh) := by rw [v2.get _ (by simp; omega) (by omega), AH.set_get, if_neg m1]; exact e71
  have u82 : H8.get H2.next = some (.cells 24 false [.int .i64 2, .int .i64 (valP V), d, t, .nilSlice, .int .i64 0, .int .i64 0, .int .i64 0]) := by rw [v2.get _ (by simp; omega) (by omega)]; simp
  have ft := fault_ev v4 m (by omega)
  obtain ⟨rE, H9, c1, c2, c3, c4, c5⟩ := takeR_ev hs K8 (q := H.next + 2) (by omega) (by omega) v4 v5 hl n vr.1 vr.2 m (by omega)
  rw [hE] at c3 c4 c5; simp only at c3 c4 c5
  have n9 := c2.next
  have K9 := c2.kp K8 (by omega)
  have u90 := (c2.get H.next (by omega) (by omega)).trans u80
  have u91 := (c2.get (H.next + 1) (by omega) (by omega)).trans u81
  have u92 := (c2.get H2.next (by omega) (by omega)).trans u82
  subst p1
  subst p4
  simp only [rdB, zh] at *
  unfold PsRes
  rw [ev_eq Try.func58 ok58 m _ H (by simp [Try.f58])]
  simp [Try.f58, push_set2P, n11, n21, ldVar, stVar, perr, hdr, hs.one, cells_one hs.one, hL, k1, z0, z1, hq1, evHist, ObsOk, ObOk, f1, f2, q4, f3, do1, cells_one do1, g5, f4, q6, f5, to1, cells_one to1, g7, q7, e40, e41, e60, e61, e70, e71, m0, m0', m1, m1', m2, m2', r1, r2, h3, h5, h7, wf, hk, wk, n3', v1, v4, u80, u81, u82, c1, c4, u90, u91, u92, p2, p3]
  exact ⟨_, _, _, _, ⟨⟨rfl, rfl, rfl⟩, rfl⟩, K9.set (Nat.le_refl _) _, Ox.nil _ _, Ox.nil _ _, Ox.nil _ _⟩
theorem peekS_H5 {H : AH} {s : AV} {l : List Int} {cid : Int} (hs : Bs H s l) (hb : By l) (hl : l.length ≤ 65536) (m : Nat) (hm : 40 ≤ m)
    {O : List Int} {a : Nat} {s0 : Bool} (hO : takeS l 0 false 1 = (O, a, s0)) (h0 : s0 = false) (h128 : 128 ≤ valP O)
    {V : List Int} {a1 : Nat} {s1 : Bool} (hV : takeS l a false 4 = (V, a1, s1)) {N1 : List Int} {a2 : Nat} {s2 : Bool} (hN1 : takeS l a1 s1 1 = (N1, a2, s2)) {D : List Int} {a3 : Nat} {s3 : Bool} (hD : takeS l a2 s2 (valP N1) = (D, a3, s3))
    {N2 : List Int} {a4 : Nat} {s4 : Bool} (hN2 : takeS l a3 s3 1 = (N2, a4, s4)) {S : List Int} {a5 : Nat} {s5 : Bool} (hS : takeS l a4 s4 (valP N2) = (S, a5, s5)) (h2 : s2 = false) (h3 : ¬ 8 < valP N1) (h4 : s4 = false) (h5 : ¬ 8 < valP N2) (h6 : s5 = false) (h7 : ¬ valP V = 0) (hx : 224 ≤ valP O) (hx2 : valP O < 240) {n : Int} {a8 : Nat} {s8 : Bool} (hN : varS l a5 false = (n, a8, s8)) {E : List Int} {a9 : Nat} {s9 : Bool} (hE : takeS l a8 s8 n = (E, a9, s9)) (p1 : s8 = false) (p2 : ¬ n < 12) (p3 : ¬ 1508 < n) (p4 : s9 = false) : PsRes H s cid m ⟨0, 2, valP V, D, S, [], a9⟩ := by
  obtain ⟨m, rfl⟩ : ∃ k, m = k + 1 := ⟨m - 1, by omega⟩
  obtain ⟨H1, k1, n1', K1, z0, z1, hq1, ha⟩ := peekS_pro hs hb hl m (by omega) hO
  have hL : ∀ h, lenA Try.prog 22 s h = some (.int .i64 l.length) := hs.len
  subst h0
  obtain ⟨H2, H4, d, H5, H6, t, H7, f1, f2, q4, f3, do1, g5, f4, q6, f5, to1, g7, q7, ha5, N2', N4, N5, N6, N7, G4, G6, G7, K4, K6, K7, Do, So⟩ := peekS_ids hs hb K1 (q := H.next + 2) (by omega) (by omega) hq1 ha hl m (by omega) hV hN1 hD hN2 hS
  have e40 := (G4 H.next (by omega) (by omega)).trans z0
  have e41 := (G4 (H.next + 1) (by omega) (by omega)).trans z1
  have e60 := (G6 H.next (by omega) (by omega)).trans z0
  have e61 := (G6 (H.next + 1) (by omega) (by omega)).trans z1
  have e70 := (G7 H.next (by omega) (by omega)).trans z0
  have e71 := (G7 (H.next + 1) (by omega) (by omega)).trans z1
  have m0 : ¬ (H.next = H2.next) := by omega
  have m0' : ¬ (H2.next = H.next) := by omega
  have m1 : ¬ (H.next + 1 = H2.next) := by omega
  have m1' : ¬ (H2.next = H.next + 1) := by omega
  have m2 : ¬ (H.next + 2 = H2.next) := by omega
  have m2' : ¬ (H2.next = H.next + 2) := by omega
  have r1 : ¬ (valP O < 64) := by omega
  have r2 : ¬ (valP O < 128) := by omega
  subst h2
  subst h4
  subst h6
  have wf : IntKind.i64.wrap (valP O - 192) = valP O - 192 := wrap_i64 (by omega) (by omega)
  have hk : (valP O - 192).tdiv 16 = 2 := by rw [Int.tdiv_eq_ediv_of_nonneg (by omega)]; omega
  have n3' : ¬ (valP O < 192) := by omega
  have wk : IntKind.i64.wrap 2 = 2 := wrap_i64 (by omega) (by omega)
  have KE : Kp H (H7.set H2.next (.cells 24 false [.int .i64 2, .int .i64 (valP V), d, t, .nilSlice, .int .i64 0, .int .i64 0, .int .i64 0])) := K7.set (by omega) _
  obtain ⟨H8, v1, v2, v3, v4, v5⟩ := var_ev (q := H.next + 2) hs hb KE (by omega) (by simp; omega) (show _ = some (rdB s a5 false) by simp [m2, q7]) ha5 hl m (by omega)
  have vr := varS_rng hb a5 false
  rw [hN] at v1 v4 v5 vr; simp only at v1 v4 v5 vr
  simp only [AH.set_next] at v3
  have K8 := v2.kp KE (by omega)
  have u80 : H8.get H.next = some (.cells 24 false zh) := by rw [v2.get _ (by simp; omega) (by omega), AH.set_get, if_neg m0]; exact e70
  have u81 : H8.get (H.next + 1) = some (.cells 24 false zh) := by rw [v2.get _ (by simp; omega) (by omega), AH.set_get, if_neg m1]; exact e71
  have u82 : H8.get H2.next = some (.cells 24 false [.int .i64 2, .int .i64 (valP V), d, t, .nilSlice, .int .i64 0, .int .i64 0, .int .i64 0]) := by rw [v2.get _ (by simp; omega) (by omega)]; simp
  have ft := fault_ev v4 m (by omega)
  obtain ⟨rE, H9, c1, c2, c3, c4, c5⟩ := takeR_ev hs K8 (q := H.next + 2) (by omega) (by omega) v4 v5 hl n vr.1 vr.2 m (by omega)
  rw [hE] at c3 c4 c5; simp only at c3 c4 c5
  have n9 := c2.next
  have K9 := c2.kp K8 (by omega)
  have u90 := (c2.get H.next (by omega) (by omega)).trans u80
  have u91 := (c2.get (H.next + 1) (by omega) (by omega)).trans u81
  have u92 := (c2.get H2.next (by omega) (by omega)).trans u82
  subst p1
  subst p4
  simp only [rdB, zh] at *
  unfold PsRes
  rw [ev_eq Try.func58 ok58 m _ H (by simp [Try.f58])]
  simp [Try.f58, push_set2P, n11, n21, ldVar, stVar, perr, hdr, hs.one, cells_one hs.one, hL, k1, z0, z1, hq1, evHist, ObsOk, ObOk, f1, f2, q4, f3, do1, cells_one do1, g5, f4, q6, f5, to1, cells_one to1, g7, q7, e40, e41, e60, e61, e70, e71, m0, m0', m1, m1', m2, m2', r1, r2, h3, h5, h7, wf, hk, wk, n3', v1, v4, u80, u81, u82, c1, c4, u90, u91, u92, p2, p3]
  exact ⟨_, _, _, _, ⟨⟨rfl, rfl, rfl⟩, rfl⟩, K9.set (Nat.le_refl _) _, ((((Do.set _ (by omega)).kx v2 (by omega)).kx c2 (by omega)).set _ (by omega)).ox (by omega), ((((So.set _ (by omega)).kx v2 (by omega)).kx c2 (by omega)).set _ (by omega)).ox (by omega), Ox.nil _ _⟩
end Go.Ev

/- The specification's peek: initial. -/
namespace Go.Ev
open Go Go.Proofs
set_option linter.unusedSimpArgs false
set_option linter.unusedVariables false

theorem peekS_T1 {H : AH} {s : AV} {l : List Int} {cid : Int} (hs : Bs H s l) (hb : By l) (hl : l.length ≤ 65536) (m : Nat) (hm : 40 ≤ m)
    {O : List Int} {a : Nat} {s0 : Bool} (hO : takeS l 0 false 1 = (O, a, s0)) (h0 : s0 = false) (h128 : 128 ≤ valP O)
    {V : List Int} {a1 : Nat} {s1 : Bool} (hV : takeS l a false 4 = (V, a1, s1)) {N1 : List Int} {a2 : Nat} {s2 : Bool} (hN1 : takeS l a1 s1 1 = (N1, a2, s2)) {D : List Int} {a3 : Nat} {s3 : Bool} (hD : takeS l a2 s2 (valP N1) = (D, a3, s3))
    {N2 : List Int} {a4 : Nat} {s4 : Bool} (hN2 : takeS l a3 s3 1 = (N2, a4, s4)) {S : List Int} {a5 : Nat} {s5 : Bool} (hS : takeS l a4 s4 (valP N2) = (S, a5, s5)) (h2 : s2 = false) (h3 : ¬ 8 < valP N1) (h4 : s4 = false) (h5 : ¬ 8 < valP N2) (h6 : s5 = false) (h7 : ¬ valP V = 0) (hx : 192 ≤ valP O) (hx2 : valP O < 208) {k : Int} {a6 : Nat} {s6 : Bool} (hN0 : varS l a5 false = (k, a6, s6)) {T : List Int} {a7 : Nat} {s7 : Bool} (hT : takeS l a6 s6 k = (T, a7, s7)) (z1' : s6 = true) : PsRes H s cid m (perr 2) := by
  obtain ⟨m, rfl⟩ : ∃ k, m = k + 1 := ⟨m - 1, by omega⟩
  obtain ⟨H1, k1, n1', K1, z0, z1, hq1, ha⟩ := peekS_pro hs hb hl m (by omega) hO
  have hL : ∀ h, lenA Try.prog 22 s h = some (.int .i64 l.length) := hs.len
  subst h0
  obtain ⟨H2, H4, d, H5, H6, t, H7, f1, f2, q4, f3, do1, g5, f4, q6, f5, to1, g7, q7, ha5, N2', N4, N5, N6, N7, G4, G6, G7, K4, K6, K7, Do, So⟩ := peekS_ids hs hb K1 (q := H.next + 2) (by omega) (by omega) hq1 ha hl m (by omega) hV hN1 hD hN2 hS
  have e40 := (G4 H.next (by omega) (by omega)).trans z0
  have e41 := (G4 (H.next + 1) (by omega) (by omega)).trans z1
  have e60 := (G6 H.next (by omega) (by omega)).trans z0
  have e61 := (G6 (H.next + 1) (by omega) (by omega)).trans z1
  have e70 := (G7 H.next (by omega) (by omega)).trans z0
  have e71 := (G7 (H.next + 1) (by omega) (by omega)).trans z1
  have m0 : ¬ (H.next = H2.next) := by omega
  have m0' : ¬ (H2.next = H.next) := by omega
  have m1 : ¬ (H.next + 1 = H2.next) := by omega
  have m1' : ¬ (H2.next = H.next + 1) := by omega
  have m2 : ¬ (H.next + 2 = H2.next) := by omega
  have m2' : ¬ (H2.next = H.next + 2) := by omega
  have r1 : ¬ (valP O < 64) := by omega
  have r2 : ¬ (valP O < 128) := by omega
  subst h2
  subst h4
  subst h6
  have wf : IntKind.i64.wrap (valP O - 192) = valP O - 192 := wrap_i64 (by omega) (by omega)
  have hk : (valP O - 192).tdiv 16 = 0 := by rw [Int.tdiv_eq_ediv_of_nonneg (by omega)]; omega
  have n3' : ¬ (valP O < 192) := by omega
  have wk : IntKind.i64.wrap 0 = 0 := wrap_i64 (by omega) (by omega)
  have KD : Kp H (H7.set H2.next (.cells 24 false [.int .i64 1, .int .i64 (valP V), d, t, .nilSlice, .int .i64 0, .int .i64 0, .int .i64 0])) := K7.set (by omega) _
  obtain ⟨A8, b1, b2, b3, b4, b5⟩ := var_ev (q := H.next + 2) hs hb KD (by omega) (by simp; omega) (show _ = some (rdB s a5 false) by simp [m2, q7]) ha5 hl m (by omega)
  have br := varS_rng hb a5 false
  rw [hN0] at b1 b4 b5 br; simp only at b1 b4 b5 br
  simp only [AH.set_next] at b3
  have KA := b2.kp KD (by omega)
  have x80 : A8.get H.next = some (.cells 24 false zh) := by rw [b2.get _ (by simp; omega) (by omega), AH.set_get, if_neg m0]; exact e70
  have x81 : A8.get (H.next + 1) = some (.cells 24 false zh) := by rw [b2.get _ (by simp; omega) (by omega), AH.set_get, if_neg m1]; exact e71
  have x82 : A8.get H2.next = some (.cells 24 false [.int .i64 1, .int .i64 (valP V), d, t, .nilSlice, .int .i64 0, .int .i64 0, .int .i64 0]) := by rw [b2.get _ (by simp; omega) (by omega)]; simp
  have fa := fault_ev b4 m (by omega)
  obtain ⟨w, A9, g1, g2, g3, g4, g5'⟩ := takeR_ev hs KA (q := H.next + 2) (by omega) (by omega) b4 b5 hl k br.1 br.2 m (by omega)
  rw [hT] at g3 g4 g5'; simp only at g3 g4 g5'
  have na9 := g2.next
  have KA9 := g2.kp KA (by omega)
  have x90 := (g2.get H.next (by omega) (by omega)).trans x80
  have x91 := (g2.get (H.next + 1) (by omega) (by omega)).trans x81
  have x92 := (g2.get H2.next (by omega) (by omega)).trans x82
  have wo := g3.bs.one
  subst z1'
  simp only [rdB, zh] at *
  unfold PsRes
  rw [ev_eq Try.func58 ok58 m _ H (by simp [Try.f58])]
  simp [Try.f58, push_set2P, n11, n21, ldVar, stVar, perr, hdr, hs.one, cells_one hs.one, hL, k1, z0, z1, hq1, evHist, ObsOk, ObOk, f1, f2, q4, f3, do1, cells_one do1, g5, f4, q6, f5, to1, cells_one to1, g7, q7, e40, e41, e60, e61, e70, e71, m0, m0', m1, m1', m2, m2', r1, r2, h3, h5, h7, wf, hk, wk, n3', b1, b4, x80, x81, x82, g1, g4, x90, x91, x92, wo, cells_one wo, fa]
  exact ⟨_, _, _, _, ⟨⟨rfl, rfl, rfl⟩, rfl⟩, KA.set (Nat.le_refl _) _, Ox.nil _ _, Ox.nil _ _, Ox.nil _ _⟩
theorem peekS_T2 {H : AH} {s : AV} {l : List Int} {cid : Int} (hs : Bs H s l) (hb : By l) (hl : l.length ≤ 65536) (m : Nat) (hm : 40 ≤ m)
    {O : List Int} {a : Nat} {s0 : Bool} (hO : takeS l 0 false 1 = (O, a, s0)) (h0 : s0 = false) (h128 : 128 ≤ valP O)
    {V : List Int} {a1 : Nat} {s1 : Bool} (hV : takeS l a false 4 = (V, a1, s1)) {N1 : List Int} {a2 : Nat} {s2 : Bool} (hN1 : takeS l a1 s1 1 = (N1, a2, s2)) {D : List Int} {a3 : Nat} {s3 : Bool} (hD : takeS l a2 s2 (valP N1) = (D, a3, s3))
    {N2 : List Int} {a4 : Nat} {s4 : Bool} (hN2 : takeS l a3 s3 1 = (N2, a4, s4)) {S : List Int} {a5 : Nat} {s5 : Bool} (hS : takeS l a4 s4 (valP N2) = (S, a5, s5)) (h2 : s2 = false) (h3 : ¬ 8 < valP N1) (h4 : s4 = false) (h5 : ¬ 8 < valP N2) (h6 : s5 = false) (h7 : ¬ valP V = 0) (hx : 192 ≤ valP O) (hx2 : valP O < 208) {k : Int} {a6 : Nat} {s6 : Bool} (hN0 : varS l a5 false = (k, a6, s6)) {T : List Int} {a7 : Nat} {s7 : Bool} (hT : takeS l a6 s6 k = (T, a7, s7)) (z1' : s6 = false) (z2' : 64 < k) : PsRes H s cid m (perr 3) := by
  obtain ⟨m, rfl⟩ : ∃ k, m = k + 1 := ⟨m - 1, by omega⟩
  obtain ⟨H1, k1, n1', K1, z0, z1, hq1, ha⟩ := peekS_pro hs hb hl m (by omega) hO
  have hL : ∀ h, lenA Try.prog 22 s h = some (.int .i64 l.length) := hs.len
  subst h0
  obtain ⟨H2, H4, d, H5, H6, t, H7, f1, f2, q4, f3, do1, g5, f4, q6, f5, to1, g7, q7, ha5, N2', N4, N5, N6, N7, G4, G6, G7, K4, K6, K7, Do, So⟩ := peekS_ids hs hb K1 (q := H.next + 2) (by omega) (by omega) hq1 ha hl m (by omega) hV hN1 hD hN2 hS
  have e40 := (G4 H.next (by omega) (by omega)).trans z0
  have e41 := (G4 (H.next + 1) (by omega) (by omega)).trans z1
  have e60 := (G6 H.next (by omega) (by omega)).trans z0
  have e61 := (G6 (H.next + 1) (by omega) (by omega)).trans z1
  have e70 := (G7 H.next (by omega) (by omega)).trans z0
  have e71 := (G7 (H.next + 1) (by omega) (by omega)).trans z1
  have m0 : ¬ (H.next = H2.next) := by omega
  have m0' : ¬ (H2.next = H.next) := by omega
  have m1 : ¬ (H.next + 1 = H2.next) := by omega
  have m1' : ¬ (H2.next = H.next + 1) := by omega
  have m2 : ¬ (H.next + 2 = H2.next) := by omega
  have m2' : ¬ (H2.next = H.next + 2) := by omega
  have r1 : ¬ (valP O < 64) := by omega
  have r2 : ¬ (valP O < 128) := by omega
  subst h2
  subst h4
  subst h6
  have wf : IntKind.i64.wrap (valP O - 192) = valP O - 192 := wrap_i64 (by omega) (by omega)
  have hk : (valP O - 192).tdiv 16 = 0 := by rw [Int.tdiv_eq_ediv_of_nonneg (by omega)]; omega
  have n3' : ¬ (valP O < 192) := by omega
  have wk : IntKind.i64.wrap 0 = 0 := wrap_i64 (by omega) (by omega)
  have KD : Kp H (H7.set H2.next (.cells 24 false [.int .i64 1, .int .i64 (valP V), d, t, .nilSlice, .int .i64 0, .int .i64 0, .int .i64 0])) := K7.set (by omega) _
  obtain ⟨A8, b1, b2, b3, b4, b5⟩ := var_ev (q := H.next + 2) hs hb KD (by omega) (by simp; omega) (show _ = some (rdB s a5 false) by simp [m2, q7]) ha5 hl m (by omega)
  have br := varS_rng hb a5 false
  rw [hN0] at b1 b4 b5 br; simp only at b1 b4 b5 br
  simp only [AH.set_next] at b3
  have KA := b2.kp KD (by omega)
  have x80 : A8.get H.next = some (.cells 24 false zh) := by rw [b2.get _ (by simp; omega) (by omega), AH.set_get, if_neg m0]; exact e70
  have x81 : A8.get (H.next + 1) = some (.cells 24 false zh) := by rw [b2.get _ (by simp; omega) (by omega), AH.set_get, if_neg m1]; exact e71
  have x82 : A8.get H2.next = some (.cells 24 false [.int .i64 1, .int .i64 (valP V), d, t, .nilSlice, .int .i64 0, .int .i64 0, .int .i64 0]) := by rw [b2.get _ (by simp; omega) (by omega)]; simp
  have fa := fault_ev b4 m (by omega)
  obtain ⟨w, A9, g1, g2, g3, g4, g5'⟩ := takeR_ev hs KA (q := H.next + 2) (by omega) (by omega) b4 b5 hl k br.1 br.2 m (by omega)
  rw [hT] at g3 g4 g5'; simp only at g3 g4 g5'
  have na9 := g2.next
  have KA9 := g2.kp KA (by omega)
  have x90 := (g2.get H.next (by omega) (by omega)).trans x80
  have x91 := (g2.get (H.next + 1) (by omega) (by omega)).trans x81
  have x92 := (g2.get H2.next (by omega) (by omega)).trans x82
  have wo := g3.bs.one
  subst z1'
  simp only [rdB, zh] at *
  unfold PsRes
  rw [ev_eq Try.func58 ok58 m _ H (by simp [Try.f58])]
  simp [Try.f58, push_set2P, n11, n21, ldVar, stVar, perr, hdr, hs.one, cells_one hs.one, hL, k1, z0, z1, hq1, evHist, ObsOk, ObOk, f1, f2, q4, f3, do1, cells_one do1, g5, f4, q6, f5, to1, cells_one to1, g7, q7, e40, e41, e60, e61, e70, e71, m0, m0', m1, m1', m2, m2', r1, r2, h3, h5, h7, wf, hk, wk, n3', b1, b4, x80, x81, x82, g1, g4, x90, x91, x92, wo, cells_one wo, fa, z2']
  exact ⟨_, _, _, _, ⟨⟨rfl, rfl, rfl⟩, rfl⟩, KA.set (Nat.le_refl _) _, Ox.nil _ _, Ox.nil _ _, Ox.nil _ _⟩
theorem peekS_I1 {H : AH} {s : AV} {l : List Int} {cid : Int} (hs : Bs H s l) (hb : By l) (hl : l.length ≤ 65536) (m : Nat) (hm : 40 ≤ m)
    {O : List Int} {a : Nat} {s0 : Bool} (hO : takeS l 0 false 1 = (O, a, s0)) (h0 : s0 = false) (h128 : 128 ≤ valP O)
    {V : List Int} {a1 : Nat} {s1 : Bool} (hV : takeS l a false 4 = (V, a1, s1)) {N1 : List Int} {a2 : Nat} {s2 : Bool} (hN1 : takeS l a1 s1 1 = (N1, a2, s2)) {D : List Int} {a3 : Nat} {s3 : Bool} (hD : takeS l a2 s2 (valP N1) = (D, a3, s3))
    {N2 : List Int} {a4 : Nat} {s4 : Bool} (hN2 : takeS l a3 s3 1 = (N2, a4, s4)) {S : List Int} {a5 : Nat} {s5 : Bool} (hS : takeS l a4 s4 (valP N2) = (S, a5, s5)) (h2 : s2 = false) (h3 : ¬ 8 < valP N1) (h4 : s4 = false) (h5 : ¬ 8 < valP N2) (h6 : s5 = false) (h7 : ¬ valP V = 0) (hx : 192 ≤ valP O) (hx2 : valP O < 208) {k : Int} {a6 : Nat} {s6 : Bool} (hN0 : varS l a5 false = (k, a6, s6)) {T : List Int} {a7 : Nat} {s7 : Bool} (hT : takeS l a6 s6 k = (T, a7, s7)) (z1' : s6 = false) (z2' : ¬ 64 < k) {n : Int} {a8 : Nat} {s8 : Bool} (hN : varS l a7 s7 = (n, a8, s8)) {E : List Int} {a9 : Nat} {s9 : Bool} (hE : takeS l a8 s8 n = (E, a9, s9)) (p1 : s8 = true) : PsRes H s cid m (perr 2) := by
  obtain ⟨m, rfl⟩ : ∃ k, m = k + 1 := ⟨m - 1, by omega⟩
  obtain ⟨H1, k1, n1', K1, z0, z1, hq1, ha⟩ := peekS_pro hs hb hl m (by omega) hO
  have hL : ∀ h, lenA Try.prog 22 s h = some (.int .i64 l.length) := hs.len
  subst h0
  obtain ⟨H2, H4, d, H5, H6, t, H7, f1, f2, q4, f3, do1, g5, f4, q6, f5, to1, g7, q7, ha5, N2', N4, N5, N6, N7, G4, G6, G7, K4, K6, K7, Do, So⟩ := peekS_ids hs hb K1 (q := H.next + 2) (by omega) (by omega) hq1 ha hl m (by omega) hV hN1 hD hN2 hS
  have e40 := (G4 H.next (by omega) (by omega)).trans z0
  have e41 := (G4 (H.next + 1) (by omega) (by omega)).trans z1
  have e60 := (G6 H.next (by omega) (by omega)).trans z0
  have e61 := (G6 (H.next + 1) (by omega) (by omega)).trans z1
  have e70 := (G7 H.next (by omega) (by omega)).trans z0
  have e71 := (G7 (H.next + 1) (by omega) (by omega)).trans z1
  have m0 : ¬ (H.next = H2.next) := by omega
  have m0' : ¬ (H2.next = H.next) := by omega
  have m1 : ¬ (H.next + 1 = H2.next) := by omega
  have m1' : ¬ (H2.next = H.next + 1) := by omega
  have m2 : ¬ (H.next + 2 = H2.next) := by omega
  have m2' : ¬ (H2.next = H.next + 2) := by omega
  have r1 : ¬ (valP O < 64) := by omega
  have r2 : ¬ (valP O < 128) := by omega
  subst h2
  subst h4
  subst h6
  have wf : IntKind.i64.wrap (valP O - 192) = valP O - 192 := wrap_i64 (by omega) (by omega)
  have hk : (valP O - 192).tdiv 16 = 0 := by rw [Int.tdiv_eq_ediv_of_nonneg (by omega)]; omega
  have n3' : ¬ (valP O < 192) := by omega
  have wk : IntKind.i64.wrap 0 = 0 := wrap_i64 (by omega) (by omega)
  have KD : Kp H (H7.set H2.next (.cells 24 false [.int .i64 1, .int .i64 (valP V), d, t, .nilSlice, .int .i64 0, .int .i64 0, .int .i64 0])) := K7.set (by omega) _
  obtain ⟨A8, b1, b2, b3, b4, b5⟩ := var_ev (q := H.next + 2) hs hb KD (by omega) (by simp; omega) (show _ = some (rdB s a5 false) by simp [m2, q7]) ha5 hl m (by omega)
  have br := varS_rng hb a5 false
  rw [hN0] at b1 b4 b5 br; simp only at b1 b4 b5 br
  simp only [AH.set_next] at b3
  have KA := b2.kp KD (by omega)
  have x80 : A8.get H.next = some (.cells 24 false zh) := by rw [b2.get _ (by simp; omega) (by omega), AH.set_get, if_neg m0]; exact e70
  have x81 : A8.get (H.next + 1) = some (.cells 24 false zh) := by rw [b2.get _ (by simp; omega) (by omega), AH.set_get, if_neg m1]; exact e71
  have x82 : A8.get H2.next = some (.cells 24 false [.int .i64 1, .int .i64 (valP V), d, t, .nilSlice, .int .i64 0, .int .i64 0, .int .i64 0]) := by rw [b2.get _ (by simp; omega) (by omega)]; simp
  have fa := fault_ev b4 m (by omega)
  obtain ⟨w, A9, g1, g2, g3, g4, g5'⟩ := takeR_ev hs KA (q := H.next + 2) (by omega) (by omega) b4 b5 hl k br.1 br.2 m (by omega)
  rw [hT] at g3 g4 g5'; simp only at g3 g4 g5'
  have na9 := g2.next
  have KA9 := g2.kp KA (by omega)
  have x90 := (g2.get H.next (by omega) (by omega)).trans x80
  have x91 := (g2.get (H.next + 1) (by omega) (by omega)).trans x81
  have x92 := (g2.get H2.next (by omega) (by omega)).trans x82
  have wo := g3.bs.one
  subst z1'
  have KE : Kp H (A9.set H2.next (.cells 24 false [.int .i64 1, .int .i64 (valP V), d, t, w, .int .i64 0, .int .i64 0, .int .i64 0])) := KA9.set (by omega) _
  obtain ⟨H8, v1, v2, v3, v4, v5⟩ := var_ev (q := H.next + 2) hs hb KE (by omega) (by simp; omega) (show _ = some (rdB s a7 s7) by simp [m2, g4]) g5' hl m (by omega)
  have vr := varS_rng hb a7 s7
  rw [hN] at v1 v4 v5 vr; simp only at v1 v4 v5 vr
  simp only [AH.set_next] at v3
  have K8 := v2.kp KE (by omega)
  have u80 : H8.get H.next = some (.cells 24 false zh) := by rw [v2.get _ (by simp; omega) (by omega), AH.set_get, if_neg m0]; exact x90
  have u81 : H8.get (H.next + 1) = some (.cells 24 false zh) := by rw [v2.get _ (by simp; omega) (by omega), AH.set_get, if_neg m1]; exact x91
  have u82 : H8.get H2.next = some (.cells 24 false [.int .i64 1, .int .i64 (valP V), d, t, w, .int .i64 0, .int .i64 0, .int .i64 0]) := by rw [v2.get _ (by simp; omega) (by omega)]; simp
  have ft := fault_ev v4 m (by omega)
  obtain ⟨rE, H9, c1, c2, c3, c4, c5⟩ := takeR_ev hs K8 (q := H.next + 2) (by omega) (by omega) v4 v5 hl n vr.1 vr.2 m (by omega)
  rw [hE] at c3 c4 c5; simp only at c3 c4 c5
  have n9 := c2.next
  have K9 := c2.kp K8 (by omega)
  have u90 := (c2.get H.next (by omega) (by omega)).trans u80
  have u91 := (c2.get (H.next + 1) (by omega) (by omega)).trans u81
  have u92 := (c2.get H2.next (by omega) (by omega)).trans u82
  subst p1
  simp only [rdB, zh] at *
  unfold PsRes
  rw [ev_eq Try.func58 ok58 m _ H (by simp [Try.f58])]
  simp [Try.f58, push_set2P, n11, n21, ldVar, stVar, perr, hdr, hs.one, cells_one hs.one, hL, k1, z0, z1, hq1, evHist, ObsOk, ObOk, f1, f2, q4, f3, do1, cells_one do1, g5, f4, q6, f5, to1, cells_one to1, g7, q7, e40, e41, e60, e61, e70, e71, m0, m0', m1, m1', m2, m2', r1, r2, h3, h5, h7, wf, hk, wk, n3', b1, b4, x80, x81, x82, g1, g4, x90, x91, x92, wo, cells_one wo, z2', v1, v4, u80, u81, u82, c1, c4, u90, u91, u92, ft]
  exact ⟨_, _, _, _, ⟨⟨rfl, rfl, rfl⟩, rfl⟩, K8.set (Nat.le_refl _) _, Ox.nil _ _, Ox.nil _ _, Ox.nil _ _⟩
theorem peekS_I2 {H : AH} {s : AV} {l : List Int} {cid : Int} (hs : Bs H s l) (hb : By l) (hl : l.length ≤ 65536) (m : Nat) (hm : 40 ≤ m)
    {O : List Int} {a : Nat} {s0 : Bool} (hO : takeS l 0 false 1 = (O, a, s0)) (h0 : s0 = false) (h128 : 128 ≤ valP O)
    {V : List Int} {a1 : Nat} {s1 : Bool} (hV : takeS l a false 4 = (V, a1, s1)) {N1 : List Int} {a2 : Nat} {s2 : Bool} (hN1 : takeS l a1 s1 1 = (N1, a2, s2)) {D : List Int} {a3 : Nat} {s3 : Bool} (hD : takeS l a2 s2 (valP N1) = (D, a3, s3))
    {N2 : List Int} {a4 : Nat} {s4 : Bool} (hN2 : takeS l a3 s3 1 = (N2, a4, s4)) {S : List Int} {a5 : Nat} {s5 : Bool} (hS : takeS l a4 s4 (valP N2) = (S, a5, s5)) (h2 : s2 = false) (h3 : ¬ 8 < valP N1) (h4 : s4 = false) (h5 : ¬ 8 < valP N2) (h6 : s5 = false) (h7 : ¬ valP V = 0) (hx : 192 ≤ valP O) (hx2 : valP O < 208) {k : Int} {a6 : Nat} {s6 : Bool} (hN0 : varS l a5 false = (k, a6, s6)) {T : List Int} {a7 : Nat} {s7 : Bool} (hT : takeS l a6 s6 k = (T, a7, s7)) (z1' : s6 = false) (z2' : ¬ 64 < k) {n : Int} {a8 : Nat} {s8 : Bool} (hN : varS l a7 s7 = (n, a8, s8)) {E : List Int} {a9 : Nat} {s9 : Bool} (hE : takeS l a8 s8 n = (E, a9, s9)) (p1 : s8 = false) (p2 : n < 12) : PsRes H s cid m (perr 3) := by
  obtain ⟨m, rfl⟩ : ∃ k, m = k + 1 := ⟨m - 1, by omega⟩
  obtain ⟨H1, k1, n1', K1, z0, z1, hq1, ha⟩ := peekS_pro hs hb hl m (by omega) hO
  have hL : ∀ h, lenA Try.prog 22 s h = some (.int .i64 l.length) := hs.len
  subst h0
  obtain ⟨H2, H4, d, H5, H6, t, H7, f1, f2, q4, f3, do1, g5, f4, q6, f5, to1, g7, q7, ha5, N2', N4, N5, N6, N7, G4, G6, G7, K4, K6, K7, Do, So⟩ := peekS_ids hs hb K1 (q := H.next + 2) (by omega) (by omega) hq1 ha hl m (by omega) hV hN1 hD hN2 hS
  have e40 := (G4 H.next (by omega) (by omega)).trans z0
  have e41 := (G4 (H.next + 1) (by omega) (by omega)).trans z1
  have e60 := (G6 H.next (by omega) (by omega)).trans z0
  have e61 := (G6 (H.next + 1) (by omega) (by omega)).trans z1
  have e70 := (G7 H.next (by omega) (by omega)).trans z0
  have e71 := (G7 (H.next + 1) (by omega) (by omega)).trans z1
  have m0 : ¬ (H.next = H2.next) := by omega
  have m0' : ¬ (H2.next = H.next) := by omega
  have m1 : ¬ (H.next + 1 = H2.next) := by omega
  have m1' : ¬ (H2.next = H.next + 1) := by omega
  have m2 : ¬ (H.next + 2 = H2.next) := by omega
  have m2' : ¬ (H2.next = H.next + 2) := by omega
  have r1 : ¬ (valP O < 64) := by omega
  have r2 : ¬ (valP O < 128) := by omega
  subst h2
  subst h4
  subst h6
  have wf : IntKind.i64.wrap (valP O - 192) = valP O - 192 := wrap_i64 (by omega) (by omega)
  have hk : (valP O - 192).tdiv 16 = 0 := by rw [Int.tdiv_eq_ediv_of_nonneg (by omega)]; omega
  have n3' : ¬ (valP O < 192) := by omega
  have wk : IntKind.i64.wrap 0 = 0 := wrap_i64 (by omega) (by omega)
  have KD : Kp H (H7.set H2.next (.cells 24 false [.int .i64 1, .int .i64 (valP V), d, t, .nilSlice, .int .i64 0, .int .i64 0, .int .i64 0])) := K7.set (by omega) _
  obtain ⟨A8, b1, b2, b3, b4, b5⟩ := var_ev (q := H.next + 2) hs hb KD (by omega) (by simp; omega) (show _ = some (rdB s a5 false) by simp [m2, q7]) ha5 hl m (by omega)
  have br := varS_rng hb a5 false
  rw [hN0] at b1 b4 b5 br; simp only at b1 b4 b5 br
  simp only [AH.set_next] at b3
  have KA := b2.kp KD (by omega)
  have x80 : A8.get H.next = some (.cells 24 false zh) := by rw [b2.get _ (by simp; omega) (by omega), AH.set_get, if_neg m0]; exact e70
  have x81 : A8.get (H.next + 1) = some (.cells 24 false zh) := by rw [b2.get _ (by simp; omega) (by omega), AH.set_get, if_neg m1]; exact e71
  have x82 : A8.get H2.next = some (.cells 24 false [.int .i64 1, .int .i64 (valP V), d, t, .nilSlice, .int .i64 0, .int .i64 0, .int .i64 0]) := by rw [b2.get _ (by simp; omega) (by omega)]; simp
  have fa := fault_ev b4 m (by omega)
  obtain ⟨w, A9, g1, g2, g3, g4, g5'⟩ := takeR_ev hs KA (q := H.next + 2) (by omega) (by omega) b4 b5 hl k br.1 br.2 m (by omega)
  rw [hT] at g3 g4 g5'; simp only at g3 g4 g5'
  have na9 := g2.next
  have KA9 := g2.kp KA (by omega)
  have x90 := (g2.get H.next (by omega) (by omega)).trans x80
  have x91 := (g2.get (H.next + 1) (by omega) (by omega)).trans x81
  have x92 := (g2.get H2.next (by omega) (by omega)).trans x82
  have wo := g3.bs.one
  subst z1'
  have KE : Kp H (A9.set H2.next (.cells 24 false [.int .i64 1, .int .i64 (valP V), d, t, w, .int .i64 0, .int .i64 0, .int .i64 0])) := KA9.set (by omega) _
  obtain ⟨H8, v1, v2, v3, v4, v5⟩ := var_ev (q := H.next + 2) hs hb KE (by omega) (by simp; omega) (show _ = some (rdB s a7 s7) by simp [m2, g4]) g5' hl m (by omega)
  have vr := varS_rng hb a7 s7
  rw [hN] at v1 v4 v5 vr; simp only at v1 v4 v5 vr
  simp only [AH.set_next] at v3
  have K8 := v2.kp KE (by omega)
  have u80 : H8.get H.next = some (.cells 24 false zh) := by rw [v2.get _ (by simp; omega) (by omega), AH.set_get, if_neg m0]; exact x90
  have u81 : H8.get (H.next + 1) = some (.cells 24 false zh) := by rw [v2.get _ (by simp; omega) (by omega), AH.set_get, if_neg m1]; exact x91
  have u82 : H8.get H2.next = some (.cells 24 false [.int .i64 1, .int .i64 (valP V), d, t, w, .int .i64 0, .int .i64 0, .int .i64 0]) := by rw [v2.get _ (by simp; omega) (by omega)]; simp
  have ft := fault_ev v4 m (by omega)
  obtain ⟨rE, H9, c1, c2, c3, c4, c5⟩ := takeR_ev hs K8 (q := H.next + 2) (by omega) (by omega) v4 v5 hl n vr.1 vr.2 m (by omega)
  rw [hE] at c3 c4 c5; simp only at c3 c4 c5
  have n9 := c2.next
  have K9 := c2.kp K8 (by omega)
  have u90 := (c2.get H.next (by omega) (by omega)).trans u80
  have u91 := (c2.get (H.next + 1) (by omega) (by omega)).trans u81
  have u92 := (c2.get H2.next (by omega) (by omega)).trans u82
  subst p1
  simp only [rdB, zh] at *
  unfold PsRes
  rw [ev_eq Try.func58 ok58 m _ H (by simp [Try.f58])]
  simp [Try.f58, push_set2P, n11, n21, ldVar, stVar, perr, hdr, hs.one, cells_one hs.one, hL, k1, z0, z1, hq1, evHist, ObsOk, ObOk, f1, f2, q4, f3, do1, cells_one do1, g5, f4, q6, f5, to1, cells_one to1, g7, q7, e40, e41, e60, e61, e70, e71, m0, m0', m1, m1', m2, m2', r1, r2, h3, h5, h7, wf, hk, wk, n3', b1, b4, x80, x81, x82, g1, g4, x90, x91, x92, wo, cells_one wo, z2', v1, v4, u80, u81, u82, c1, c4, u90, u91, u92, ft, p2]
  exact ⟨_, _, _, _, ⟨⟨rfl, rfl, rfl⟩, rfl⟩, K8.set (Nat.le_refl _) _, Ox.nil _ _, Ox.nil _ _, Ox.nil _ _⟩
theorem peekS_I3 {H : AH} {s : AV} {l : List Int} {cid : Int} (hs : Bs H s l) (hb : By l) (hl : l.length ≤ 65536) (m : Nat) (hm : 40 ≤ m)
    {O : List Int} {a : Nat} {s0 : Bool} (hO : takeS l 0 false 1 = (O, a, s0)) (h0 : s0 = false) (h128 : 128 ≤ valP O)
    {V : List Int} {a1 : Nat} {s1 : Bool} (hV : takeS l a false 4 = (V, a1, s1)) {N1 : List Int} {a2 : Nat} {s2 : Bool} (hN1 : takeS l a1 s1 1 = (N1, a2, s2)) {D : List Int} {a3 : Nat} {s3 : Bool} (hD : takeS l a2 s2 (valP N1) = (D, a3, s3))
    {N2 : List Int} {a4 : Nat} {s4 : Bool} (hN2 : takeS l a3 s3 1 = (N2, a4, s4)) {S : List Int} {a5 : Nat} {s5 : Bool} (hS : takeS l a4 s4 (valP N2) = (S, a5, s5)) (h2 : s2 = false) (h3 : ¬ 8 < valP N1) (h4 : s4 = false) (h5 : ¬ 8 < valP N2) (h6 : s5 = false) (h7 : ¬ valP V = 0) (hx : 192 ≤ valP O) (hx2 : valP O < 208) {k : Int} {a6 : Nat} {s6 : Bool} (hN0 : varS l a5 false = (k, a6, s6)) {T : List Int} {a7 : Nat} {s7 : Bool} (hT : takeS l a6 s6 k = (T, a7, s7)) (z1' : s6 = false) (z2' : ¬ 64 < k) {n : Int} {a8 : Nat} {s8 : Bool} (hN : varS l a7 s7 = (n, a8, s8)) {E : List Int} {a9 : Nat} {s9 : Bool} (hE : takeS l a8 s8 n = (E, a9, s9)) (p1 : s8 = false) (p2 : ¬ n < 12) (p3 : 1508 < n) : PsRes H s cid m (perr 3) := by
  obtain ⟨m, rfl⟩ : ∃ k, m = k + 1 := ⟨m - 1, by omega⟩
  obtain ⟨H1, k1, n1', K1, z0, z1, hq1, ha⟩ := peekS_pro hs hb hl m (by omega) hO
  have hL : ∀ h, lenA Try.prog 22 s h = some (.int .i64 l.length) := hs.len
  subst h0
  obtain ⟨H2, H4, d, H5, H6, t, H7, f1, f2, q4, f3, do1, g5, f4, q6, f5, to1, g7, q7, ha5, N2', N4, N5, N6, N7, G4, G6, G7, K4, K6, K7, Do, So⟩ := peekS_ids hs hb K1 (q := H.next + 2) (by omega) (by omega) hq1 ha hl m (by omega) hV hN1 hD hN2 hS
  have e40 := (G4 H.next (by omega) (by omega)).trans z0
  have e41 := (G4 (H.next + 1) (by omega) (by omega)).trans z1
  have e60 := (G6 H.next (by omega) (by omega)).trans z0
  have e61 := (G6 (H.next + 1) (by omega) (by omega)).trans z1
  have e70 := (G7 H.next (by omega) (by omega)).trans z0
  have e71 := (G7 (H.next + 1) (by omega) (by omega)).trans z1
  have m0 : ¬ (H.next = H2.next) := by omega
  have m0' : ¬ (H2.next = H.next) := by omega
  have m1 : ¬ (H.next + 1 = H2.next) := by omega
  have m1' : ¬ (H2.next = H.next + 1) := by omega
  have m2 : ¬ (H.next + 2 = H2.next) := by omega
  have m2' : ¬ (H2.next = H.next + 2) := by omega
  have r1 : ¬ (valP O < 64) := by omega
  have r2 : ¬ (valP O < 128) := by omega
  subst h2
  subst h4
  subst h6
  have wf : IntKind.i64.wrap (valP O - 192) = valP O - 192 := wrap_i64 (by omega) (by omega)
  have hk : (valP O - 192).tdiv 16 = 0 := by rw [Int.tdiv_eq_ediv_of_nonneg (by omega)]; omega
  have n3' : ¬ (valP O < 192) := by omega
  have wk : IntKind.i64.wrap 0 = 0 := wrap_i64 (by omega) (by omega)
  have KD : Kp H (H7.set H2.next (.cells 24 false [.int .i64 1, .int .i64 (valP V), d, t, .nilSlice, .int .i64 0, .int .i64 0, .int .i64 0])) := K7.set (by omega) _
  obtain ⟨A8, b1, b2, b3, b4, b5⟩ := var_ev (q := H.next + 2) hs hb KD (by omega) (by simp; omega) (show _ = some (rdB s a5 false) by simp [m2, q7]) ha5 hl m (by omega)
  have br := varS_rng hb a5 false
  rw [hN0] at b1 b4 b5 br; simp only at b1 b4 b5 br
  simp only [AH.set_next] at b3
  have KA := b2.kp KD (by omega)
  have x80 : A8.get H.next = some (.cells 24 false zh) := by rw [b2.get _ (by simp; omega) (by omega), AH.set_get, if_neg m0]; exact e70
  have x81 : A8.get (H.next + 1) = some (.cells 24 false zh) := by rw [b2.get _ (by simp; omega) (by omega), AH.set_get, if_neg m1]; exact e71
  have x82 : A8.get H2.next = some (.cells 24 false [.int .i64 1, .int .i64 (valP V), d, t, .nilSlice, .int .i64 0, .int .i64 0, .int .i64 0]) := by rw [b2.get _ (by simp; omega) (by omega)]; simp
  have fa := fault_ev b4 m (by omega)
  obtain ⟨w, A9, g1, g2, g3, g4, g5'⟩ := takeR_ev hs KA (q := H.next + 2) (by omega) (by omega) b4 b5 hl k br.1 br.2 m (by omega)
  rw [hT] at g3 g4 g5'; simp only at g3 g4 g5'
  have na9 := g2.next
  have KA9 := g2.kp KA (by omega)
  have x90 := (g2.get H.next (by omega) (by omega)).trans x80
  have x91 := (g2.get (H.next + 1) (by omega) (by omega)).trans x81
  have x92 := (g2.get H2.next (by omega) (by omega)).trans x82
  have wo := g3.bs.one
  subst z1'
  have KE : Kp H (A9.set H2.next (.cells 24 false [.int .i64 1, .int .i64 (valP V), d, t, w, .int .i64 0, .int .i64 0, .int .i64 0])) := KA9.set (by omega) _
  obtain ⟨H8, v1, v2, v3, v4, v5⟩ := var_ev (q := H.next + 2) hs hb KE (by omega) (by simp; omega) (show _ = some (rdB s a7 s7) by simp [m2, g4]) g5' hl m (by omega)
  have vr := varS_rng hb a7 s7
  rw [hN] at v1 v4 v5 vr; simp only at v1 v4 v5 vr
  simp only [AH.set_next] at v3
  have K8 := v2.kp KE (by omega)
  have u80 : H8.get H.next = some (.cells 24 false zh) := by rw [v2.get _ (by simp; omega) (by omega), AH.set_get, if_neg m0]; exact x90
  have u81 : H8.get (H.next + 1) = some (.cells 24 false zh) := by rw [v2.get _ (by simp; omega) (by omega), AH.set_get, if_neg m1]; exact x91
  have u82 : H8.get H2.next = some (.cells 24 false [.int .i64 1, .int .i64 (valP V), d, t, w, .int .i64 0, .int .i64 0, .int .i64 0]) := by rw [v2.get _ (by simp; omega) (by omega)]; simp
  have ft := fault_ev v4 m (by omega)
  obtain ⟨rE, H9, c1, c2, c3, c4, c5⟩ := takeR_ev hs K8 (q := H.next + 2) (by omega) (by omega) v4 v5 hl n vr.1 vr.2 m (by omega)
  rw [hE] at c3 c4 c5; simp only at c3 c4 c5
  have n9 := c2.next
  have K9 := c2.kp K8 (by omega)
  have u90 := (c2.get H.next (by omega) (by omega)).trans u80
  have u91 := (c2.get (H.next + 1) (by omega) (by omega)).trans u81
  have u92 := (c2.get H2.next (by omega) (by omega)).trans u82
  subst p1
  simp only [rdB, zh] at *
  unfold PsRes
  rw [ev_eq Try.func58 ok58 m _ H (by simp [Try.f58])]
  simp [Try.f58, push_set2P, n11, n21, ldVar, stVar, perr, hdr, hs.one, cells_one hs.one, hL, k1, z0, z1, hq1, evHist, ObsOk, ObOk, f1, f2, q4, f3, do1, cells_one do1, g5, f4, q6, f5, to1, cells_one to1, g7, q7, e40, e41, e60, e61, e70, e71, m0, m0', m1, m1', m2, m2', r1, r2, h3, h5, h7, wf, hk, wk, n3', b1, b4, x80, x81, x82, g1, g4, x90, x91, x92, wo, cells_one wo, z2', v1, v4, u80, u81, u82, c1, c4, u90, u91, u92, ft, p2, p3]
  exact ⟨_, _, _, _, ⟨⟨rfl, rfl, rfl⟩, rfl⟩, K8.set (Nat.le_refl _) _, Ox.nil _ _, Ox.nil _ _, Ox.nil _ _⟩
theorem peekS_I4 {H : AH} {s : AV} {l : List Int} {cid : Int} (hs : Bs H s l) (hb : By l) (hl : l.length ≤ 65536) (m : Nat) (hm : 40 ≤ m)
    {O : List Int} {a : Nat} {s0 : Bool} (hO : takeS l 0 false 1 = (O, a, s0)) (h0 : s0 = false) (h128 : 128 ≤ valP O)
    {V : List Int} {a1 : Nat} {s1 : Bool} (hV : takeS l a false 4 = (V, a1, s1)) {N1 : List Int} {a2 : Nat} {s2 : Bool} (hN1 : takeS l a1 s1 1 = (N1, a2, s2)) {D : List Int} {a3 : Nat} {s3 : Bool} (hD : takeS l a2 s2 (valP N1) = (D, a3, s3))
    {N2 : List Int} {a4 : Nat} {s4 : Bool} (hN2 : takeS l a3 s3 1 = (N2, a4, s4)) {S : List Int} {a5 : Nat} {s5 : Bool} (hS : takeS l a4 s4 (valP N2) = (S, a5, s5)) (h2 : s2 = false) (h3 : ¬ 8 < valP N1) (h4 : s4 = false) (h5 : ¬ 8 < valP N2) (h6 : s5 = false) (h7 : ¬ valP V = 0) (hx : 192 ≤ valP O) (hx2 : valP O < 208) {k : Int} {a6 : Nat} {s6 : Bool} (hN0 : varS l a5 false = (k, a6, s6)) {T : List Int} {a7 : Nat} {s7 : Bool} (hT : takeS l a6 s6 k = (T, a7, s7)) (z1' : s6 = false) (z2' : ¬ 64 < k) {n : Int} {a8 : Nat} {s8 : Bool} (hN : varS l a7 s7 = (n, a8, s8)) {E : List Int} {a9 : Nat} {s9 : Bool} (hE : takeS l a8 s8 n = (E, a9, s9)) (p1 : s8 = false) (p2 : ¬ n < 12) (p3 : ¬ 1508 < n) (p4 : s9 = true) : PsRes H s cid m (perr 2) := by
  obtain ⟨m, rfl⟩ : ∃ k, m = k + 1 := ⟨m - 1, by omega⟩
  obtain ⟨H1, k1, n1', K1, z0, z1, hq1, ha⟩ := peekS_pro hs hb hl m (by omega) hO
  have hL : ∀ h, lenA Try.prog 22 s h = some (.int .i64 l.length) := hs.len
  subst h0
  obtain ⟨H2, H4, d, H5, H6, t, H7, f1, f2, q4, f3, do1, g5, f4, q6, f5, to1, g7, q7, ha5, N2', N4, N5, N6, N7, G4, G6, G7, K4, K6, K7, Do, So⟩ := peekS_ids hs hb K1 (q := H.next + 2) (by omega) (by omega) hq1 ha hl m (by omega) hV hN1 hD hN2 hS
  have e40 := (G4 H.next (by omega) (by omega)).trans z0
  have e41 := (G4 (H.next + 1) (by omega) (by omega)).trans z1
  have e60 := (G6 H.next (by omega) (by omega)).trans z0
  have e61 := (G6 (H.next + 1) (by omega) (by omega)).trans z1
  have e70 := (G7 H.next (by omega) (by omega)).trans z0
  have e71 := (G7 (H.next + 1) (by omega) (by omega)).trans z1
  have m0 : ¬ (H.next = H2.next) := by omega
  have m0' : ¬ (H2.next = H.next) := by omega
  have m1 : ¬ (H.next + 1 = H2.next) := by omega
  have m1' : ¬ (H2.next = H.next + 1) := by omega
  have m2 : ¬ (H.next + 2 = H2.next) := by omega
  have m2' : ¬ (H2.next = H.next + 2) := by omega
  have r1 : ¬ (valP O < 64) := by omega
  have r2 : ¬ (valP O < 128) := by omega
  subst h2
  subst h4
  subst h6
  have wf : IntKind.i64.wrap (valP O - 192) = valP O - 192 := wrap_i64 (by omega) (by omega)
  have hk : (valP O - 192).tdiv 16 = 0 := by rw [Int.tdiv_eq_ediv_of_nonneg (by omega)]; omega
  have n3' : ¬ (valP O < 192) := by omega
  have wk : IntKind.i64.wrap 0 = 0 := wrap_i64 (by omega) (by omega)
  have KD : Kp H (H7.set H2.next (.cells 24 false [.int .i64 1, .int .i64 (valP V), d, t, .nilSlice, .int .i64 0, .int .i64 0, .int .i64 0])) := K7.set (by omega) _
  obtain ⟨A8, b1, b2, b3, b4, b5⟩ := var_ev (q := H.next + 2) hs hb KD (by omega) (by simp; omega) (show _ = some (rdB s a5 false) by simp [m2, q7]) ha5 hl m (by omega)
  have br := varS_rng hb a5 false
  rw [hN0] at b1 b4 b5 br; simp only at b1 b4 b5 br
  simp only [AH.set_next] at b3
  have KA := b2.kp KD (by omega)
  have x80 : A8.get H.next = some (.cells 24 false zh) := by rw [b2.get _ (by simp; omega) (by omega), AH.set_get, if_neg m0]; exact e70
  have x81 : A8.get (H.next + 1) = some (.cells 24 false zh) := by rw [b2.get _ (by simp; omega) (by omega), AH.set_get, if_neg m1]; exact e71
  have x82 : A8.get H2.next = some (.cells 24 false [.int .i64 1, .int .i64 (valP V), d, t, .nilSlice, .int .i64 0, .int .i64 0, .int .i64 0]) := by rw [b2.get _ (by simp; omega) (by omega)]; simp
  have fa := fault_ev b4 m (by omega)
  obtain ⟨w, A9, g1, g2, g3, g4, g5'⟩ := takeR_ev hs KA (q := H.next + 2) (by omega) (by omega) b4 b5 hl k br.1 br.2 m (by omega)
  rw [hT] at g3 g4 g5'; simp only at g3 g4 g5'
  have na9 := g2.next
  have KA9 := g2.kp KA (by omega)
  have x90 := (g2.get H.next (by omega) (by omega)).trans x80
  have x91 := (g2.get (H.next + 1) (by omega) (by omega)).trans x81
  have x92 := (g2.get H2.next (by omega) (by omega)).trans x82
  have wo := g3.bs.one
  subst z1'
  have KE : Kp H (A9.set H2.next (.cells 24 false [.int .i64 1, .int .i64 (valP V), d, t, w, .int .i64 0, .int .i64 0, .int .i64 0])) := KA9.set (by omega) _
  obtain ⟨H8, v1, v2, v3, v4, v5⟩ := var_ev (q := H.next + 2) hs hb KE (by omega) (by simp; omega) (show _ = some (rdB s a7 s7) by simp [m2, g4]) g5' hl m (by omega)
  have vr := varS_rng hb a7 s7
  rw [hN] at v1 v4 v5 vr; simp only at v1 v4 v5 vr
  simp only [AH.set_next] at v3
  have K8 := v2.kp KE (by omega)
  have u80 : H8.get H.next = some (.cells 24 false zh) := by rw [v2.get _ (by simp; omega) (by omega), AH.set_get, if_neg m0]; exact x90
  have u81 : H8.get (H.next + 1) = some (.cells 24 false zh) := by rw [v2.get _ (by simp; omega) (by omega), AH.set_get, if_neg m1]; exact x91
  have u82 : H8.get H2.next = some (.cells 24 false [.int .i64 1, .int .i64 (valP V), d, t, w, .int .i64 0, .int .i64 0, .int .i64 0]) := by rw [v2.get _ (by simp; omega) (by omega)]; simp
  have ft := fault_ev v4 m (by omega)
  obtain ⟨rE, H9, c1, c2, c3, c4, c5⟩ := takeR_ev hs K8 (q := H.next + 2) (by omega) (by omega) v4 v5 hl n vr.1 vr.2 m (by omega)
  rw [hE] at c3 c4 c5; simp only at c3 c4 c5
  have n9 := c2.next
  have K9 := c2.kp K8 (by omega)
  have u90 := (c2.get H.next (by omega) (by omega)).trans u80
  have u91 := (c2.get (H.next + 1) (by omega) (by omega)).trans u81
  have u92 := (c2.get H2.next (by omega) (by omega)).trans u82
  subst p1
  subst p4
  simp only [rdB, zh] at *
  unfold PsRes
  rw [ev_eq Try.func58 ok58 m _ H (by simp [Try.f58])]
  simp [Try.f58, push_set2P, n11, n21, ldVar, stVar, perr, hdr, hs.one, cells_one hs.one, hL, k1, z0, z1, hq1, evHist, ObsOk, ObOk, f1, f2, q4, f3, do1, cells_one do1, g5, f4, q6, f5, to1, cells_one to1, g7, q7, e40, e41, e60, e61, e70, e71, m0, m0', m1, m1', m2, m2', r1, r2, h3, h5, h7, wf, hk, wk, n3', b1, b4, x80, x81, x82, g1, g4, x90, x91, x92, wo, cells_one wo, z2', v1, v4, u80, u81, u82, c1, c4, u90, u91, u92, p2, p3]
  exact ⟨_, _, _, _, ⟨⟨rfl, rfl, rfl⟩, rfl⟩, K9.set (Nat.le_refl _) _, Ox.nil _ _, Ox.nil _ _, Ox.nil _ _⟩
theorem peekS_I5 {H : AH} {s : AV} {l : List Int} {cid : Int} (hs : Bs H s l) (hb : By l) (hl : l.length ≤ 65536) (m : Nat) (hm : 40 ≤ m)
    {O : List Int} {a : Nat} {s0 : Bool} (hO : takeS l 0 false 1 = (O, a, s0)) (h0 : s0 = false) (h128 : 128 ≤ valP O)
    {V : List Int} {a1 : Nat} {s1 : Bool} (hV : takeS l a false 4 = (V, a1, s1)) {N1 : List Int} {a2 : Nat} {s2 : Bool} (hN1 : takeS l a1 s1 1 = (N1, a2, s2)) {D : List Int} {a3 : Nat} {s3 : Bool} (hD : takeS l a2 s2 (valP N1) = (D, a3, s3))
    {N2 : List Int} {a4 : Nat} {s4 : Bool} (hN2 : takeS l a3 s3 1 = (N2, a4, s4)) {S : List Int} {a5 : Nat} {s5 : Bool} (hS : takeS l a4 s4 (valP N2) = (S, a5, s5)) (h2 : s2 = false) (h3 : ¬ 8 < valP N1) (h4 : s4 = false) (h5 : ¬ 8 < valP N2) (h6 : s5 = false) (h7 : ¬ valP V = 0) (hx : 192 ≤ valP O) (hx2 : valP O < 208) {k : Int} {a6 : Nat} {s6 : Bool} (hN0 : varS l a5 false = (k, a6, s6)) {T : List Int} {a7 : Nat} {s7 : Bool} (hT : takeS l a6 s6 k = (T, a7, s7)) (z1' : s6 = false) (z2' : ¬ 64 < k) {n : Int} {a8 : Nat} {s8 : Bool} (hN : varS l a7 s7 = (n, a8, s8)) {E : List Int} {a9 : Nat} {s9 : Bool} (hE : takeS l a8 s8 n = (E, a9, s9)) (p1 : s8 = false) (p2 : ¬ n < 12) (p3 : ¬ 1508 < n) (p4 : s9 = false) : PsRes H s cid m ⟨0, 1, valP V, D, S, T, a9⟩ := by
  obtain ⟨m, rfl⟩ : ∃ k, m = k + 1 := ⟨m - 1, by omega⟩
  obtain ⟨H1, k1, n1', K1, z0, z1, hq1, ha⟩ := peekS_pro hs hb hl m (by omega) hO
  have hL : ∀ h, lenA Try.prog 22 s h = some (.int .i64 l.length) := hs.len
  subst h0
  obtain ⟨H2, H4, d, H5, H6, t, H7, f1, f2, q4, f3, do1, g5, f4, q6, f5, to1, g7, q7, ha5, N2', N4, N5, N6, N7, G4, G6, G7, K4, K6, K7, Do, So⟩ := peekS_ids hs hb K1 (q := H.next + 2) (by omega) (by omega) hq1 ha hl m (by omega) hV hN1 hD hN2 hS
  have e40 := (G4 H.next (by omega) (by omega)).trans z0
  have e41 := (G4 (H.next + 1) (by omega) (by omega)).trans z1
  have e60 := (G6 H.next (by omega) (by omega)).trans z0
  have e61 := (G6 (H.next + 1) (by omega) (by omega)).trans z1
  have e70 := (G7 H.next (by omega) (by omega)).trans z0
  have e71 := (G7 (H.next + 1) (by omega) (by omega)).trans z1
  have m0 : ¬ (H.next = H2.next) := by omega
  have m0' : ¬ (H2.next = H.next) := by omega
  have m1 : ¬ (H.next + 1 = H2.next) := by omega
  have m1' : ¬ (H2.next = H.next + 1) := by omega
  have m2 : ¬ (H.next + 2 = H2.next) := by omega
  have m2' : ¬ (H2.next = H.next + 2) := by omega
  have r1 : ¬ (valP O < 64) := by omega
  have r2 : ¬ (valP O < 128) := by omega
  subst h2
  subst h4
  subst h6
  have wf : IntKind.i64.wrap (valP O - 192) = valP O - 192 := wrap_i64 (by omega) (by omega)
  have hk : (valP O - 192).tdiv 16 = 0 := by rw [Int.tdiv_eq_ediv_of_nonneg (by omega)]; omega
  have n3' : ¬ (valP O < 192) := by omega
  have wk : IntKind.i64.wrap 0 = 0 := wrap_i64 (by omega) (by omega)
  have KD : Kp H (H7.set H2.next (.cells 24 false [.int .i64 1, .int .i64 (valP V), d, t, .nilSlice, .int .i64 0, .int .i64 0, .int .i64 0])) := K7.set (by omega) _
  obtain ⟨A8, b1, b2, b3, b4, b5⟩ := var_ev (q := H.next + 2) hs hb KD (by omega) (by simp; omega) (show _ = some (rdB s a5 false) by simp [m2, q7]) ha5 hl m (by omega)
  have br := varS_rng hb a5 false
  rw [hN0] at b1 b4 b5 br; simp only at b1 b4 b5 br
  simp only [AH.set_next] at b3
  have KA := b2.kp KD (by omega)
  have x80 : A8.get H.next = some (.cells 24 false zh) := by rw [b2.get _ (by simp; omega) (by omega), AH.set_get, if_neg m0]; exact e70
  have x81 : A8.get (H.next + 1) = some (.cells 24 false zh) := by rw [b2.get _ (by simp; omega) (by omega), AH.set_get, if_neg m1]; exact e71
  have x82 : A8.get H2.next = some (.cells 24 false [.int .i64 1, .int .i64 (valP V), d, t, .nilSlice, .int .i64 0, .int .i64 0, .int .i64 0]) := by rw [b2.get _ (by simp; omega) (by omega)]; simp
  have fa := fault_ev b4 m (by omega)
  obtain ⟨w, A9, g1, g2, g3, g4, g5'⟩ := takeR_ev hs KA (q := H.next + 2) (by omega) (by omega) b4 b5 hl k br.1 br.2 m (by omega)
  rw [hT] at g3 g4 g5'; simp only at g3 g4 g5'
  have na9 := g2.next
  have KA9 := g2.kp KA (by omega)
  have x90 := (g2.get H.next (by omega) (by omega)).trans x80
  have x91 := (g2.get (H.next + 1) (by omega) (by omega)).trans x81
  have x92 := (g2.get H2.next (by omega) (by omega)).trans x82
  have wo := g3.bs.one
  subst z1'
  have KE : Kp H (A9.set H2.next (.cells 24 false [.int .i64 1, .int .i64 (valP V), d, t, w, .int .i64 0, .int .i64 0, .int .i64 0])) := KA9.set (by omega) _
  obtain ⟨H8, v1, v2, v3, v4, v5⟩ := var_ev (q := H.next + 2) hs hb KE (by omega) (by simp; omega) (show _ = some (rdB s a7 s7) by simp [m2, g4]) g5' hl m (by omega)
  have vr := varS_rng hb a7 s7
  rw [hN] at v1 v4 v5 vr; simp only at v1 v4 v5 vr
  simp only [AH.set_next] at v3
  have K8 := v2.kp KE (by omega)
  have u80 : H8.get H.next = some (.cells 24 false zh) := by rw [v2.get _ (by simp; omega) (by omega), AH.set_get, if_neg m0]; exact x90
  have u81 : H8.get (H.next + 1) = some (.cells 24 false zh) := by rw [v2.get _ (by simp; omega) (by omega), AH.set_get, if_neg m1]; exact x91
  have u82 : H8.get H2.next = some (.cells 24 false [.int .i64 1, .int .i64 (valP V), d, t, w, .int .i64 0, .int .i64 0, .int .i64 0]) := by rw [v2.get _ (by simp; omega) (by omega)]; simp
  have ft := fault_ev v4 m (by omega)
  obtain ⟨rE, H9, c1, c2, c3, c4, c5⟩ := takeR_ev hs K8 (q := H.next + 2) (by omega) (by omega) v4 v5 hl n vr.1 vr.2 m (by omega)
  rw [hE] at c3 c4 c5; simp only at c3 c4 c5
  have n9 := c2.next
  have K9 := c2.kp K8 (by omega)
  have u90 := (c2.get H.next (by omega) (by omega)).trans u80
  have u91 := (c2.get (H.next + 1) (by omega) (by omega)).trans u81
  have u92 := (c2.get H2.next (by omega) (by omega)).trans u82
  subst p1
  subst p4
  simp only [rdB, zh] at *
  unfold PsRes
  rw [ev_eq Try.func58 ok58 m _ H (by simp [Try.f58])]
  simp [Try.f58, push_set2P, n11, n21, ldVar, stVar, perr, hdr, hs.one, cells_one hs.one, hL, k1, z0, z1, hq1, evHist, ObsOk, ObOk, f1, f2, q4, f3, do1, cells_one do1, g5, f4, q6, f5, to1, cells_one to1, g7, q7, e40, e41, e60, e61, e70, e71, m0, m0', m1, m1', m2, m2', r1, r2, h3, h5, h7, wf, hk, wk, n3', b1, b4, x80, x81, x82, g1, g4, x90, x91, x92, wo, cells_one wo, z2', v1, v4, u80, u81, u82, c1, c4, u90, u91, u92, p2, p3]
  exact ⟨_, _, _, _, ⟨⟨rfl, rfl, rfl⟩, rfl⟩, K9.set (Nat.le_refl _) _, (((((((Do.set _ (by omega)).kx b2 (by omega)).kx g2 (by omega)).set _ (by omega)).kx v2 (by omega)).kx c2 (by omega)).set _ (by omega)).ox (by omega), (((((((So.set _ (by omega)).kx b2 (by omega)).kx g2 (by omega)).set _ (by omega)).kx v2 (by omega)).kx c2 (by omega)).set _ (by omega)).ox (by omega), ((((g3.set _ (by omega)).kx v2 (by omega)).kx c2 (by omega)).set _ (by omega)).ox (by omega)⟩
end Go.Ev

/- Both answer alike: the specification's peek, whole. -/
namespace Go.Ev
open Go Go.Proofs
set_option linter.unusedSimpArgs false
set_option linter.unusedVariables false

def cO (sh : Bool) : Int := if sh = true then 2 else 0
@[simp] theorem cO_t : cO true = 2 := rfl
@[simp] theorem cO_f : cO false = 0 := rfl
theorem takeI_S {l : List Int} {a : Nat} {sh : Bool} {n : Int} (hn : 0 ≤ n) : takeI l a (cO sh) n = ((takeS l a sh n).1, (takeS l a sh n).2.1, cO (takeS l a sh n).2.2) := by
  cases sh with
  | true => simp [takeI, takeS]
  | false =>
    by_cases h : (l.length : Int) - a < n
    · simp [takeI, takeS, h]
    · have : ¬ n < 0 := by omega
      simp [takeI, takeS, h, this]
theorem octV_valP {l : List Int} (h : l.length ≤ 1) : octV l = valP l := by
  match l, h with
  | [], _ => rfl
  | [x], _ => simp [octV, valP]
  | x :: y :: t, h => simp at h
theorem octetI_S {l : List Int} {a : Nat} {sh : Bool} {O : List Int} {a' : Nat} {s' : Bool} (h : takeS l a sh 1 = (O, a', s')) : octetI l a (cO sh) = (valP O, a', cO s') := by
  have h1 := (takeS_len l a sh 1).1
  unfold octetI
  rw [takeI_S (by decide), h]
  rw [h] at h1
  simp only
  rw [octV_valP (by simpa using h1)]
theorem numberI_S {l : List Int} {a : Nat} {sh : Bool} {n : Int} {a' : Nat} {s' : Bool} (h : varS l a sh = (n, a', s')) : numberI l a (cO sh) = (n, a', cO s') := by
  cases sh with
  | true =>
    simp [varS] at h
    obtain ⟨rfl, rfl, rfl⟩ := h
    simp [numberI]
  | false =>
    rcases getVarP_code l a with h2 | h2
    · simp [varS, h2] at h
      obtain ⟨rfl, rfl, rfl⟩ := h
      simp [numberI, h2]
    · simp [varS, h2] at h
      obtain ⟨rfl, rfl, rfl⟩ := h
      simp [numberI, h2]
theorem endP_S {l : List Int} (hb : By l) {f v : Int} {D S T : List Int} {a : Nat} {sh : Bool} {n : Int} {a8 : Nat} {s8 : Bool} (hN : varS l a sh = (n, a8, s8)) {E : List Int} {a9 : Nat} {s9 : Bool} (hE : takeS l a8 s8 n = (E, a9, s9)) :
    endP l f v D S T a (cO sh) = if s8 = true then perr 2 else if n < 12 ∨ 1508 < n then perr 3 else if s9 = true then perr 2 else ⟨0, f, v, D, S, T, a9⟩ := by
  have hn := (varS_rng hb a sh).1
  rw [hN] at hn; simp only at hn
  unfold endP
  rw [numberI_S hN]
  simp only
  cases s8 with
  | true => simp [takeI]
  | false =>
    by_cases h1 : n < 12 ∨ 1508 < n
    · simp [h1, takeI]
    · have := takeI_S (l := l) (a := a8) (sh := false) hn
      rw [hE] at this
      simp only [cO_f] at this
      simp only [h1, and_false, false_and, if_false, cO_f, this]
      cases s9 <;> simp
end Go.Ev

/- The specification's peek, whole; Peek. -/
namespace Go.Ev
open Go Go.Proofs
set_option linter.unusedSimpArgs false
set_option linter.unusedVariables false

theorem cidI_S {l : List Int} (hb : By l) {a : Nat} {sh : Bool} {N1 : List Int} {a2 : Nat} {s2 : Bool} (hN : takeS l a sh 1 = (N1, a2, s2)) {D : List Int} {a3 : Nat} {s3 : Bool} (hD : takeS l a2 s2 (valP N1) = (D, a3, s3)) :
    cidI l a (cO sh) = if s2 = true then ([], a2, 2) else if 8 < valP N1 then ([], a2, 3) else (D, a3, cO s3) := by
  have hn := valP1 (takeS_by hb a sh 1) (by simpa using (takeS_len l a sh 1).1)
  rw [hN] at hn; simp only at hn
  unfold cidI
  rw [octetI_S hN]
  cases s2 with
  | true => simp [takeI]
  | false =>
    by_cases h8 : 8 < valP N1
    · simp [takeI, h8]
    · have := takeI_S (l := l) (a := a2) (sh := false) hn.1
      rw [hD] at this
      simp only [cO_f] at this
      simp [h8, this]
theorem peekS_all {H : AH} {s : AV} {l : List Int} {cid : Int} (hs : Bs H s l) (hb : By l) (hl : l.length ≤ 65536) (hcid : 0 ≤ cid) (hcid8 : cid ≤ 8) (m : Nat) (hm : 40 ≤ m) : PsRes H s cid m (peekP l cid) := by
  unfold peekP
  obtain ⟨⟨O, a, s0⟩, hO⟩ : ∃ x, takeS l 0 false 1 = x := ⟨_, rfl⟩
  have hof := valP1 (takeS_by hb 0 false 1) (by simpa using (takeS_len l 0 false 1).1)
  rw [hO] at hof; simp only at hof
  have hO' : octetI l 0 0 = (valP O, a, cO s0) := octetI_S (sh := false) hO
  rw [hO']
  simp only
  cases s0 with
  | true => rw [if_pos (by simp)]; exact peekS_A hs hb hl m hm hO rfl
  | false =>
    rw [if_neg (by simp)]
    by_cases h64 : valP O < 64
    · rw [if_pos h64]; exact peekS_B hs hb hl m hm hO rfl h64
    · rw [if_neg h64]
      by_cases h128 : valP O < 128
      · rw [if_pos h128]
        obtain ⟨⟨D, a1, s1⟩, hD⟩ : ∃ x, takeS l a false cid = x := ⟨_, rfl⟩
        have hD' := takeI_S (l := l) (a := a) (sh := false) hcid
        rw [hD] at hD'
        simp only [cO_f] at hD'
        rw [hD']
        simp only
        cases s1 with
        | true => rw [if_pos (by simp [takeI])]; simp only [cO_t, takeI]; simp; exact peekS_C1 hs hb hl m hm hO rfl h64 h128 hcid hcid8 hD rfl
        | false =>
          by_cases h2 : (l.length : Int) - a1 < 12
          · rw [if_pos (by simp [takeI, h2])]; simp [takeI, h2]; exact peekS_C2 hs hb hl m hm hO rfl h64 h128 hcid hcid8 hD rfl h2
          · rw [if_neg (by simp [takeI, h2])]; exact peekS_C3 hs hb hl m hm hO rfl h64 h128 hcid hcid8 hD rfl h2
      · rw [if_neg h128]
        have h128' : 128 ≤ valP O := by omega
        obtain ⟨⟨V, a1, s1⟩, hV⟩ : ∃ x, takeS l a false 4 = x := ⟨_, rfl⟩
        obtain ⟨⟨N1, a2, s2⟩, hN1⟩ : ∃ x, takeS l a1 s1 1 = x := ⟨_, rfl⟩
        obtain ⟨⟨D, a3, s3⟩, hD⟩ : ∃ x, takeS l a2 s2 (valP N1) = x := ⟨_, rfl⟩
        obtain ⟨⟨N2, a4, s4⟩, hN2⟩ : ∃ x, takeS l a3 s3 1 = x := ⟨_, rfl⟩
        obtain ⟨⟨S, a5, s5⟩, hS⟩ : ∃ x, takeS l a4 s4 (valP N2) = x := ⟨_, rfl⟩
        have hV' : takeI l a 0 4 = (V, a1, cO s1) := by
          have := takeI_S (l := l) (a := a) (sh := false) (n := 4) (by decide)
          rw [hV] at this; simpa using this
        rw [hV']
        unfold idsP
        simp only [cidI_S hb hN1 hD]
        cases s2 with
        | true => simp only [if_true, cidI_st (show (2 : Int) ≠ 0 by decide)]; unfold longP; rw [if_pos (by simp)]; exact peekS_L1 hs hb hl m hm hO rfl h128' hV hN1 hD hN2 hS rfl
        | false =>
          by_cases h3 : 8 < valP N1
          · simp only [h3, if_true, cidI_st (show (3 : Int) ≠ 0 by decide)]; unfold longP; simp; exact peekS_L2 hs hb hl m hm hO rfl h128' hV hN1 hD hN2 hS rfl h3
          · simp only [h3, if_false, cidI_S hb hN2 hS, Bool.false_eq_true]
            cases s4 with
            | true => simp only [if_true]; unfold longP; simp; exact peekS_L3 hs hb hl m hm hO rfl h128' hV hN1 hD hN2 hS rfl h3 rfl
            | false =>
              by_cases h5 : 8 < valP N2
              · simp only [h5, if_true, Bool.false_eq_true, if_false]; unfold longP; simp; exact peekS_L4 hs hb hl m hm hO rfl h128' hV hN1 hD hN2 hS rfl h3 rfl h5
              · simp only [h5, if_false, Bool.false_eq_true]
                unfold longP
                cases s5 with
                | true => simp; exact peekS_L5 hs hb hl m hm hO rfl h128' hV hN1 hD hN2 hS rfl h3 rfl h5 rfl
                | false =>
                  simp only [cO_f]
                  rw [if_neg (by decide)]
                  by_cases h7 : valP V = 0
                  · rw [if_pos h7]
                    by_cases h8 : valP O = 128
                    · by_cases h9 : versP (l.drop a5) = true
                      · rw [if_pos ⟨h8, h9⟩]; exact peekS_E1 hs hb hl m hm hO rfl h128' hV hN1 hD hN2 hS rfl h3 rfl h5 rfl h7 h8 h9
                      · rw [if_neg (fun h => h9 h.2)]; exact peekS_E3 hs hb hl m hm hO rfl h128' hV hN1 hD hN2 hS rfl h3 rfl h5 rfl h7 h8 (by simpa using h9)
                    · rw [if_neg (fun h => h8 h.1)]; exact peekS_E2 hs hb hl m hm hO rfl h128' hV hN1 hD hN2 hS rfl h3 rfl h5 rfl h7 h8
                  · rw [if_neg h7]
                    by_cases hx : valP O < 192
                    · rw [if_pos (.inl hx)]; exact peekS_F1 hs hb hl m hm hO rfl h128' hV hN1 hD hN2 hS rfl h3 rfl h5 rfl h7 hx
                    · by_cases hy : 208 ≤ valP O ∧ valP O < 224
                      · rw [if_pos (.inr hy)]; exact peekS_F2 hs hb hl m hm hO rfl h128' hV hN1 hD hN2 hS rfl h3 rfl h5 rfl h7 hy.1 hy.2
                      · rw [if_neg (by omega)]
                        by_cases hz : 240 ≤ valP O
                        · rw [if_pos hz]
                          by_cases hR : l.length - a5 < 9
                          · rw [if_pos hR]; exact peekS_G1 hs hb hl m hm hO rfl h128' hV hN1 hD hN2 hS rfl h3 rfl h5 rfl h7 hz hof.2 hR
                          · rw [if_neg hR]
                            by_cases hR2 : 72 < l.length - a5
                            · rw [if_pos hR2]; exact peekS_G2 hs hb hl m hm hO rfl h128' hV hN1 hD hN2 hS rfl h3 rfl h5 rfl h7 hz hof.2 hR2
                            · rw [if_neg hR2]; exact peekS_G3 hs hb hl m hm hO rfl h128' hV hN1 hD hN2 hS rfl h3 rfl h5 rfl h7 hz hof.2 (by omega) (by omega)
                        · rw [if_neg hz]
                          by_cases hw : 224 ≤ valP O
                          · rw [if_pos hw]
                            obtain ⟨⟨n, a8, s8⟩, hN⟩ : ∃ x, varS l a5 false = x := ⟨_, rfl⟩
                            obtain ⟨⟨E, a9, s9⟩, hE⟩ : ∃ x, takeS l a8 s8 n = x := ⟨_, rfl⟩
                            have e := endP_S hb (f := 2) (v := valP V) (D := D) (S := S) (T := []) hN hE
                            rw [cO_f] at e
                            rw [e]
                            cases s8 with
                            | true => rw [if_pos rfl]; exact peekS_H1 hs hb hl m hm hO rfl h128' hV hN1 hD hN2 hS rfl h3 rfl h5 rfl h7 hw (by omega) hN hE rfl
                            | false =>
                              rw [if_neg (by decide)]
                              by_cases q1 : n < 12
                              · rw [if_pos (.inl q1)]; exact peekS_H2 hs hb hl m hm hO rfl h128' hV hN1 hD hN2 hS rfl h3 rfl h5 rfl h7 hw (by omega) hN hE rfl q1
                              · by_cases q2 : 1508 < n
                                · rw [if_pos (.inr q2)]; exact peekS_H3 hs hb hl m hm hO rfl h128' hV hN1 hD hN2 hS rfl h3 rfl h5 rfl h7 hw (by omega) hN hE rfl q1 q2
                                · rw [if_neg (by omega)]
                                  cases s9 with
                                  | true => rw [if_pos rfl]; exact peekS_H4 hs hb hl m hm hO rfl h128' hV hN1 hD hN2 hS rfl h3 rfl h5 rfl h7 hw (by omega) hN hE rfl q1 q2 rfl
                                  | false => rw [if_neg (by decide)]; exact peekS_H5 hs hb hl m hm hO rfl h128' hV hN1 hD hN2 hS rfl h3 rfl h5 rfl h7 hw (by omega) hN hE rfl q1 q2 rfl
                          · rw [if_neg hw]
                            obtain ⟨⟨k, a6, s6⟩, hN0⟩ : ∃ x, varS l a5 false = x := ⟨_, rfl⟩
                            obtain ⟨⟨T, a7, s7⟩, hT⟩ : ∃ x, takeS l a6 s6 k = x := ⟨_, rfl⟩
                            have hk := (varS_rng hb a5 false).1
                            rw [hN0] at hk; simp only at hk
                            have e0 := numberI_S hN0
                            rw [cO_f] at e0
                            rw [e0]
                            unfold tokP
                            simp only
                            cases s6 with
                            | true =>
                              simp [takeI, endP, numberI]
                              exact peekS_T1 hs hb hl m hm hO rfl h128' hV hN1 hD hN2 hS rfl h3 rfl h5 rfl h7 (by omega) (by omega) hN0 hT rfl
                            | false =>
                              by_cases z2 : 64 < k
                              · simp [takeI, endP, numberI, z2]
                                exact peekS_T2 hs hb hl m hm hO rfl h128' hV hN1 hD hN2 hS rfl h3 rfl h5 rfl h7 (by omega) (by omega) hN0 hT rfl z2
                              · have hT' := takeI_S (l := l) (a := a6) (sh := false) hk
                                rw [hT] at hT'
                                simp only [cO_f] at hT'
                                simp only [z2, false_and, if_false, cO_f, hT']
                                obtain ⟨⟨n, a8, s8⟩, hN⟩ : ∃ x, varS l a7 s7 = x := ⟨_, rfl⟩
                                obtain ⟨⟨E, a9, s9⟩, hE⟩ : ∃ x, takeS l a8 s8 n = x := ⟨_, rfl⟩
                                rw [endP_S hb hN hE]
                                cases s8 with
                                | true => rw [if_pos rfl]; exact peekS_I1 hs hb hl m hm hO rfl h128' hV hN1 hD hN2 hS rfl h3 rfl h5 rfl h7 (by omega) (by omega) hN0 hT rfl z2 hN hE rfl
                                | false =>
                                  rw [if_neg (by decide)]
                                  by_cases q1 : n < 12
                                  · rw [if_pos (.inl q1)]; exact peekS_I2 hs hb hl m hm hO rfl h128' hV hN1 hD hN2 hS rfl h3 rfl h5 rfl h7 (by omega) (by omega) hN0 hT rfl z2 hN hE rfl q1
                                  · by_cases q2 : 1508 < n
                                    · rw [if_pos (.inr q2)]; exact peekS_I3 hs hb hl m hm hO rfl h128' hV hN1 hD hN2 hS rfl h3 rfl h5 rfl h7 (by omega) (by omega) hN0 hT rfl z2 hN hE rfl q1 q2
                                    · rw [if_neg (by omega)]
                                      cases s9 with
                                      | true => rw [if_pos rfl]; exact peekS_I4 hs hb hl m hm hO rfl h128' hV hN1 hD hN2 hS rfl h3 rfl h5 rfl h7 (by omega) (by omega) hN0 hT rfl z2 hN hE rfl q1 q2 rfl
                                      | false => rw [if_neg (by decide)]; exact peekS_I5 hs hb hl m hm hO rfl h128' hV hN1 hD hN2 hS rfl h3 rfl h5 rfl h7 (by omega) (by omega) hN0 hT rfl z2 hN hE rfl q1 q2 rfl
end Go.Ev

/- The law FnExactPeek by the evaluator. -/
namespace Go.Ev
open Go Go.Proofs
set_option linter.unusedSimpArgs false
set_option linter.unusedVariables false

def ShP (l : List Int) (R : PR) : Prop := R.D.length ≤ l.length ∧ R.S.length ≤ l.length ∧ R.T.length ≤ l.length
theorem ShP.err (l : List Int) (c : Int) : ShP l (perr c) := by simp [ShP, perr]
theorem endP_sh {l : List Int} {f v : Int} {D S T : List Int} {a : Nat} {c : Int} (hD : D.length ≤ l.length) (hS : S.length ≤ l.length) (hT : T.length ≤ l.length) : ShP l (endP l f v D S T a c) := by
  unfold endP
  repeat' split
  all_goals first | exact ShP.err _ _ | exact ⟨hD, hS, hT⟩
theorem cidI_len (l : List Int) (a : Nat) (c : Int) : (cidI l a c).1.length ≤ l.length := (takeI_len _ _ _ _).2
theorem peekP_sh (l : List Int) (cid : Int) : ShP l (PeekP l cid) := by
  unfold PeekP
  split
  · exact ShP.err _ _
  · split
    · exact ShP.err _ _
    · unfold peekP
      split
      · exact ShP.err _ _
      · split
        · exact ShP.err _ _
        · split
          · split
            · exact ShP.err _ _
            · exact ⟨(takeI_len _ _ _ _).2, by simp, by simp⟩
          · unfold idsP longP
            split
            · exact ShP.err _ _
            · split
              · split
                · exact ⟨cidI_len _ _ _, cidI_len _ _ _, by simp⟩
                · exact ShP.err _ _
              · split
                · exact ShP.err _ _
                · split
                  · split
                    · exact ShP.err _ _
                    · split
                      · exact ShP.err _ _
                      · exact ⟨cidI_len _ _ _, cidI_len _ _ _, by simp; omega⟩
                  · split
                    · exact endP_sh (cidI_len _ _ _) (cidI_len _ _ _) (by simp)
                    · exact endP_sh (cidI_len _ _ _) (cidI_len _ _ _) (takeI_len _ _ _ _).2
end Go.Ev

/- The stirrer: both rotations, both stirs. -/
namespace Go.Ev
open Go Go.Proofs
set_option linter.unusedSimpArgs false
set_option linter.unusedVariables false

def rotU (x : Int) (k : Nat) : Int := bits .or .u32 (IntKind.u32.wrap (x * 2 ^ k)) (x.fdiv (2 ^ (32 - k)))
theorem rotI_ev {x K : Int} {k : Nat} (hk : (k = 7 ∧ K = 7) ∨ (k = 13 ∧ K = 13) ∨ (k = 17 ∧ K = 17)) (H : AH) (m : Nat) (hm : 1 ≤ m) : ev Try.prog m 127 [.int .u32 x, .int .i64 K] H = some (.int .u32 (rotU x k), H) := by
  obtain ⟨m, rfl⟩ : ∃ k, m = k + 1 := ⟨m - 1, by omega⟩
  rw [ev_eq Try.func127 ok127 m _ H (by simp [Try.f127])]
  have e1 : bits .and .u64 7 31 = 7 := by decide
  have e2 : bits .and .u64 13 31 = 13 := by decide
  have e3 : bits .and .u64 17 31 = 17 := by decide
  have w1 : IntKind.u64.wrap 7 = 7 := by decide
  have w2 : IntKind.u64.wrap 13 = 13 := by decide
  have w3 : IntKind.u64.wrap 17 = 17 := by decide
  have w4 : IntKind.u64.wrap 25 = 25 := by decide
  have w5 : IntKind.u64.wrap 19 = 19 := by decide
  have w6 : IntKind.u64.wrap 15 = 15 := by decide
  rcases hk with ⟨rfl, rfl⟩ | ⟨rfl, rfl⟩ | ⟨rfl, rfl⟩ <;> simp [Try.f127, convA, e1, e2, e3, w1, w2, w3, w4, w5, w6, rotU, IntKind.bits]
theorem rotS_ev {x K : Int} {k : Nat} (hk : (k = 7 ∧ K = 7) ∨ (k = 13 ∧ K = 13) ∨ (k = 17 ∧ K = 17)) (H : AH) (m : Nat) (hm : 1 ≤ m) : ev Try.prog m 128 [.int .u32 x, .int .i64 K] H = some (.int .u32 (rotU x k), H) := by
  obtain ⟨m, rfl⟩ : ∃ k, m = k + 1 := ⟨m - 1, by omega⟩
  rw [ev_eq Try.func128 ok128 m _ H (by simp [Try.f128])]
  have w1 : IntKind.u64.wrap 7 = 7 := by decide
  have w2 : IntKind.u64.wrap 13 = 13 := by decide
  have w3 : IntKind.u64.wrap 17 = 17 := by decide
  have w4 : IntKind.u64.wrap 25 = 25 := by decide
  have w5 : IntKind.u64.wrap 19 = 19 := by decide
  have w6 : IntKind.u64.wrap 15 = 15 := by decide
  have v4 : IntKind.i64.wrap 25 = 25 := by decide
  have v5 : IntKind.i64.wrap 19 = 19 := by decide
  have v6 : IntKind.i64.wrap 15 = 15 := by decide
  rcases hk with ⟨rfl, rfl⟩ | ⟨rfl, rfl⟩ | ⟨rfl, rfl⟩ <;> simp [Try.f128, convA, w1, w2, w3, w4, w5, w6, v4, v5, v6, rotU, IntKind.bits]

/-- the four numbers -/
structure Sti where
  a : Int
  b : Int
  c : Int
  d : Int
def Sti.cells (s : Sti) : List AV := [.int .u32 s.a, .int .u32 s.b, .int .u32 s.c, .int .u32 s.d]
def stA (s : Sti) (x : Int) : Int := IntKind.u32.wrap (bits .xor .u32 s.a (IntKind.u32.wrap x) * 16777619)
def stB (s : Sti) (x : Int) : Int := rotU (IntKind.u32.wrap (s.b + stA s x)) 7
def stC (s : Sti) (x : Int) : Int := rotU (bits .xor .u32 s.c (stB s x)) 13
def stD (s : Sti) (x : Int) : Int := rotU (IntKind.u32.wrap (s.d + stC s x)) 17
def st1 (s : Sti) (x : Int) : Sti := ⟨bits .xor .u32 (stA s x) (stD s x), stB s x, stC s x, stD s x⟩
def stL (s : Sti) (l : List Int) : Sti := l.foldl st1 s
theorem stL_take {s : Sti} {l : List Int} {k : Nat} (hk : k < l.length) : stL s (l.take (k + 1)) = st1 (stL s (l.take k)) l[k] := by
  rw [List.take_add_one, List.getElem?_eq_getElem hk]; simp only [stL, Option.toList, List.foldl_append, List.foldl_cons, List.foldl_nil]

theorem stL_nil (s : Sti) : stL s [] = s := rfl
theorem stL_app (s : Sti) (l r : List Int) : stL s (l ++ r) = stL (stL s l) r := by simp [stL]
theorem st1_L (s : Sti) (x : Int) : stL s [x] = st1 s x := rfl
attribute [irreducible] rotU stL st1
theorem Bs.at2 {H : AH} {s : AV} {l : List Int} (h : Bs H s l) {k : Nat} (hk : k < l.length) : ∃ b o ro xs, (b < H.next ∧ H.get b = some (.cells 5 ro xs)) ∧ idxA Try.prog 22 s (.int .i64 k) = some (.ptr b (o + k)) ∧ xs[o + k]? = some (.int .u8 l[k]) ∧ ∃ n, s = .slice b o n := by
  rcases h.lie with ⟨rfl, h0⟩ | ⟨b, o, ro, xs, rfl, hn, hb, hl, hx⟩
  · have : l = [] := by simpa [u8L] using h0
    subst this; simp at hk
  · rw [u8L_len] at hl hx
    refine ⟨b, o, ro, xs, ⟨hn, hb⟩, ?_, ?_, _, rfl⟩
    · simp [idxA, u8L_len, hk]
    · have : (u8L l)[k]? = some (.int .u8 l[k]) := by simp [u8L, hk]
      rw [← this, ← hx, List.getElem?_take, if_pos hk, List.getElem?_drop]
def StirInv (l : List Int) (s : AV) (q : Nat) (H : AH) (st : Sti) (d : Nat) (τ : Tm) (h : AH) : Prop :=
  ∃ k : Nat, k + d = l.length ∧ τ 0 = .ptr q 0 ∧ τ 6 = s ∧ τ 7 = .int .i64 l.length ∧ τ 8 = .int .i64 k ∧ ∃ S, S = stL st (l.take k) ∧ h = H.set q (.cells 114 false S.cells)
theorem stirI_ev {Hb H : AH} {q : Nat} {s : AV} {l : List Int} {st : Sti} (hs : Bs Hb s l) (hK : ∀ b, b < Hb.next → b ≠ q → H.get b = Hb.get b) (hsq : ∀ b o n, s = .slice b o n → b ≠ q) (hq : H.get q = some (.cells 114 false st.cells)) (hl : l.length ≤ 1048576) (m : Nat) (hm : l.length + 4 ≤ m) :
    ev Try.prog m 104 [.ptr q 0, s] H = some (U, H.set q (.cells 114 false (stL st l).cells)) := by
  obtain ⟨m, rfl⟩ : ∃ k, m = k + 1 := ⟨m - 1, by omega⟩
  rw [ev_eq Try.func104 ok104 m _ H (by simp [Try.f104])]
  simp [Try.f104, hs.len]
  generalize hLo : evLoop _ _ _ _ _ _ = R
  obtain ⟨e, τ', H', rfl, rfl, rfl⟩ := loop_at hLo (loop_rule (d := l.length)
    (StirInv l s q H st)
    (fun e τ h => e = .exit 0 ∧ h = H.set q (.cells 114 false (stL st l).cells))
    (by
      rintro d τ h ⟨k, hk, t0, t6, t7, t8, S, hS, rfl⟩
      by_cases hd : d = 0
      · subst hd
        have : k = l.length := by omega
        subst this
        rw [List.take_length] at hS
        subst hS
        rewrite [lp104_6]
        simp [Try.f104, t7, t8]
      · have hlt : k < l.length := by omega
        obtain ⟨b, o, ro, xs, a1, a2, a3, a4⟩ := hs.at2 hlt
        have hbq : b ≠ q := by
          obtain ⟨n, hn⟩ := a4
          exact hsq _ _ _ hn
        have hgb : H.get b = some (.cells 5 ro xs) := by rw [hK b a1.1 hbq]; exact a1.2
        have hN : st1 S l[k] = stL st (l.take (k + 1)) := by rw [stL_take hlt, hS]
        have cv1 : ∀ h, convA Try.prog 5 112 (.int .u8 l[k]) h = some (.int .u32 (IntKind.u32.wrap l[k]), h) := fun h => conv_int (ds := .int .u8) (by simp) (by simp)
        obtain ⟨X, hX⟩ : ∃ X, bits .xor .u32 S.a (IntKind.u32.wrap l[k]) = X := ⟨_, rfl⟩
        obtain ⟨A, hA⟩ : ∃ A, IntKind.u32.wrap (X * 16777619) = A := ⟨_, rfl⟩
        obtain ⟨B, hB⟩ : ∃ B, rotU (IntKind.u32.wrap (S.b + A)) 7 = B := ⟨_, rfl⟩
        obtain ⟨C, hC⟩ : ∃ C, rotU (bits .xor .u32 S.c B) 13 = C := ⟨_, rfl⟩
        obtain ⟨D, hD⟩ : ∃ D, rotU (IntKind.u32.wrap (S.d + C)) 17 = D := ⟨_, rfl⟩
        obtain ⟨E, hE⟩ : ∃ E, bits .xor .u32 A D = E := ⟨_, rfl⟩
        have hS1 : st1 S l[k] = ⟨E, B, C, D⟩ := by rw [st1]; simp only [stA, stB, stC, stD, hX, hA, hB, hC, hD, hE]
        rw [hS1] at hN
        have r1 := fun h => rotI_ev (x := IntKind.u32.wrap (S.b + A)) (K := 7) (k := 7) (by simp) h m (by omega)
        have r2 := fun h => rotI_ev (x := bits .xor .u32 S.c B) (K := 13) (k := 13) (by simp) h m (by omega)
        have r3 := fun h => rotI_ev (x := IntKind.u32.wrap (S.d + C)) (K := 17) (k := 17) (by simp) h m (by omega)
        simp only [hB, hC, hD] at r1 r2 r3
        obtain ⟨sa, sb, sc, sd⟩ := S
        simp only [Sti.cells] at *
        rewrite [lp104_6]
        simp [Try.f104, t0, t6, t7, t8, hlt, a2, a3, hgb, hbq, ldVar, stVar, cv1, hX, hA, hE, r1, r2, r3, evHist, ObsOk, ObOk, wrap_i64 (n := (k : Int) + 1) (by omega) (by omega)]
        exact ⟨d - 1, by omega, k + 1, by omega, by simp [t0], by simp [t6], by simp [t7], by simp, _, hN, rfl⟩)
    ⟨0, by simp, by simp, by simp, by simp, by simp, ⟨st, by rw [List.take_zero, stL_nil], (AH.set_same H q _ hq).symm⟩⟩ (by omega))
  simp [U]
end Go.Ev

/- The specification's stir. -/
namespace Go.Ev
open Go Go.Proofs
set_option linter.unusedSimpArgs false
set_option linter.unusedVariables false

def StirInvS (l : List Int) (s : AV) (H : AH) (st : Sti) (d : Nat) (τ : Tm) (h : AH) : Prop :=
  ∃ k : Nat, k + d = l.length ∧ τ 1 = s ∧ τ 2 = .ptr H.next 0 ∧ τ 4 = .ptr (H.next + 1) 0 ∧ τ 5 = .int .i64 k ∧ Kp H h ∧ h.next = H.next + 2 ∧ h.get (H.next + 1) = some (.cells 118 false [.int .u32 0, .int .u32 0, .int .u32 0, .int .u32 0]) ∧
    ∃ S, S = stL st (l.take k) ∧ h.get H.next = some (.cells 118 false S.cells)
def StirEndS (l : List Int) (H : AH) (st : Sti) (τ : Tm) (h : AH) : Prop :=
  τ 2 = .ptr H.next 0 ∧ τ 4 = .ptr (H.next + 1) 0 ∧ Kp H h ∧ h.next = H.next + 2 ∧ h.get (H.next + 1) = some (.cells 118 false [.int .u32 0, .int .u32 0, .int .u32 0, .int .u32 0]) ∧ h.get H.next = some (.cells 118 false (stL st l).cells)
theorem stirS_ev {H : AH} {s : AV} {l : List Int} {st : Sti} (hs : Bs H s l) (hl : l.length ≤ 1048576) (m : Nat) (hm : l.length + 4 ≤ m) :
    ∃ H', ev Try.prog m 105 [.agg st.cells, s] H = some (.agg (stL st l).cells, H') ∧ Kp H H' := by
  obtain ⟨m, rfl⟩ : ∃ k, m = k + 1 := ⟨m - 1, by omega⟩
  rw [ev_eq Try.func105 ok105 m _ H (by simp [Try.f105])]
  have hc : ∀ S : Sti, S.cells = [.int .u32 S.a, .int .u32 S.b, .int .u32 S.c, .int .u32 S.d] := fun _ => rfl
  simp [Try.f105, hc st]
  generalize hLo : evLoop _ _ _ _ _ _ = R
  obtain ⟨e, τ', H', rfl, rfl, g1, g2, g3, g4, g5, g6⟩ := loop_at hLo (loop_rule (d := l.length) (StirInvS l s H st)
    (fun e τ h => e = .exit 0 ∧ StirEndS l H st τ h)
    (by
      rintro d τ h ⟨k, hk, t1, t2, t4, t5, hK, hn, hz, S, hS, hg⟩
      have hs' := hs.kp hK
      by_cases hd : d = 0
      · subst hd
        have : k = l.length := by omega
        subst this
        rw [List.take_length] at hS
        subst hS
        rewrite [lp105_26]
        simp [Try.f105, t1, t5, hs'.len]
        exact ⟨t2, t4, hK, hn, hz, hg⟩
      · have hlt : k < l.length := by omega
        obtain ⟨b, o, ro, xs, a1, a2, a3, a4⟩ := hs.at2 hlt
        have hbq : b ≠ H.next := by omega
        have hgb : h.get b = some (.cells 5 ro xs) := by rw [hK.get b a1.1]; exact a1.2
        have hN : st1 S l[k] = stL st (l.take (k + 1)) := by rw [stL_take hlt, hS]
        have cv1 : ∀ h, convA Try.prog 5 112 (.int .u8 l[k]) h = some (.int .u32 (IntKind.u32.wrap l[k]), h) := fun h => conv_int (ds := .int .u8) (by simp) (by simp)
        obtain ⟨X, hX⟩ : ∃ X, bits .xor .u32 S.a (IntKind.u32.wrap l[k]) = X := ⟨_, rfl⟩
        obtain ⟨A, hA⟩ : ∃ A, IntKind.u32.wrap (X * 16777619) = A := ⟨_, rfl⟩
        obtain ⟨B, hB⟩ : ∃ B, rotU (IntKind.u32.wrap (S.b + A)) 7 = B := ⟨_, rfl⟩
        obtain ⟨C, hC⟩ : ∃ C, rotU (bits .xor .u32 S.c B) 13 = C := ⟨_, rfl⟩
        obtain ⟨D, hD⟩ : ∃ D, rotU (IntKind.u32.wrap (S.d + C)) 17 = D := ⟨_, rfl⟩
        obtain ⟨E, hE⟩ : ∃ E, bits .xor .u32 A D = E := ⟨_, rfl⟩
        have hS1 : st1 S l[k] = ⟨E, B, C, D⟩ := by rw [st1]; simp only [stA, stB, stC, stD, hX, hA, hB, hC, hD, hE]
        rw [hS1] at hN
        have r1 := fun h => rotS_ev (x := IntKind.u32.wrap (S.b + A)) (K := 7) (k := 7) (by simp) h m (by omega)
        have r2 := fun h => rotS_ev (x := bits .xor .u32 S.c B) (K := 13) (k := 13) (by simp) h m (by omega)
        have r3 := fun h => rotS_ev (x := IntKind.u32.wrap (S.d + C)) (K := 17) (k := 17) (by simp) h m (by omega)
        simp only [hB, hC, hD] at r1 r2 r3
        obtain ⟨sa, sb, sc, sd⟩ := S
        simp only [hc] at hg
        rewrite [lp105_26]
        simp [Try.f105, t1, t2, t5, hs'.len, hlt, a2, a3, hgb, hbq, hg, ldVar, stVar, cv1, hX, hA, hE, r1, r2, r3, wrap_i64 (n := (k : Int) + 1) (by omega) (by omega)]
        exact ⟨d - 1, by omega, k + 1, by omega, by simp [t1], by simp [t2], by simp [t4], by simp, hK.set (Nat.le_refl _) _, hn, by simp [hz], _, hN, by simp [hc]⟩)
    ⟨0, by simp, by simp, by simp, by simp, by simp, ((Kp.refl H).push _).push _, by simp, by simp, st, by rw [List.take_zero, stL_nil], by simp [hc]⟩ (by omega))
  rw [hc] at g6
  simp [ldVar, stVar, g1, g2, g5, g6, hc]
  exact g3.set (by omega) _
end Go.Ev

/- Digits: fixed and l01Digits. -/
namespace Go.Ev
open Go Go.Proofs
set_option linter.unusedSimpArgs false
set_option linter.unusedVariables false

/-- the n digits to the base 256, the greatest first -/
def dig : Int → Nat → List Int
  | _, 0 => []
  | v, n + 1 => dig (v / 256) n ++ [v % 256]
theorem dig_len : ∀ (n : Nat) (v : Int), (dig v n).length = n
  | 0, v => rfl
  | n + 1, v => by simp [dig, dig_len n]
theorem dig_head : ∀ (n : Nat) (v : Int), dig v (n + 1) = (v / 256 ^ n % 256) :: dig v n
  | 0, v => by simp [dig]
  | n + 1, v => by
    have h := dig_head n (v / 256)
    rw [dig, h, dig, List.cons_append]
    congr 2
    rw [Int.ediv_ediv_of_nonneg (by omega : (0 : Int) ≤ 256), Int.pow_succ, Int.mul_comm]
theorem dig_by : ∀ (n : Nat) (v : Int), By (dig v n)
  | 0, v => by simp [dig, By]
  | n + 1, v => by
    intro x hx
    rw [dig] at hx
    rcases List.mem_append.1 hx with hx | hx
    · exact dig_by n _ x hx
    · simp at hx; subst hx; omega
theorem shr_dig {v : Int} (h0 : 0 ≤ v) (d : Nat) : IntKind.u8.wrap (v.fdiv (2 ^ (8 * d))) = v / 256 ^ d % 256 := by
  rw [wrap_u8]
  have : (2 : Int) ^ (8 * d) = 256 ^ d := by rw [Int.pow_mul]; rfl
  rw [this, Int.fdiv_eq_ediv_of_nonneg _ (by have : (0:Int) < 256 ^ d := Int.pow_pos (by omega); omega)]
def FixInv (v : Int) (l : List Int) (n : Nat) (H : AH) (bs : List Nat) (d : Nat) (τ : Tm) (h : AH) : Prop :=
  ∃ o b', τ 1 = .int .i64 v ∧ τ 7 = .int .i64 ((d : Int) - 1) ∧ d ≤ n ∧ o ++ dig v d = l ++ dig v n ∧ tB.R true h [τ 0] o b' ∧ b'.Nodup ∧ (∀ b ∈ b', b ∈ bs ∨ H.next ≤ b) ∧ KoS bs H h
set_option maxRecDepth 20000 in
theorem fixed58_ev {H : AH} {s : AV} {l : List Int} {bs : List Nat} (hs : tB.R true H [s] l bs) (hnd : bs.Nodup) {v : Int} (h0 : 0 ≤ v) (h1 : v ≤ 9223372036854775807) {n : Nat} (hn : n ≤ 8) (hl : l.length ≤ 1048576) (m : Nat) (hm : 11 ≤ m) :
    ∃ r H' b', ev Try.prog m 61 [s, .int .i64 v, .int .i64 n] H = some (r, H') ∧ tB.R true H' [r] (l ++ dig v n) b' ∧ b'.Nodup ∧ (∀ b ∈ b', b ∈ bs ∨ H.next ≤ b) ∧ KoS bs H H' := by
  obtain ⟨m, rfl⟩ : ∃ k, m = k + 1 := ⟨m - 1, by omega⟩
  rw [ev_eq Try.func61 ok61 m _ H (by simp [Try.f61])]
  simp [Try.f61, wrap_i64 (n := (n : Int) - 1) (by omega) (by omega)]
  generalize hLo : evLoop _ _ _ _ _ _ = R
  obtain ⟨e, τ', H', rfl, rfl, b', g1, g2, g3, g4⟩ := loop_at hLo (loop_rule (d := n) (FixInv v l n H bs)
    (fun e τ h => e = .exit 0 ∧ ∃ b', tB.R true h [τ 0] (l ++ dig v n) b' ∧ b'.Nodup ∧ (∀ b ∈ b', b ∈ bs ∨ H.next ≤ b) ∧ KoS bs H h)
    (by
      rintro d τ h ⟨o, b', t1, t7, hd, ho, hR, hb1, hb2, hK⟩
      generalize t0 : τ 0 = x at *
      by_cases hz : d = 0
      · subst hz
        have : ((0 : Nat) : Int) - 1 = -1 := rfl
        rw [this] at t7
        rewrite [lp61_26]
        simp [Try.f61, t0, t1, t7]
        exact ⟨b', by rw [← ho]; simpa [dig] using hR, hb1, hb2, hK⟩
      · obtain ⟨d, rfl⟩ : ∃ q, d = q + 1 := ⟨d - 1, by omega⟩
        have e1 : ((d + 1 : Nat) : Int) - 1 = d := by omega
        rw [e1] at t7
        have cv1 : ∀ h, convA Try.prog 3 110 (.int .i64 v) h = some (.int .u64 v, h) := fun h => by
          rw [conv_int (k := .u64) (ds := .int .i64) (by simp) (by simp)]
          rw [IntKind.wrap_u64]; congr 3; omega
        have hmin : min (8 * (d : Int)).toNat 64 = 8 * d := by omega
        have cv2 : ∀ h, convA Try.prog 110 5 (.int .u64 (v.fdiv (2 ^ (8 * d)))) h = some (.int .u8 (v / 256 ^ d % 256), h) := fun h => by
          rw [conv_int (k := .u8) (ds := .int .u64) (by simp) (by simp), shr_dig h0]
        have hol : o.length ≤ 1048576 + 8 := by
          have := congrArg List.length ho
          simp [dig_len] at this; omega
        have hb8 : 0 ≤ v / 256 ^ d % 256 ∧ v / 256 ^ d % 256 ≤ 255 := by
          generalize v / 256 ^ d = q; omega
        have hneg : ¬ (8 * (d : Int) < 0) := by omega
        have hl1 : (o.length + 1) * 1 ≤ 70368744177664 := by omega
        have hl2 : o.length + 1 ≤ 70368744177664 := by omega
        obtain ⟨s', h', b2, a1, a2, a3, a4, a5⟩ := Ty.R.app1 (P := Try.prog) (T := 22) (e := 5) (t := .int .u8) (c := [.int .u8 (v / 256 ^ d % 256)]) (d := v / 256 ^ d % 256) (b1 := []) hR ⟨rfl, by rw [u8_mm.1]; exact hb8.1, by rw [u8_mm.2]; exact hb8.2, rfl⟩ (by simpa using hb1)
          (by simp) (by simp) (by simp [Ty.n]) (by_ := 1) (by simp) (z := [.int .u8 0]) (by simp) (by simp [Ty.n]) hl1 hl2
        have w1 := wrap_i64 (n := 8 * (d : Int)) (by omega) (by omega)
        have w2 := wrap_i64 (n := (d : Int) - 1) (by omega) (by omega)
        rewrite [lp61_26]
        simp [Try.f61, t0, t1, t7, cv1, w1, w2, hneg, hmin, IntKind.bits, cv2, zerosA, spl, a1]
        refine ⟨d, by omega, o ++ [v / 256 ^ d % 256], b2, by simp [t1], by simp, by omega, ?_, by simpa using a2, a3, fun b hb => ?_, hK.trans a5 hb2⟩
        · rw [← ho, dig_head, List.append_assoc]; rfl
        · rcases a4 b hb with h | h | h
          · exact hb2 b h
          · simp at h
          · have := hK.next; omega)
    ⟨l, bs, by simp, by simp, Nat.le_refl _, rfl, by simpa using hs, hnd, fun b hb => .inl hb, KoS.refl _ _⟩ (by omega))
  simp
  exact ⟨_, _, ⟨rfl, rfl⟩, b', g1, g2, g3, g4⟩
theorem digits_ev : ∀ (n : Nat) {H : AH} {v : Int} (h0 : 0 ≤ v) (h1 : v ≤ 9223372036854775807) (hn : n ≤ 8) (m : Nat) (hm : n + 2 ≤ m),
    ∃ r H' b', ev Try.prog m 62 [.int .i64 v, .int .i64 n] H = some (r, H') ∧ tB.R true H' [r] (dig v n) b' ∧ b'.Nodup ∧ (∀ b ∈ b', H.next ≤ b) ∧ Kp H H'
  | 0, H, v, h0, h1, hn, m, hm => by
    obtain ⟨m, rfl⟩ : ∃ k, m = k + 1 := ⟨m - 1, by omega⟩
    rw [ev_eq Try.func62 ok62 m _ H (by simp [Try.f62])]
    simp [Try.f62, zerosA]
    exact ⟨_, _, ⟨rfl, rfl⟩, [H.next], ints_one (l := []) (by simp) (by simp) (by simp), by simp, by simp, (Kp.refl H).push _⟩
  | n + 1, H, v, h0, h1, hn, m, hm => by
    obtain ⟨m, rfl⟩ : ∃ k, m = k + 1 := ⟨m - 1, by omega⟩
    obtain ⟨r, H1, b1, a1, a2, a3, a4, a5⟩ := digits_ev n (H := H) (v := v / 256) (by omega) (by omega) (by omega) m (by omega)
    rw [ev_eq Try.func62 ok62 m _ H (by simp [Try.f62])]
    have e1 : ((n + 1 : Nat) : Int) - 1 = n := by omega
    have hne : ¬ (((n : Int) + 1) = 0) := by omega
    have q1 : v.tdiv 256 = v / 256 := Int.tdiv_eq_ediv_of_nonneg h0
    have q2 : v.tmod 256 = v % 256 := Int.tmod_eq_emod_of_nonneg h0
    have w1 := wrap_i64 (n := v / 256) (by omega) (by omega)
    have w2 := wrap_i64 (n := (n : Int)) (by omega) (by omega)
    have cv1 : ∀ h, convA Try.prog 3 5 (.int .i64 (v % 256)) h = some (.int .u8 (v % 256), h) := fun h => by
      rw [conv_int (k := .u8) (ds := .int .i64) (by simp) (by simp), wrap_u8]; congr 3; omega
    have hb8 : 0 ≤ v % 256 ∧ v % 256 ≤ 255 := by omega
    have hl2 : (dig (v / 256) n).length + 1 ≤ 70368744177664 := by rw [dig_len]; omega
    have hl1 : ((dig (v / 256) n).length + 1) * 1 ≤ 70368744177664 := by omega
    obtain ⟨s', h', b2, c1, c2, c3, c4, c5⟩ := Ty.R.app1 (P := Try.prog) (T := 22) (e := 5) (t := .int .u8) (c := [.int .u8 (v % 256)]) (d := v % 256) (b1 := []) a2 ⟨rfl, by rw [u8_mm.1]; exact hb8.1, by rw [u8_mm.2]; exact hb8.2, rfl⟩ (by simpa using a3)
      (by simp) (by simp) (by simp [Ty.n]) (by_ := 1) (by simp) (z := [.int .u8 0]) (by simp) (by simp [Ty.n]) hl1 hl2
    have hz : ¬ ((n : Int) + 1 = 0) := by omega
    simp [Try.f62, hz, q1, q2, w1, w2, a1, cv1, zerosA, spl, c1]
    refine ⟨_, _, ⟨rfl, rfl⟩, b2, by simpa [dig] using c2, c3, fun b hb => ?_, c5.kp a5 a4⟩
    rcases c4 b hb with h | h | h
    · exact a4 b h
    · simp at h
    · have := a5.next; omega
end Go.Ev

/- The program's digest. -/
namespace Go.Ev
open Go Go.Proofs
set_option linter.unusedSimpArgs false
set_option linter.unusedVariables false

theorem u32_in (n : Int) : 0 ≤ IntKind.u32.wrap n ∧ IntKind.u32.wrap n < 4294967296 := by
  have : IntKind.u32.wrap n = n % 4294967296 := by simp [IntKind.wrap, IntKind.signed, IntKind.bits]
  rw [this]; omega
theorem bits_in (op : BinOp) (x y : Int) : 0 ≤ bits op .u32 x y ∧ bits op .u32 x y < 4294967296 := by
  unfold bits
  exact u32_in _
def Sti.ok (s : Sti) : Prop := (0 ≤ s.a ∧ s.a < 4294967296) ∧ (0 ≤ s.b ∧ s.b < 4294967296) ∧ (0 ≤ s.c ∧ s.c < 4294967296) ∧ (0 ≤ s.d ∧ s.d < 4294967296)
theorem rotU_in (x : Int) (k : Nat) : 0 ≤ rotU x k ∧ rotU x k < 4294967296 := by
  have h := bits_in .or (IntKind.u32.wrap (x * 2 ^ k)) (x.fdiv (2 ^ (32 - k)))
  rw [rotU]; exact h
theorem st1_ok (s : Sti) (x : Int) : (st1 s x).ok := by
  rw [st1]
  refine ⟨?_, ?_, ?_, ?_⟩
  · exact bits_in .xor (stA s x) (stD s x)
  · exact rotU_in (IntKind.u32.wrap (s.b + stA s x)) 7
  · exact rotU_in (bits .xor .u32 s.c (stB s x)) 13
  · exact rotU_in (IntKind.u32.wrap (s.d + stC s x)) 17
theorem stL_ok : ∀ (l : List Int) (s : Sti), s.ok → (stL s l).ok
  | [], s, h => by rw [stL_nil]; exact h
  | x :: l, s, h => by
    have : stL s (x :: l) = stL (st1 s x) l := by rw [← st1_L, ← stL_app]; rfl
    rw [this]
    exact stL_ok l _ (st1_ok s x)
def st0 : Sti := ⟨1779033703, 3144134277, 1013904242, 2773480762⟩
theorem st0_ok : st0.ok := by simp [st0, Sti.ok]
def stD5 (key data : List Int) : Sti := stL (stL (stL (stL st0 (dig key.length 4)) key) data) (dig data.length 4)
def stF (key data : List Int) : Sti := stL (stD5 key data) (List.replicate 16 165)
theorem stF_ok (key data : List Int) : (stF key data).ok := stL_ok _ _ (stL_ok _ _ (stL_ok _ _ (stL_ok _ _ (stL_ok _ _ st0_ok))))
def digestL (key data : List Int) : List Int := dig (stF key data).a 4 ++ dig (stF key data).b 4 ++ dig (stF key data).c 4 ++ dig (stF key data).d 4

/-- the stirrer lies behind H and holds S -/
structure Dg (H : AH) (S : Sti) (h : AH) : Prop where
  kp : Kp H h
  lt : H.next < h.next
  get : h.get H.next = some (.cells 114 false S.cells)
theorem Dg.step {H h : AH} {S : Sti} (g : Dg H S h) (l : List Int) : Dg H (stL S l) (h.set H.next (.cells 114 false (stL S l).cells)) :=
  ⟨g.kp.set (Nat.le_refl _) _, g.lt, by simp⟩
theorem Dg.up {H h h' : AH} {S : Sti} (g : Dg H S h) (k : Kp h h') : Dg H S h' := ⟨g.kp.trans k, by have := k.next; have := g.lt; omega, by rw [k.get _ g.lt]; exact g.get⟩
/-- what was there is stirred in -/
theorem Dg.old {H h : AH} {S : Sti} (g : Dg H S h) {s : AV} {l : List Int} (hs : Bs H s l) (hl : l.length ≤ 1048576) (m : Nat) (hm : l.length + 4 ≤ m) : ev Try.prog m 104 [.ptr H.next 0, s] h = some (U, h.set H.next (.cells 114 false (stL S l).cells)) := by
  refine stirI_ev hs (fun b hb _ => g.kp.get b hb) (fun b o n e => ?_) g.get hl m hm
  subst e
  rcases hs.lie with ⟨e, _⟩ | ⟨b', o', ro, xs, e, hn, _⟩
  · simp at e
  · simp at e; omega
/-- what is new is stirred in -/
theorem Dg.new {H h : AH} {S : Sti} (g : Dg H S h) {s : AV} {l : List Int} {bs : List Nat} (hs : tB.R true h [s] l bs) (hb : ∀ b ∈ bs, H.next < b) (hl : l.length ≤ 1048576) (m : Nat) (hm : l.length + 4 ≤ m) : ev Try.prog m 104 [.ptr H.next 0, s] h = some (U, h.set H.next (.cells 114 false (stL S l).cells)) := by
  refine stirI_ev (tB_bs hs).1 (fun b hb _ => rfl) (fun b o n e => ?_) g.get hl m hm
  subst e
  rcases tB_one hs with ⟨e, _⟩ | ⟨b', rfl, e, _⟩
  · simp at e
  · simp at e; have := hb b' (by simp); omega
def DgLoop (H : AH) (S : Sti) (d : Nat) (τ : Tm) (h : AH) : Prop := ∃ k, k + d = 16 ∧ τ 5 = .ptr H.next 0 ∧ τ 27 = .int .i64 k ∧ Dg H (stL S (List.replicate k 165)) h
def xsOf (S : Sti) : List Int := [S.a, S.b, S.c, S.d]
def DgOut (H : AH) (S : Sti) (d : Nat) (τ : Tm) (h : AH) : Prop := ∃ k bs, k + d = 4 ∧ τ 50 = .agg S.cells ∧ τ 51 = .int .i64 k ∧ tB.R true h [τ 6] (((xsOf S).take k).flatMap (dig · 4)) bs ∧ bs.Nodup ∧ (∀ b ∈ bs, H.next ≤ b) ∧ Kp H h
theorem digestI_ev {H : AH} {s1 s2 : AV} {key data : List Int} (h1 : Bs H s1 key) (h2 : Bs H s2 data) (hl1 : key.length ≤ 1048576) (hl2 : data.length ≤ 1048576) (m : Nat) (hm : key.length + data.length + 30 ≤ m) :
    ∃ r H' bs, ev Try.prog m 65 [s1, s2] H = some (r, H') ∧ tB.R true H' [r] (digestL key data) bs ∧ bs.Nodup ∧ (∀ b ∈ bs, H.next ≤ b) ∧ Kp H H' := by
  obtain ⟨m, rfl⟩ : ∃ k, m = k + 1 := ⟨m - 1, by omega⟩
  have L1 : ∀ h, lenA Try.prog 22 s1 h = some (.int .i64 key.length) := h1.len
  have L2 : ∀ h, lenA Try.prog 22 s2 h = some (.int .i64 data.length) := h2.len
  rw [ev_eq Try.func65 ok65 m _ H (by simp [Try.f65])]
  have hc : ∀ S : Sti, S.cells = [.int .u32 S.a, .int .u32 S.b, .int .u32 S.c, .int .u32 S.d] := fun _ => rfl
  have g0 : Dg H st0 (H.push (.cells 114 false st0.cells)) := ⟨(Kp.refl H).push _, by simp, by simp⟩
  obtain ⟨r1, H1, b1, a1, a2, a3, a4, a5⟩ := fixed58_ev (H := H.push (.cells 114 false st0.cells)) (s := .nilSlice) (l := []) (bs := []) (.inl ⟨rfl, rfl, rfl⟩) (by simp) (v := key.length) (by omega) (by omega) (n := 4) (by omega) (by simp) m (by omega)
  have K1 : Kp (H.push (.cells 114 false st0.cells)) H1 := a5.kp (Kp.refl _) (by simp)
  have g1 := g0.up K1
  simp only [List.nil_append] at a2
  have e1 := g1.new a2 (fun b hb => by rcases a4 b hb with h | h; simp at h; simp at h; omega) (by simp [dig_len]) m (by simp [dig_len]; omega)
  have g2 := g1.step (dig key.length 4)
  have e2 := g2.old h1 hl1 m (by omega)
  have g3 := g2.step key
  have e3 := g3.old h2 hl2 m (by omega)
  have g4 := g3.step data
  obtain ⟨r2, H2, b2, c1, c2, c3, c4, c5⟩ := fixed58_ev (s := .nilSlice) (l := []) (bs := []) (.inl ⟨rfl, rfl, rfl⟩) (by simp) (v := data.length) (by omega) (by omega) (n := 4) (by omega) (by simp) m (by omega)
  have g5 := g4.up (c5.kp (Kp.refl _) (by simp))
  simp only [List.nil_append] at c2
  have e4 := g5.new c2 (fun b hb => by rcases c4 b hb with h | h; simp at h; have := g4.lt; omega) (by simp [dig_len]) m (by simp [dig_len]; omega)
  have g6 := g5.step (dig data.length 4)
  have hst : (.int .u32 1779033703 :: .int .u32 3144134277 :: .int .u32 1013904242 :: [.int .u32 2773480762] : List AV) = st0.cells := rfl
  have hS : stL (stL (stL (stL st0 (dig key.length 4)) key) data) (dig data.length 4) = stD5 key data := rfl
  rw [hS] at g6
  have hone : st0.cells.all AV.one = true := rfl
  simp only [Int.cast_ofNat_Int] at a1 c1
  simp only [set_set] at g2 g3 g4 e3 c1 e4 g6
  simp only [hc, st0] at a1 e1 e2 e3 c1 e4
  have hnn : ¬ (H.next + 1 = H.next) := by omega
  simp [Try.f65, L1, L2, a1, e1, e2, e3, c1, e4, spl]
  generalize hLo : evLoop _ _ _ _ _ _ = R
  obtain ⟨e, τ', H', rfl, rfl, t5, g7⟩ := loop_at hLo (loop_rule (d := 16) (DgLoop H (stD5 key data))
    (fun e τ h => e = .exit 0 ∧ τ 5 = .ptr H.next 0 ∧ Dg H (stF key data) h)
    (by
      rintro d τ h ⟨k, hk, t5, t27, g⟩
      by_cases hd : d = 0
      · subst hd
        have : k = 16 := by omega
        subst this
        rewrite [lp65_1018]
        simp [Try.f65, t27]
        exact ⟨t5, g⟩
      · have hlt : (k : Int) < 16 := by omega
        have gp := g.up ((Kp.refl h).push (.cells 5 false [.int .u8 165]))
        have q := gp.new (s := .slice h.next 0 1) (l := [165]) (bs := [h.next]) (ints_one (e := 5) (k := .u8) (H := h.push (.cells 5 false [.int .u8 165])) (l := [165]) (b := h.next) (by simp) (by simp) (by rw [u8_mm.1, u8_mm.2]; simp)) (by simp; exact g.lt) (by simp) m (by simp; omega)
        rewrite [lp65_1018]
        simp [Try.f65, t5, t27, hlt, zerosA, spl, q, wrap_i64 (n := (k : Int) + 1) (by omega) (by omega)]
        refine ⟨d - 1, by omega, k + 1, by omega, by simp [t5], by simp, ?_⟩
        rw [List.replicate_succ', stL_app]
        exact gp.step [165])
    ⟨0, by omega, by simp, by simp, by rw [List.replicate_zero, stL_nil]; exact g6⟩ (by omega))
  have g8 := g7.get
  rw [hc] at g8
  have hlt := g7.lt
  have hnn : ¬ (H.next = H'.next) := by omega
  obtain ⟨okA, okB, okC, okD⟩ := stF_ok key data
  have hfin : digestL key data = (xsOf (stF key data)).flatMap (dig · 4) := by simp [xsOf, digestL]
  rw [hfin]
  generalize stF key data = S at *
  simp [t5, ldVar, g8, hnn, spl, U]
  generalize hLo : evLoop _ _ _ _ _ _ = R
  obtain ⟨e, τ'', H'', rfl, rfl, bs, u1, u2, u3, u4⟩ := loop_at hLo (loop_rule (d := 4) (DgOut H S)
    (fun e τ h => e = .exit 2 ∧ ∃ bs, tB.R true h [τ 6] ((xsOf S).flatMap (dig · 4)) bs ∧ bs.Nodup ∧ (∀ b ∈ bs, H.next ≤ b) ∧ Kp H h)
    (by
      rintro d τ h ⟨k, bs, hk, t50, t51, hR, hnd, hlo, hK⟩
      generalize t6 : τ 6 = x at *
      by_cases hd : d = 0
      · subst hd
        have : k = 4 := by omega
        subst this
        rewrite [lp65_4090]
        simp [Try.f65, t51, t6]
        exact ⟨bs, by simpa [xsOf] using hR, hnd, hlo, hK⟩
      · have hlt : (k : Int) < 4 := by omega
        have hlt' : k < (xsOf S).length := by simp [xsOf]; omega
        have hidx : S.cells[k]? = some (.int .u32 (xsOf S)[k]) ∧ 0 ≤ (xsOf S)[k] ∧ (xsOf S)[k] < 4294967296 := by
          rcases (by omega : k = 0 ∨ k = 1 ∨ k = 2 ∨ k = 3) with rfl | rfl | rfl | rfl <;> simp [hc, xsOf, okA, okB, okC, okD]
        obtain ⟨i1, i2, i3⟩ := hidx
        have cv1 : ∀ h, convA Try.prog 112 3 (.int .u32 (xsOf S)[k]) h = some (.int .i64 (xsOf S)[k], h) := fun h => by
          rw [conv_int (k := .i64) (ds := .int .u32) (by simp) (by simp), wrap_i64 (by omega) (by omega)]
        have hlen : (((xsOf S).take k).flatMap (dig · 4)).length ≤ 1048576 := by
          rcases (by omega : k = 0 ∨ k = 1 ∨ k = 2 ∨ k = 3) with rfl | rfl | rfl | rfl <;> simp [xsOf, dig_len]
        obtain ⟨r, h', b', f1, f2, f3, f4, f5⟩ := fixed58_ev hR hnd i2 (by omega) (n := 4) (by omega) hlen m (by omega)
        simp only [Int.cast_ofNat_Int] at f1
        rewrite [lp65_4090]
        simp [Try.f65, t50, t51, t6, hlt, i1, cv1, f1, wrap_i64 (n := (k : Int) + 1) (by omega) (by omega)]
        refine ⟨d - 1, by omega, k + 1, b', by omega, by simp [t50], by simp, ?_, f3, fun b hb => ?_, f5.kp hK hlo⟩
        · rw [List.take_add_one, List.getElem?_eq_getElem hlt', List.flatMap_append]
          simpa using f2
        · rcases f4 b hb with h | h
          · exact hlo b h
          · have := hK.next; omega)
    ⟨0, [H'.next], by omega, by simp [hc], by simp, by simpa using ints_one (e := 5) (k := .u8) (H := H'.push (.cells 5 false [])) (l := []) (b := H'.next) (by simp) (by simp) (by simp), by simp, by simp; omega, g7.kp.push _⟩ (by omega))
  simp
  exact ⟨_, _, ⟨rfl, rfl⟩, bs, u1, u2, u3, u4⟩
end Go.Ev

/- The specification's digest. -/
namespace Go.Ev
open Go Go.Proofs
set_option linter.unusedSimpArgs false
set_option linter.unusedVariables false

/-- the state lies behind H and holds S -/
structure Dh (H : AH) (S : Sti) (h : AH) : Prop where
  kp : Kp H h
  lt : H.next < h.next
  get : h.get H.next = some (.cells 118 false S.cells)
theorem Dh.set {H h : AH} {S S' : Sti} (g : Dh H S h) : Dh H S' (h.set H.next (.cells 118 false S'.cells)) :=
  ⟨g.kp.set (Nat.le_refl _) _, g.lt, by simp⟩
theorem Dh.up {H h h' : AH} {S : Sti} (g : Dh H S h) (k : Kp h h') : Dh H S h' := ⟨g.kp.trans k, by have := k.next; have := g.lt; omega, by rw [k.get _ g.lt]; exact g.get⟩
def DhLoop (H : AH) (S : Sti) (d : Nat) (τ : Tm) (h : AH) : Prop := ∃ k, k + d = 16 ∧ τ 5 = .ptr H.next 0 ∧ τ 6 = .int .i64 k ∧ Dh H (stL S (List.replicate k 165)) h
theorem digestS_ev {H : AH} {s1 s2 : AV} {key data : List Int} (h1 : Bs H s1 key) (h2 : Bs H s2 data) (hl1 : key.length ≤ 1048576) (hl2 : data.length ≤ 1048576) (m : Nat) (hm : key.length + data.length + 30 ≤ m) :
    ∃ r H' bs, ev Try.prog m 67 [s1, s2] H = some (r, H') ∧ tB.R true H' [r] (digestL key data) bs ∧ bs.Nodup ∧ (∀ b ∈ bs, H.next ≤ b) ∧ Kp H H' := by
  obtain ⟨m, rfl⟩ : ∃ k, m = k + 1 := ⟨m - 1, by omega⟩
  have L1 : ∀ h, lenA Try.prog 22 s1 h = some (.int .i64 key.length) := h1.len
  have L2 : ∀ h, lenA Try.prog 22 s2 h = some (.int .i64 data.length) := h2.len
  rw [ev_eq Try.func67 ok67 m _ H (by simp [Try.f67])]
  have hc : ∀ S : Sti, S.cells = [.int .u32 S.a, .int .u32 S.b, .int .u32 S.c, .int .u32 S.d] := fun _ => rfl
  have g0 : Dh H st0 (H.push (.cells 118 false st0.cells)) := ⟨(Kp.refl H).push _, by simp, by simp⟩
  obtain ⟨r1, H1, b1, a1, a2, a3, a4, a5⟩ := digits_ev 4 (H := H.push (.cells 118 false st0.cells)) (v := key.length) (by omega) (by omega) (by omega) m (by omega)
  have g1 := g0.up a5
  obtain ⟨H2, c1, c2⟩ := stirS_ev (st := st0) (tB_bs a2).1 (by simp [dig_len]) m (by simp [dig_len]; omega)
  have g2 := (g1.up c2).set (S' := stL st0 (dig key.length 4))
  obtain ⟨H3, d1, d2⟩ := stirS_ev (st := stL st0 (dig key.length 4)) (h1.kp g2.kp) hl1 m (by omega)
  have g3 := (g2.up d2).set (S' := stL (stL st0 (dig key.length 4)) key)
  obtain ⟨H4, e1, e2⟩ := stirS_ev (st := stL (stL st0 (dig key.length 4)) key) (h2.kp g3.kp) hl2 m (by omega)
  have g4 := (g3.up e2).set (S' := stL (stL (stL st0 (dig key.length 4)) key) data)
  obtain ⟨r2, H5, b2, f1, f2, f3, f4, f5⟩ := digits_ev 4 (H := H4.set H.next (.cells 118 false (stL (stL (stL st0 (dig key.length 4)) key) data).cells)) (v := data.length) (by omega) (by omega) (by omega) m (by omega)
  have g5 := g4.up f5
  obtain ⟨H6, i1, i2⟩ := stirS_ev (st := stL (stL (stL st0 (dig key.length 4)) key) data) (tB_bs f2).1 (by simp [dig_len]) m (by simp [dig_len]; omega)
  have g6 := (g5.up i2).set (S' := stD5 key data)
  have hS : stL (stL (stL (stL st0 (dig key.length 4)) key) data) (dig data.length 4) = stD5 key data := rfl
  rw [hS] at i1
  have q1 := (g1.up c2).get
  have q2 := g1.get
  have q3 := (g2.up d2).get
  have q4 := (g3.up e2).get
  have q5 := g5.get
  have q6 := (g5.up i2).get
  have hF : stF key data = stL (stD5 key data) (List.replicate 16 165) := rfl
  have hok := stF_ok key data
  have hfin : digestL key data = dig (stF key data).a 4 ++ dig (stF key data).b 4 ++ dig (stF key data).c 4 ++ dig (stF key data).d 4 := rfl
  rw [hfin]
  generalize stF key data = F at *
  generalize stD5 key data = S6 at *
  generalize stL (stL (stL st0 (dig key.length 4)) key) data = S4 at *
  generalize stL (stL st0 (dig key.length 4)) key = S3 at *
  generalize stL st0 (dig key.length 4) = S2 at *
  simp only [Int.cast_ofNat_Int] at a1 f1
  simp only [hc, st0] at a1 c1 d1 e1 f1 i1 q1 q2 q3 q4 q5 q6
  simp [Try.f67, ldVar, stVar, L1, L2, spl, a1, c1, d1, e1, f1, i1, q1, q2, q3, q4, q5, q6, evHist, ObsOk, ObOk]
  generalize hLo : evLoop _ _ _ _ _ _ = R
  obtain ⟨e, τ', H', rfl, rfl, t5, g7⟩ := loop_at hLo (loop_rule (d := 16) (DhLoop H S6)
    (fun e τ h => e = .exit 0 ∧ τ 5 = .ptr H.next 0 ∧ Dh H F h)
    (by
      rintro d τ h ⟨k, hk, t5, t6, g⟩
      by_cases hd : d = 0
      · subst hd
        have : k = 16 := by omega
        subst this
        rw [← hF] at g
        rewrite [lp67_1018]
        simp [Try.f67, t6]
        exact ⟨t5, g⟩
      · have hlt : (k : Int) < 16 := by omega
        have gp := g.up ((Kp.refl h).push (.cells 5 false [.int .u8 165]))
        have hB := ints_one (e := 5) (k := .u8) (H := h.push (.cells 5 false [.int .u8 165])) (l := [165]) (b := h.next) (by simp) (by simp) (by rw [u8_mm.1, u8_mm.2]; simp)
        obtain ⟨h2, x1, x2⟩ := stirS_ev (st := stL S6 (List.replicate k 165)) (tB_bs hB).1 (by simp) m (by simp; omega)
        have p1 := g.get
        have p2 := (gp.up x2).get
        have hne : ¬ (H.next = h.next) := by have := g.lt; omega
        have gl := (gp.up x2).set (S' := stL S6 (List.replicate (k + 1) 165))
        rw [← stL_app, ← List.replicate_succ'] at x1
        obtain ⟨S8, hS8⟩ : ∃ S, stL S6 (List.replicate (k + 1) 165) = S := ⟨_, rfl⟩
        rw [hS8] at x1 gl
        generalize stL S6 (List.replicate k 165) = S7 at *
        simp only [hc, List.length_singleton] at x1 p1 p2
        rewrite [lp67_1018]
        simp [Try.f67, t5, t6, hlt, ldVar, stVar, zerosA, spl, p1, x1, p2, hne, wrap_i64 (n := (k : Int) + 1) (by omega) (by omega)]
        exact ⟨d - 1, by omega, k + 1, by omega, by simp [t5], by simp, by rw [hS8]; exact gl⟩)
    ⟨0, by omega, by simp, by simp, by rw [List.replicate_zero, stL_nil]; exact g6⟩ (by omega))
  have g8 := g7.get
  rw [hc] at g8
  obtain ⟨okA, okB, okC, okD⟩ := hok
  have cv1 : ∀ v h, 0 ≤ v ∧ v < 4294967296 → convA Try.prog 112 3 (.int .u32 v) h = some (.int .i64 v, h) := fun v h hv => by
    rw [conv_int (k := .i64) (ds := .int .u32) (by simp) (by simp), wrap_i64 (by omega) (by omega)]
  have app : ∀ {h : AH} {s x : AV} {ds xs : List Int} {bs bx : List Nat}, tB.R true h [s] ds bs → tB.R true h [x] xs bx → ds.length + xs.length ≤ 1048576 →
      ∃ s' h' b', appA Try.prog 22 22 s x h = some (s', h') ∧ tB.R true h' [s'] (ds ++ xs) b' ∧ b'.Nodup ∧ (∀ b ∈ b', b ∈ bs ∨ h.next ≤ b) ∧ KoS bs h h' := fun {h s x ds xs bs bx} h1 h2 hl =>
    Ty.R.appI (P := Try.prog) (T := 22) h1 h2 (by simp) (by simp) (by simp) (by_ := 1) (by simp) (z := [.int .u8 0]) (by simp) (by simp) (by omega) (by omega)
  obtain ⟨y1, Y1, v1, j1, j2, j3, j4, j5⟩ := digits_ev 4 (H := H') (v := F.a) (by omega) (by omega) (by omega) m (by omega)
  obtain ⟨y2, Y2, v2, k1, k2, k3, k4, k5⟩ := digits_ev 4 (H := Y1) (v := F.b) (by omega) (by omega) (by omega) m (by omega)
  obtain ⟨z2, Z2, w2, l1, l2, l3, l4, l5⟩ := app (j2.kp k5) k2 (by simp [dig_len])
  have K2 : Kp H' Z2 := l5.kp (j5.trans k5) j4
  have hw2 : ∀ b ∈ w2, H'.next ≤ b := fun b hb => by rcases l4 b hb with h | h; exact j4 b h; have := (j5.trans k5).next; omega
  obtain ⟨y3, Y3, v3, m1, m2, m3, m4, m5⟩ := digits_ev 4 (H := Z2) (v := F.c) (by omega) (by omega) (by omega) m (by omega)
  obtain ⟨z3, Z3, w3, n1, n2, n3, n4, n5⟩ := app (l2.kp m5) m2 (by simp [dig_len])
  have K3 : Kp H' Z3 := n5.kp (K2.trans m5) hw2
  have hw3 : ∀ b ∈ w3, H'.next ≤ b := fun b hb => by rcases n4 b hb with h | h; exact hw2 b h; have := (K2.trans m5).next; omega
  obtain ⟨y4, Y4, v4, o1, o2, o3, o4, o5⟩ := digits_ev 4 (H := Z3) (v := F.d) (by omega) (by omega) (by omega) m (by omega)
  obtain ⟨z4, Z4, w4, p1, p2, p3, p4, p5⟩ := app (n2.kp o5) o2 (by simp [dig_len])
  have K4 : Kp H' Z4 := p5.kp (K3.trans o5) hw3
  have r1 := (g7.up j5).get
  have r2 := (g7.up K2).get
  have r3 := (g7.up K3).get
  simp only [Int.cast_ofNat_Int, hc] at j1 k1 m1 o1 r1 r2 r3
  simp [t5, ldVar, g8, cv1 _ _ okA, cv1 _ _ okB, cv1 _ _ okC, cv1 _ _ okD, j1, k1, l1, m1, n1, o1, p1, r1, r2, r3]
  exact ⟨_, _, ⟨rfl, rfl⟩, w4, by simpa using p2, p3, fun b hb => by rcases p4 b hb with h | h; have := hw3 b h; have := g7.lt; omega; have := (K3.trans o5).next; have := g7.lt; omega, g7.kp.trans K4⟩
end Go.Ev

/- The retry tag, the program's and the specification's. -/
namespace Go.Ev
open Go Go.Proofs
set_option linter.unusedSimpArgs false
set_option linter.unusedVariables false

def retryB : List Int := [114, 101, 116, 114, 121]
def tagL (o p : List Int) : List Int := (digestL retryB ((o.length : Int) :: (o ++ p))).take 8
theorem digestL_len (k d : List Int) : (digestL k d).length = 16 := by simp [digestL, dig_len]
theorem tag_ev {H : AH} {s1 s2 : AV} {o p : List Int} (h1 : Bs H s1 o) (h2 : Bs H s2 p) (ho : By o) (hp : By p) (hl1 : o.length ≤ 8) (hl2 : p.length ≤ 65536) (f g : Nat) (hfg : f = 56 ∧ g = 67 ∨ f = 53 ∧ g = 65) (m : Nat) (hm : 70000 ≤ m) :
    ∃ r H' bs, ev Try.prog m f [s1, s2] H = some (r, H') ∧ Kp H H' ∧ tB.R false H' [r] (tagL o p) bs := by
  obtain ⟨m, rfl⟩ : ∃ k, m = k + 1 := ⟨m - 1, by omega⟩
  have L1 : ∀ h, lenA Try.prog 22 s1 h = some (.int .i64 o.length) := h1.len
  have app : ∀ {h : AH} {s x : AV} {ds xs : List Int} {bs bx : List Nat}, tB.R true h [s] ds bs → tB.R false h [x] xs bx → ds.length + xs.length ≤ 1048576 →
      ∃ s' h' b', appA Try.prog 22 22 s x h = some (s', h') ∧ tB.R true h' [s'] (ds ++ xs) b' ∧ b'.Nodup ∧ (∀ b ∈ b', b ∈ bs ∨ h.next ≤ b) ∧ KoS bs h h' := fun {h s x ds xs bs bx} h1 h2 hl =>
    Ty.R.appI (P := Try.prog) (T := 22) h1 h2 (by simp) (by simp) (by simp) (by_ := 1) (by simp) (z := [.int .u8 0]) (by simp) (by simp) (by omega) (by omega)
  have cv1 : ∀ h, convA Try.prog 3 5 (.int .i64 o.length) h = some (.int .u8 o.length, h) := fun h => by
    rw [conv_int (k := .u8) (ds := .int .i64) (by simp) (by simp), wrap_u8]; congr 3; omega
  obtain ⟨bo, h1'⟩ := bs_tB h1 ho
  obtain ⟨bp, h2'⟩ := bs_tB h2 hp
  have K0 : Kp H (H.push (.cells 5 false [.int .u8 o.length])) := (Kp.refl H).push _
  have hB := ints_one (e := 5) (k := .u8) (H := H.push (.cells 5 false [.int .u8 o.length])) (l := [(o.length : Int)]) (b := H.next) (by simp) (by simp) (by rw [u8_mm.1, u8_mm.2]; simp; omega)
  obtain ⟨z1, Z1, w1, a1, a2, a3, a4, a5⟩ := app hB (h1'.kp K0) (by simp; omega)
  simp only [List.length_singleton] at a1
  have K1 : Kp H Z1 := a5.kp K0 (by simp)
  have hw1 : ∀ b ∈ w1, H.next ≤ b := fun b hb => by rcases a4 b hb with h | h; simp at h; omega; have := K0.next; omega
  let BR : Blk := .cells 5 false [.int .u8 114, .int .u8 101, .int .u8 116, .int .u8 114, .int .u8 121]
  have K2 : Kp Z1 (Z1.push BR) := (Kp.refl Z1).push _
  have hR := ints_one (e := 5) (k := .u8) (H := Z1.push BR) (l := retryB) (b := Z1.next) (by simp) (by simp [BR, retryB]) (by rw [u8_mm.1, u8_mm.2]; decide)
  have cv2 : convA Try.prog 22 22 (.slice Z1.next 0 5) (Z1.push BR) = some (.slice Z1.next 0 5, Z1.push BR) := conv_same (e := 5) (by simp) (by simp) (e' := 5) (xs := [.int .u8 114, .int .u8 101, .int .u8 116, .int .u8 114, .int .u8 121]) (by simp [BR]) (by omega)
  obtain ⟨z2, Z2, w2, b1, b2, b3, b4, b5⟩ := app (a2.kp K2) (h2'.kp (K1.trans K2)) (by simp; omega)
  have K3 : Kp H Z2 := b5.kp (K1.trans K2) hw1
  have hR2 : tB.R true Z2 [.slice Z1.next 0 5] retryB [Z1.next] := hR.koS b5 (fun b hb hx => by simp at hb; subst hb; have := a2.mem _ hx; omega)
  have hdat : ([(o.length : Int)] ++ o) ++ p = (o.length : Int) :: (o ++ p) := by simp
  rw [hdat] at b2
  have hdl : ((o.length : Int) :: (o ++ p)).length ≤ 1048576 := by simp; omega
  have hdg : ∃ r H' bs, ev Try.prog m g [.slice Z1.next 0 5, z2] Z2 = some (r, H') ∧ tB.R true H' [r] (digestL retryB ((o.length : Int) :: (o ++ p))) bs ∧ bs.Nodup ∧ (∀ b ∈ bs, Z2.next ≤ b) ∧ Kp Z2 H' := by
    rcases hfg with ⟨rfl, rfl⟩ | ⟨rfl, rfl⟩
    · exact digestS_ev (tB_bs hR2).1 (tB_bs b2).1 (by simp [retryB]) hdl m (by simp [retryB]; omega)
    · exact digestI_ev (tB_bs hR2).1 (tB_bs b2).1 (by simp [retryB]) hdl m (by simp [retryB]; omega)
  obtain ⟨r, H', bs, c1, c2, c3, c4, c5⟩ := hdg
  obtain ⟨r', e1, e2⟩ := cutTake (tB_bs c2).1 8 (by rw [digestL_len]; omega) (A := 8) rfl
  obtain ⟨bs', e3⟩ := bs_tB e2 ((tB_bs c2).2.take 8)
  have e1' := e1 H' (Kp.refl _)
  refine ⟨r', H', bs', ?_, K3.trans c5, e3⟩
  rcases hfg with ⟨rfl, rfl⟩ | ⟨rfl, rfl⟩
  · rw [ev_eq Try.func56 ok56 m _ H (by simp [Try.f56])]
    simp [Try.f56, L1, cv1, zerosA, spl, a1, cv2, b1, c1, e1', BR]
  · rw [ev_eq Try.func53 ok53 m _ H (by simp [Try.f53])]
    simp [Try.f53, L1, cv1, zerosA, spl, a1, cv2, b1, c1, e1', BR]
end Go.Ev

/- RetryOK, the specification's. -/
namespace Go.Ev
open Go Go.Proofs
set_option linter.unusedSimpArgs false
set_option linter.unusedVariables false

theorem PeekP_in {l : List Int} {cid : Int} (h1 : l.length ≤ 65536) (h2 : 0 ≤ cid) (h3 : cid ≤ 8) : PeekP l cid = peekP l cid := by
  unfold PeekP; rw [if_neg (by omega), if_neg (by omega)]
theorem endP_f {l : List Int} {f v : Int} {D S T : List Int} {a : Nat} {c : Int} (h : (endP l f v D S T a c).f = 3) : f = 3 := by
  unfold endP at h
  generalize numberI l a c = X at *
  generalize (if ((X.2.2 = 0 ∧ (X.1 < 12 ∨ 1508 < X.1)) ∧ X.2.2 = 0) then (3 : Int) else X.2.2) = Y at *
  split at h
  · simp [perr] at h
  · exact h
theorem peekP_f3 (l : List Int) (cid : Int) (h : (peekP l cid).f = 3) : 9 ≤ l.length := by
  unfold peekP at h
  split at h
  · simp [perr] at h
  · split at h
    · simp [perr] at h
    · split at h
      · split at h
        · simp [perr] at h
        · simp at h
      · unfold idsP longP at h
        split at h
        · simp [perr] at h
        · split at h
          · split at h
            · simp at h
            · simp [perr] at h
          · split at h
            · simp [perr] at h
            · split at h
              · split at h
                · simp [perr] at h
                · split at h
                  · simp [perr] at h
                  · omega
              · split at h
                · exact absurd (endP_f h) (by decide)
                · unfold tokP at h
                  exact absurd (endP_f h) (by decide)
/-- whether the tag is another than the one that is told -/
def badTag (l o : List Int) : Bool := !((strOf (tagL o (l.take (l.length - 8)))).toList == (strOf (l.drop (l.length - 8))).toList)
/-- what RetryOK answers -/
def RetryP (l o : List Int) : PR :=
  if 65536 < l.length then perr 4 else if 8 < o.length then perr 1
  else if (peekP l 0).c ≠ 0 then perr (peekP l 0).c
  else if (peekP l 0).f ≠ 3 then perr 3
  else if badTag l o = true then perr 13
  else peekP l 0
theorem RetryP_sh (l o : List Int) : ShP l (RetryP l o) := by
  unfold RetryP
  split
  · exact ShP.err _ _
  · split
    · exact ShP.err _ _
    · split
      · exact ShP.err _ _
      · split
        · exact ShP.err _ _
        · split
          · exact ShP.err _ _
          · have := peekP_sh l 0
            rename_i h1 _ _ _ _
            rwa [PeekP_in (by omega) (by omega) (by omega)] at this
def RsRes (H : AH) (s1 s2 : AV) (m f : Nat) (R : PR) : Prop :=
  ∃ d s t H', ev Try.prog m f [s1, s2] H = some (.tuple [hdr R.f R.v d s t, .int .i64 R.c], H') ∧ Kp H H' ∧ Bs H' d R.D ∧ Bs H' s R.S ∧ Bs H' t R.T
theorem RetryS_ev {H : AH} {s1 s2 : AV} {l o : List Int} (h1 : Bs H s1 l) (h2 : Bs H s2 o) (hb : By l) (ho : By o) (m : Nat) (hm : 70010 ≤ m) : RsRes H s1 s2 m 13 (RetryP l o) := by
  obtain ⟨m, rfl⟩ : ∃ k, m = k + 1 := ⟨m - 1, by omega⟩
  unfold RsRes
  rw [ev_eq Try.func13 ok13 m _ H (by simp [Try.f13])]
  have L1 : ∀ h, lenA Try.prog 22 s1 h = some (.int .i64 l.length) := h1.len
  have L2 : ∀ h, lenA Try.prog 22 s2 h = some (.int .i64 o.length) := h2.len
  unfold RetryP
  have hK0 : Kp H (H.push (.cells 24 false [.int .i64 0, .int .i64 0, .nilSlice, .nilSlice, .nilSlice, .int .i64 0, .int .i64 0, .int .i64 0])) := (Kp.refl H).push _
  by_cases c1 : 65536 < l.length
  · have c1' : 65536 < (l.length : Int) := by omega
    rw [if_pos c1]
    simp [Try.f13, ldVar, stVar, L1, c1', perr, hdr, spl]
    exact ⟨_, _, _, _, ⟨⟨rfl, rfl, rfl⟩, rfl⟩, (Kp.refl H).push _, Bs.nil _, Bs.nil _, Bs.nil _⟩
  · have c1' : ¬ (65536 < (l.length : Int)) := by omega
    rw [if_neg c1]
    by_cases c2 : 8 < o.length
    · have c2' : 8 < (o.length : Int) := by omega
      rw [if_pos c2]
      simp [Try.f13, ldVar, stVar, L1, L2, c1', c2', perr, hdr, spl]
      exact ⟨_, _, _, _, ⟨⟨rfl, rfl, rfl⟩, rfl⟩, (Kp.refl H).push _, Bs.nil _, Bs.nil _, Bs.nil _⟩
    · have c2' : ¬ (8 < (o.length : Int)) := by omega
      rw [if_neg c2]
      obtain ⟨d, s, t, H1, p1, p2, p3, p4, p5⟩ := peekS_all (cid := 0) (h1.kp hK0) hb (by omega) (by omega) (by omega) m (by omega)
      have e1 : H1.get H.next = some (.cells 24 false [.int .i64 0, .int .i64 0, .nilSlice, .nilSlice, .nilSlice, .int .i64 0, .int .i64 0, .int .i64 0]) := by rw [p2.get _ (by simp)]; simp
      have hn := p2.next
      simp only [AH.push_next] at hn
      have hne : ¬ (H.next = H1.next) := by omega
      have K1 := hK0.trans p2
      by_cases c3 : (peekP l 0).c = 0
      · rw [if_neg (by simpa using c3)]
        by_cases c4 : (peekP l 0).f = 3
        · rw [if_neg (by simpa using c4)]
          have h9 := peekP_f3 l 0 c4
          let B : Blk := .cells 24 false [.int .i64 (peekP l 0).f, .int .i64 (peekP l 0).v, d, s, t, .int .i64 0, .int .i64 0, .int .i64 0]
          have KB : Kp H (H1.push B) := K1.push _
          have w1 := wrap_i64 (n := (l.length : Int) - 8) (by omega) (by omega)
          have en : ((l.length - 8 : Nat) : Int) = (l.length : Int) - 8 := by omega
          obtain ⟨s3, q1, q2⟩ := cutTake h1 (l.length - 8) (by omega) (A := (l.length : Int) - 8) en.symm
          obtain ⟨s4, q3, q4⟩ := cutDrop h1 (l.length - 8) (by omega)
          rw [en] at q3
          obtain ⟨r, H2, bs, t1, t2, t3⟩ := tag_ev (h2.kp KB) (q2.kp KB) ho (hb.take _) (by omega) (by simp; omega) 56 67 (.inl ⟨rfl, rfl⟩) m (by omega)
          obtain ⟨b4, q5⟩ := bs_tB q4 (hb.drop _)
          have KH2 := KB.trans t2
          have v1 : convA Try.prog 22 9 r H2 = some (.str (strOf (tagL o (l.take (l.length - 8)))), H2) := conv_str (e := 5) (by simp) (by simp) (by simp) t3
          have v2 : ∀ h, Kp H h → convA Try.prog 22 9 s4 h = some (.str (strOf (l.drop (l.length - 8))), h) := fun h hK => conv_str (e := 5) (by simp) (by simp) (by simp) (q5.kp hK)
          have y1 := q1 (H1.push B) KB
          have y2 := q3 (H1.push B) KB
          have y3 := q3 H2 KH2
          have y4 := v2 (H1.push B) KB
          have y5 := v2 H2 KH2
          have e2 : H2.get H.next = some (.cells 24 false [.int .i64 0, .int .i64 0, .nilSlice, .nilSlice, .nilSlice, .int .i64 0, .int .i64 0, .int .i64 0]) := by
            rw [t2.get _ (by simp; omega), AH.push_get, if_neg hne]; exact e1
          have e3 : H2.get H1.next = some B := by rw [t2.get _ (by simp)]; simp
          have hn2 := t2.next
          simp only [AH.push_next] at hn2
          have hne' : ¬ (H1.next = H.next) := by omega
          have hp1 : Kp H1 H2 := ((Kp.refl H1).push _).trans t2
          unfold badTag
          generalize (strOf (tagL o (l.take (l.length - 8)))) = x1 at *
          generalize (strOf (l.drop (l.length - 8))) = x2 at *
          simp only [B, hdr] at *
          simp only [c4, c3] at p1 e3 y1 y2 y4 t1 ⊢
          by_cases c5 : x1.toList = x2.toList
          · simp [c5]
            simp [Try.f13, ldVar, stVar, L1, L2, c1', c2', p1, e1, e2, e3, hne, hne', spl, w1, y1, y2, y3, y4, y5, t1, v1, c5, p3.bs.one, p4.bs.one, p5.bs.one, hdr, evHist, ObsOk, ObOk]
            obtain ⟨a1, a2, a3, a4⟩ := p3
            obtain ⟨b1, b2, b3, b4⟩ := p4
            obtain ⟨d1, d2, d3, d4⟩ := p5
            simp only [AH.push_next] at a3 b3 d3
            exact ⟨_, _, _, _, ⟨⟨⟨c4.symm, rfl, rfl, rfl⟩, c3.symm⟩, rfl⟩, (KH2.set (Nat.le_refl _) _), ((a4.kp hp1).set _ (.inl (by omega))).bs, ((b4.kp hp1).set _ (.inl (by omega))).bs, ((d4.kp hp1).set _ (.inl (by omega))).bs⟩
          · simp [c5]
            simp [Try.f13, ldVar, stVar, L1, L2, c1', c2', p1, e1, e2, e3, hne, hne', spl, w1, y1, y2, y3, y4, y5, t1, v1, c5, p3.bs.one, p4.bs.one, p5.bs.one, hdr, perr, evHist, ObsOk, ObOk]
            exact ⟨_, _, _, _, ⟨⟨rfl, rfl, rfl⟩, rfl⟩, (KH2.set (Nat.le_refl _) _), Bs.nil _, Bs.nil _, Bs.nil _⟩
        · rw [if_pos (by simpa using c4)]
          simp only [hdr, c3] at p1
          simp [Try.f13, ldVar, stVar, L1, L2, c1', c2', p1, c4, e1, hne, perr, hdr, spl, p3.bs.one, p4.bs.one, p5.bs.one]
          exact ⟨_, _, _, _, ⟨⟨rfl, rfl, rfl⟩, rfl⟩, (K1.push _).set (Nat.le_refl _) _, Bs.nil _, Bs.nil _, Bs.nil _⟩
      · rw [if_pos (by simpa using c3)]
        simp only [hdr] at p1
        simp [Try.f13, ldVar, stVar, L1, L2, c1', c2', p1, c3, e1, hne, perr, hdr, spl, p3.bs.one, p4.bs.one, p5.bs.one]
        exact ⟨_, _, _, _, ⟨⟨rfl, rfl, rfl⟩, rfl⟩, (K1.push _).set (Nat.le_refl _) _, Bs.nil _, Bs.nil _, Bs.nil _⟩
end Go.Ev

/- RetryOK, the program's. -/
namespace Go.Ev
open Go Go.Proofs
set_option linter.unusedSimpArgs false
set_option linter.unusedVariables false

/-- three rows of its own, one behind the other -/
def RiEnd (lo : Nat) (H' : AH) (d s t : AV) (D S T : List Int) : Prop := ∃ a b, lo ≤ a ∧ a ≤ b ∧ b ≤ H'.next ∧ Ow lo a H' d D ∧ Ow a b H' s S ∧ Ow b H'.next H' t T
theorem RiEnd.nil {lo : Nat} {H' : AH} (h : lo ≤ H'.next) : RiEnd lo H' .nilSlice .nilSlice .nilSlice [] [] [] := ⟨lo, lo, Nat.le_refl _, Nat.le_refl _, h, Ow.nil _ _ _, Ow.nil _ _ _, Ow.nil _ _ _⟩
def RiRes (H : AH) (s1 s2 : AV) (m f : Nat) (R : PR) : Prop :=
  ∃ d s t H', ev Try.prog m f [s1, s2] H = some (.tuple [hdr R.f R.v d s t, .int .i64 R.c], H') ∧ Kp H H' ∧ RiEnd H.next H' d s t R.D R.S R.T
theorem RetryI_ev {H : AH} {s1 s2 : AV} {l o : List Int} (h1 : Bs H s1 l) (h2 : Bs H s2 o) (hb : By l) (ho : By o) (m : Nat) (hm : 70010 ≤ m) : RiRes H s1 s2 m 10 (RetryP l o) := by
  obtain ⟨m, rfl⟩ : ∃ k, m = k + 1 := ⟨m - 1, by omega⟩
  unfold RiRes
  rw [ev_eq Try.func10 ok10 m _ H (by simp [Try.f10])]
  have L1 : ∀ h, lenA Try.prog 22 s1 h = some (.int .i64 l.length) := h1.len
  have T1 := tooLong_ev h1 (H.push (.cells 24 false [.int .i64 0, .int .i64 0, .nilSlice, .nilSlice, .nilSlice, .int .i64 0, .int .i64 0, .int .i64 0])) m (by omega)
  have L2 : ∀ h, lenA Try.prog 22 s2 h = some (.int .i64 o.length) := h2.len
  unfold RetryP
  have hK0 : Kp H (H.push (.cells 24 false [.int .i64 0, .int .i64 0, .nilSlice, .nilSlice, .nilSlice, .int .i64 0, .int .i64 0, .int .i64 0])) := (Kp.refl H).push _
  by_cases c1 : 65536 < l.length
  · have c1' : 65536 < (l.length : Int) := by omega
    rw [if_pos c1]
    simp only [c1', decide_true] at T1
    simp [Try.f10, ldVar, stVar, L1, T1, c1', perr, hdr, spl]
    exact ⟨_, _, _, _, ⟨⟨rfl, rfl, rfl⟩, rfl⟩, (Kp.refl H).push _, RiEnd.nil (by simp)⟩
  · have c1' : ¬ (65536 < (l.length : Int)) := by omega
    rw [if_neg c1]
    simp only [c1', decide_false] at T1
    by_cases c2 : 8 < o.length
    · have c2' : 8 < (o.length : Int) := by omega
      rw [if_pos c2]
      simp [Try.f10, ldVar, stVar, L1, L2, T1, c1', c2', perr, hdr, spl]
      exact ⟨_, _, _, _, ⟨⟨rfl, rfl, rfl⟩, rfl⟩, (Kp.refl H).push _, RiEnd.nil (by simp)⟩
    · have c2' : ¬ (8 < (o.length : Int)) := by omega
      rw [if_neg c2]
      obtain ⟨d, s, t, H1, sa, sb, p1, p2, i1, i2, i3, p3, p4, p5⟩ := PeekI_ev (cid := 0) (h1.kp hK0) hb m (by omega)
      rw [PeekP_in (by omega) (by omega) (by omega)] at p1 p3 p4 p5
      simp only [AH.push_next] at i1
      have e1 : H1.get H.next = some (.cells 24 false [.int .i64 0, .int .i64 0, .nilSlice, .nilSlice, .nilSlice, .int .i64 0, .int .i64 0, .int .i64 0]) := by rw [p2.get _ (by simp)]; simp
      have hn := p2.next
      simp only [AH.push_next] at hn
      have hne : ¬ (H.next = H1.next) := by omega
      have K1 := hK0.trans p2
      by_cases c3 : (peekP l 0).c = 0
      · rw [if_neg (by simpa using c3)]
        by_cases c4 : (peekP l 0).f = 3
        · rw [if_neg (by simpa using c4)]
          have h9 := peekP_f3 l 0 c4
          let B : Blk := .cells 24 false [.int .i64 (peekP l 0).f, .int .i64 (peekP l 0).v, d, s, t, .int .i64 0, .int .i64 0, .int .i64 0]
          have KB : Kp H (H1.push B) := K1.push _
          have w1 := wrap_i64 (n := (l.length : Int) - 8) (by omega) (by omega)
          have en : ((l.length - 8 : Nat) : Int) = (l.length : Int) - 8 := by omega
          obtain ⟨s3, q1, q2⟩ := cutTake h1 (l.length - 8) (by omega) (A := (l.length : Int) - 8) en.symm
          obtain ⟨s4, q3, q4⟩ := cutDrop h1 (l.length - 8) (by omega)
          rw [en] at q3
          obtain ⟨r, H2, bs, t1, t2, t3⟩ := tag_ev (h2.kp KB) (q2.kp KB) ho (hb.take _) (by omega) (by simp; omega) 53 65 (.inr ⟨rfl, rfl⟩) m (by omega)
          obtain ⟨b4, q5⟩ := bs_tB q4 (hb.drop _)
          have KH2 := KB.trans t2
          have v1 : convA Try.prog 22 9 r H2 = some (.str (strOf (tagL o (l.take (l.length - 8)))), H2) := conv_str (e := 5) (by simp) (by simp) (by simp) t3
          have v2 : ∀ h, Kp H h → convA Try.prog 22 9 s4 h = some (.str (strOf (l.drop (l.length - 8))), h) := fun h hK => conv_str (e := 5) (by simp) (by simp) (by simp) (q5.kp hK)
          have y1 := q1 (H1.push B) KB
          have y2 := q3 (H1.push B) KB
          have y3 := q3 H2 KH2
          have y4 := v2 (H1.push B) KB
          have y5 := v2 H2 KH2
          have e2 : H2.get H.next = some (.cells 24 false [.int .i64 0, .int .i64 0, .nilSlice, .nilSlice, .nilSlice, .int .i64 0, .int .i64 0, .int .i64 0]) := by
            rw [t2.get _ (by simp; omega), AH.push_get, if_neg hne]; exact e1
          have e3 : H2.get H1.next = some B := by rw [t2.get _ (by simp)]; simp
          have hn2 := t2.next
          simp only [AH.push_next] at hn2
          have hne' : ¬ (H1.next = H.next) := by omega
          have hp1 : Kp H1 H2 := ((Kp.refl H1).push _).trans t2
          unfold badTag
          generalize (strOf (tagL o (l.take (l.length - 8)))) = x1 at *
          generalize (strOf (l.drop (l.length - 8))) = x2 at *
          simp only [B, hdr] at *
          simp only [c4, c3] at p1 e3 y1 y2 y4 t1 ⊢
          by_cases c5 : x1.toList = x2.toList
          · simp [c5]
            simp [Try.f10, ldVar, stVar, L1, L2, T1, c1', c2', p1, e1, e2, e3, hne, hne', spl, w1, y1, y2, y3, y4, y5, t1, v1, c5, p3.bs.one, p4.bs.one, p5.bs.one, hdr, evHist, ObsOk, ObOk]
            simp only [AH.push_next] at p3
            have hb2 : sb ≤ H2.next := by omega
            exact ⟨_, _, _, _, ⟨⟨⟨c4.symm, rfl, rfl, rfl⟩, c3.symm⟩, rfl⟩, (KH2.set (Nat.le_refl _) _), sa, sb, by omega, i2, by simp; omega,
              (((p3.kp hp1).set _ (.inl (by omega))).wide (by omega) (Nat.le_refl _) (by simp; omega)), ((p4.kp hp1).set _ (.inl (by omega))), (((p5.kp hp1).set _ (.inl (by omega))).wide (Nat.le_refl _) (by simp; omega) (by simp))⟩
          · simp [c5]
            simp [Try.f10, ldVar, stVar, L1, L2, T1, c1', c2', p1, e1, e2, e3, hne, hne', spl, w1, y1, y2, y3, y4, y5, t1, v1, c5, p3.bs.one, p4.bs.one, p5.bs.one, hdr, perr, evHist, ObsOk, ObOk]
            exact ⟨_, _, _, _, ⟨⟨rfl, rfl, rfl⟩, rfl⟩, (KH2.set (Nat.le_refl _) _), RiEnd.nil (by simp; omega)⟩
        · rw [if_pos (by simpa using c4)]
          simp only [hdr, c3] at p1
          simp [Try.f10, ldVar, stVar, L1, L2, T1, c1', c2', p1, c4, e1, hne, perr, hdr, spl, p3.bs.one, p4.bs.one, p5.bs.one]
          exact ⟨_, _, _, _, ⟨⟨rfl, rfl, rfl⟩, rfl⟩, (K1.push _).set (Nat.le_refl _) _, RiEnd.nil (by simp; omega)⟩
      · rw [if_pos (by simpa using c3)]
        simp only [hdr] at p1
        simp [Try.f10, ldVar, stVar, L1, L2, T1, c1', c2', p1, c3, e1, hne, perr, hdr, spl, p3.bs.one, p4.bs.one, p5.bs.one]
        exact ⟨_, _, _, _, ⟨⟨rfl, rfl, rfl⟩, rfl⟩, (K1.push _).set (Nat.le_refl _) _, RiEnd.nil (by simp; omega)⟩
end Go.Ev

/- Plain packets: what longBegin, l04Ids and versionOK give. -/
namespace Go.Ev
open Go Go.Proofs
set_option linter.unusedSimpArgs false
set_option linter.unusedVariables false

def verB (v : Int) : Bool := decide (1 ≤ v ∧ v ≤ 4294967295)
theorem versionOK_ev (v : Int) (H : AH) (m : Nat) (hm : 1 ≤ m) : ev Try.prog m 51 [.int .i64 v] H = some (.bool (verB v), H) := by
  obtain ⟨m, rfl⟩ : ∃ k, m = k + 1 := ⟨m - 1, by omega⟩
  rw [ev_M Try.func51 ok51 [] _ _ H (by simp [Try.f51])]
  by_cases a : 1 ≤ v
  · by_cases b : v ≤ 4294967295
    · simp [Try.f51, verB, a, b]
    · simp [Try.f51, verB, a, b]
  · simp [Try.f51, verB, a]
theorem versionOKS_ev (v : Int) (H : AH) (m : Nat) (hm : 1 ≤ m) : ev Try.prog m 54 [.int .i64 v] H = some (.bool (verB v), H) := by
  obtain ⟨m, rfl⟩ : ∃ k, m = k + 1 := ⟨m - 1, by omega⟩
  rw [ev_M Try.func54 ok54 [] _ _ H (by simp [Try.f54])]
  by_cases a : 1 ≤ v
  · by_cases b : v ≤ 4294967295
    · simp [Try.f54, verB, a, b]
    · simp [Try.f54, verB, a, b]
  · simp [Try.f54, verB, a]
/-- the version and both ids with their lengths -/
def idsL (v : Int) (D S : List Int) : List Int := digB 4 v ++ ((D.length : Int) :: (D ++ ((S.length : Int) :: S)))
theorem len_u8 {n : Nat} (h : n ≤ 8) (hh : AH) : convA Try.prog 3 5 (.int .i64 n) hh = some (.int .u8 n, hh) := by
  rw [conv_int (k := .u8) (ds := .int .i64) (by simp) (by simp), wrap_u8]; congr 3; omega
theorem KoS.kp' {b : Nat} {A H H' : AH} (h : Kp A H) (k : KoS [b] H H') (hb : A.next ≤ b) : Kp A H' := k.kp h (fun z hz => by simp at hz; omega)
theorem BO.new (H : AH) (x : Int) : BO (H.push (.cells 5 false [.int .u8 x])) (.slice H.next 0 1) [x] H.next := ⟨rfl, by simp, by simp [u8L]⟩
/-- the two ids behind bytes -/
theorem ids_app {A H : AH} {v d s : AV} {l D S : List Int} {b : Nat} (h : BO H v l b) (hK : Kp A H) (hb : A.next ≤ b) (hl : l.length ≤ 1000) (hd : Bs A d D) (hs : Bs A s S) (lD : D.length ≤ 8) (lS : S.length ≤ 8) :
    ∃ v1 X1 v2 X2 v3 X3 v4 X4 b4, appA Try.prog 22 22 v (.slice H.next 0 1) (H.push (.cells 5 false [.int .u8 D.length])) = some (v1, X1) ∧ appA Try.prog 22 22 v1 d X1 = some (v2, X2) ∧
      appA Try.prog 22 22 v2 (.slice X2.next 0 1) (X2.push (.cells 5 false [.int .u8 S.length])) = some (v3, X3) ∧ appA Try.prog 22 22 v3 s X3 = some (v4, X4) ∧
      BO X4 v4 (l ++ ((D.length : Int) :: (D ++ ((S.length : Int) :: S)))) b4 ∧ Kp A X4 ∧ A.next ≤ b4 := by
  obtain ⟨v1, X1, b1, p1, p2, p3, p4⟩ := h.app1 (x := D.length) (by omega)
  have K1 := KoS.kp' hK p3 hb
  have := hK.next
  obtain ⟨v2, X2, b2, q1, q2, q3, q4⟩ := p2.appB (hd.kp K1) (by simp; omega)
  have K2 := KoS.kp' K1 q3 (by omega)
  have := K1.next
  have hb2 : A.next ≤ b2 := by rcases q4 with h | h <;> omega
  obtain ⟨v3, X3, b3, r1, r2, r3, r4⟩ := q2.app1 (x := S.length) (by simp; omega)
  have K3 := KoS.kp' K2 r3 hb2
  have := K2.next
  obtain ⟨v4, X4, b4, s1, s2, s3, s4⟩ := r2.appB (hs.kp K3) (by simp; omega)
  have K4 := KoS.kp' K3 s3 (by omega)
  have := K3.next
  refine ⟨v1, X1, v2, X2, v3, X3, v4, X4, b4, p1, q1, r1, s1, ?_, K4, by rcases s4 with h | h <;> omega⟩
  have e : l ++ ((D.length : Int) :: (D ++ ((S.length : Int) :: S))) = l ++ [(D.length : Int)] ++ D ++ [(S.length : Int)] ++ S := by simp
  rw [e]; exact s2
theorem longBegin_ev {H : AH} {d s : AV} {D S : List Int} (hd : Bs H d D) (hs : Bs H s S) (lD : D.length ≤ 8) (lS : S.length ≤ 8) (x v : Int) (h0 : 0 ≤ v) (h1 : v ≤ 4294967295) (m : Nat) (hm : 14 ≤ m) :
    ∃ r H' b, ev Try.prog m 52 [.int .u8 x, .int .i64 v, d, s] H = some (r, H') ∧ BO H' r (x :: idsL v D S) b ∧ Kp H H' ∧ H.next ≤ b := by
  obtain ⟨m, rfl⟩ : ∃ k, m = k + 1 := ⟨m - 1, by omega⟩
  rw [ev_M Try.func52 ok52 [] _ _ H (by simp [Try.f52])]
  have K0 : Kp H (H.push (.cells 5 false [.int .u8 x])) := (Kp.refl H).push _
  obtain ⟨v1, X1, b1, p1, p2, p3, p4⟩ := fixedN_ev (n := 4) (BO.new H x) (by simp) (by omega) h0 (by omega) m (by omega)
  have K1 := KoS.kp' K0 p3 (by omega)
  have hb1 : H.next ≤ b1 := by rcases p4 with h | h; omega; simp at h; omega
  obtain ⟨v2, X2, v3, X3, v4, X4, v5, X5, b5, q1, q2, q3, q4, B, K, hb⟩ := ids_app p2 K1 hb1 (by simp [digB_len]) hd hs lD lS
  have LD : ∀ h, lenA Try.prog 22 d h = some (.int .i64 D.length) := hd.len
  have LS : ∀ h, lenA Try.prog 22 s h = some (.int .i64 S.length) := hs.len
  have c1 := len_u8 lD
  have c2 := len_u8 lS
  have p1' : ev Try.prog m 61 [.slice H.next 0 1, .int .i64 v, .int .i64 4] (H.push (.cells 5 false [.int .u8 x])) = some (v1, X1) := p1
  simp [Try.f52, tm0, p1', LD, LS, c1, c2, q1, q2, q3, q4, fillA, zerosA, spl]
  exact ⟨_, _, ⟨rfl, rfl⟩, b5, by simpa [idsL] using B, K, hb⟩
theorem digitsB {n : Nat} {H : AH} {v : Int} (h0 : 0 ≤ v) (h1 : v ≤ 9223372036854775807) (hn : n ≤ 8) (hn0 : 0 < n) (m : Nat) (hm : n + 2 ≤ m) :
    ∃ r H' l b, ev Try.prog m 62 [.int .i64 v, .int .i64 n] H = some (r, H') ∧ l.length = n ∧ BO H' r l b ∧ H.next ≤ b ∧ Kp H H' ∧ By l := by
  obtain ⟨r, H', bs, p1, p2, p3, p4, p5⟩ := digits_ev n (H := H) h0 h1 hn m hm
  refine ⟨r, H', dig v n, ?_⟩
  have hl := dig_len n v
  rcases tB_one p2 with ⟨q1, q2, q3⟩ | ⟨b, q1, q2, q3, q4⟩
  · rw [q2] at hl; simp at hl; omega
  · exact ⟨b, p1, hl, ⟨q2, q3, q4⟩, p4 b (by rw [q1]; simp), p5, dig_by n v⟩
theorem ids_spec {H : AH} {d s : AV} {D S : List Int} (hd : Bs H d D) (hs : Bs H s S) (lD : D.length ≤ 8) (lS : S.length ≤ 8) (v : Int) (h0 : 0 ≤ v) (h1 : v ≤ 4294967295) (m : Nat) (hm : 14 ≤ m) :
    ∃ r H' l b, ev Try.prog m 55 [.int .i64 v, d, s] H = some (r, H') ∧ BO H' r l b ∧ (l.length ≤ 22 ∧ (By D → By S → By l)) ∧ Kp H H' ∧ H.next ≤ b := by
  obtain ⟨m, rfl⟩ : ∃ k, m = k + 1 := ⟨m - 1, by omega⟩
  rw [ev_M Try.func55 ok55 [] _ _ H (by simp [Try.f55])]
  obtain ⟨v1, X1, l1, b1, p1, pl, p2, p3, K1, py⟩ := digitsB (n := 4) (H := H) (v := v) h0 (by omega) (by omega) (by omega) m (by omega)
  obtain ⟨v2, X2, v3, X3, v4, X4, v5, X5, b5, q1, q2, q3, q4, B, K, hb⟩ := ids_app p2 K1 p3 (by omega) hd hs lD lS
  have LD : ∀ h, lenA Try.prog 22 d h = some (.int .i64 D.length) := hd.len
  have LS : ∀ h, lenA Try.prog 22 s h = some (.int .i64 S.length) := hs.len
  have c1 := len_u8 lD
  have c2 := len_u8 lS
  have p1' : ev Try.prog m 62 [.int .i64 v, .int .i64 4] H = some (v1, X1) := p1
  simp [Try.f55, tm0, p1', LD, LS, c1, c2, q1, q2, q3, q4, fillA, zerosA, spl]
  refine ⟨_, _, ⟨rfl, rfl⟩, _, b5, B, ⟨by simp; omega, fun bD bS x hx => ?_⟩, K, hb⟩
  simp at hx
  rcases hx with h | rfl | h | rfl | h
  · exact py x h
  · omega
  · exact bD x h
  · omega
  · exact bS x h
end Go.Ev
