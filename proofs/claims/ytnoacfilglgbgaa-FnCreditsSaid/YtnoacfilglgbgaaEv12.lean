/- Lemmas of an evaluator of the given code and of what the functions answer; no condition of its own. -/
import Derived.Test.YtnoacfilglgbgaaEv11
import Derived.Test.YtnoacfilglgbgaaEv10
/- Credit: numbers of streams, small functions. -/
namespace Go.Ev
open Go Go.Proofs
set_option linter.unusedSimpArgs false
set_option linter.unusedVariables false

theorem and_1 (v : Int) : bits .and .i64 v 1 = v % 2 := by
  have := and_mask (v := v) 1 (by decide)
  simpa using this
theorem nat_and_2 (n : Nat) : n &&& 2 = if n / 2 % 2 = 1 then 2 else 0 := by
  have h1 : n &&& 2 ≤ 2 := Nat.and_le_right
  have h2 : (n &&& 2) % 2 ^ 2 = (n % 2 ^ 2) &&& (2 % 2 ^ 2) := Nat.and_mod_two_pow
  have h3 : n % 2 ^ 2 = 0 ∨ n % 2 ^ 2 = 1 ∨ n % 2 ^ 2 = 2 ∨ n % 2 ^ 2 = 3 := by omega
  rcases h3 with h | h | h | h <;> rw [h] at h2
  · have : (0 : Nat) &&& (2 % 2 ^ 2) = 0 := by decide
    rw [this] at h2
    rw [if_neg (by omega)]; omega
  · have : (1 : Nat) &&& (2 % 2 ^ 2) = 0 := by decide
    rw [this] at h2
    rw [if_neg (by omega)]; omega
  · have : (2 : Nat) &&& (2 % 2 ^ 2) = 2 := by decide
    rw [this] at h2
    rw [if_pos (by omega)]; omega
  · have : (3 : Nat) &&& (2 % 2 ^ 2) = 2 := by decide
    rw [this] at h2
    rw [if_pos (by omega)]; omega
theorem and_2 (v : Int) : bits .and .i64 v 2 = if v / 2 % 2 = 1 then 2 else 0 := by
  show IntKind.i64.wrap ((BitVec.ofInt 64 v &&& BitVec.ofInt 64 2).toNat : Int) = _
  have h2 : (BitVec.ofInt 64 2).toNat = 2 := by decide
  rw [BitVec.toNat_and, h2, nat_and_2]
  have h3 : ((BitVec.ofInt 64 v).toNat : Int) = v % 18446744073709551616 := by
    rw [BitVec.toNat_ofInt]
    have := Int.emod_nonneg v (by decide : (18446744073709551616 : Int) ≠ 0)
    simp
    omega
  generalize (BitVec.ofInt 64 v).toNat = n at *
  have h5 : n / 2 % 2 = 1 ↔ v / 2 % 2 = 1 := by omega
  by_cases h : v / 2 % 2 = 1
  · rw [if_pos h, if_pos (h5.2 h)]; decide
  · rw [if_neg h, if_neg (mt h5.1 h)]; decide
def inW (x : Int) : Prop := 0 ≤ x ∧ x ≤ 4611686018427387903
instance (x : Int) : Decidable (inW x) := by unfold inW; infer_instance
theorem inVarF_ev (x : Int) (H : AH) (m : Nat) (hm : 1 ≤ m) : ev Try.prog m 138 [.int .i64 x] H = some (.bool (decide (inW x)), H) := by
  obtain ⟨m, rfl⟩ : ∃ k, m = k + 1 := ⟨m - 1, by omega⟩
  rw [ev_M Try.func138 ok138 [] m _ H (by simp [Try.f138])]
  by_cases h0 : 0 ≤ x
  · by_cases h1 : x ≤ 4611686018427387903 <;> simp [Try.f138, tm0, h0, h1, inW]
  · simp [Try.f138, tm0, h0, inW]
theorem l05VarF_ev (x : Int) (H : AH) (m : Nat) (hm : 1 ≤ m) : ev Try.prog m 142 [.int .i64 x] H = some (.bool (decide (inW x)), H) := by
  obtain ⟨m, rfl⟩ : ∃ k, m = k + 1 := ⟨m - 1, by omega⟩
  rw [ev_M Try.func142 ok142 [] m _ H (by simp [Try.f142])]
  by_cases h0 : 0 ≤ x
  · by_cases h1 : x ≤ 4611686018427387903 <;> simp [Try.f142, tm0, h0, h1, inW]
  · simp [Try.f142, tm0, h0, inW]
def idOf (sv ow : Bool) (n : Int) : Int := if n < 0 ∨ 1152921504606846976 ≤ n then -1 else 4 * n + (if sv then 1 else 0) + (if ow then 2 else 0)
theorem IdOfI_ev (sv ow : Bool) (n : Int) (H : AH) (m : Nat) (hm : 1 ≤ m) : ev Try.prog m 37 [.bool sv, .bool ow, .int .i64 n] H = some (.int .i64 (idOf sv ow n), H) := by
  obtain ⟨m, rfl⟩ : ∃ k, m = k + 1 := ⟨m - 1, by omega⟩
  rw [ev_M Try.func37 ok37 [] m _ H (by simp [Try.f37])]
  unfold idOf
  by_cases h0 : n < 0
  · simp [Try.f37, tm0, h0]
  · by_cases h1 : 1152921504606846976 ≤ n
    · simp [Try.f37, tm0, h0, h1]
    · have w1 : IntKind.i64.wrap (4 * n) = 4 * n := wrap_i64 (n := 4 * n) (by omega) (by omega)
      have w2 : IntKind.i64.wrap (4 * n + 1) = 4 * n + 1 := wrap_i64 (n := 4 * n + 1) (by omega) (by omega)
      have w3 : IntKind.i64.wrap (4 * n + 2) = 4 * n + 2 := wrap_i64 (n := 4 * n + 2) (by omega) (by omega)
      have w4 : IntKind.i64.wrap (4 * n + 1 + 2) = 4 * n + 1 + 2 := wrap_i64 (n := 4 * n + 1 + 2) (by omega) (by omega)
      have h1' : (1152921504606846976 ≤ n) = False := eq_false h1
      cases sv <;> cases ow <;> simp [Try.f37, tm0, h0, h1', w1, w2, w3, w4]
theorem IdOfS_ev (sv ow : Bool) (n : Int) (H : AH) (m : Nat) (hm : 1 ≤ m) : ev Try.prog m 264 [.bool sv, .bool ow, .int .i64 n] H = some (.int .i64 (idOf sv ow n), H) := by
  obtain ⟨m, rfl⟩ : ∃ k, m = k + 1 := ⟨m - 1, by omega⟩
  rw [ev_M Try.func264 ok264 [] m _ H (by simp [Try.f264])]
  unfold idOf
  by_cases h0 : n < 0
  · simp [Try.f264, tm0, h0]
  · by_cases h1 : 1152921504606846976 ≤ n
    · simp [Try.f264, tm0, h0, h1]
    · have w1 : IntKind.i64.wrap (4 * n) = 4 * n := wrap_i64 (n := 4 * n) (by omega) (by omega)
      have w2 : IntKind.i64.wrap (4 * n + 1) = 4 * n + 1 := wrap_i64 (n := 4 * n + 1) (by omega) (by omega)
      have w3 : IntKind.i64.wrap (4 * n + 2) = 4 * n + 2 := wrap_i64 (n := 4 * n + 2) (by omega) (by omega)
      have w4 : IntKind.i64.wrap (4 * n + 1 + 2) = 4 * n + 1 + 2 := wrap_i64 (n := 4 * n + 1 + 2) (by omega) (by omega)
      have h1' : (1152921504606846976 ≤ n) = False := eq_false h1
      cases sv <;> cases ow <;> simp [Try.f264, tm0, h0, h1', w1, w2, w3, w4]
/-- server, one way, place, code -/
def idOk (id : Int) : Prop := 0 ≤ id ∧ id < 4611686018427387904
instance (x : Int) : Decidable (idOk x) := by unfold idOk; infer_instance
def idSv (id : Int) : Bool := decide (id % 2 = 1)
def idOw (id : Int) : Bool := decide (id / 2 % 2 = 1)
theorem IdPartsI_ev (id : Int) (H : AH) (m : Nat) (hm : 1 ≤ m) : ev Try.prog m 36 [.int .i64 id] H = some (if idOk id then .tuple [.bool (idSv id), .bool (idOw id), .int .i64 (id / 4), .int .i64 0] else .tuple [.bool false, .bool false, .int .i64 0, .int .i64 1], H) := by
  obtain ⟨m, rfl⟩ : ∃ k, m = k + 1 := ⟨m - 1, by omega⟩
  rw [ev_M Try.func36 ok36 [] m _ H (by simp [Try.f36])]
  by_cases h0 : id < 0
  · have : ¬ idOk id := fun h => by have := h.1; omega
    rw [if_neg this]; simp [Try.f36, tm0, h0]
  · by_cases h1 : 4611686018427387904 ≤ id
    · have : ¬ idOk id := fun h => by have := h.2; omega
      rw [if_neg this]; simp [Try.f36, tm0, h0, h1]
    · have hk : idOk id := ⟨by omega, by omega⟩
      have h1' : (4611686018427387904 ≤ id) = False := eq_false h1
      have a1 := and_1 id
      have a2 := and_2 id
      have a3 : id.fdiv 4 = id / 4 := Int.fdiv_eq_ediv_of_nonneg id (by decide)
      rw [if_pos hk]
      by_cases q : id / 2 % 2 = 1
      · rw [if_pos q] at a2
        by_cases q1 : id % 2 = 1
        · rw [q1] at a1; simp [Try.f36, tm0, h0, h1', a1, a2, idSv, idOw, q, q1, IntKind.bits, a3]
        · have : id % 2 = 0 := by omega
          rw [this] at a1; simp [Try.f36, tm0, h0, h1', a1, a2, idSv, idOw, q, this, IntKind.bits, a3]
      · rw [if_neg q] at a2
        by_cases q1 : id % 2 = 1
        · rw [q1] at a1; simp [Try.f36, tm0, h0, h1', a1, a2, idSv, idOw, q, q1, IntKind.bits, a3]
        · have : id % 2 = 0 := by omega
          rw [this] at a1; simp [Try.f36, tm0, h0, h1', a1, a2, idSv, idOw, q, this, IntKind.bits, a3]
theorem IdPartsS_ev (id : Int) (H : AH) (m : Nat) (hm : 1 ≤ m) : ev Try.prog m 267 [.int .i64 id] H = some (if idOk id then .tuple [.bool (idSv id), .bool (idOw id), .int .i64 (id / 4), .int .i64 0] else .tuple [.bool false, .bool false, .int .i64 0, .int .i64 1], H) := by
  obtain ⟨m, rfl⟩ : ∃ k, m = k + 1 := ⟨m - 1, by omega⟩
  rw [ev_M Try.func267 ok267 [] m _ H (by simp [Try.f267])]
  by_cases h0 : id < 0
  · have : ¬ idOk id := fun h => by have := h.1; omega
    rw [if_neg this]; simp [Try.f267, tm0, h0]
  · by_cases h1 : 4611686018427387904 ≤ id
    · have : ¬ idOk id := fun h => by have := h.2; omega
      rw [if_neg this]; simp [Try.f267, tm0, h0, h1]
    · have hk : idOk id := ⟨by omega, by omega⟩
      have h1' : (4611686018427387904 ≤ id) = False := eq_false h1
      have a1 : id.tmod 2 = id % 2 := Int.tmod_eq_emod_of_nonneg (by omega)
      have a2 : id.tdiv 2 = id / 2 := Int.tdiv_eq_ediv_of_nonneg (by omega)
      have a3 : (id / 2).tmod 2 = id / 2 % 2 := Int.tmod_eq_emod_of_nonneg (by omega)
      have a4 : id.tdiv 4 = id / 4 := Int.tdiv_eq_ediv_of_nonneg (by omega)
      have w1 : IntKind.i64.wrap (id % 2) = id % 2 := wrap_i64 (n := id % 2) (by omega) (by omega)
      have w2 : IntKind.i64.wrap (id / 2) = id / 2 := wrap_i64 (n := id / 2) (by omega) (by omega)
      have w3 : IntKind.i64.wrap (id / 2 % 2) = id / 2 % 2 := wrap_i64 (n := id / 2 % 2) (by omega) (by omega)
      have w4 : IntKind.i64.wrap (id / 4) = id / 4 := wrap_i64 (n := id / 4) (by omega) (by omega)
      rw [if_pos hk]
      by_cases q : id / 2 % 2 = 1 <;> by_cases q1 : id % 2 = 1 <;> simp [Try.f267, tm0, h0, h1', tmodI, tdivI, a1, a2, a3, a4, w1, w2, w3, w4, idSv, idOw, q, q1]
theorem l08Way_ev (b : Bool) (H : AH) (m : Nat) (hm : 1 ≤ m) : ev Try.prog m 263 [.bool b] H = some (.int .i64 (if b then 1 else 0), H) := by
  obtain ⟨m, rfl⟩ : ∃ k, m = k + 1 := ⟨m - 1, by omega⟩
  rw [ev_M Try.func263 ok263 [] m _ H (by simp [Try.f263])]
  cases b <;> simp [Try.f263, tm0]
def creditP (r w t : Int) : Int := if r < 0 ∨ 4611686018427371519 < r ∨ t < 0 ∨ 4611686018427371519 < t ∨ w < 1 ∨ 16384 < w then -1 else if (w + 1) / 2 ≤ r + w - t then r + w else t
theorem CreditI_ev (r w t : Int) (H : AH) (m : Nat) (hm : 1 ≤ m) : ev Try.prog m 211 [.int .i64 r, .int .i64 w, .int .i64 t] H = some (.int .i64 (creditP r w t), H) := by
  obtain ⟨m, rfl⟩ : ∃ k, m = k + 1 := ⟨m - 1, by omega⟩
  rw [ev_M Try.func211 ok211 [] m _ H (by simp [Try.f211])]
  unfold creditP
  by_cases c1 : r < 0
  · simp [Try.f211, tm0, c1]
  by_cases c2 : 4611686018427371519 < r
  · simp [Try.f211, tm0, c1, c2]
  by_cases c3 : t < 0
  · simp [Try.f211, tm0, c1, c2, c3]
  by_cases c4 : 4611686018427371519 < t
  · simp [Try.f211, tm0, c1, c2, c3, c4]
  by_cases c5 : w < 1
  · simp [Try.f211, tm0, c1, c2, c3, c4, c5]
  by_cases c6 : 16384 < w
  · simp [Try.f211, tm0, c1, c2, c3, c4, c5, c6]
  have w1 : IntKind.i64.wrap (r + w) = r + w := wrap_i64 (n := r + w) (by omega) (by omega)
  have w2 : IntKind.i64.wrap (r + w - t) = r + w - t := wrap_i64 (n := r + w - t) (by omega) (by omega)
  have w3 : IntKind.i64.wrap (w + 1) = w + 1 := wrap_i64 (n := w + 1) (by omega) (by omega)
  have w4 : (w + 1).tdiv 2 = (w + 1) / 2 := Int.tdiv_eq_ediv_of_nonneg (by omega)
  have w5 : IntKind.i64.wrap ((w + 1) / 2) = (w + 1) / 2 := wrap_i64 (n := (w + 1) / 2) (by omega) (by omega)
  have c1' := eq_false c1; have c2' := eq_false c2; have c3' := eq_false c3; have c4' := eq_false c4; have c5' := eq_false c5; have c6' := eq_false c6
  by_cases c7 : (w + 1) / 2 ≤ r + w - t
  · simp [Try.f211, tm0, c1', c2', c3', c4', c5', c6', tdivI, w1, w2, w3, w4, w5, c7]
  · have c7' := eq_false c7
    simp [Try.f211, tm0, c1', c2', c3', c4', c5', c6', tdivI, w1, w2, w3, w4, w5, c7']
theorem CreditS_ev (r w t : Int) (H : AH) (m : Nat) (hm : 1 ≤ m) : ev Try.prog m 270 [.int .i64 r, .int .i64 w, .int .i64 t] H = some (.int .i64 (creditP r w t), H) := by
  obtain ⟨m, rfl⟩ : ∃ k, m = k + 1 := ⟨m - 1, by omega⟩
  rw [ev_M Try.func270 ok270 [] m _ H (by simp [Try.f270])]
  unfold creditP
  by_cases c1 : r < 0
  · simp [Try.f270, tm0, c1]
  by_cases c2 : 4611686018427371519 < r
  · simp [Try.f270, tm0, c1, c2]
  by_cases c3 : t < 0
  · simp [Try.f270, tm0, c1, c2, c3]
  by_cases c4 : 4611686018427371519 < t
  · simp [Try.f270, tm0, c1, c2, c3, c4]
  by_cases c5 : w < 1
  · simp [Try.f270, tm0, c1, c2, c3, c4, c5]
  by_cases c6 : 16384 < w
  · simp [Try.f270, tm0, c1, c2, c3, c4, c5, c6]
  have w1 : IntKind.i64.wrap (r + w) = r + w := wrap_i64 (n := r + w) (by omega) (by omega)
  have w2 : IntKind.i64.wrap (r + w - t) = r + w - t := wrap_i64 (n := r + w - t) (by omega) (by omega)
  have w3 : IntKind.i64.wrap (w + 1) = w + 1 := wrap_i64 (n := w + 1) (by omega) (by omega)
  have w4 : (w + 1).tdiv 2 = (w + 1) / 2 := Int.tdiv_eq_ediv_of_nonneg (by omega)
  have w5 : IntKind.i64.wrap ((w + 1) / 2) = (w + 1) / 2 := wrap_i64 (n := (w + 1) / 2) (by omega) (by omega)
  have c1' := eq_false c1; have c2' := eq_false c2; have c3' := eq_false c3; have c4' := eq_false c4; have c5' := eq_false c5; have c6' := eq_false c6
  by_cases c7 : (w + 1) / 2 ≤ r + w - t
  · simp [Try.f270, tm0, c1', c2', c3', c4', c5', c6', tdivI, w1, w2, w3, w4, w5, c7]
  · have c7' := eq_false c7
    simp [Try.f270, tm0, c1', c2', c3', c4', c5', c6', tdivI, w1, w2, w3, w4, w5, c7']
end Go.Ev

/- Credit: the reference's books; where a stream stands in them. -/
namespace Go.Ev
open Go Go.Proofs
set_option linter.unusedSimpArgs false
set_option linter.unusedVariables false

structure Bk where
  id : Int
  cr : Int
  se : Int
  to : Int
  ca : Int
  re : Int
  ov : Bool
structure Sup where
  sv : Bool
  cw : Int
  sw : Int
  tw : Int
  ow : Int
  pc : Int
  ps : Int
  ptw : Int
  pow : Int
structure Fw where
  L : List Bk
  o0 : Int
  o1 : Int
  m0 : Int
  m1 : Int
  cc : Int
  i0 : Int
  i1 : Int
  tc : Int
  rc : Int
abbrev tBk : Ty := .pair (.int .i64) (.pair (.int .i64) (.pair (.int .i64) (.pair (.int .i64) (.pair (.int .i64) (.pair (.int .i64) .bool)))))
def Bk.d (s : Bk) : tBk.D := (s.id, s.cr, s.se, s.to, s.ca, s.re, s.ov)
def Bk.c (s : Bk) : List AV := [.int .i64 s.id, .int .i64 s.cr, .int .i64 s.se, .int .i64 s.to, .int .i64 s.ca, .int .i64 s.re, .bool s.ov]
structure Bk.ok (s : Bk) : Prop where
  id : InK .i64 s.id
  cr : InK .i64 s.cr
  se : InK .i64 s.se
  to : InK .i64 s.to
  ca : InK .i64 s.ca
  re : InK .i64 s.re
theorem Bk.R {rw : Bool} {H : AH} {s : Bk} (h : s.ok) : tBk.R rw H s.c s.d [] := by
  have := (Ty.R.pair (Ty.R.int (rw := rw) (H := H) h.id) (Ty.R.pair (Ty.R.int h.cr) (Ty.R.pair (Ty.R.int h.se) (Ty.R.pair (Ty.R.int h.to) (Ty.R.pair (Ty.R.int h.ca) (Ty.R.pair (Ty.R.int h.re) (Ty.R.bool s.ov)))))))
  simpa [Bk.c, Bk.d] using this
theorem Bk.out {rw : Bool} {H : AH} {s : Bk} {c : List AV} {bs : List Nat} (h : tBk.R rw H c s.d bs) : c = s.c ∧ bs = [] ∧ s.ok := by
  obtain ⟨c1, c2, b1, b2, rfl, rfl, ⟨rfl, a1, a2, rfl⟩, c3, c4, b3, b4, rfl, rfl, ⟨rfl, a3, a4, rfl⟩, c5, c6, b5, b6, rfl, rfl, ⟨rfl, a5, a6, rfl⟩, c7, c8, b7, b8, rfl, rfl, ⟨rfl, a7, a8, rfl⟩, c9, c10, b9, b10, rfl, rfl, ⟨rfl, a9, a10, rfl⟩, c11, c12, b11, b12, rfl, rfl, ⟨rfl, a11, a12, rfl⟩, ⟨rfl, rfl⟩⟩ := h
  exact ⟨by simp [Bk.c, Bk.d], by simp, ⟨a1, a2⟩, ⟨a3, a4⟩, ⟨a5, a6⟩, ⟨a7, a8⟩, ⟨a9, a10⟩, ⟨a11, a12⟩⟩
def fsC (S : Sup) (F : Fw) (v : AV) : List AV := [.bool S.sv, .int .i64 S.cw, .int .i64 S.sw, .int .i64 S.tw, .int .i64 S.ow, .int .i64 S.pc, .int .i64 S.ps, .int .i64 S.ptw, .int .i64 S.pow, v, .int .i64 F.o0, .int .i64 F.o1, .int .i64 F.m0, .int .i64 F.m1, .int .i64 F.cc, .int .i64 F.i0, .int .i64 F.i1, .int .i64 F.tc, .int .i64 F.rc]
/-- the reference's books lie at q -/
structure FsS (S : Sup) (F : Fw) (q : Nat) (v : AV) (bs : List Nat) (h : AH) : Prop where
  gq : h.get q = some (.cells 263 false (fsC S F v))
  R : (Ty.sl 316 tBk).R true h [v] (F.L.map Bk.d) bs
  nd : bs.Nodup
  nq : q ∉ bs
  qn : q < h.next
  len : F.L.length ≤ 1000000
/-- a stream's record -/
theorem FsS.row {S : Sup} {F : Fw} {q : Nat} {v : AV} {bs : List Nat} {h : AH} (X : FsS S F q v bs h) {i : Nat} (hi : i < F.L.length) :
    ∃ b o x1 x2, idxA Try.prog 260 v (.int .i64 i) = some (.ptr b o) ∧ b < h.next ∧ b ≠ q ∧ b ∈ bs ∧ h.get b = some (.cells 316 false (x1 ++ F.L[i].c ++ x2)) ∧ x1.length = o ∧ F.L[i].ok ∧
      ∀ (s' : Bk), s'.ok → ∀ F' : Fw, F'.L = F.L.set i s' → ∀ (h' : AH), h.next ≤ h'.next → h'.get q = some (.cells 263 false (fsC S F' v)) → (∀ x ∈ bs, x ≠ b → h'.get x = h.get x) → h'.get b = some (.cells 316 false (x1 ++ s'.c ++ x2)) → FsS S F' q v bs h' := by
  obtain ⟨b, o, x1, c, x2, bk, u1, u2, u3, u4, u5, u6, u7, u8, u9, u10⟩ := Ty.R.upd X.R X.nd (P := Try.prog) (T := 260) (by simp) (by simp [Ty.n]) (k := i) (by simpa using hi)
  have e1 : (F.L.map Bk.d)[i]'(by simpa using hi) = F.L[i].d := by simp
  rw [e1] at u5
  obtain ⟨rfl, rfl, ok⟩ := Bk.out u5
  refine ⟨b, o, x1, x2, u1, u2, fun e => X.nq (e ▸ u7), u7, u3, u4, ok, fun s' ok' F' hF h' hn hq hr hb => ⟨hq, ?_, X.nd, X.nq, by have := X.qn; omega, by rw [hF]; simpa using X.len⟩⟩
  have := u10 h' s'.c s'.d hn (fun x hx hxb _ => hr x hx hxb) hb (Bk.R ok')
  rw [hF, List.map_set]; exact this
theorem FsS.row_ld {S : Sup} {F : Fw} {q : Nat} {v : AV} {bs : List Nat} {h : AH} {b o : Nat} {x1 x2 : List AV} {s : Bk} (g : h.get b = some (.cells 316 false (x1 ++ s.c ++ x2))) (ho : x1.length = o) :
    ldVar Try.prog 3 b o h = some (.int .i64 s.id) ∧ ldVar Try.prog 3 b (o + 1) h = some (.int .i64 s.cr) ∧ ldVar Try.prog 3 b (o + 2) h = some (.int .i64 s.se) ∧ ldVar Try.prog 3 b (o + 3) h = some (.int .i64 s.to) ∧ ldVar Try.prog 3 b (o + 4) h = some (.int .i64 s.ca) ∧ ldVar Try.prog 3 b (o + 5) h = some (.int .i64 s.re) ∧ ldVar Try.prog 4 b (o + 6) h = some (.bool s.ov) := by
  have k := fun j hj => ld_mid (P := Try.prog) (T := 3) (j := j) g ho (by simp) hj
  have k4 := fun j hj => ld_mid (P := Try.prog) (T := 4) (j := j) g ho (by simp) hj
  refine ⟨by simpa [Bk.c] using k 0 (by simp [Bk.c]), by simpa [Bk.c] using k 1 (by simp [Bk.c]), by simpa [Bk.c] using k 2 (by simp [Bk.c]), by simpa [Bk.c] using k 3 (by simp [Bk.c]), by simpa [Bk.c] using k 4 (by simp [Bk.c]), by simpa [Bk.c] using k 5 (by simp [Bk.c]), by simpa [Bk.c] using k4 6 (by simp [Bk.c])⟩
theorem FsS.ld {S : Sup} {F : Fw} {q : Nat} {v : AV} {bs : List Nat} {h : AH} (X : FsS S F q v bs h) : ldVar Try.prog 260 q 9 h = some v := by
  have := X.gq
  simp [ldVar, this, fsC]
theorem FsS.lenA {S : Sup} {F : Fw} {q : Nat} {v : AV} {bs : List Nat} {h : AH} (X : FsS S F q v bs h) (h' : AH) : lenA Try.prog 260 v h' = some (.int .i64 F.L.length) := by
  have := Ty.R.lenA X.R (P := Try.prog) (T := 260) (by simp) h'
  simpa using this
/-- where a stream stands -/
def stIx (L : List Bk) (id : Int) : Option Nat := L.findIdx? (fun s => s.id == id)
theorem stIx_some {L : List Bk} {id : Int} {i : Nat} (h : stIx L id = some i) : ∃ hi : i < L.length, L[i].id = id := by
  unfold stIx at h
  rw [List.findIdx?_eq_some_iff_getElem] at h
  obtain ⟨h1, h2, _⟩ := h
  exact ⟨h1, by simpa using h2⟩
def ixI (o : Option Nat) : Int := match o with
  | some i => i
  | none => -1
def AtI (S : Sup) (F : Fw) (q : Nat) (id : Int) (H : AH) (d : Nat) (τ : Tm) (h : AH) : Prop :=
  ∃ k : Nat, k + d = F.L.length ∧ h = H ∧ τ 0 = .ptr q 0 ∧ τ 1 = .int .i64 id ∧ τ 5 = .int .i64 k ∧ ∀ j (hj : j < F.L.length), j < k → F.L[j].id ≠ id
theorem at_ev {S : Sup} {F : Fw} {q : Nat} {v : AV} {bs : List Nat} {h : AH} (X : FsS S F q v bs h) (id : Int) (m : Nat) (hm : 1000002 ≤ m) :
    ev Try.prog m 268 [.ptr q 0, .int .i64 id] h = some (.int .i64 (ixI (stIx F.L id)), h) := by
  obtain ⟨m, rfl⟩ : ∃ k, m = k + 1 := ⟨m - 1, by omega⟩
  rw [ev_M Try.func268 ok268 [] m _ h (by simp [Try.f268])]
  simp [Try.f268, tm0]
  generalize hLo : evLoop _ _ _ _ _ _ = R
  have hl := X.len
  obtain ⟨e, τ', H', rfl, rfl, g⟩ := loop_at hLo (loop_rule (d := F.L.length) (AtI S F q id h) (fun e τ h' => h' = h ∧ ((e = .exit 0 ∧ stIx F.L id = none) ∨ (e = .ret ∧ τ 4 = .int .i64 (ixI (stIx F.L id))))) (by
    rintro d τ h' ⟨k, hk, rfl, t0, t1, t5, hne⟩
    have l1 := X.ld
    have l2 := X.lenA h'
    rw [lp_M Try.func268 26 (by decide) 5 (by decide) (by kernel_rfl) []]
    by_cases hd : d = 0
    · subst hd
      have hkn : ¬ ((k : Int) < F.L.length) := by omega
      simp [Try.f268, t0, t1, t5, l1, l2, hkn]
      unfold stIx
      rw [List.findIdx?_eq_none_iff_findIdx_eq, List.findIdx_eq_length]
      intro s hs
      obtain ⟨j, hj, rfl⟩ := List.getElem_of_mem hs
      simpa using hne j hj (by omega)
    · have hlt : k < F.L.length := by omega
      have hlt' : (k : Int) < F.L.length := by omega
      obtain ⟨b, o, x1, x2, u1, u2, u3, u4, u5, u6, _, _⟩ := X.row hlt
      obtain ⟨f0, _⟩ := FsS.row_ld (S := S) (F := F) (q := q) (v := v) (bs := bs) u5 u6
      by_cases hid : F.L[k].id = id
      · have hix : stIx F.L id = some k := by
          unfold stIx
          rw [List.findIdx?_eq_some_iff_getElem]
          exact ⟨hlt, by simpa using hid, fun j hj => by simpa using hne j (by omega) hj⟩
        simp [Try.f268, t0, t1, t5, l1, l2, hlt, hlt', u1, f0, hid]
        rw [hix]; rfl
      · have hid' : (F.L[k].id == id) = false := by simpa using hid
        have w1 : IntKind.i64.wrap ((k : Int) + 1) = ((k + 1 : Nat) : Int) := by rw [wrap_i64 (n := (k : Int) + 1) (by omega) (by omega)]; omega
        simp [Try.f268, t0, t1, t5, l1, l2, hlt, hlt', u1, f0, hid', w1]
        exact ⟨d - 1, by omega, k + 1, by omega, rfl, by simp [t0], by simp [t1], by simp, fun j hj hjk => by
          by_cases e : j = k
          · subst e; exact hid
          · exact hne j hj (by omega)⟩) ⟨0, by simp, rfl, by simp, by simp, by simp, by simp⟩ (by omega))
  rcases g with ⟨rfl, g⟩ | ⟨rfl, g⟩
  · rw [g]; simp [ixI]
  · simp [g]
end Go.Ev

/- Credit: the reference's streams: one more, those to send on, those to get on. -/
namespace Go.Ev
open Go Go.Proofs
set_option linter.unusedSimpArgs false
set_option linter.unusedVariables false

def sendsP (S : Sup) (L : List Bk) (id : Int) : Option Nat := if ¬ idOk id ∨ (idSv id ≠ S.sv ∧ idOw id = true) then none else stIx L id
def getsP (S : Sup) (L : List Bk) (id : Int) : Option Nat := if ¬ idOk id ∨ (idSv id = S.sv ∧ idOw id = true) then none else stIx L id
theorem sends_ev {S : Sup} {F : Fw} {q : Nat} {v : AV} {bs : List Nat} {h : AH} (X : FsS S F q v bs h) (id : Int) (m : Nat) (hm : 1000003 ≤ m) :
    ev Try.prog m 266 [.ptr q 0, .int .i64 id] h = some (.int .i64 (ixI (sendsP S F.L id)), h) := by
  obtain ⟨m, rfl⟩ : ∃ k, m = k + 1 := ⟨m - 1, by omega⟩
  have e1 := IdPartsS_ev id h m (by omega)
  have e2 := at_ev X id m (by omega)
  have g := X.gq
  unfold fsC at g
  rw [ev_M Try.func266 ok266 [] m _ h (by simp [Try.f266])]
  unfold sendsP
  by_cases c1 : idOk id
  · rw [if_pos c1] at e1
    obtain ⟨L, o0, o1, m0, m1, cc, i0, i1, tc, rc⟩ := F
    obtain ⟨sv, cw, sw, tw, ow, pc, ps, ptw, pow⟩ := S
    simp only at g e2 ⊢
    cases h1 : idSv id <;> cases h2 : idOw id <;> cases sv <;> simp [h1, h2] at e1 <;> simp [Try.f266, tm0, e1, e2, g, ldVar, c1, h1, h2, ixI]
  · rw [if_neg c1] at e1
    simp [Try.f266, tm0, e1, e2, g, ldVar, c1, ixI, U]
theorem gets_ev {S : Sup} {F : Fw} {q : Nat} {v : AV} {bs : List Nat} {h : AH} (X : FsS S F q v bs h) (id : Int) (m : Nat) (hm : 1000003 ≤ m) :
    ev Try.prog m 269 [.ptr q 0, .int .i64 id] h = some (.int .i64 (ixI (getsP S F.L id)), h) := by
  obtain ⟨m, rfl⟩ : ∃ k, m = k + 1 := ⟨m - 1, by omega⟩
  have e1 := IdPartsS_ev id h m (by omega)
  have e2 := at_ev X id m (by omega)
  have g := X.gq
  unfold fsC at g
  rw [ev_M Try.func269 ok269 [] m _ h (by simp [Try.f269])]
  unfold getsP
  by_cases c1 : idOk id
  · rw [if_pos c1] at e1
    obtain ⟨L, o0, o1, m0, m1, cc, i0, i1, tc, rc⟩ := F
    obtain ⟨sv, cw, sw, tw, ow, pc, ps, ptw, pow⟩ := S
    simp only at g e2 ⊢
    cases h1 : idSv id <;> cases h2 : idOw id <;> cases sv <;> simp [h1, h2] at e1 <;> simp [Try.f269, tm0, e1, e2, g, ldVar, c1, h1, h2, ixI]
  · rw [if_neg c1] at e1
    simp [Try.f269, tm0, e1, e2, g, ldVar, c1, ixI, U]
def newBk (S : Sup) (id : Int) : Bk := ⟨id, S.ps, 0, S.sw, 0, 0, false⟩
def putP (S : Sup) (F : Fw) (id : Int) : Fw := { F with L := F.L ++ [newBk S id] }
structure Sup.ok (S : Sup) : Prop where
  cw : 1 ≤ S.cw ∧ S.cw ≤ 16384
  sw : 1 ≤ S.sw ∧ S.sw ≤ 16384
  tw : 0 ≤ S.tw ∧ S.tw ≤ 64
  ow : 0 ≤ S.ow ∧ S.ow ≤ 64
  pc : inW S.pc
  ps : inW S.ps
  ptw : 0 ≤ S.ptw ∧ S.ptw ≤ 1152921504606846976
  pow : 0 ≤ S.pow ∧ S.pow ≤ 1152921504606846976
theorem newBk_ok {S : Sup} (hS : S.ok) {id : Int} (hi : InK .i64 id) : (newBk S id).ok := by
  have h1 := hS.ps; have h2 := hS.sw
  unfold inW at h1
  exact ⟨hi, InK.i64 (by simp only [newBk]; omega) (by simp only [newBk]; omega), InK.i64 (by simp [newBk]) (by simp [newBk]), InK.i64 (by simp only [newBk]; omega) (by simp only [newBk]; omega), InK.i64 (by simp [newBk]) (by simp [newBk]), InK.i64 (by simp [newBk]) (by simp [newBk])⟩
theorem put_ev {S : Sup} {F : Fw} {q : Nat} {v : AV} {bs : List Nat} {h : AH} (X : FsS S F q v bs h) (hS : S.ok) {id : Int} (hi : InK .i64 id) (hlen : F.L.length + 1 ≤ 1000000) (m : Nat) (hm : 1 ≤ m) :
    ∃ v' bs' h', ev Try.prog m 265 [.ptr q 0, .int .i64 id] h = some (U, h') ∧ FsS S (putP S F id) q v' bs' h' ∧ KoS (q :: bs) h h' ∧ ∀ b ∈ bs', b ∈ bs ∨ h.next ≤ b := by
  obtain ⟨m, rfl⟩ : ∃ k, m = k + 1 := ⟨m - 1, by omega⟩
  have g := X.gq
  have hc : (newBk S id).c = [.int .i64 id, .int .i64 S.ps, .int .i64 0, .int .i64 S.sw, .int .i64 0, .int .i64 0, .bool false] := rfl
  obtain ⟨v', X', bs', b1, b2, b3, b4, b5⟩ := Ty.R.app1 (P := Try.prog) (T := 260) X.R (c := (newBk S id).c) (d := (newBk S id).d) (b1 := []) (Bk.R (newBk_ok hS hi)) (by simpa using X.nd) (by simp) (by simp) (by simp [Ty.n]) (by_ := 56) (by simp) (z := [.int .i64 0, .int .i64 0, .int .i64 0, .int .i64 0, .int .i64 0, .int .i64 0, .bool false]) (by simp) (by simp [Ty.n]) (by simp; omega) (by simp; omega)
  have hqm : q ∉ bs' := fun hq => by
    rcases b4 q hq with h1 | h1 | h1
    · exact X.nq h1
    · simp at h1
    · have := X.qn; omega
  have hv := b2.sl_one
  have hvc := cells_one hv
  have gX := (b5.get q X.qn X.nq).trans g
  have hn := b5.next
  have qn := X.qn
  have nq : ¬ (q = h.next) := by omega
  refine ⟨v', bs', X'.set q (.cells 263 false (fsC S (putP S F id) v')), ?_, ⟨by simp, ?_, b3, hqm, by simp; omega, by simp [putP]; omega⟩, ⟨by simp; omega, fun b hb hx => ?_⟩, fun b hb => by rcases b4 b hb with h1 | h1 | h1 <;> simp_all⟩
  · rw [hc] at b1
    unfold fsC at g gX
    simp only [putP, fsC]
    rw [ev_M Try.func265 ok265 [] m _ h (by simp [Try.f265])]
    simp (disch := omega) [Try.f265, tm0, g, ldVar, stVar, spl, fillA, zerosA, b1, hv, hvc, gX, nq, evHist, ObsOk, ObOk, List.getElem?_cons_zero, U]
  · have := b2.stay (H' := X'.set q (.cells 263 false (fsC S (putP S F id) v'))) (by simp) (fun b hb => AH.set_getN _ _ (fun e => hqm (e ▸ hb)))
    simpa [putP] using this
  · rw [AH.set_getN _ _ (fun e => hx (by simp [e]))]
    exact b5.get b hb (fun h1 => hx (by simp [h1]))
end Go.Ev

/- Credit: what the operations do, plain. -/
namespace Go.Ev
open Go Go.Proofs
set_option linter.unusedSimpArgs false
set_option linter.unusedVariables false

abbrev Fr : Type := tT72.D
abbrev Ob : Type := tT63.D
def frm (k a b : Int) : Fr := (k, a, b, 0, false, [], [], [])
def ob (c i n : Int) (l : List Fr) : Ob := (c, i, n, l)
def Fw.o (F : Fw) (w : Bool) : Int := if w then F.o1 else F.o0
def Fw.m (F : Fw) (w : Bool) : Int := if w then F.m1 else F.m0
def Fw.i (F : Fw) (w : Bool) : Int := if w then F.i1 else F.i0
def Fw.incO (F : Fw) (w : Bool) : Fw := if w then { F with o1 := F.o1 + 1 } else { F with o0 := F.o0 + 1 }
def Fw.incI (F : Fw) (w : Bool) : Fw := if w then { F with i1 := F.i1 + 1 } else { F with i0 := F.i0 + 1 }
def Fw.maxM (F : Fw) (w : Bool) (n : Int) : Fw := if w then { F with m1 := max F.m1 n } else { F with m0 := max F.m0 n }
def sumI (f : Bk → Int) : List Bk → Int
  | [] => 0
  | s :: l => f s + sumI f l
def bk0 : Bk := ⟨0, 0, 0, 0, 0, 0, false⟩
def Fw.at_ (F : Fw) (i : Nat) : Bk := F.L.getD i bk0
def Fw.upd (F : Fw) (i : Nat) (f : Bk → Bk) : Fw := { F with L := F.L.set i (f (F.at_ i)) }
def addP (S : Sup) (F : Fw) (id : Int) : Fw := if stIx F.L id = none then putP S F id else F
def addAll (S : Sup) (sv w : Bool) : Nat → Fw → Fw
  | 0, F => F
  | n + 1, F => addP S (addAll S sv w n F) (idOf sv w n)
def openP (S : Sup) (F : Fw) (w : Bool) : Fw × Ob :=
  if F.m w ≤ F.o w then (F, ob 9 0 0 []) else (putP S (F.incO w) (idOf S.sv w (F.o w)), ob 0 (idOf S.sv w (F.o w)) 0 [])
def sendP (S : Sup) (F : Fw) (id n : Int) : Fw × Ob :=
  if n < 0 then (F, ob 1 0 0 []) else match sendsP S F.L id with
    | none => (F, ob 7 0 0 [])
    | some i => let k := min (min n ((F.at_ i).cr - (F.at_ i).se)) (F.cc - sumI Bk.se F.L)
      (F.upd i fun s => { s with se := s.se + k }, ob 0 0 k [])
def arriveP (S : Sup) (F : Fw) (id n : Int) : Fw × Int :=
  if ¬ idOk id ∨ ¬ inW n then (F, 1) else if idSv id ≠ S.sv ∧ F.i (idOw id) ≤ id / 4 then (F, 9) else
    let G := if idSv id ≠ S.sv then addAll S (idSv id) (idOw id) (id / 4 + 1).toNat F else F
    match getsP S G.L id with
    | none => (G, 7)
    | some i => let k := max n (G.at_ i).ca
      if (G.at_ i).to < k ∨ G.tc - (sumI Bk.ca G.L - (G.at_ i).ca) < k then (G, 8) else (G.upd i fun s => { s with ca := k }, 0)
def readP (S : Sup) (F : Fw) (id n : Int) : Fw × Ob :=
  match getsP S F.L id with
  | none => (F, ob 7 0 0 [])
  | some i => let s := F.at_ i
    if n < 1 ∨ s.ca - s.re < n then (F, ob 1 0 0 []) else
      let t := creditP (s.re + n) S.sw s.to
      let u := creditP (F.rc + n) S.cw F.tc
      ({ (F.upd i fun s => { s with re := s.re + n, to := t }) with rc := F.rc + n, tc := u }, ob 0 0 0 ((if t ≠ s.to then [frm 17 id t] else []) ++ (if u ≠ F.tc then [frm 16 u 0] else [])))
def overP (S : Sup) (F : Fw) (id : Int) : Fw × Ob :=
  match stIx F.L id with
  | none => (F, ob 7 0 0 [])
  | some i => if ¬ idOk id ∨ idSv id = S.sv ∨ (F.at_ i).ov = true then (F, ob 7 0 0 []) else
      let G := F.upd i fun s => { s with ov := true }
      if F.i (idOw id) = 1152921504606846976 then (G, ob 0 0 0 []) else (G.incI (idOw id), ob 0 0 0 [frm 18 (F.i (idOw id) + 1) (if idOw id then 1 else 0)])
def toldP (S : Sup) (F : Fw) (k id n : Int) (w : Bool) : Fw × Int :=
  if ¬ inW n ∨ (k = 8 ∧ 1152921504606846976 < n) then (F, 1) else
  if k = 6 then ({ F with cc := max F.cc n }, 0) else
  if k = 7 then match sendsP S F.L id with
    | none => (F, 7)
    | some i => (F.upd i fun s => { s with cr := max s.cr n }, 0)
  else (F.maxM w n, 0)
def doF (S : Sup) (F : Fw) (op : tT65.D) : Fw × Ob :=
  if op.1 = 1 then openP S F op.2.2.2
  else if op.1 = 2 then sendP S F op.2.1 op.2.2.1
  else if op.1 = 3 then ((arriveP S F op.2.1 op.2.2.1).1, ob (arriveP S F op.2.1 op.2.2.1).2 0 0 [])
  else if op.1 = 4 then readP S F op.2.1 op.2.2.1
  else if op.1 = 5 then overP S F op.2.1
  else if op.1 = 6 ∨ op.1 = 7 ∨ op.1 = 8 then ((toldP S F op.1 op.2.1 op.2.2.1 op.2.2.2).1, ob (toldP S F op.1 op.2.1 op.2.2.1 op.2.2.2).2 0 0 [])
  else (F, ob 1 0 0 [])
/-- what holds behind k operations -/
structure Bk.good (s : Bk) (k : Nat) : Prop where
  id : idOk s.id
  se : 0 ≤ s.se ∧ s.se ≤ s.cr
  cr : s.cr ≤ 4611686018427387903
  re : 0 ≤ s.re ∧ s.re ≤ s.ca
  ca : s.ca ≤ s.to
  to : s.to ≤ 16384 * ((k : Int) + 1)
structure Fw.good (S : Sup) (F : Fw) (k : Nat) : Prop where
  sup : S.ok
  kk : k ≤ 400
  bk : ∀ s ∈ F.L, s.good k
  own : ∀ s ∈ F.L, idSv s.id = S.sv → s.id / 4 < F.o (idOw s.id)
  len : F.L.length ≤ 500 * k
  o : ∀ w, 0 ≤ F.o w ∧ F.o w ≤ k
  m : ∀ w, 0 ≤ F.m w ∧ F.m w ≤ 1152921504606846976
  i : ∀ w, 0 ≤ F.i w ∧ F.i w ≤ 64 + k
  se : sumI Bk.se F.L ≤ F.cc
  cc : F.cc ≤ 4611686018427387903
  ca : sumI Bk.ca F.L ≤ F.tc
  tc : F.tc ≤ 16384 * ((k : Int) + 1)
  rc : F.rc = sumI Bk.re F.L
theorem Bk.good.ok {s : Bk} {k : Nat} (h : s.good k) (hk : k ≤ 400) : s.ok := by
  obtain ⟨⟨a1, a2⟩, ⟨b1, b2⟩, c1, ⟨d1, d2⟩, e1, f1⟩ := h
  exact ⟨InK.i64 (by omega) (by omega), InK.i64 (by omega) (by omega), InK.i64 (by omega) (by omega), InK.i64 (by omega) (by omega), InK.i64 (by omega) (by omega), InK.i64 (by omega) (by omega)⟩
theorem sumI_nn {f : Bk → Int} : ∀ {L : List Bk}, (∀ s ∈ L, 0 ≤ f s) → 0 ≤ sumI f L
  | [], _ => by simp [sumI]
  | s :: l, h => by
    have h1 := h s (by simp)
    have h2 := sumI_nn (L := l) fun x hx => h x (by simp [hx])
    simp only [sumI]; omega
theorem sumI_mem {f : Bk → Int} : ∀ {L : List Bk}, (∀ s ∈ L, 0 ≤ f s) → ∀ s ∈ L, f s ≤ sumI f L
  | x :: l, h, s, hs => by
    have h1 := h x (by simp)
    have h2 := sumI_nn (L := l) fun x hx => h x (by simp [hx])
    simp only [sumI]
    rcases List.mem_cons.1 hs with rfl | hs
    · omega
    · have := sumI_mem (L := l) (fun x hx => h x (by simp [hx])) s hs; omega
theorem sumI_app (f : Bk → Int) : ∀ (L M : List Bk), sumI f (L ++ M) = sumI f L + sumI f M
  | [], M => by simp [sumI]
  | s :: l, M => by simp only [List.cons_append, sumI, sumI_app f l M]; omega
theorem sumI_set (f : Bk → Int) : ∀ (L : List Bk) (i : Nat) (hi : i < L.length) (s : Bk), sumI f (L.set i s) = sumI f L - f L[i] + f s
  | x :: l, 0, _, s => by simp only [List.set_cons_zero, sumI, List.getElem_cons_zero]; omega
  | x :: l, i + 1, hi, s => by
    have := sumI_set f l i (by simpa using hi) s
    simp only [List.set_cons_succ, sumI, List.getElem_cons_succ, this]; omega
theorem at_L {F : Fw} {i : Nat} (hi : i < F.L.length) : F.at_ i = F.L[i] := by
  simp [Fw.at_, hi]
theorem upd_L {F : Fw} {i : Nat} (hi : i < F.L.length) (f : Bk → Bk) : (F.upd i f).L = F.L.set i (f F.L[i]) := by
  simp only [Fw.upd, at_L hi]
end Go.Ev

/- Credit: the reference opens a stream, sends. -/
namespace Go.Ev
open Go Go.Proofs
set_option linter.unusedSimpArgs false
set_option linter.unusedVariables false

def obC (c i n : Int) (f : AV) : List AV := [.int .i64 c, .int .i64 i, .int .i64 n, f]
/-- the books behind a step -/
def StpS (S : Sup) (F' : Fw) (q : Nat) (bs : List Nat) (h h' : AH) : Prop := ∃ v' bs', FsS S F' q v' bs' h' ∧ KoS (q :: bs) h h' ∧ ∀ b ∈ bs', b ∈ bs ∨ h.next ≤ b
theorem FsS.stay {S : Sup} {F : Fw} {q : Nat} {v : AV} {bs : List Nat} {h h' : AH} (X : FsS S F q v bs h) (hn : h.next ≤ h'.next) (hq : h'.get q = h.get q) (hb : ∀ b ∈ bs, h'.get b = h.get b) : FsS S F q v bs h' :=
  ⟨by rw [hq]; exact X.gq, X.R.stay hn hb, X.nd, X.nq, by have := X.qn; omega, X.len⟩
theorem FsS.kp {S : Sup} {F : Fw} {q : Nat} {v : AV} {bs : List Nat} {h h' : AH} (X : FsS S F q v bs h) (hK : Kp h h') : FsS S F q v bs h' :=
  X.stay hK.next (hK.get q X.qn) fun b hb => hK.get b (X.R.mem b hb)
/-- other fields of the books -/
theorem FsS.fld {S : Sup} {F F' : Fw} {q : Nat} {v : AV} {bs : List Nat} {h : AH} (X : FsS S F q v bs h) (hL : F'.L = F.L) : FsS S F' q v bs (h.set q (.cells 263 false (fsC S F' v))) :=
  ⟨by simp, by rw [hL]; exact X.R.stay (by simp) fun b hb => AH.set_getN _ _ (fun e => X.nq (e ▸ hb)), X.nd, X.nq, by simpa using X.qn, by rw [hL]; exact X.len⟩
/-- a stream's record changed -/
theorem FsS.upd {S : Sup} {F : Fw} {q : Nat} {v : AV} {bs : List Nat} {h : AH} (X : FsS S F q v bs h) {i : Nat} (hi : i < F.L.length) :
    ∃ b o x1 x2, idxA Try.prog 260 v (.int .i64 i) = some (.ptr b o) ∧ b < h.next ∧ b ≠ q ∧ b ∈ bs ∧ h.get b = some (.cells 316 false (x1 ++ (F.at_ i).c ++ x2)) ∧ x1.length = o ∧ (F.at_ i).ok ∧
      ∀ f : Bk → Bk, (f (F.at_ i)).ok → FsS S (F.upd i f) q v bs (h.set b (.cells 316 false (x1 ++ (f (F.at_ i)).c ++ x2))) := by
  obtain ⟨b, o, x1, x2, u1, u2, u3, u4, u5, u6, ok, u7⟩ := X.row hi
  rw [at_L hi]
  refine ⟨b, o, x1, x2, u1, u2, u3, u4, u5, u6, ok, fun f ok' => u7 _ ok' _ (upd_L hi f) _ (by simp) ?_ (fun x hx hxb => AH.set_getN _ _ hxb) (by simp)⟩
  rw [AH.set_getN _ _ (fun e => u3 e.symm)]; exact X.gq
theorem KoS.set1 {L : List Nat} {A B : AH} (h : KoS L A B) {b : Nat} (hb : b ∈ L) (x : Blk) : KoS L A (B.set b x) :=
  ⟨by simpa using h.next, fun c hc hx => by rw [AH.set_getN _ _ (fun e => hx (by rw [e]; exact hb))]; exact h.get c hc hx⟩
theorem open_ev {S : Sup} {F : Fw} {k : Nat} {q : Nat} {v : AV} {bs : List Nat} {h : AH} (X : FsS S F q v bs h) (G : F.good S k) (w : Bool) (m : Nat) (hm : 1000010 ≤ m) :
    ∃ c i n h', ev Try.prog m 199 [.ptr q 0, .bool w] h = some (.agg (obC c i n .nilSlice), h') ∧ (openP S F w).2 = ob c i n [] ∧ StpS S (openP S F w).1 q bs h h' := by
  obtain ⟨m, rfl⟩ : ∃ k, m = k + 1 := ⟨m - 1, by omega⟩
  let A0 : AH := h.push (.cells 63 false (obC 0 0 0 .nilSlice))
  have kA : Kp h A0 := (Kp.refl h).push _
  have X0 := X.kp kA
  have g := X.gq
  have ho := G.o w; have hM := G.m w; have hk := G.kk; have hl := G.len
  have e0 := fun H => l08Way_ev w H m (by omega)
  have nq : ¬ (q = h.next) := by have := X.qn; omega
  have np : ¬ (h.next = q) := by omega
  have hbn : ∀ b ∈ bs, b < h.next := X.R.mem
  unfold openP
  by_cases c1 : F.m w ≤ F.o w
  · rw [if_pos c1]
    refine ⟨9, 0, 0, A0.set h.next (.cells 63 false (obC 9 0 0 .nilSlice)), ?_, rfl, v, bs, (X0.stay (by simp) (AH.set_getN _ _ nq) fun b hb => AH.set_getN _ _ (by have := hbn b hb; omega)), ⟨by simp [A0], fun b hb _ => by rw [AH.set_getN _ _ (by omega)]; exact kA.get b hb⟩, fun b hb => .inl hb⟩
    simp only [fsC, A0, obC] at g ⊢
    rw [ev_M Try.func199 ok199 [] m _ h (by simp [Try.f199])]
    cases w <;> simp only [Fw.m, Fw.o, Bool.false_eq_true, if_false, if_true] at c1 <;> simp at e0 <;>
      simp [Try.f199, tm0, e0, g, nq, c1, ldVar, stVar, spl, fillA, idxA, evHist, ObsOk, ObOk, List.getElem?_cons_zero]
  · rw [if_neg c1]
    have hid : InK .i64 (idOf S.sv w (F.o w)) := by
      unfold idOf
      rw [if_neg (by omega)]
      exact InK.i64 (by split <;> split <;> omega) (by split <;> split <;> omega)
    have X1 := X0.fld (F' := F.incO w) (by cases w <;> rfl)
    obtain ⟨v', bs', h2, e2, X2, k2, l2⟩ := put_ev X1 G.sup hid (by cases w <;> simp only [Fw.incO, Bool.false_eq_true, if_false, if_true] <;> omega) m (by omega)
    have n2 := k2.next
    simp [A0] at n2
    have g2 : h2.get h.next = some (.cells 63 false (obC 0 0 0 .nilSlice)) := by
      rw [k2.get _ (by simp [A0]) (fun hx => by rcases List.mem_cons.1 hx with e | e; exact np e; have := hbn _ e; omega), AH.set_getN _ _ np]; simp [A0]
    have l2' : ∀ b ∈ bs', b ∈ bs ∨ h.next < b := fun b hb => (l2 b hb).elim .inl fun h => .inr (by simp [A0] at h; omega)
    have e1 := fun H => IdOfS_ev S.sv w (F.o w) H m (by omega)
    have qn := X.qn
    refine ⟨0, idOf S.sv w (F.o w), 0, h2.set h.next (.cells 63 false (obC 0 (idOf S.sv w (F.o w)) 0 .nilSlice)), ?_, rfl, v', bs', X2.stay (by simp) (AH.set_getN _ _ nq) (fun b hb => AH.set_getN _ _ (by rcases l2' b hb with h | h; have := hbn b h; omega; omega)), ⟨by simp; omega, fun b hb hx => ?_⟩, fun b hb => (l2' b hb).imp id (fun h => by omega)⟩
    · have ho2 := ho.2
      have w1 : IntKind.i64.wrap (F.o w + 1) = F.o w + 1 := wrap_i64 (n := F.o w + 1) (by omega) (by omega)
      simp only [fsC, A0, obC] at g g2 e2 ⊢
      rw [ev_M Try.func199 ok199 [] m _ h (by simp [Try.f199])]
      generalize hI : idOf S.sv w (F.o w) = I at *
      cases w <;> simp only [Fw.m, Fw.o, Fw.incO, Bool.false_eq_true, if_false, if_true] at c1 e1 e2 w1 hI <;> simp at e0 <;>
        simp [Try.f199, tm0, e0, e1, hI, e2, g, g2, nq, c1, w1, ldVar, stVar, spl, fillA, idxA, evHist, ObsOk, ObOk, List.getElem?_cons_zero]
    · rw [AH.set_getN _ _ (by omega), k2.get b (by simp [A0]; omega) hx, AH.set_getN _ _ (fun e => hx (by simp [e]))]
      exact kA.get b hb
end Go.Ev

/- Credit: the reference sends. -/
namespace Go.Ev
open Go Go.Proofs
set_option linter.unusedSimpArgs false
set_option linter.unusedVariables false

theorem sumI_take {f : Bk → Int} {L : List Bk} {k : Nat} (h : k < L.length) : sumI f (L.take (k + 1)) = sumI f (L.take k) + f L[k] := by
  rw [List.take_add_one, List.getElem?_eq_getElem h, sumI_app]; simp [sumI]
theorem sumI_take_le {f : Bk → Int} {L : List Bk} (h : ∀ s ∈ L, 0 ≤ f s) (k : Nat) : 0 ≤ sumI f (L.take k) ∧ sumI f (L.take k) ≤ sumI f L := by
  have e : sumI f L = sumI f (L.take k) + sumI f (L.drop k) := by rw [← sumI_app, List.take_append_drop]
  have h1 := sumI_nn (f := f) (L := L.take k) fun s hs => h s (List.mem_of_mem_take hs)
  have h2 := sumI_nn (f := f) (L := L.drop k) fun s hs => h s (List.mem_of_mem_drop hs)
  omega
theorem good_se {S : Sup} {F : Fw} {k : Nat} (G : F.good S k) : ∀ s ∈ F.L, 0 ≤ s.se := fun s hs => (G.bk s hs).se.1
theorem good_ca {S : Sup} {F : Fw} {k : Nat} (G : F.good S k) : ∀ s ∈ F.L, 0 ≤ s.ca := fun s hs => by have := (G.bk s hs).re; omega
structure SdT (τ : Tm) (q p : Nat) (n : Int) (i : Nat) : Prop where
  t0 : τ 0 = .ptr q 0
  t2 : τ 2 = .int .i64 n
  t6 : τ 6 = .ptr p 0
  t7 : τ 7 = .int .i64 i
def SdI (F : Fw) (q p : Nat) (n : Int) (i : Nat) (H : AH) (d : Nat) (τ : Tm) (h : AH) : Prop :=
  ∃ k : Nat, k + d = F.L.length ∧ h = H ∧ SdT τ q p n i ∧ τ 8 = .int .i64 (sumI Bk.se (F.L.take k)) ∧ τ 9 = .int .i64 k
theorem sdLoop {S : Sup} {F : Fw} {k0 : Nat} {q p : Nat} {v : AV} {bs : List Nat} {h : AH} (X : FsS S F q v bs h) (G : F.good S k0) {n : Int} {i : Nat} (m : Nat) (hm : 1000002 ≤ m) (τ : Tm) (hI : SdI F q p n i h F.L.length τ h) :
    ∃ e τ' H', evLoop Try.prog (ev Try.prog m) m (lp Try.prog 200 506) τ h = some (e, τ', H') ∧ e = .exit 0 ∧ H' = h ∧ SdT τ' q p n i ∧ τ' 8 = .int .i64 (sumI Bk.se F.L) := by
  have hl := X.len
  refine loop_rule (d := F.L.length) (SdI F q p n i h) (fun e τ h' => e = .exit 0 ∧ h' = h ∧ SdT τ q p n i ∧ τ 8 = .int .i64 (sumI Bk.se F.L)) ?_ hI (by omega)
  rintro d τ h' ⟨k, hk, rfl, ⟨t0, t2, t6, t7⟩, t8, t9⟩
  have l1 := X.ld
  have l2 := X.lenA h'
  rw [lp_M Try.func200 506 (by decide) 9 (by decide) (by kernel_rfl) []]
  by_cases hd : d = 0
  · subst hd
    have hkn : ¬ ((k : Int) < F.L.length) := by omega
    rw [List.take_of_length_le (by omega)] at t8
    simp [Try.f200, t0, t8, t9, l1, l2, hkn]
    exact ⟨by simp [t0], by simp [t2], by simp [t6], by simp [t7]⟩
  · have hlt : k < F.L.length := by omega
    have hlt' : (k : Int) < F.L.length := by omega
    obtain ⟨b, o, x1, x2, u1, u2, u3, u4, u5, u6, _, _⟩ := X.row hlt
    obtain ⟨_, _, f2, _⟩ := FsS.row_ld (S := S) (F := F) (q := q) (v := v) (bs := bs) u5 u6
    have b1 := sumI_take_le (good_se G) k
    have b2 := sumI_take_le (good_se G) (k + 1)
    have b3 := G.se; have b4 := G.cc
    have st := sumI_take (f := Bk.se) hlt
    have w1 : IntKind.i64.wrap ((k : Int) + 1) = ((k + 1 : Nat) : Int) := by rw [wrap_i64 (n := (k : Int) + 1) (by omega) (by omega)]; omega
    have w2 : IntKind.i64.wrap (sumI Bk.se (F.L.take k) + F.L[k].se) = sumI Bk.se (F.L.take (k + 1)) := by rw [← st]; exact wrap_i64 (by omega) (by omega)
    simp [Try.f200, t0, t8, t9, l1, l2, hlt, hlt', u1, f2, w1, w2]
    exact ⟨d - 1, by omega, k + 1, by omega, rfl, ⟨by simp [t0], by simp [t2], by simp [t6], by simp [t7]⟩, by simp [w2], by simp⟩
theorem sendsP_lt {S : Sup} {L : List Bk} {id : Int} {i : Nat} (h : sendsP S L id = some i) : i < L.length := by
  unfold sendsP at h
  split at h
  · simp at h
  · exact (stIx_some h).1
theorem getsP_lt {S : Sup} {L : List Bk} {id : Int} {i : Nat} (h : getsP S L id = some i) : i < L.length := by
  unfold getsP at h
  split at h
  · simp at h
  · exact (stIx_some h).1
theorem send_ev {S : Sup} {F : Fw} {k : Nat} {q : Nat} {v : AV} {bs : List Nat} {h : AH} (X : FsS S F q v bs h) (G : F.good S k) (id n : Int) (m : Nat) (hm : 1000010 ≤ m) :
    ∃ c i n' h', ev Try.prog m 200 [.ptr q 0, .int .i64 id, .int .i64 n] h = some (.agg (obC c i n' .nilSlice), h') ∧ (sendP S F id n).2 = ob c i n' [] ∧ InK .i64 n' ∧ StpS S (sendP S F id n).1 q bs h h' := by
  obtain ⟨m, rfl⟩ : ∃ k, m = k + 1 := ⟨m - 1, by omega⟩
  let A0 : AH := h.push (.cells 63 false (obC 0 0 0 .nilSlice))
  have kA : Kp h A0 := (Kp.refl h).push _
  have X0 := X.kp kA
  have qn := X.qn
  have nq : ¬ (q = h.next) := by omega
  have np : ¬ (h.next = q) := by omega
  have hbn : ∀ b ∈ bs, b < h.next := X.R.mem
  have fin0 : ∀ c, StpS S F q bs h (A0.set h.next (.cells 63 false (obC c 0 0 .nilSlice))) := fun c =>
    ⟨v, bs, X0.stay (by simp) (AH.set_getN _ _ nq) (fun b hb => AH.set_getN _ _ (by have := hbn b hb; omega)), ⟨by simp [A0], fun b hb _ => by rw [AH.set_getN _ _ (by omega)]; exact kA.get b hb⟩, fun b hb => .inl hb⟩
  unfold sendP
  by_cases c1 : n < 0
  · rw [if_pos c1]
    refine ⟨1, 0, 0, _, ?_, rfl, InK.i64 (by omega) (by omega), fin0 1⟩
    simp only [A0, obC]
    rw [ev_M Try.func200 ok200 [] m _ h (by simp [Try.f200])]
    simp [Try.f200, tm0, c1, ldVar, stVar, spl, fillA]
  · rw [if_neg c1]
    have c1' := eq_false c1
    have e1 := sends_ev X0 id m (by omega)
    cases hs : sendsP S F.L id with
    | none =>
      rw [hs] at e1
      refine ⟨7, 0, 0, _, ?_, rfl, InK.i64 (by omega) (by omega), fin0 7⟩
      simp only [A0, obC, ixI] at e1 ⊢
      rw [ev_M Try.func200 ok200 [] m _ h (by simp [Try.f200])]
      simp [Try.f200, tm0, c1', e1, ldVar, stVar, spl, fillA]
    | some i =>
      rw [hs] at e1
      have hi := sendsP_lt hs
      simp only [ixI] at e1
      have ei : ((i : Int) < 0) = False := eq_false (by omega)
      obtain ⟨b, o, x1, x2, u1, u2, u3, u4, u5, u6, ok, u7⟩ := X0.upd hi
      have hgs := G.bk F.L[i] (List.getElem_mem hi)
      rw [← at_L hi] at hgs
      have hsum := sumI_mem (good_se G) F.L[i] (List.getElem_mem hi)
      rw [← at_L hi] at hsum
      have hsn := sumI_nn (good_se G)
      have hcc := G.se; have hc2 := G.cc; have hg1 := hgs.se; have hg2 := hgs.cr
      dsimp only
      generalize hs' : F.at_ i = s at *
      generalize hK : min (min n (s.cr - s.se)) (F.cc - sumI Bk.se F.L) = K at *
      have hK1 : 0 ≤ K ∧ K ≤ s.cr - s.se ∧ K ≤ F.cc - sumI Bk.se F.L := by omega
      have X2 := u7 (fun s => { s with se := s.se + K }) ⟨ok.id, ok.cr, InK.i64 (by simp only; omega) (by simp only; omega), ok.to, ok.ca, ok.re⟩
      obtain ⟨_, r1, r2, _⟩ := FsS.row_ld (S := S) (F := F) (q := q) (v := v) (bs := bs) u5 u6
      have hst := st_mid (P := Try.prog) (T := 3) (j := 2) (v := .int .i64 (s.se + K)) u5 u6 (by simp) rfl (by simp [Bk.c])
      have hbne : b ≠ h.next := fun e => by have := hbn b u4; omega
      have pf : (A0.set b (.cells 316 false (x1 ++ (Bk.c { s with se := s.se + K }) ++ x2))).get h.next = some (.cells 63 false (obC 0 0 0 .nilSlice)) := by
        rw [AH.set_getN _ _ (fun e => hbne e.symm)]; simp [A0]
      have hset : (s.c.set 2 (.int .i64 (s.se + K))) = Bk.c { s with se := s.se + K } := rfl
      rw [hset] at hst
      have hA : ∀ c, KoS (q :: bs) h ((A0.set b (.cells 316 false (x1 ++ (Bk.c { s with se := s.se + K }) ++ x2))).set h.next c) := fun c => ⟨by simp [A0], fun x hx hxx => by
        rw [AH.set_getN _ _ (by omega), AH.set_getN _ _ (fun e => hxx (by rw [e]; exact List.mem_cons_of_mem _ u4))]; exact kA.get x hx⟩
      generalize hB : A0.set b (.cells 316 false (x1 ++ (Bk.c { s with se := s.se + K }) ++ x2)) = B at *
      refine ⟨0, 0, K, B.set h.next (.cells 63 false (obC 0 0 K .nilSlice)), ?_, rfl, InK.i64 (by omega) (by omega), v, bs, X2.stay (by simp) (AH.set_getN _ _ nq) (fun x hx => AH.set_getN _ _ (by have := hbn x hx; omega)), hA _, fun x hx => .inl hx⟩
      have l9 := X0.ld
      have l14 : ldVar Try.prog 3 q 14 A0 = some (.int .i64 F.cc) := by have := X0.gq; simp [ldVar, this, fsC]
      simp only [obC] at pf ⊢
      have hst2 : stVar Try.prog 63 h.next 0 (.agg [.int .i64 0, .int .i64 0, .int .i64 K, .nilSlice]) B = some (B.set h.next (.cells 63 false [.int .i64 0, .int .i64 0, .int .i64 K, .nilSlice])) := by
        simp [stVar, pf, spl]
      have lres : ldVar Try.prog 63 h.next 0 (B.set h.next (.cells 63 false [.int .i64 0, .int .i64 0, .int .i64 K, .nilSlice])) = some (.agg [.int .i64 0, .int .i64 0, .int .i64 K, .nilSlice]) := by
        simp [ldVar]
      have w1 : IntKind.i64.wrap (s.cr - s.se) = s.cr - s.se := wrap_i64 (n := s.cr - s.se) (by omega) (by omega)
      have w2 : IntKind.i64.wrap (F.cc - sumI Bk.se F.L) = F.cc - sumI Bk.se F.L := wrap_i64 (n := F.cc - sumI Bk.se F.L) (by omega) (by omega)
      have w3 : IntKind.i64.wrap (s.se + K) = s.se + K := wrap_i64 (n := s.se + K) (by omega) (by omega)
      have hK' : (if F.cc - sumI Bk.se F.L < (if s.cr - s.se < n then s.cr - s.se else n) then F.cc - sumI Bk.se F.L else if s.cr - s.se < n then s.cr - s.se else n) = K := by rw [← hK]; split <;> split <;> omega
      have hsl := sdLoop (p := h.next) (n := n) (i := i) X0 G m (by omega)
      have hA0 : h.push (.cells 63 false [.int .i64 0, .int .i64 0, .int .i64 0, .nilSlice]) = A0 := rfl
      clear_value A0
      rw [ev_M Try.func200 ok200 [] m _ h (by simp [Try.f200])]
      simp [Try.f200, tm0, hA0, c1', e1, ei]
      generalize hLo : evLoop _ _ _ _ _ _ = R
      obtain ⟨e, τ', H', rfl, rfl, rfl, ⟨t0, t2, t6, t7⟩, t8⟩ := loop_at hLo (hsl _ ⟨0, by simp, rfl, ⟨by simp, by simp, by simp, by simp⟩, by simp [sumI], by simp⟩)
      simp [Try.f200, t0, t2, t6, t7, t8, l9, l14, u1, r1, r2, w1, w2, hK', w3, hst, hst2, lres, mn2, foldA, fillA, evHist, ObsOk, ObOk, List.getElem?_cons_zero]
end Go.Ev

/- Credit: the reference ends a stream, is told. -/
namespace Go.Ev
open Go Go.Proofs
set_option linter.unusedSimpArgs false
set_option linter.unusedVariables false

theorem ia0 (q o : Nat) : idxA Try.prog 261 (.ptr q o) (.int .i64 0) = some (.ptr q o) := by simp [idxA]
theorem ia1 (q o : Nat) : idxA Try.prog 261 (.ptr q o) (.int .i64 1) = some (.ptr q (o + 1)) := by simp [idxA]
def frmC (k a b : Int) : List AV := [.int .i64 k, .int .i64 a, .int .i64 b, .int .i64 0, .bool false, .nilSlice, .nilSlice, .nilSlice]
theorem frm_R {H : AH} {k a b : Int} (hk : InK .i64 k) (ha : InK .i64 a) (hb : InK .i64 b) : tT72.R true H (frmC k a b) (frm k a b) [] :=
  i72 (bx_5 := []) (bx_6 := []) (bx_7 := []) (.inl ⟨rfl, rfl, rfl⟩) (.inl ⟨rfl, rfl, rfl⟩) (.inl ⟨rfl, rfl, rfl⟩) hk ha hb (InK.i64 (by omega) (by omega))
theorem one72 {H : AH} {p : Nat} {k a b : Int} (hp : p < H.next) (hg : H.get p = some (.cells 72 false (frmC k a b))) (hk : InK .i64 k) (ha : InK .i64 a) (hb : InK .i64 b) : (Ty.sl 72 tT72).R true H [.slice p 0 1] [frm k a b] [p] :=
  .inr ⟨p, 0, false, frmC k a b, [], rfl, rfl, hp, hg, fun _ => ⟨rfl, rfl, by simp [Ty.n, frmC]⟩, by simp [Ty.n, frmC], ⟨frmC k a b, [], [], [], by simp [Ty.n, frmC], by simp [Ty.n, frmC], rfl, frm_R hk ha hb, rfl, rfl⟩⟩
/-- the books and the answer behind a step -/
def StpO (S : Sup) (F' : Fw) (d : Ob) (q : Nat) (bs : List Nat) (h h' : AH) (c : List AV) : Prop :=
  ∃ v' bs' bo, FsS S F' q v' bs' h' ∧ KoS (q :: bs) h h' ∧ (∀ b ∈ bs', b ∈ bs ∨ h.next ≤ b) ∧ tT63.R true h' c d bo ∧ bo.Nodup ∧ (∀ b ∈ bo, h.next ≤ b) ∧ ∀ b ∈ bo, b ∉ bs'
theorem ob_R {H : AH} {c i n : Int} (hc : InK .i64 c) (hi : InK .i64 i) (hn : InK .i64 n) : tT63.R true H (obC c i n .nilSlice) (ob c i n []) [] := i63 (.inl ⟨rfl, rfl, rfl⟩) hc hi hn
theorem StpS.o {S : Sup} {F' : Fw} {q : Nat} {bs : List Nat} {h h' : AH} {c i n : Int} (X : StpS S F' q bs h h') (hc : InK .i64 c) (hi : InK .i64 i) (hn : InK .i64 n) : StpO S F' (ob c i n []) q bs h h' (obC c i n .nilSlice) := by
  obtain ⟨v', bs', x1, x2, x3⟩ := X
  exact ⟨v', bs', [], x1, x2, x3, ob_R hc hi hn, by simp, by simp, by simp⟩
theorem fail0 {S : Sup} {F : Fw} {q : Nat} {v : AV} {bs : List Nat} {h : AH} (X : FsS S F q v bs h) (x y : Blk) : StpS S F q bs h ((h.push x).set h.next y) := by
  have qn := X.qn
  have hbn : ∀ b ∈ bs, b < h.next := X.R.mem
  have kA : Kp h (h.push x) := (Kp.refl h).push _
  exact ⟨v, bs, (X.kp kA).stay (by simp) (AH.set_getN _ _ (by omega)) (fun b hb => AH.set_getN _ _ (by have := hbn b hb; omega)), ⟨by simp, fun b hb _ => by rw [AH.set_getN _ _ (by omega)]; exact kA.get b hb⟩, fun b hb => .inl hb⟩
theorem over_ev {S : Sup} {F : Fw} {k : Nat} {q : Nat} {v : AV} {bs : List Nat} {h : AH} (X : FsS S F q v bs h) (G : F.good S k) (id : Int) (m : Nat) (hm : 1000010 ≤ m) :
    ∃ c h', ev Try.prog m 203 [.ptr q 0, .int .i64 id] h = some (.agg c, h') ∧ StpO S (overP S F id).1 (overP S F id).2 q bs h h' c := by
  obtain ⟨m, rfl⟩ : ∃ k, m = k + 1 := ⟨m - 1, by omega⟩
  let A0 : AH := h.push (.cells 63 false (obC 0 0 0 .nilSlice))
  have kA : Kp h A0 := (Kp.refl h).push _
  have X0 := X.kp kA
  have qn := X.qn
  have nq : ¬ (q = h.next) := by omega
  have np : ¬ (h.next = q) := by omega
  have hbn : ∀ b ∈ bs, b < h.next := X.R.mem
  have g := X.gq
  have e1 := IdPartsS_ev id A0 m (by omega)
  have e2 := at_ev X0 id m (by omega)
  have i0 : InK .i64 0 := InK.i64 (by omega) (by omega)
  have i7 : InK .i64 7 := InK.i64 (by omega) (by omega)
  have bad : (overP S F id) = (F, ob 7 0 0 []) → ev Try.prog (m + 1) 203 [.ptr q 0, .int .i64 id] h = some (.agg (obC 7 0 0 .nilSlice), A0.set h.next (.cells 63 false (obC 7 0 0 .nilSlice))) → 
      ∃ c h', ev Try.prog (m + 1) 203 [.ptr q 0, .int .i64 id] h = some (.agg c, h') ∧ StpO S (overP S F id).1 (overP S F id).2 q bs h h' c := fun h1 h2 => ⟨_, _, h2, by rw [h1]; exact (fail0 X _ _).o i7 i0 i0⟩
  by_cases c1 : idOk id
  · rw [if_pos c1] at e1
    by_cases c2 : idSv id = S.sv
    · refine bad ?_ ?_
      · unfold overP; split
        · rfl
        · rw [if_pos (.inr (.inl c2))]
      · simp only [fsC, A0, obC] at g e1 e2 ⊢
        rw [ev_M Try.func203 ok203 [] m _ h (by simp [Try.f203])]
        simp [Try.f203, tm0, e1, e2, c2, g, nq, ldVar, stVar, spl, fillA, U, evHist, ObsOk, ObOk, List.getElem?_cons_zero]
    · have c2' : (idSv id == S.sv) = false := by simpa using c2
      cases hs : stIx F.L id with
      | none =>
        refine bad (by unfold overP; rw [hs]) ?_
        rw [hs] at e2
        simp only [fsC, A0, obC, ixI] at g e1 e2 ⊢
        rw [ev_M Try.func203 ok203 [] m _ h (by simp [Try.f203])]
        simp [Try.f203, tm0, e1, e2, c2', g, nq, ldVar, stVar, spl, fillA, U, evHist, ObsOk, ObOk, List.getElem?_cons_zero]
      | some i =>
        obtain ⟨hi, hid⟩ := stIx_some hs
        rw [hs] at e2
        simp only [ixI] at e2
        have ei : ((i : Int) < 0) = False := eq_false (by omega)
        obtain ⟨b, o, x1, x2, u1, u2, u3, u4, u5, u6, ok, u7⟩ := X0.upd hi
        obtain ⟨_, _, _, _, _, _, r6⟩ := FsS.row_ld (S := S) (F := F) (q := q) (v := v) (bs := bs) u5 u6
        have l0 : ldVar Try.prog 4 q 0 A0 = some (.bool S.sv) := by have := X0.gq; simp [ldVar, this, fsC]
        have l9 := X0.ld
        have hA0 : h.push (.cells 63 false [.int .i64 0, .int .i64 0, .int .i64 0, .nilSlice]) = A0 := rfl
        have p0 : A0.get h.next = some (.cells 63 false (obC 0 0 0 .nilSlice)) := by simp [A0]
        by_cases c3 : (F.at_ i).ov = true
        · refine bad ?_ ?_
          · unfold overP; rw [hs]; simp only; rw [if_pos (.inr (.inr c3))]
          · rw [c3] at r6
            simp only [obC] at p0 ⊢
            have hst : stVar Try.prog 63 h.next 0 (.agg [.int .i64 7, .int .i64 0, .int .i64 0, .nilSlice]) A0 = some (A0.set h.next (.cells 63 false [.int .i64 7, .int .i64 0, .int .i64 0, .nilSlice])) := by simp [stVar, p0, spl]
            have lres : ldVar Try.prog 63 h.next 0 (A0.set h.next (.cells 63 false [.int .i64 7, .int .i64 0, .int .i64 0, .nilSlice])) = some (.agg [.int .i64 7, .int .i64 0, .int .i64 0, .nilSlice]) := by simp [ldVar]
            clear_value A0
            rw [ev_M Try.func203 ok203 [] m _ h (by simp [Try.f203])]
            simp [Try.f203, tm0, hA0, e1, e2, ei, c2', l0, l9, u1, r6, hst, lres, fillA, U]
        · have c3' : (F.at_ i).ov = false := by simpa using c3
          rw [c3'] at r6
          have X1 := u7 (fun s => { s with ov := true }) ⟨ok.id, ok.cr, ok.se, ok.to, ok.ca, ok.re⟩
          have hst := st_mid (P := Try.prog) (T := 4) (j := 6) (v := .bool true) u5 u6 (by simp) rfl (by simp [Bk.c])
          have hset : (F.at_ i).c.set 6 (.bool true) = Bk.c { F.at_ i with ov := true } := rfl
          rw [hset] at hst
          have hov : overP S F id = ((F.upd i fun s => { s with ov := true }).incI (idOw id), ob 0 0 0 [frm 18 (F.i (idOw id) + 1) (if idOw id then 1 else 0)]) := by
            unfold overP
            rw [hs]
            have hi2 := G.i (idOw id)
            have hk2 := G.kk
            simp only
            rw [if_neg (by simp [c1, c2, c3']), if_neg (by omega)]
          rw [hov]
          have hin : F.i (idOw id) = (F.upd i fun s => { s with ov := true }).i (idOw id) := by cases idOw id <;> rfl
          have hi2 := G.i (idOw id)
          have hk2 := G.kk
          have e0 := fun H => l08Way_ev (idOw id) H m (by omega)
          have pb : b ≠ h.next := fun e => by have := hbn b u4; omega
          have p1 : (A0.set b (.cells 316 false (x1 ++ Bk.c { F.at_ i with ov := true } ++ x2))).get h.next = some (.cells 63 false (obC 0 0 0 .nilSlice)) := by rw [AH.set_getN _ _ (fun e => pb e.symm)]; exact p0
          have kB : KoS (q :: bs) h (A0.set b (.cells 316 false (x1 ++ Bk.c { F.at_ i with ov := true } ++ x2))) := (kA.koS _).set1 (List.mem_cons_of_mem _ u4) _
          have nB : (A0.set b (.cells 316 false (x1 ++ Bk.c { F.at_ i with ov := true } ++ x2))).next = h.next + 1 := by simp [A0]
          generalize (F.upd i fun s => { s with ov := true }) = F1 at *
          generalize A0.set b (.cells 316 false (x1 ++ Bk.c { F.at_ i with ov := true } ++ x2)) = B at *
          have g1 := X1.gq
          have X2 := X1.fld (F' := F1.incI (idOw id)) (by cases idOw id <;> rfl)
          have kX : Kp (B.set q (.cells 263 false (fsC S (F1.incI (idOw id)) v))) ((B.set q (.cells 263 false (fsC S (F1.incI (idOw id)) v))).push (.cells 72 false (frmC 18 (F.i (idOw id) + 1) (if idOw id then 1 else 0)))) := (Kp.refl _).push _
          have X3 := X2.kp kX
          have X4 := X3.stay (h' := ((B.set q (.cells 263 false (fsC S (F1.incI (idOw id)) v))).push (.cells 72 false (frmC 18 (F.i (idOw id) + 1) (if idOw id then 1 else 0)))).set h.next (.cells 63 false (obC 0 0 0 (.slice (h.next + 1) 0 1)))) (by simp) (AH.set_getN _ _ nq) (fun b hb => AH.set_getN _ _ (by have := hbn b hb; omega))
          refine ⟨obC 0 0 0 (.slice (h.next + 1) 0 1), _, ?_, v, bs, [h.next + 1], X4, ⟨by simp [nB]; omega, fun b hb hx => ?_⟩, fun b hb => .inl hb, i63 (one72 (by simp [nB]) (by rw [AH.set_getN _ _ (by omega)]; simp [nB]) (InK.i64 (by omega) (by omega)) (InK.i64 (by omega) (by omega)) (InK.i64 (by split <;> omega) (by split <;> omega))) i0 i0 i0, by simp, by simp, ?_⟩
          · have w1 : IntKind.i64.wrap (F1.i (idOw id) + 1) = F1.i (idOw id) + 1 := wrap_i64 (n := F1.i (idOw id) + 1) (by omega) (by omega)
            have w2 : (F1.i (idOw id) == 1152921504606846976) = false := by simp; omega
            have nq1 : ¬ (q = h.next + 1) := by omega
            have n1 : ¬ (h.next = h.next + 1) := by omega
            rw [hin]
            simp only [obC] at p1 ⊢
            have hlq : ldVar Try.prog 3 q (if idOw id then 16 else 15) B = some (.int .i64 (F1.i (idOw id))) := by simp only [fsC] at g1; cases idOw id <;> simp [ldVar, g1, Fw.i]
            have hsq : stVar Try.prog 3 q (if idOw id then 16 else 15) (.int .i64 (F1.i (idOw id) + 1)) B = some (B.set q (.cells 263 false (fsC S (F1.incI (idOw id)) v))) := by simp only [fsC] at g1 ⊢; cases idOw id <;> simp [stVar, g1, spl, Fw.i, Fw.incI]
            have hlq2 : ldVar Try.prog 3 q (if idOw id then 16 else 15) (B.set q (.cells 263 false (fsC S (F1.incI (idOw id)) v))) = some (.int .i64 (F1.i (idOw id) + 1)) := by simp only [fsC]; cases idOw id <;> simp [ldVar, Fw.i, Fw.incI]
            have nB2 : (B.set q (.cells 263 false (fsC S (F1.incI (idOw id)) v))).next = h.next + 1 := by simpa using nB
            have p2 : (B.set q (.cells 263 false (fsC S (F1.incI (idOw id)) v))).get h.next = some (.cells 63 false [.int .i64 0, .int .i64 0, .int .i64 0, .nilSlice]) := by rw [AH.set_getN _ _ np]; exact p1
            generalize B.set q (.cells 263 false (fsC S (F1.incI (idOw id)) v)) = C at *
            have p3 : (C.push (.cells 72 false (frmC 18 (F1.i (idOw id) + 1) (if idOw id then 1 else 0)))).get h.next = some (.cells 63 false [.int .i64 0, .int .i64 0, .int .i64 0, .nilSlice]) := by rw [AH.push_get, if_neg (by omega)]; exact p2
            have hst3 : stVar Try.prog 63 h.next 0 (.agg [.int .i64 0, .int .i64 0, .int .i64 0, .slice (h.next + 1) 0 1]) (C.push (.cells 72 false (frmC 18 (F1.i (idOw id) + 1) (if idOw id then 1 else 0)))) = some ((C.push (.cells 72 false (frmC 18 (F1.i (idOw id) + 1) (if idOw id then 1 else 0)))).set h.next (.cells 63 false [.int .i64 0, .int .i64 0, .int .i64 0, .slice (h.next + 1) 0 1])) := by simp [stVar, p2, spl, (show ¬ (h.next = C.next) by omega)]
            have lres : ldVar Try.prog 63 h.next 0 ((C.push (.cells 72 false (frmC 18 (F1.i (idOw id) + 1) (if idOw id then 1 else 0)))).set h.next (.cells 63 false [.int .i64 0, .int .i64 0, .int .i64 0, .slice (h.next + 1) 0 1])) = some (.agg [.int .i64 0, .int .i64 0, .int .i64 0, .slice (h.next + 1) 0 1]) := by simp [ldVar]
            generalize F1.i (idOw id) = I at *
            clear_value A0
            clear kX X3 X4 X2 X1 u7 bad e0
            have e0 := fun H => l08Way_ev (idOw id) H m (by omega)
            rw [ev_M Try.func203 ok203 [] m _ h (by simp [Try.f203])]
            cases hw : idOw id <;> simp only [hw, Bool.false_eq_true, if_false, if_true, frmC] at hlq hsq hlq2 hst3 lres e0 e1 ⊢ <;>
              simp [Try.f203, tm0, hA0, e0, e1, e2, ei, c2', l0, l9, u1, r6, hst, hlq, hsq, hlq2, hst3, lres, w1, w2, fillA, zerosA, spl, ia0, ia1, nB2, U]
          · rw [AH.set_getN _ _ (by omega), AH.push_get, if_neg (by simp [nB]; omega), AH.set_getN _ _ (fun e => hx (by simp [e]))]
            exact kB.get b hb hx
          · intro b hb hx
            have := hbn b hx
            simp at hb; omega
  · refine bad ?_ ?_
    · unfold overP; split
      · rfl
      · rw [if_pos (.inl c1)]
    · rw [if_neg c1] at e1
      simp only [fsC, A0, obC] at g e1 e2 ⊢
      rw [ev_M Try.func203 ok203 [] m _ h (by simp [Try.f203])]
      simp [Try.f203, tm0, e1, e2, g, nq, ldVar, stVar, spl, fillA, U, evHist, ObsOk, ObOk, List.getElem?_cons_zero]
end Go.Ev

/- Credit: the reference is told. -/
namespace Go.Ev
open Go Go.Proofs
set_option linter.unusedSimpArgs false
set_option linter.unusedVariables false

def opC (k id n : Int) (w : Bool) : List AV := [.int .i64 k, .int .i64 id, .int .i64 n, .bool w]
theorem told_ev {S : Sup} {F : Fw} {k0 : Nat} {q : Nat} {v : AV} {bs : List Nat} {h : AH} (X : FsS S F q v bs h) (G : F.good S k0) (k id n : Int) (w : Bool) (hk : k = 6 ∨ k = 7 ∨ k = 8) (m : Nat) (hm : 1000010 ≤ m) :
    ∃ h', ev Try.prog m 204 [.ptr q 0, .agg (opC k id n w)] h = some (.int .i64 (toldP S F k id n w).2, h') ∧ StpS S (toldP S F k id n w).1 q bs h h' := by
  obtain ⟨m, rfl⟩ : ∃ k, m = k + 1 := ⟨m - 1, by omega⟩
  let A0 : AH := h.push (.cells 65 false (opC k id n w))
  have kA : Kp h A0 := (Kp.refl h).push _
  have X0 := X.kp kA
  have qn := X.qn
  have nq : ¬ (q = h.next) := by omega
  have np : ¬ (h.next = q) := by omega
  have hbn : ∀ b ∈ bs, b < h.next := X.R.mem
  have e0 := fun H => l05VarF_ev n H m (by omega)
  have e1 := sends_ev X0 id m (by omega)
  have e2 := fun H => l08Way_ev w H m (by omega)
  have g := X.gq
  have st0 : StpS S F q bs h A0 := ⟨v, bs, X0, kA.koS _, fun b hb => .inl hb⟩
  unfold toldP
  by_cases c1 : inW n
  · by_cases c2 : k = 8 ∧ 1152921504606846976 < n
    · obtain ⟨rfl, c2'⟩ := c2
      rw [if_pos (.inr ⟨rfl, c2'⟩)]
      refine ⟨A0, ?_, st0⟩
      simp only [opC, A0] at e0 ⊢
      rw [ev_M Try.func204 ok204 [] m _ h (by simp [Try.f204])]
      simp [Try.f204, tm0, e0, c1, c2', ldVar]
    · rw [if_neg (by intro h; rcases h with h | h; exact h c1; exact c2 h)]
      rcases hk with rfl | rfl | rfl
      · rw [if_pos rfl]
        have X1 := X0.fld (F' := { F with cc := max F.cc n }) rfl
        refine ⟨_, ?_, v, bs, X1, (kA.koS _).set1 List.mem_cons_self _, fun b hb => .inl hb⟩
        have hmx : (if F.cc < n then n else F.cc) = max F.cc n := by split <;> omega
        simp only [opC, A0, fsC] at g ⊢
        rw [ev_M Try.func204 ok204 [] m _ h (by simp [Try.f204])]
        simp [Try.f204, tm0, e0, c1, g, nq, ldVar, stVar, spl, mx2, foldA, hmx, evHist, ObsOk, ObOk, List.getElem?_cons_zero]
      · rw [if_neg (by decide), if_pos rfl]
        cases hs : sendsP S F.L id with
        | none =>
          rw [hs] at e1
          refine ⟨A0, ?_, st0⟩
          simp only [opC, A0, ixI] at e1 ⊢
          rw [ev_M Try.func204 ok204 [] m _ h (by simp [Try.f204])]
          simp [Try.f204, tm0, e0, c1, e1, ldVar]
        | some i =>
          rw [hs] at e1
          simp only [ixI] at e1
          have hi := sendsP_lt hs
          have ei : ((i : Int) < 0) = False := eq_false (by omega)
          obtain ⟨b, o, x1, x2, u1, u2, u3, u4, u5, u6, ok, u7⟩ := X0.upd hi
          obtain ⟨_, r1, _⟩ := FsS.row_ld (S := S) (F := F) (q := q) (v := v) (bs := bs) u5 u6
          have hgs := G.bk F.L[i] (List.getElem_mem hi)
          rw [← at_L hi] at hgs
          have hg1 := hgs.se; have hg2 := hgs.cr; have c1' := c1
          unfold inW at c1'
          dsimp only
          generalize F.at_ i = s at *
          have X1 := u7 (fun s => { s with cr := max s.cr n }) ⟨ok.id, InK.i64 (by simp only; omega) (by simp only; omega), ok.se, ok.to, ok.ca, ok.re⟩
          refine ⟨_, ?_, v, bs, X1, (kA.koS _).set1 (List.mem_cons_of_mem _ u4) _, fun b hb => .inl hb⟩
          have hst := st_mid (P := Try.prog) (T := 3) (j := 1) (v := .int .i64 (max s.cr n)) u5 u6 (by simp) rfl (by simp [Bk.c])
          have hset : s.c.set 1 (.int .i64 (max s.cr n)) = Bk.c { s with cr := max s.cr n } := rfl
          rw [hset] at hst
          have hmx : (if s.cr < n then n else s.cr) = max s.cr n := by split <;> omega
          have l9 := X0.ld
          have a0 : ldVar Try.prog 3 h.next 0 A0 = some (.int .i64 7) := by simp [ldVar, A0, opC]
          have a1 : ldVar Try.prog 3 h.next 1 A0 = some (.int .i64 id) := by simp [ldVar, A0, opC]
          have a2 : ldVar Try.prog 3 h.next 2 A0 = some (.int .i64 n) := by simp [ldVar, A0, opC]
          have hA0 : h.push (.cells 65 false [.int .i64 7, .int .i64 id, .int .i64 n, .bool w]) = A0 := rfl
          clear_value A0
          simp only [opC]
          rw [ev_M Try.func204 ok204 [] m _ h (by simp [Try.f204])]
          simp [Try.f204, tm0, hA0, e0, e1, ei, c1, l9, a0, a1, a2, u1, r1, mx2, foldA, hmx, hst, evHist, ObsOk, ObOk, List.getElem?_cons_zero]
      · rw [if_neg (by decide), if_neg (by decide)]
        have X1 := X0.fld (F' := F.maxM w n) (by cases w <;> rfl)
        refine ⟨_, ?_, v, bs, X1, (kA.koS _).set1 List.mem_cons_self _, fun b hb => .inl hb⟩
        have c2' : (1152921504606846976 < n) = False := eq_false (fun h => c2 ⟨rfl, h⟩)
        have hmx0 : (if F.m0 < n then n else F.m0) = max F.m0 n := by split <;> omega
        have hmx1 : (if F.m1 < n then n else F.m1) = max F.m1 n := by split <;> omega
        simp only [opC, A0, fsC] at g ⊢
        rw [ev_M Try.func204 ok204 [] m _ h (by simp [Try.f204])]
        cases w <;> simp at e2 <;> simp [Try.f204, tm0, e0, e2, c1, c2', g, nq, ldVar, stVar, spl, ia0, ia1, mx2, foldA, hmx0, hmx1, Fw.maxM, evHist, ObsOk, ObOk, List.getElem?_cons_zero]
  · rw [if_pos (.inl c1)]
    refine ⟨A0, ?_, st0⟩
    simp only [opC, A0] at e0 ⊢
    rw [ev_M Try.func204 ok204 [] m _ h (by simp [Try.f204])]
    simp [Try.f204, tm0, e0, c1, ldVar, U]
end Go.Ev

/- Credit: the reference reads. -/
namespace Go.Ev
open Go Go.Proofs
set_option linter.unusedSimpArgs false
set_option linter.unusedVariables false

theorem app72 {X : AH} {v : AV} {l : List tT72.D} {bs : List Nat} {k a b : Int} (h : (Ty.sl 72 tT72).R true X [v] l bs) (hnd : bs.Nodup) (hk : InK .i64 k) (ha : InK .i64 a) (hb : InK .i64 b) (hl : l.length ≤ 1000) :
    ∃ v' X' bs', appA Try.prog 61 61 v (.slice X.next 0 1) (X.push (.cells 72 false (frmC k a b))) = some (v', X') ∧ (Ty.sl 72 tT72).R true X' [v'] (l ++ [frm k a b]) bs' ∧ bs'.Nodup ∧ (∀ b ∈ bs', b ∈ bs ∨ X.next ≤ b) ∧ KoS bs X X' := by
  obtain ⟨v', X', bs', h1, h2, h3, h4, h5⟩ := Ty.R.app1 (P := Try.prog) (T := 61) h (frm_R (H := X) hk ha hb) (by simpa using hnd) (by simp) (by simp) (by simp [Ty.n]) (by_ := 112) (by simp) (z := frmC 0 0 0) (by simp [frmC]) (by simp [frmC, Ty.n]) (by omega) (by omega)
  exact ⟨v', X', bs', h1, h2, h3, fun b hb => by rcases h4 b hb with h | h | h <;> simp_all, h5⟩
structure RmT (τ : Tm) (q p6 p8 : Nat) (id : Int) (i : Nat) : Prop where
  t0 : τ 0 = .ptr q 0
  t1 : τ 1 = .int .i64 id
  t6 : τ 6 = .ptr p6 0
  t7 : τ 7 = .int .i64 i
  t8 : τ 8 = .ptr p8 0
/-- the answer's frames so far -/
structure RmF (p8 : Nat) (va : AV) (l : List Fr) (bo : List Nat) (lo : Nat) (H : AH) : Prop where
  g : H.get p8 = some (.cells 63 false (obC 0 0 0 va))
  R : (Ty.sl 72 tT72).R true H [va] l bo
  nd : bo.Nodup
  lo : ∀ b ∈ bo, lo ≤ b
set_option maxRecDepth 20000 in
theorem rmB {S : Sup} {F : Fw} {q p6 p8 : Nat} {v : AV} {bs : List Nat} {H : AH} {i : Nat} {id : Int} (X : FsS S F q v bs H) (hi : i < F.L.length) (hid : InK .i64 id) (h1 : -1000000000 ≤ (F.at_ i).re ∧ (F.at_ i).re ≤ 1000000000) (h2 : -1000000000 ≤ (F.at_ i).to ∧ (F.at_ i).to ≤ 1000000000) (h3 : S.ok)
    (n8 : p8 ≠ q) (b8 : p8 ∉ bs) (l8 : p8 < H.next) (g8 : H.get p8 = some (.cells 63 false (obC 0 0 0 .nilSlice))) (m : Nat) (hm : 10 ≤ m) (τ : Tm) (T : RmT τ q p6 p8 id i) :
    ∃ τ' H' va bo, evAt Try.prog (ev Try.prog m) m 202 255 τ H = evAt Try.prog (ev Try.prog m) m 202 2047 τ' H' ∧ RmT τ' q p6 p8 id i ∧ FsS S (F.upd i fun s => { s with to := creditP s.re S.sw s.to }) q v bs H' ∧
      RmF p8 va (if creditP (F.at_ i).re S.sw (F.at_ i).to ≠ (F.at_ i).to then [frm 17 id (creditP (F.at_ i).re S.sw (F.at_ i).to)] else []) bo H.next H' ∧ KoS (p8 :: q :: bs) H H' := by
  obtain ⟨t0, t1, t6, t7, t8⟩ := T
  obtain ⟨b, o, x1, x2, u1, u2, u3, u4, u5, u6, ok, u7⟩ := X.upd hi
  have e1 := fun H => CreditI_ev (F.at_ i).re S.sw (F.at_ i).to H m (by omega)
  have e2 := fun H => CreditS_ev (F.at_ i).re S.sw (F.at_ i).to H m (by omega)
  have ct : InK .i64 (creditP (F.at_ i).re S.sw (F.at_ i).to) := by
    have := h3.sw
    unfold creditP; split
    · exact InK.i64 (by omega) (by omega)
    · split <;> exact InK.i64 (by omega) (by omega)
  have l9 := X.ld
  have ls : ldVar Try.prog 3 q 2 H = some (.int .i64 S.sw) := by have := X.gq; simp [ldVar, this, fsC]
  have bq8 : b ≠ p8 := fun e => b8 (e ▸ u4)
  obtain ⟨_, _, _, r3, _, r5, _⟩ := FsS.row_ld (S := S) (F := F) (q := q) (v := v) (bs := bs) u5 u6
  generalize hs : F.at_ i = s at *
  have hc : creditP s.re S.sw s.to = creditP s.re S.sw s.to := rfl
  rw [at_M Try.func202 255 (by decide) 8 (by decide) (by kernel_rfl) [2047]]
  by_cases hne : creditP s.re S.sw s.to = s.to
  · have hne' : (creditP s.re S.sw s.to != s.to) = false := by simpa using hne
    have X1 := u7 (fun s => { s with to := creditP s.re S.sw s.to }) ⟨ok.id, ok.cr, ok.se, ct, ok.ca, ok.re⟩
    have hst := st_mid (P := Try.prog) (T := 3) (j := 3) (v := .int .i64 (creditP s.re S.sw s.to)) u5 u6 (by simp) rfl (by simp [Bk.c])
    have hset : s.c.set 3 (.int .i64 (creditP s.re S.sw s.to)) = Bk.c { s with to := creditP s.re S.sw s.to } := rfl
    rw [hset] at hst
    rw [if_neg (by simpa using hne)]
    generalize hT : creditP s.re S.sw s.to = t at *
    refine ⟨_, _, .nilSlice, [], by simp [Try.f202, t0, t7, t8, l9, u1, r3, r5, ls, e2, hne', hst, evHist, ObsOk, ObOk, List.getElem?_cons_zero]; first | exact ⟨rfl, rfl⟩ | rfl, ⟨by simp [t0], by simp [t1], by simp [t6], by simp [t7], by simp [t8]⟩, X1, ⟨?_, .inl ⟨rfl, rfl, rfl⟩, by simp, by simp⟩, (KoS.refl _ _).set1 (by simp [u4]) _⟩
    rw [AH.set_getN _ _ (fun e => bq8 e.symm)]; exact g8
  · have hne' : (creditP s.re S.sw s.to != s.to) = true := by simpa using hne
    rw [if_pos hne]
    obtain ⟨va, Y, bo, a1, a2, a3, a4, a5⟩ := app72 (X := H) (v := .nilSlice) (l := []) (bs := []) (k := 17) (a := id) (b := creditP s.re S.sw s.to) (.inl ⟨rfl, rfl, rfl⟩) (by simp) (InK.i64 (by omega) (by omega)) hid ct (by simp)
    have hbm : ∀ x ∈ bs, x < H.next := X.R.mem
    have hbo : ∀ x ∈ bo, H.next ≤ x := fun x hx => by rcases a4 x hx with h | h; simp at h; exact h
    have ny := a5.next
    have y8 := (a5.get p8 l8 (by simp)).trans g8
    have yb := (a5.get b u2 (by simp)).trans u5
    have ov := a2.sl_one
    have ovc := cells_one ov
    have X1 : FsS S F q v bs (Y.set p8 (.cells 63 false (obC 0 0 0 va))) := X.stay (by simp; omega) (by rw [AH.set_getN _ _ (fun e => n8 e.symm)]; exact a5.get q X.qn (by simp)) (fun x hx => by rw [AH.set_getN _ _ (fun e => b8 (by rw [← e]; exact hx))]; exact a5.get x (hbm x hx) (by simp))
    have u5' : (Y.set p8 (.cells 63 false (obC 0 0 0 va))).get b = some (.cells 316 false (x1 ++ s.c ++ x2)) := by rw [AH.set_getN _ _ bq8]; exact yb
    obtain ⟨_, _, _, _, _, _, _⟩ := FsS.row_ld (S := S) (F := F) (q := q) (v := v) (bs := bs) u5' u6
    have hst := st_mid (P := Try.prog) (T := 3) (j := 3) (v := .int .i64 (creditP s.re S.sw s.to)) u5' u6 (by simp) rfl (by simp [Bk.c])
    have hset : s.c.set 3 (.int .i64 (creditP s.re S.sw s.to)) = Bk.c { s with to := creditP s.re S.sw s.to } := rfl
    rw [hset] at hst
    have l9' := X1.ld
    have X2 := X1.row hi
    obtain ⟨b', o', x1', x2', w1, w2, w3, w4, w5, w6, w7, w8⟩ := X2
    have w1' := u1.symm.trans w1
    simp only [Option.some.injEq, AV.ptr.injEq] at w1'
    obtain ⟨rfl, rfl⟩ := w1'
    rw [w5] at u5'
    have hxx : x1' ++ F.L[i].c ++ x2' = x1 ++ s.c ++ x2 := by simpa using u5'
    have hx : x1' = x1 ∧ x2' = x2 := by
      have e1 : F.L[i].c = s.c := by rw [← at_L hi, hs]
      rw [e1, List.append_assoc, List.append_assoc] at hxx
      have := List.append_inj hxx (by rw [u6, w6])
      exact ⟨this.1, List.append_cancel_left this.2⟩
    obtain ⟨rfl, rfl⟩ := hx
    have X3 := w8 { s with to := creditP s.re S.sw s.to } ⟨ok.id, ok.cr, ok.se, ct, ok.ca, ok.re⟩ (F.upd i fun s => { s with to := creditP s.re S.sw s.to }) (by simp only [Fw.upd, hs]) ((Y.set p8 (.cells 63 false (obC 0 0 0 va))).set b (.cells 316 false (x1' ++ (Bk.c { s with to := creditP s.re S.sw s.to }) ++ x2'))) (by simp) (by rw [AH.set_getN _ _ (fun e => u3 e.symm)]; exact X1.gq) (fun x hx hxb => AH.set_getN _ _ hxb) (by simp)
    generalize hT : creditP s.re S.sw s.to = t at *
    simp only [frmC] at a1
    have nh : ¬ (p8 = H.next) := by omega
    have p8f : ldVar Try.prog 61 p8 3 H = some .nilSlice := by simp [ldVar, g8, obC]
    have p8s : stVar Try.prog 61 p8 3 va Y = some (Y.set p8 (.cells 63 false (obC 0 0 0 va))) := by simp only [obC] at y8 ⊢; simp [stVar, y8, spl, ov, ovc]
    refine ⟨_, _, va, bo, by simp [Try.f202, t0, t1, t7, t8, l9, u1, r3, r5, ls, e2, hne', p8f, p8s, a1, fillA, zerosA, spl, l9', hst, evHist, ObsOk, ObOk, List.getElem?_cons_zero]; first | exact ⟨rfl, rfl⟩ | rfl, ⟨by simp [t0], by simp [t1], by simp [t6], by simp [t7], by simp [t8]⟩, X3, ⟨?_, ?_, a3, hbo⟩, ?_⟩
    · rw [AH.set_getN _ _ (fun e => bq8 e.symm)]; simp
    · exact a2.stay (by simp) fun x hx => by
        have := hbo x hx
        rw [AH.set_getN _ _ (by omega), AH.set_getN _ _ (by omega)]
    · exact (((a5.mono (by simp)).set1 (by simp) _).set1 (by simp [u4]) _)
end Go.Ev

/- Credit: the reference reads, whole. -/
namespace Go.Ev
open Go Go.Proofs
set_option linter.unusedSimpArgs false
set_option linter.unusedVariables false

theorem ob_Rf {H : AH} {c i n : Int} {va : AV} {l : List Fr} {bo : List Nat} (hR : (Ty.sl 72 tT72).R true H [va] l bo) (hc : InK .i64 c) (hi : InK .i64 i) (hn : InK .i64 n) : tT63.R true H (obC c i n va) (ob c i n l) bo := i63 hR hc hi hn
set_option maxRecDepth 20000 in
theorem rmC {S : Sup} {F : Fw} {q p6 p8 : Nat} {v : AV} {bs : List Nat} {H : AH} {i : Nat} {id : Int} {va : AV} {l : List Fr} {bo : List Nat} {lo : Nat} (X : FsS S F q v bs H) (h1 : -1000000000 ≤ F.rc ∧ F.rc ≤ 1000000000) (h2 : -1000000000 ≤ F.tc ∧ F.tc ≤ 1000000000) (h3 : S.ok) (hl : l.length ≤ 5)
    (n8 : p8 ≠ q) (b8 : p8 ∉ bs) (l8 : p8 < H.next) (A : RmF p8 va l bo lo H) (n6 : p6 ≠ q) (b6 : p6 ∉ bs) (l6 : p6 < lo) (l8' : p8 < lo) (hlo : lo ≤ H.next) (n68 : p6 ≠ p8) (g6 : H.get p6 = some (.cells 63 false (obC 0 0 0 .nilSlice))) (hbo : ∀ b ∈ bo, b ∉ bs ∧ b ≠ q) (m : Nat) (hm : 10 ≤ m) (τ : Tm) (T : RmT τ q p6 p8 id i) :
    ∃ H' va' bo', resM Try.prog [.cell 6 63] (evAt Try.prog (ev Try.prog m) m 202 2047 τ H) = some (.agg (obC 0 0 0 va'), H') ∧ FsS S { F with tc := creditP F.rc S.cw F.tc } q v bs H' ∧
      (Ty.sl 72 tT72).R true H' [va'] (l ++ (if creditP F.rc S.cw F.tc ≠ F.tc then [frm 16 (creditP F.rc S.cw F.tc) 0] else [])) bo' ∧ bo'.Nodup ∧ (∀ b ∈ bo', lo ≤ b) ∧ (∀ b ∈ bo', b ∈ bo ∨ H.next ≤ b) ∧ H.next ≤ H'.next ∧ ∀ b, b < H.next → b ≠ p6 → b ≠ p8 → b ≠ q → b ∉ bo → H'.get b = H.get b := by
  obtain ⟨t0, t1, t6, t7, t8⟩ := T
  obtain ⟨g8, hR, hnd, hlob⟩ := A
  have e2 := fun H => CreditS_ev F.rc S.cw F.tc H m (by omega)
  have ct : InK .i64 (creditP F.rc S.cw F.tc) := by
    have := h3.cw
    unfold creditP; split
    · exact InK.i64 (by omega) (by omega)
    · split <;> exact InK.i64 (by omega) (by omega)
  have hbm : ∀ x ∈ bs, x < H.next := X.R.mem
  have qn := X.qn
  have qb := X.nq
  have g := X.gq
  have l1 : ldVar Try.prog 3 q 1 H = some (.int .i64 S.cw) := by simp [ldVar, g, fsC]
  have l17 : ldVar Try.prog 3 q 17 H = some (.int .i64 F.tc) := by simp [ldVar, g, fsC]
  have l18 : ldVar Try.prog 3 q 18 H = some (.int .i64 F.rc) := by simp [ldVar, g, fsC]
  rw [at_M Try.func202 2047 (by decide) 11 (by decide) (by kernel_rfl) []]
  by_cases hne : creditP F.rc S.cw F.tc = F.tc
  · have hne' : (creditP F.rc S.cw F.tc != F.tc) = false := by simpa using hne
    have X1 := X.fld (F' := { F with tc := creditP F.rc S.cw F.tc }) rfl
    have hsq : stVar Try.prog 3 q 17 (.int .i64 (creditP F.rc S.cw F.tc)) H = some (H.set q (.cells 263 false (fsC S { F with tc := creditP F.rc S.cw F.tc } v))) := by simp only [fsC] at g ⊢; simp [stVar, g, spl]
    rw [if_neg (by simpa using hne)]
    generalize hT : creditP F.rc S.cw F.tc = t at *
    have ov := hR.sl_one
    have ovc := cells_one ov
    have y8 : (H.set q (.cells 263 false (fsC S { F with tc := t } v))).get p8 = some (.cells 63 false (obC 0 0 0 va)) := by rw [AH.set_getN _ _ n8]; exact g8
    have y6 : (H.set q (.cells 263 false (fsC S { F with tc := t } v))).get p6 = some (.cells 63 false (obC 0 0 0 .nilSlice)) := by rw [AH.set_getN _ _ n6]; exact g6
    have X2 := X1.stay (h' := (H.set q (.cells 263 false (fsC S { F with tc := t } v))).set p6 (.cells 63 false (obC 0 0 0 va))) (by simp) (AH.set_getN _ _ (fun e => n6 e.symm)) (fun x hx => AH.set_getN _ _ (fun e => b6 (by rw [← e]; exact hx)))
    refine ⟨(H.set q (.cells 263 false (fsC S { F with tc := t } v))).set p6 (.cells 63 false (obC 0 0 0 va)), va, bo, ?_, X2, ?_, hnd, hlob, fun b hb => .inl hb, by simp, fun b hb k6 k8 kq kb => by rw [AH.set_getN _ _ k6, AH.set_getN _ _ kq]⟩
    · have l8a : ldVar Try.prog 63 p8 0 (H.set q (.cells 263 false (fsC S { F with tc := t } v))) = some (.agg (obC 0 0 0 va)) := by simp only [obC] at y8 ⊢; simp only [ldVar, y8]; simp
      have s6 : stVar Try.prog 63 p6 0 (.agg (obC 0 0 0 va)) (H.set q (.cells 263 false (fsC S { F with tc := t } v))) = some ((H.set q (.cells 263 false (fsC S { F with tc := t } v))).set p6 (.cells 63 false (obC 0 0 0 va))) := by simp only [obC] at y6 ⊢; simp only [stVar, y6]; simp [spl, ov]
      have lr : ldVar Try.prog 63 p6 0 ((H.set q (.cells 263 false (fsC S { F with tc := t } v))).set p6 (.cells 63 false (obC 0 0 0 va))) = some (.agg (obC 0 0 0 va)) := by simp [ldVar, obC]
      simp [Try.f202, t0, t1, t6, t7, t8, l1, l17, l18, e2, hne', hsq, l8a, s6, lr, evHist, ObsOk, ObOk, List.getElem?_cons_zero]
    · simp only [List.append_nil]
      exact hR.stay (by simp) fun x hx => by
        have := hlob x hx
        rw [AH.set_getN _ _ (by omega), AH.set_getN _ _ (hbo x hx).2]
  · have hne' : (creditP F.rc S.cw F.tc != F.tc) = true := by simpa using hne
    rw [if_pos hne]
    obtain ⟨vb, Y, bo', a1, a2, a3, a4, a5⟩ := app72 (k := 16) (a := creditP F.rc S.cw F.tc) (b := 0) hR hnd (InK.i64 (by omega) (by omega)) ct (InK.i64 (by omega) (by omega)) (by omega)
    have hbo' : ∀ x ∈ bo', lo ≤ x := fun x hx => (a4 x hx).elim (hlob x) (fun h => by omega)
    have ny := a5.next
    have bq : ∀ x, x < lo → x ∉ bo := fun x hx hb => by have := hlob x hb; omega
    have y8 := (a5.get p8 l8 (bq p8 l8')).trans g8
    have yq := (a5.get q qn (fun h => (hbo q h).2 rfl)).trans g
    have y6 := (a5.get p6 (by omega) (bq p6 l6)).trans g6
    have ov := a2.sl_one
    have ovc := cells_one ov
    have X1 : FsS S F q v bs (Y.set p8 (.cells 63 false (obC 0 0 0 vb))) := X.stay (by simp; omega) (by rw [AH.set_getN _ _ (fun e => n8 e.symm)]; exact a5.get q qn (fun h => (hbo q h).2 rfl)) (fun x hx => by rw [AH.set_getN _ _ (fun e => b8 (by rw [← e]; exact hx))]; exact a5.get x (hbm x hx) (fun h => (hbo x h).1 hx))
    have X2 := X1.fld (F' := { F with tc := creditP F.rc S.cw F.tc }) rfl
    have g1 := X1.gq
    have hsq : stVar Try.prog 3 q 17 (.int .i64 (creditP F.rc S.cw F.tc)) (Y.set p8 (.cells 63 false (obC 0 0 0 vb))) = some ((Y.set p8 (.cells 63 false (obC 0 0 0 vb))).set q (.cells 263 false (fsC S { F with tc := creditP F.rc S.cw F.tc } v))) := by simp only [fsC] at g1 ⊢; simp only [stVar, g1]; simp [spl]
    generalize hT : creditP F.rc S.cw F.tc = t at *
    simp only [frmC] at a1
    have p8f : ldVar Try.prog 61 p8 3 H = some va := by simp [ldVar, g8, obC]
    have p8s : stVar Try.prog 61 p8 3 vb Y = some (Y.set p8 (.cells 63 false (obC 0 0 0 vb))) := by simp only [obC] at y8 ⊢; simp [stVar, y8, spl, ov, ovc]
    have z8 : ((Y.set p8 (.cells 63 false (obC 0 0 0 vb))).set q (.cells 263 false (fsC S { F with tc := t } v))).get p8 = some (.cells 63 false (obC 0 0 0 vb)) := by rw [AH.set_getN _ _ n8]; simp
    have z6 : ((Y.set p8 (.cells 63 false (obC 0 0 0 vb))).set q (.cells 263 false (fsC S { F with tc := t } v))).get p6 = some (.cells 63 false (obC 0 0 0 .nilSlice)) := by rw [AH.set_getN _ _ n6, AH.set_getN _ _ n68]; exact y6
    have hfr : ∀ x ∈ bo', ((Y.set p8 (.cells 63 false (obC 0 0 0 vb))).set q (.cells 263 false (fsC S { F with tc := t } v))).get x = Y.get x := fun x hx => by
      have h1 := hbo' x hx
      rw [AH.set_getN _ _ (fun e => by subst e; rcases a4 _ hx with h | h; exact (hbo _ h).2 rfl; omega), AH.set_getN _ _ (by omega)]
    have nz : ((Y.set p8 (.cells 63 false (obC 0 0 0 vb))).set q (.cells 263 false (fsC S { F with tc := t } v))).next = Y.next := rfl
    have rz : ∀ b, b < H.next → b ≠ p8 → b ≠ q → b ∉ bo → ((Y.set p8 (.cells 63 false (obC 0 0 0 vb))).set q (.cells 263 false (fsC S { F with tc := t } v))).get b = H.get b := fun b hb k8 kq kb => by rw [AH.set_getN _ _ kq, AH.set_getN _ _ k8]; exact a5.get b hb kb
    have hp8s : ∀ K, stVar Try.prog 61 p8 3 vb Y = some K → K = Y.set p8 (.cells 63 false (obC 0 0 0 vb)) := fun K h => by rw [p8s] at h; exact (Option.some.inj h).symm
    generalize hZ : (Y.set p8 (.cells 63 false (obC 0 0 0 vb))).set q (.cells 263 false (fsC S { F with tc := t } v)) = Z at *
    have X3 := X2.stay (h' := Z.set p6 (.cells 63 false (obC 0 0 0 vb))) (by simp) (AH.set_getN _ _ (fun e => n6 e.symm)) (fun x hx => AH.set_getN _ _ (fun e => b6 (by rw [← e]; exact hx)))
    refine ⟨Z.set p6 (.cells 63 false (obC 0 0 0 vb)), vb, bo', ?_, X3, ?_, a3, hbo', a4, by simp [nz]; omega, fun b hb k6 k8 kq kb => by rw [AH.set_getN _ _ k6]; exact rz b hb k8 kq kb⟩
    · have l8a : ldVar Try.prog 63 p8 0 Z = some (.agg (obC 0 0 0 vb)) := by simp only [obC] at z8 ⊢; simp [ldVar, z8]
      have s6 : stVar Try.prog 63 p6 0 (.agg (obC 0 0 0 vb)) Z = some (Z.set p6 (.cells 63 false (obC 0 0 0 vb))) := by simp only [obC] at z6 ⊢; simp [stVar, z6, spl, ov]
      have lr : ldVar Try.prog 63 p6 0 (Z.set p6 (.cells 63 false (obC 0 0 0 vb))) = some (.agg (obC 0 0 0 vb)) := by simp [ldVar, obC]
      simp [Try.f202, t0, t1, t6, t7, t8, l1, l17, l18, e2, hne', p8f, a1, fillA, zerosA, spl, p8s, hsq, l8a, s6, lr, evHist, ObsOk, ObOk, List.getElem?_cons_zero]
    · exact a2.stay (by simp [nz]) fun x hx => by rw [AH.set_getN _ _ (by have := hbo' x hx; omega)]; exact hfr x hx
end Go.Ev

/- Credit: the reference reads: from the start. -/
namespace Go.Ev
open Go Go.Proofs
set_option linter.unusedSimpArgs false
set_option linter.unusedVariables false

theorem getsP_ix {S : Sup} {L : List Bk} {id : Int} {i : Nat} (h : getsP S L id = some i) : idOk id := by
  unfold getsP at h
  split at h
  · simp at h
  · rename_i h1; simp only [not_or, Decidable.not_not] at h1; exact h1.1
theorem read_ev {S : Sup} {F : Fw} {k : Nat} {q : Nat} {v : AV} {bs : List Nat} {h : AH} (X : FsS S F q v bs h) (G : F.good S k) (id n : Int) (m : Nat) (hm : 1000010 ≤ m) :
    ∃ c h', ev Try.prog m 202 [.ptr q 0, .int .i64 id, .int .i64 n] h = some (.agg c, h') ∧ StpO S (readP S F id n).1 (readP S F id n).2 q bs h h' c := by
  obtain ⟨m, rfl⟩ : ∃ k, m = k + 1 := ⟨m - 1, by omega⟩
  let A0 : AH := h.push (.cells 63 false (obC 0 0 0 .nilSlice))
  have kA : Kp h A0 := (Kp.refl h).push _
  have X0 := X.kp kA
  have qn := X.qn
  have nq : ¬ (q = h.next) := by omega
  have np : ¬ (h.next = q) := by omega
  have hbn : ∀ b ∈ bs, b < h.next := X.R.mem
  have e1 := gets_ev X0 id m (by omega)
  have i0 : InK .i64 0 := InK.i64 (by omega) (by omega)
  have i1 : InK .i64 1 := InK.i64 (by omega) (by omega)
  have i7 : InK .i64 7 := InK.i64 (by omega) (by omega)
  unfold readP
  cases hs : getsP S F.L id with
  | none =>
    rw [hs] at e1
    refine ⟨_, A0.set h.next (.cells 63 false (obC 7 0 0 .nilSlice)), ?_, (fail0 X _ _).o i7 i0 i0⟩
    simp only [A0, obC, ixI] at e1 ⊢
    rw [ev_M Try.func202 ok202 [] m _ h (by simp [Try.f202])]
    simp [Try.f202, tm0, e1, ldVar, stVar, spl, fillA]
  | some i =>
    rw [hs] at e1
    simp only [ixI] at e1
    have hi := getsP_lt hs
    have hid := getsP_ix hs
    have hidK : InK .i64 id := by unfold idOk at hid; exact InK.i64 (by omega) (by omega)
    have ei : ((i : Int) < 0) = False := eq_false (by omega)
    obtain ⟨b, o, x1, x2, u1, u2, u3, u4, u5, u6, ok, u7⟩ := X0.upd hi
    obtain ⟨_, _, _, _, r4, r5, _⟩ := FsS.row_ld (S := S) (F := F) (q := q) (v := v) (bs := bs) u5 u6
    have hgs := G.bk F.L[i] (List.getElem_mem hi)
    have hre := sumI_mem (f := Bk.re) (fun s hs => (G.bk s hs).re.1) F.L[i] (List.getElem_mem hi)
    have hrn := sumI_nn (f := Bk.re) (fun s hs => (G.bk s hs).re.1)
    have hrc := G.rc
    have hsr : sumI Bk.re F.L ≤ sumI Bk.ca F.L := by
      have : ∀ (L : List Bk), (∀ s ∈ L, s.re ≤ s.ca) → sumI Bk.re L ≤ sumI Bk.ca L := by
        intro L
        induction L with
        | nil => intro _; simp [sumI]
        | cons s l ih => intro h; have h1 := h s (by simp); have h2 := ih fun x hx => h x (by simp [hx]); simp only [sumI]; omega
      exact this _ fun s hs => (G.bk s hs).re.2
    have hca := sumI_mem (good_ca G) F.L[i] (List.getElem_mem hi)
    have hC := G.ca; have hT := G.tc; have hkk := G.kk
    rw [← at_L hi] at hgs hre hca
    have g1 := hgs.re; have g2 := hgs.ca; have g3 := hgs.to
    have l9 := X0.ld
    have hA0 : h.push (.cells 63 false [.int .i64 0, .int .i64 0, .int .i64 0, .nilSlice]) = A0 := rfl
    have p0 : A0.get h.next = some (.cells 63 false (obC 0 0 0 .nilSlice)) := by simp [A0]
    have nA0 : A0.next = h.next + 1 := by simp [A0]
    have w1 : IntKind.i64.wrap ((F.at_ i).ca - (F.at_ i).re) = (F.at_ i).ca - (F.at_ i).re := wrap_i64 (n := (F.at_ i).ca - (F.at_ i).re) (by omega) (by omega)
    dsimp only
    by_cases c1 : n < 1 ∨ (F.at_ i).ca - (F.at_ i).re < n
    · rw [if_pos c1]
      refine ⟨_, A0.set h.next (.cells 63 false (obC 1 0 0 .nilSlice)), ?_, (fail0 X _ _).o i1 i0 i0⟩
      simp only [obC] at p0 ⊢
      have hst : stVar Try.prog 63 h.next 0 (.agg [.int .i64 1, .int .i64 0, .int .i64 0, .nilSlice]) A0 = some (A0.set h.next (.cells 63 false [.int .i64 1, .int .i64 0, .int .i64 0, .nilSlice])) := by simp only [stVar, p0]; simp [spl]
      have lres : ldVar Try.prog 63 h.next 0 (A0.set h.next (.cells 63 false [.int .i64 1, .int .i64 0, .int .i64 0, .nilSlice])) = some (.agg [.int .i64 1, .int .i64 0, .int .i64 0, .nilSlice]) := by simp [ldVar]
      clear_value A0
      rw [ev_M Try.func202 ok202 [] m _ h (by simp [Try.f202])]
      by_cases c2 : n < 1
      · simp [Try.f202, tm0, hA0, e1, ei, c2, l9, u1, r4, r5, w1, hst, lres, fillA, U, evHist, ObsOk, ObOk, List.getElem?_cons_zero]
      · have c3 : (F.at_ i).ca - (F.at_ i).re < n := by omega
        simp [Try.f202, tm0, hA0, e1, ei, c2, c3, l9, u1, r4, r5, w1, hst, lres, fillA, U, evHist, ObsOk, ObOk, List.getElem?_cons_zero]
    · rw [if_neg c1]
      have c2 : (n < 1) = False := eq_false (by omega)
      have c3 : ((F.at_ i).ca - (F.at_ i).re < n) = False := eq_false (by omega)
      have X1 := u7 (fun s => { s with re := s.re + n }) ⟨ok.id, ok.cr, ok.se, ok.to, ok.ca, InK.i64 (by simp only; omega) (by simp only; omega)⟩
      have hst := st_mid (P := Try.prog) (T := 3) (j := 5) (v := .int .i64 ((F.at_ i).re + n)) u5 u6 (by simp) rfl (by simp [Bk.c])
      have hset : (F.at_ i).c.set 5 (.int .i64 ((F.at_ i).re + n)) = Bk.c { F.at_ i with re := (F.at_ i).re + n } := rfl
      rw [hset] at hst
      have w2 : IntKind.i64.wrap ((F.at_ i).re + n) = (F.at_ i).re + n := wrap_i64 (n := (F.at_ i).re + n) (by omega) (by omega)
      have w3 : IntKind.i64.wrap (F.rc + n) = F.rc + n := wrap_i64 (n := F.rc + n) (by omega) (by omega)
      have kB : KoS (q :: bs) h (A0.set b (.cells 316 false (x1 ++ Bk.c { F.at_ i with re := (F.at_ i).re + n } ++ x2))) := (kA.koS _).set1 (List.mem_cons_of_mem _ u4) _
      have pB : (A0.set b (.cells 316 false (x1 ++ Bk.c { F.at_ i with re := (F.at_ i).re + n } ++ x2))).get h.next = some (.cells 63 false (obC 0 0 0 .nilSlice)) := by rw [AH.set_getN _ _ (fun e => by have := hbn b u4; omega)]; exact p0
      have nB : (A0.set b (.cells 316 false (x1 ++ Bk.c { F.at_ i with re := (F.at_ i).re + n } ++ x2))).next = h.next + 1 := by simp [A0]
      generalize hB : A0.set b (.cells 316 false (x1 ++ Bk.c { F.at_ i with re := (F.at_ i).re + n } ++ x2)) = B at *
      have X2 := X1.fld (F' := { (F.upd i fun s => { s with re := s.re + n }) with rc := F.rc + n }) rfl
      have gB := X1.gq
      have l18 : ldVar Try.prog 3 q 18 B = some (.int .i64 F.rc) := by simp only [fsC] at gB; simp [ldVar, gB, Fw.upd]
      have s18 : stVar Try.prog 3 q 18 (.int .i64 (F.rc + n)) B = some (B.set q (.cells 263 false (fsC S { (F.upd i fun s => { s with re := s.re + n }) with rc := F.rc + n } v))) := by simp only [fsC] at gB ⊢; simp only [stVar, gB]; simp [spl]
      have kC : KoS (q :: bs) h (B.set q (.cells 263 false (fsC S { (F.upd i fun s => { s with re := s.re + n }) with rc := F.rc + n } v))) := kB.set1 List.mem_cons_self _
      have pC : (B.set q (.cells 263 false (fsC S { (F.upd i fun s => { s with re := s.re + n }) with rc := F.rc + n } v))).get h.next = some (.cells 63 false (obC 0 0 0 .nilSlice)) := by rw [AH.set_getN _ _ np]; exact pB
      have nC : (B.set q (.cells 263 false (fsC S { (F.upd i fun s => { s with re := s.re + n }) with rc := F.rc + n } v))).next = h.next + 1 := by simpa using nB
      generalize hC' : B.set q (.cells 263 false (fsC S { (F.upd i fun s => { s with re := s.re + n }) with rc := F.rc + n } v)) = C at *
      let D0 : AH := C.push (.cells 63 false (obC 0 0 0 .nilSlice))
      have kD : Kp C D0 := (Kp.refl C).push _
      have X3 := X2.kp kD
      have nD : D0.next = h.next + 2 := by simp [D0, nC]
      have g8 : D0.get (h.next + 1) = some (.cells 63 false (obC 0 0 0 .nilSlice)) := by simp [D0, nC]
      have s8 : stVar Try.prog 63 (h.next + 1) 0 (.agg [.int .i64 0, .int .i64 0, .int .i64 0, .nilSlice]) D0 = some D0 := by
        simp only [obC] at g8
        simp only [stVar, g8]; simp [spl]
        refine AH.eq_of ?_ rfl
        funext x
        rw [AH.set_get]
        split
        · rename_i hx; rw [hx, g8]
        · rfl
      have hat : ({ (F.upd i fun s => { s with re := s.re + n }) with rc := F.rc + n } : Fw).at_ i = { F.at_ i with re := (F.at_ i).re + n } := by
        simp [Fw.upd, Fw.at_, hi]
      have hlen : i < ({ (F.upd i fun s => { s with re := s.re + n }) with rc := F.rc + n } : Fw).L.length := by simpa [Fw.upd] using hi
      have hhead : ∃ τ', ev Try.prog (m + 1) 202 [.ptr q 0, .int .i64 id, .int .i64 n] h = resM Try.prog [.cell 6 63] (evAt Try.prog (ev Try.prog m) m 202 255 τ' D0) ∧ RmT τ' q h.next (h.next + 1) id i := by
        have hD0 : C.push (.cells 63 false [.int .i64 0, .int .i64 0, .int .i64 0, .nilSlice]) = D0 := rfl
        clear_value A0 D0
        rw [ev_M Try.func202 ok202 [255] m _ h (by simp [Try.f202])]
        exact ⟨_, by simp [Try.f202, tm0, hA0, e1, ei, c2, c3, l9, u1, r4, r5, w1, w2, w3, hst, l18, s18, hD0, s8, nC, fillA, U, evHist, ObsOk, ObOk, List.getElem?_cons_zero]; rfl, by simp [tm0], by simp [tm0], by simp, by simp, by simp⟩
      obtain ⟨τ1, e3, T1⟩ := hhead
      obtain ⟨τ2, H2, va, bo, e4, T2, X4, A4, k4⟩ := rmB (i := i) (id := id) (p6 := h.next) (p8 := h.next + 1) X3 hlen hidK (by rw [hat]; simp only; omega) (by rw [hat]; simp only; omega) G.sup (by omega) (fun hx => by have := hbn _ hx; omega) (by omega) g8 m (by omega) τ1 T1
      rw [hat] at A4
      simp only at A4
      have n4 := k4.next
      have hbo4 := A4.lo
      have g6 : H2.get h.next = some (.cells 63 false (obC 0 0 0 .nilSlice)) := by
        rw [k4.get _ (by omega) (by intro hx; simp at hx; rcases hx with e | e; omega; have := hbn _ e; omega)]
        simp only [D0]; rw [AH.push_get, if_neg (by omega)]; exact pC
      obtain ⟨H3, vb, bo', e5, X5, R5, nd5, lo5, or5, n5, r5'⟩ := rmC (l := if creditP ((F.at_ i).re + n) S.sw (F.at_ i).to ≠ (F.at_ i).to then [frm 17 id (creditP ((F.at_ i).re + n) S.sw (F.at_ i).to)] else []) X4 (by simp only [Fw.upd]; omega) (by simp only [Fw.upd]; omega) G.sup (by split <;> simp) (by omega) (fun hx => by have := hbn _ hx; omega) (by omega) A4 (by omega) (fun hx => by have := hbn _ hx; omega) (by omega) (by omega) (by omega) (by omega) g6 (fun x hx => ⟨fun hy => by have := hbn _ hy; have := hbo4 x hx; omega, by have := hbo4 x hx; omega⟩) m (by omega) τ2 T2
      refine ⟨_, H3, by rw [e3, e4, e5], v, bs, bo', ?_, ⟨by omega, fun x hx hxx => ?_⟩, fun b hb => .inl hb, ob_Rf R5 i0 i0 i0, nd5, fun x hx => by have := lo5 x hx; omega, fun x hx hy => by have := hbn _ hy; have := lo5 x hx; omega⟩
      · have hF : ({ ({ (F.upd i fun s => { s with re := s.re + n }) with rc := F.rc + n } : Fw).upd i (fun s => { s with to := creditP s.re S.sw s.to }) with tc := creditP (F.rc + n) S.cw F.tc } : Fw) = { (F.upd i fun s => { s with re := s.re + n, to := creditP ((F.at_ i).re + n) S.sw (F.at_ i).to }) with rc := F.rc + n, tc := creditP (F.rc + n) S.cw F.tc } := by
          simp only [Fw.upd, Fw.at_, List.set_set]
          simp [hi]
        rw [← hF]; exact X5
      · have hx1 : x ≠ q := fun e => hxx (by simp [e])
        have hx2 : x ∉ bs := fun e => hxx (by simp [e])
        rw [r5' x (by omega) (by omega) (by omega) hx1 (fun hy => by have := hbo4 x hy; omega), k4.get x (by omega) (by intro hy; simp at hy; rcases hy with e | e | e; omega; exact hx1 e; exact hx2 e), kD.get x (by omega)]
        exact kC.get x hx hxx
end Go.Ev

/- Credit: what arrives, in the reference: the loops. -/
namespace Go.Ev
open Go Go.Proofs
set_option linter.unusedSimpArgs false
set_option linter.unusedVariables false

theorem addP_len (S : Sup) (F : Fw) (id : Int) : (addP S F id).L.length ≤ F.L.length + 1 := by
  unfold addP; split
  · simp [putP]
  · omega
theorem addAll_len (S : Sup) (sv w : Bool) : ∀ (n : Nat) (F : Fw), (addAll S sv w n F).L.length ≤ F.L.length + n
  | 0, F => by simp [addAll]
  | n + 1, F => by
    have h1 := addP_len S (addAll S sv w n F) (idOf sv w n)
    have h2 := addAll_len S sv w n F
    simp only [addAll]; omega
/-- the fields of the books but for the streams -/
structure Fw.same (F G : Fw) : Prop where
  o0 : G.o0 = F.o0
  o1 : G.o1 = F.o1
  m0 : G.m0 = F.m0
  m1 : G.m1 = F.m1
  cc : G.cc = F.cc
  i0 : G.i0 = F.i0
  i1 : G.i1 = F.i1
  tc : G.tc = F.tc
  rc : G.rc = F.rc
theorem addAll_same (S : Sup) (sv w : Bool) : ∀ (n : Nat) (F : Fw), F.same (addAll S sv w n F)
  | 0, F => ⟨rfl, rfl, rfl, rfl, rfl, rfl, rfl, rfl, rfl⟩
  | n + 1, F => by
    have h := addAll_same S sv w n F
    simp only [addAll, addP]
    split
    · exact ⟨h.o0, h.o1, h.m0, h.m1, h.cc, h.i0, h.i1, h.tc, h.rc⟩
    · exact h
theorem idOf_K (sv w : Bool) (n : Nat) (hn : n ≤ 100000) : InK .i64 (idOf sv w n) := by
  unfold idOf
  rw [if_neg (by omega)]
  exact InK.i64 (by split <;> split <;> omega) (by split <;> split <;> omega)
structure ArT (τ : Tm) (q : Nat) (id n : Int) (sv w : Bool) (p : Int) : Prop where
  t0 : τ 0 = .ptr q 0
  t1 : τ 1 = .int .i64 id
  t2 : τ 2 = .int .i64 n
  t7 : τ 7 = .bool sv
  t8 : τ 8 = .bool w
  t9 : τ 9 = .int .i64 p
def ArI (S : Sup) (F : Fw) (q : Nat) (bs : List Nat) (H : AH) (id n : Int) (sv w : Bool) (p : Int) (d : Nat) (τ : Tm) (h : AH) : Prop :=
  ∃ j : Nat, (j : Int) + d = p + 1 ∧ ArT τ q id n sv w p ∧ τ 11 = .int .i64 j ∧ StpS S (addAll S sv w j F) q bs H h
theorem StpS.trans {S : Sup} {F G : Fw} {q : Nat} {bs bs1 : List Nat} {A B C : AH} {v1 : AV} (X : FsS S F q v1 bs1 B) (k : KoS (q :: bs) A B) (hb : ∀ b ∈ bs1, b ∈ bs ∨ A.next ≤ b) (Y : StpS S G q bs1 B C) : StpS S G q bs A C := by
  obtain ⟨v2, bs2, y1, y2, y3⟩ := Y
  have kn := k.next
  refine ⟨v2, bs2, y1, k.trans y2 (fun b hb' => ?_), fun b hb' => ?_⟩
  · simp only [List.mem_cons] at hb' ⊢
    rcases hb' with h | h
    · exact .inl (.inl h)
    · exact (hb b h).imp .inr id
  · rcases y3 b hb' with h | h
    · exact hb b h
    · exact .inr (by omega)
set_option maxRecDepth 20000 in
theorem arLoop {S : Sup} {F : Fw} {q : Nat} {bs : List Nat} {H h0 : AH} {id n : Int} {sv w : Bool} {p : Int} (hS : S.ok) (hlen : F.L.length ≤ 300000) (hp : 0 ≤ p ∧ p ≤ 1000) (m : Nat) (hm : 1000010 ≤ m) (τ : Tm) (hI : ArI S F q bs H id n sv w p (p + 1).toNat τ h0) :
    ∃ e τ' H', evLoop Try.prog (ev Try.prog m) m (lp Try.prog 201 982) τ h0 = some (e, τ', H') ∧ e = .exit 0 ∧ ArT τ' q id n sv w p ∧ StpS S (addAll S sv w (p + 1).toNat F) q bs H H' := by
  refine loop_rule (d := (p + 1).toNat) (ArI S F q bs H id n sv w p) (fun e τ h => e = .exit 0 ∧ ArT τ q id n sv w p ∧ StpS S (addAll S sv w (p + 1).toNat F) q bs H h) ?_ hI (by omega)
  rintro d τ h ⟨j, hj, ⟨t0, t1, t2, t7, t8, t9⟩, t11, hX⟩
  rw [lp_M Try.func201 982 (by decide) 10 (by decide) (by kernel_rfl) []]
  by_cases hd : d = 0
  · subst hd
    have hjp : (p + 1).toNat = j := by omega
    have c1 : ((j : Int) ≤ p) = False := eq_false (by omega)
    simp [Try.f201, t9, t11, c1]
    rw [hjp]
    exact ⟨⟨by simp [t0], by simp [t1], by simp [t2], by simp [t7], by simp [t8], by simp [t9]⟩, hX⟩
  · have c1 : ((j : Int) ≤ p) = True := eq_true (by omega)
    obtain ⟨v1, bs1, x1, x2, x3⟩ := hX
    have hl2 := addAll_len S sv w j F
    have w1 : IntKind.i64.wrap ((j : Int) + 1) = ((j + 1 : Nat) : Int) := by rw [wrap_i64 (n := (j : Int) + 1) (by omega) (by omega)]; omega
    have e1 := fun H => IdOfS_ev sv w j H m (by omega)
    have e2 := at_ev x1 (idOf sv w j) m (by omega)
    have hadd : addAll S sv w (j + 1) F = addP S (addAll S sv w j F) (idOf sv w j) := rfl
    cases hs : stIx (addAll S sv w j F).L (idOf sv w j) with
    | none =>
      rw [hs] at e2
      obtain ⟨v2, bs2, h2, e3, y1, y2, y3⟩ := put_ev x1 hS (idOf_K sv w j (by omega)) (by omega) m (by omega)
      simp only [ixI] at e2
      simp [Try.f201, t0, t7, t8, t9, t11, c1, e1, e2, e3, w1]
      refine ⟨d - 1, by omega, j + 1, by omega, ⟨by simp [t0], by simp [t1], by simp [t2], by simp [t7], by simp [t8], by simp [t9]⟩, by simp, ?_⟩
      rw [hadd, addP, if_pos hs]
      exact StpS.trans x1 x2 x3 ⟨v2, bs2, y1, y2, y3⟩
    | some i =>
      rw [hs] at e2
      simp only [ixI] at e2
      have ei : ((i : Int) < 0) = False := eq_false (by omega)
      simp [Try.f201, t0, t7, t8, t9, t11, c1, e1, e2, ei, w1]
      refine ⟨d - 1, by omega, j + 1, by omega, ⟨by simp [t0], by simp [t1], by simp [t2], by simp [t7], by simp [t8], by simp [t9]⟩, by simp, ?_⟩
      rw [hadd, addP, if_neg (by rw [hs]; simp)]
      exact ⟨v1, bs1, x1, x2, x3⟩
/-- the sum but for one stream -/
def sumB (L : List Bk) (i k : Nat) : Int := sumI Bk.ca (L.take k) - (if i < k then (L.getD i bk0).ca else 0)
structure AsT (τ : Tm) (q : Nat) (n : Int) (i : Nat) : Prop where
  t0 : τ 0 = .ptr q 0
  t2 : τ 2 = .int .i64 n
  t12 : τ 12 = .int .i64 i
def AsI (F : Fw) (q : Nat) (n : Int) (i : Nat) (H : AH) (d : Nat) (τ : Tm) (h : AH) : Prop :=
  ∃ k : Nat, k + d = F.L.length ∧ h = H ∧ AsT τ q n i ∧ τ 13 = .int .i64 (sumB F.L i k) ∧ τ 14 = .int .i64 k
theorem asLoop {S : Sup} {F : Fw} {q : Nat} {v : AV} {bs : List Nat} {h : AH} (X : FsS S F q v bs h) (hca : ∀ s ∈ F.L, 0 ≤ s.ca) (hsum : sumI Bk.ca F.L ≤ 1000000000) {n : Int} {i : Nat} (hi : i < F.L.length) (m : Nat) (hm : 1000002 ≤ m) (τ : Tm) (hI : AsI F q n i h F.L.length τ h) :
    ∃ e τ' H', evLoop Try.prog (ev Try.prog m) m (lp Try.prog 201 2042) τ h = some (e, τ', H') ∧ e = .exit 2 ∧ H' = h ∧ AsT τ' q n i ∧ τ' 13 = .int .i64 (sumI Bk.ca F.L - (F.at_ i).ca) := by
  have hl := X.len
  refine loop_rule (d := F.L.length) (AsI F q n i h) (fun e τ h' => e = .exit 2 ∧ h' = h ∧ AsT τ q n i ∧ τ 13 = .int .i64 (sumI Bk.ca F.L - (F.at_ i).ca)) ?_ hI (by omega)
  rintro d τ h' ⟨k, hk, rfl, ⟨t0, t2, t12⟩, t13, t14⟩
  have l1 := X.ld
  have l2 := X.lenA h'
  rw [lp_M Try.func201 2042 (by decide) 11 (by decide) (by kernel_rfl) []]
  by_cases hd : d = 0
  · subst hd
    have hkn : ¬ ((k : Int) < F.L.length) := by omega
    have e : sumB F.L i k = sumI Bk.ca F.L - (F.at_ i).ca := by
      unfold sumB Fw.at_
      rw [List.take_of_length_le (by omega), if_pos (by omega)]
    rw [e] at t13
    simp [Try.f201, t0, t14, l1, l2, hkn]
    exact ⟨⟨by simp [t0], by simp [t2], by simp [t12]⟩, by simp [t13]⟩
  · have hlt : k < F.L.length := by omega
    have hlt' : (k : Int) < F.L.length := by omega
    obtain ⟨b, o, x1, x2, u1, u2, u3, u4, u5, u6, _, _⟩ := X.row hlt
    obtain ⟨_, _, _, _, f4, _⟩ := FsS.row_ld (S := S) (F := F) (q := q) (v := v) (bs := bs) u5 u6
    have b1 := sumI_take_le hca k
    have b2 := sumI_take_le hca (k + 1)
    have b3 := hca F.L[i] (List.getElem_mem hi)
    have b4 := sumI_mem hca F.L[i] (List.getElem_mem hi)
    have hgi : (F.L.getD i bk0).ca = F.L[i].ca := by simp [hi]
    have st := sumI_take (f := Bk.ca) hlt
    have w1 : IntKind.i64.wrap ((k : Int) + 1) = ((k + 1 : Nat) : Int) := by rw [wrap_i64 (n := (k : Int) + 1) (by omega) (by omega)]; omega
    by_cases hki : k = i
    · subst hki
      have e : sumB F.L k (k + 1) = sumB F.L k k := by
        unfold sumB
        rw [if_pos (by omega), if_neg (by omega), hgi, st]; omega
      have bne : ((k : Int) != (k : Int)) = false := by simp
      simp [Try.f201, t0, t12, t13, t14, l1, l2, hlt, hlt', w1]
      exact ⟨d - 1, by omega, k + 1, by omega, rfl, ⟨by simp [t0], by simp [t2], by simp [t12]⟩, by simp [t13, e], by simp⟩
    · have hki' : ((k : Int) != (i : Int)) = true := by simp; omega
      have e : sumB F.L i k + F.L[k].ca = sumB F.L i (k + 1) := by
        unfold sumB
        rw [st]
        by_cases h : i < k
        · rw [if_pos h, if_pos (by omega)]; omega
        · rw [if_neg h, if_neg (by omega)]; omega
      have hr : -1000000000 ≤ sumB F.L i (k + 1) ∧ sumB F.L i (k + 1) ≤ 1000000000 := by
        unfold sumB
        rw [hgi]
        split <;> omega
      have w2 : IntKind.i64.wrap (sumB F.L i k + F.L[k].ca) = sumB F.L i (k + 1) := by rw [e]; exact wrap_i64 (by omega) (by omega)
      simp [Try.f201, t0, t12, t13, t14, l1, l2, hlt, hlt', hki', u1, f4, w1, w2]
      exact ⟨d - 1, by omega, k + 1, by omega, rfl, ⟨by simp [t0], by simp [t2], by simp [t12]⟩, by simp [w2], by simp⟩
end Go.Ev

/- Credit: what arrives, in the reference. -/
namespace Go.Ev
open Go Go.Proofs
set_option linter.unusedSimpArgs false
set_option linter.unusedVariables false

structure AzT (τ : Tm) (q : Nat) (id n : Int) : Prop where
  t0 : τ 0 = .ptr q 0
  t1 : τ 1 = .int .i64 id
  t2 : τ 2 = .int .i64 n
/-- behind the streams that came: the stream, the sums, the answer -/
theorem arZ {S : Sup} {F : Fw} {q : Nat} {v : AV} {bs : List Nat} {h : AH} (X : FsS S F q v bs h) (hbk : ∀ s ∈ F.L, -1000000000 ≤ s.to ∧ s.to ≤ 1000000000) (hca : ∀ s ∈ F.L, 0 ≤ s.ca) (hsum : sumI Bk.ca F.L ≤ F.tc) (htc : F.tc ≤ 1000000000) (id n : Int) (hn : inW n) (m : Nat) (hm : 1000010 ≤ m) (τ : Tm) (T : AzT τ q id n) :
    ∃ h' c G, resM Try.prog [.tmp 6] (evAt Try.prog (ev Try.prog m) m 201 31 τ h) = some (.int .i64 c, h') ∧ StpS S G q bs h h' ∧ (G, c) = (match getsP S F.L id with
    | none => (F, 7)
    | some i => if (F.at_ i).to < max n (F.at_ i).ca ∨ F.tc - (sumI Bk.ca F.L - (F.at_ i).ca) < max n (F.at_ i).ca then (F, 8) else (F.upd i fun s => { s with ca := max n (F.at_ i).ca }, 0)) := by
  obtain ⟨t0, t1, t2⟩ := T
  have e1 := gets_ev X id m (by omega)
  have st0 : StpS S F q bs h h := ⟨v, bs, X, KoS.refl _ _, fun b hb => .inl hb⟩
  cases hs : getsP S F.L id with
  | none =>
    rw [hs] at e1
    simp only [ixI] at e1
    exact ⟨h, 7, F, by rw [at_M Try.func201 31 (by decide) 5 (by decide) (by kernel_rfl) []]; simp [Try.f201, t0, t1, e1], st0, rfl⟩
  | some i =>
    rw [hs] at e1
    simp only [ixI] at e1
    have hi := getsP_lt hs
    have ei : ((i : Int) < 0) = False := eq_false (by omega)
    have hsn := sumI_nn hca
    have hcm := sumI_mem hca F.L[i] (List.getElem_mem hi)
    have hc0 := hca F.L[i] (List.getElem_mem hi)
    have hb1 := hbk F.L[i] (List.getElem_mem hi)
    rw [← at_L hi] at hcm hc0 hb1
    have hsl := asLoop (n := n) X hca (by omega) hi m (by omega)
    obtain ⟨b, o, x1, x2, u1, u2, u3, u4, u5, u6, ok, u7⟩ := X.upd hi
    obtain ⟨_, _, _, r3, r4, _, _⟩ := FsS.row_ld (S := S) (F := F) (q := q) (v := v) (bs := bs) u5 u6
    have l9 := X.ld
    have l17 : ldVar Try.prog 3 q 17 h = some (.int .i64 F.tc) := by have := X.gq; simp [ldVar, this, fsC]
    unfold inW at hn
    dsimp only
    generalize F.at_ i = s at *
    generalize hK : max n s.ca = K at *
    have hmx : (if n < s.ca then s.ca else n) = K := by rw [← hK]; split <;> omega
    have w1 : IntKind.i64.wrap (F.tc - (sumI Bk.ca F.L - s.ca)) = F.tc - (sumI Bk.ca F.L - s.ca) := wrap_i64 (n := F.tc - (sumI Bk.ca F.L - s.ca)) (by omega) (by omega)
    by_cases c1 : s.to < K
    · rw [if_pos (.inl c1)]
      refine ⟨h, 8, F, ?_, st0, rfl⟩
      rw [at_M Try.func201 31 (by decide) 5 (by decide) (by kernel_rfl) []]
      simp [Try.f201, t0, t1, e1, ei]
      generalize hLo : evLoop _ _ _ _ _ _ = R
      obtain ⟨e, τ', H', rfl, rfl, rfl, ⟨v0, v2, v12⟩, v13⟩ := loop_at hLo (hsl _ ⟨0, by simp, rfl, ⟨by simp [t0], by simp [t2], by simp⟩, by simp [sumB, sumI], by simp⟩)
      simp [Try.f201, v0, v2, v12, v13, l9, u1, r3, r4, mx2, foldA, hmx, c1]
    · by_cases c2 : F.tc - (sumI Bk.ca F.L - s.ca) < K
      · rw [if_pos (.inr c2)]
        refine ⟨h, 8, F, ?_, st0, rfl⟩
        rw [at_M Try.func201 31 (by decide) 5 (by decide) (by kernel_rfl) []]
        simp [Try.f201, t0, t1, e1, ei]
        generalize hLo : evLoop _ _ _ _ _ _ = R
        obtain ⟨e, τ', H', rfl, rfl, rfl, ⟨v0, v2, v12⟩, v13⟩ := loop_at hLo (hsl _ ⟨0, by simp, rfl, ⟨by simp [t0], by simp [t2], by simp⟩, by simp [sumB, sumI], by simp⟩)
        simp [Try.f201, v0, v2, v12, v13, l9, l17, u1, r3, r4, mx2, foldA, hmx, w1, c1, c2]
      · rw [if_neg (by intro h; rcases h with h | h; exact c1 h; exact c2 h)]
        have X1 := u7 (fun s => { s with ca := K }) ⟨ok.id, ok.cr, ok.se, ok.to, InK.i64 (by simp only; omega) (by simp only; omega), ok.re⟩
        have hst := st_mid (P := Try.prog) (T := 3) (j := 4) (v := .int .i64 K) u5 u6 (by simp) rfl (by simp [Bk.c])
        have hset : s.c.set 4 (.int .i64 K) = Bk.c { s with ca := K } := rfl
        rw [hset] at hst
        have c1' := eq_false c1; have c2' := eq_false c2
        refine ⟨_, 0, _, ?_, ⟨v, bs, X1, (KoS.refl _ _).set1 (List.mem_cons_of_mem _ u4) _, fun b hb => .inl hb⟩, rfl⟩
        rw [at_M Try.func201 31 (by decide) 5 (by decide) (by kernel_rfl) []]
        simp [Try.f201, t0, t1, e1, ei]
        generalize hLo : evLoop _ _ _ _ _ _ = R
        obtain ⟨e, τ', H', rfl, rfl, rfl, ⟨v0, v2, v12⟩, v13⟩ := loop_at hLo (hsl _ ⟨0, by simp, rfl, ⟨by simp [t0], by simp [t2], by simp⟩, by simp [sumB, sumI], by simp⟩)
        simp [Try.f201, v0, v2, v12, v13, l9, l17, u1, r3, r4, mx2, foldA, hmx, w1, c1', c2', hst]
theorem addAll_all {S : Sup} {sv w : Bool} {P : Bk → Prop} : ∀ (n : Nat) {F : Fw}, (∀ s ∈ F.L, P s) → (∀ k, k < n → P (newBk S (idOf sv w k))) → ∀ s ∈ (addAll S sv w n F).L, P s
  | 0, F, h, _ => h
  | n + 1, F, h, hk => by
    have ih := addAll_all n h fun k hkn => hk k (by omega)
    simp only [addAll, addP]
    split
    · intro s hs
      simp only [putP, List.mem_append, List.mem_singleton] at hs
      rcases hs with hs | rfl
      · exact ih s hs
      · exact hk n (by omega)
    · exact ih
theorem addAll_sum {S : Sup} {sv w : Bool} (f : Bk → Int) (hf : ∀ id, f (newBk S id) = 0) : ∀ (n : Nat) (F : Fw), sumI f (addAll S sv w n F).L = sumI f F.L
  | 0, F => rfl
  | n + 1, F => by
    have ih := addAll_sum (S := S) (sv := sv) (w := w) f hf n F
    simp only [addAll, addP]
    split
    · simp only [putP, sumI_app, ih, sumI, hf]; omega
    · exact ih
theorem arrive_ev {S : Sup} {F : Fw} {k : Nat} {q : Nat} {v : AV} {bs : List Nat} {h : AH} (X : FsS S F q v bs h) (G : F.good S k) (id n : Int) (m : Nat) (hm : 1000020 ≤ m) :
    ∃ h', ev Try.prog m 201 [.ptr q 0, .int .i64 id, .int .i64 n] h = some (.int .i64 (arriveP S F id n).2, h') ∧ StpS S (arriveP S F id n).1 q bs h h' := by
  obtain ⟨m, rfl⟩ : ∃ k, m = k + 1 := ⟨m - 1, by omega⟩
  have e1 := IdPartsS_ev id h m (by omega)
  have e2 := fun H => l05VarF_ev n H m (by omega)
  have st0 : StpS S F q bs h h := ⟨v, bs, X, KoS.refl _ _, fun b hb => .inl hb⟩
  have hkk := G.kk; have hsup := G.sup; have hCA := G.ca; have hTC := G.tc
  have hbk : ∀ s ∈ F.L, -1000000000 ≤ s.to ∧ s.to ≤ 1000000000 := fun s hs => by
    have := (G.bk s hs).to; have := (G.bk s hs).ca; have := (G.bk s hs).re; omega
  unfold arriveP
  by_cases c1 : idOk id
  · rw [if_pos c1] at e1
    by_cases c2 : inW n
    · rw [if_neg (by simp [c1, c2])]
      by_cases c3 : idSv id = S.sv
      · have c3' : (idSv id != S.sv) = false := by simpa using c3
        rw [if_neg (by simp [c3])]
        have hh : ∃ τ', ev Try.prog (m + 1) 201 [.ptr q 0, .int .i64 id, .int .i64 n] h = resM Try.prog [.tmp 6] (evAt Try.prog (ev Try.prog m) m 201 31 τ' h) ∧ AzT τ' q id n := by
          have g := X.gq
          have l0 : ldVar Try.prog 4 q 0 h = some (.bool S.sv) := by simp [ldVar, g, fsC]
          rw [ev_M Try.func201 ok201 [31] m _ h (by simp [Try.f201])]
          exact ⟨_, by simp [Try.f201, tm0, e1, e2, c2, c3, l0]; rfl, by simp [tm0], by simp [tm0], by simp [tm0]⟩
        obtain ⟨τ1, e3, T1⟩ := hh
        obtain ⟨h', c, G', e4, s4, g4⟩ := arZ X hbk (good_ca G) hCA (by omega) id n c2 m (by omega) τ1 T1
        refine ⟨h', ?_, ?_⟩
        · rw [e3, e4]
          have := congrArg Prod.snd g4
          simp only [c3, ne_eq, not_true_eq_false, if_false]
          simp only at this
          rw [this]
          all_goals (cases getsP S F.L id <;> rfl)
        · have := congrArg Prod.fst g4
          simp only [c3, ne_eq, not_true_eq_false, if_false]
          simp only at this
          rw [this] at s4
          cases hgs : getsP S F.L id <;> rw [hgs] at s4 <;> exact s4
      · have c3' : (idSv id == S.sv) = false := by simpa using c3
        have c3n : (idSv id != S.sv) = true := by simpa using c3
        have g := X.gq
        have l0 : ldVar Try.prog 4 q 0 h = some (.bool S.sv) := by simp [ldVar, g, fsC]
        have li : ldVar Try.prog 3 q (if idOw id then 16 else 15) h = some (.int .i64 (F.i (idOw id))) := by simp only [fsC] at g; cases idOw id <;> simp [ldVar, g, Fw.i]
        have ew := fun H => l08Way_ev (idOw id) H m (by omega)
        have hI := G.i (idOw id)
        unfold idOk at c1
        by_cases c4 : F.i (idOw id) ≤ id / 4
        · rw [if_pos ⟨c3, c4⟩]
          refine ⟨h, ?_, st0⟩
          rw [ev_M Try.func201 ok201 [] m _ h (by simp [Try.f201])]
          generalize F.i (idOw id) = I at *
          cases hw : idOw id <;> simp only [hw, Bool.false_eq_true, if_false, if_true] at e1 li ew <;>
            simp [Try.f201, tm0, e1, e2, c2, c3, c3', c3n, l0, li, ew, ia0, ia1, c4, evHist, ObsOk, ObOk, List.getElem?_cons_zero]
        · rw [if_neg (by simp [c4])]
          have hal := arLoop (S := S) (F := F) (q := q) (bs := bs) (H := h) (h0 := h) (id := id) (n := n) (sv := idSv id) (w := idOw id) (p := id / 4) hsup (by have := G.len; omega) (by omega) m (by omega)
          have hh : ∃ τ' h1, ev Try.prog (m + 1) 201 [.ptr q 0, .int .i64 id, .int .i64 n] h = resM Try.prog [.tmp 6] (evAt Try.prog (ev Try.prog m) m 201 31 τ' h1) ∧ AzT τ' q id n ∧ StpS S (addAll S (idSv id) (idOw id) (id / 4 + 1).toNat F) q bs h h1 := by
            have c4' := eq_false c4
            rw [ev_M Try.func201 ok201 [31] m _ h (by simp [Try.f201])]
            generalize F.i (idOw id) = I at *
            cases hw : idOw id <;> simp only [hw, Bool.false_eq_true, if_false, if_true] at e1 li ew hal ⊢
            all_goals
              simp [Try.f201, tm0, e1, e2, c2, c3, c3', c3n, l0, li, ew, ia0, ia1, c4', evHist, ObsOk, ObOk, List.getElem?_cons_zero]
              generalize hLo : evLoop _ _ _ _ _ _ = R
              obtain ⟨e, τ', H', rfl, rfl, ⟨t0, t1, t2, t7, t8, t9⟩, hst⟩ := loop_at hLo (hal _ ⟨0, by omega, ⟨by simp, by simp, by simp, by simp, by simp, by simp⟩, by simp, st0⟩)
              exact ⟨τ', H', by simp, ⟨t0, t1, t2⟩, hst⟩
          obtain ⟨τ1, h1, e3, T1, v1, bs1, x1, x2, x3⟩ := hh
          have hsa := addAll_same S (idSv id) (idOw id) (id / 4 + 1).toNat F
          have hs1 := addAll_sum (S := S) (sv := idSv id) (w := idOw id) Bk.ca (fun _ => rfl) (id / 4 + 1).toNat F
          obtain ⟨h', c, G', e4, s4, g4⟩ := arZ x1 (addAll_all _ hbk fun k _ => by have := hsup.sw; simp only [newBk]; omega) (addAll_all _ (good_ca G) fun k _ => by simp [newBk]) (by rw [hs1, hsa.tc]; exact hCA) (by rw [hsa.tc]; omega) id n c2 m (by omega) τ1 T1
          have s5 := StpS.trans x1 x2 x3 s4
          refine ⟨h', ?_, ?_⟩
          · rw [e3, e4]
            have := congrArg Prod.snd g4
            simp only [ne_eq, c3, not_false_eq_true, if_true]
            simp only at this
            rw [this]
            all_goals (cases getsP S (addAll S (idSv id) (idOw id) (id / 4 + 1).toNat F).L id <;> rfl)
          · have := congrArg Prod.fst g4
            simp only [ne_eq, c3, not_false_eq_true, if_true]
            simp only at this
            rw [this] at s5
            cases hgs : getsP S (addAll S (idSv id) (idOw id) (id / 4 + 1).toNat F).L id <;> rw [hgs] at s5 <;> exact s5
    · rw [if_pos (.inr c2)]
      refine ⟨h, ?_, st0⟩
      rw [ev_M Try.func201 ok201 [] m _ h (by simp [Try.f201])]
      simp [Try.f201, tm0, e1, e2, c2]
  · rw [if_neg c1] at e1
    rw [if_pos (.inl c1)]
    refine ⟨h, ?_, st0⟩
    rw [ev_M Try.func201 ok201 [] m _ h (by simp [Try.f201])]
    simp [Try.f201, tm0, e1, U]
end Go.Ev

/- Credit: one operation of the reference. -/
namespace Go.Ev
open Go Go.Proofs
set_option linter.unusedSimpArgs false
set_option linter.unusedVariables false

theorem StpO.fin {S : Sup} {F' : Fw} {d : Ob} {q : Nat} {bs : List Nat} {h A h' : AH} {c : List AV} (X : StpO S F' d q bs A h' c) (kA : Kp h A) {p : Nat} (hbs : ∀ b ∈ bs, b < h.next) (hq : q < h.next) (p1 : h.next ≤ p) (p2 : p < A.next) (x : Blk) : StpO S F' d q bs h (h'.set p x) c := by
  obtain ⟨v', bs', bo, a1, a2, a3, a4, a5, a6, a7⟩ := X
  have n1 := kA.next
  have n2 := a2.next
  have hb' : ∀ b ∈ bs', b ≠ p := fun b hb => by rcases a3 b hb with h | h; have := hbs b h; omega; omega
  refine ⟨v', bs', bo, a1.stay (by simp) (AH.set_getN _ _ (by omega)) (fun b hb => AH.set_getN _ _ (hb' b hb)), ⟨by simp; omega, fun b hb hx => ?_⟩, fun b hb => (a3 b hb).imp id (fun h => by omega), a4.stay (by simp) (fun b hb => AH.set_getN _ _ (by have := a6 b hb; omega)), a5, fun b hb => by have := a6 b hb; omega, a7⟩
  rw [AH.set_getN _ _ (by omega), a2.get b (by omega) hx]; exact kA.get b hb
theorem StpO.cells {S : Sup} {F' : Fw} {d : Ob} {q : Nat} {bs : List Nat} {h h' : AH} {c : List AV} (X : StpO S F' d q bs h h' c) : ∃ c0 c1 c2 va, c = obC c0 c1 c2 va ∧ va.one = true := by
  obtain ⟨v', bs', bo, a1, a2, a3, a4, _⟩ := X
  obtain ⟨x0, x1, x2, x3⟩ := d
  obtain ⟨va, bx, rfl, _, r, _⟩ := o63 a4
  exact ⟨x0, x1, x2, va, rfl, r.sl_one⟩
set_option maxRecDepth 20000 in
theorem do_ev {S : Sup} {F : Fw} {k0 : Nat} {q : Nat} {v : AV} {bs : List Nat} {h : AH} (X : FsS S F q v bs h) (G : F.good S k0) (k id n : Int) (w : Bool) (m : Nat) (hm : 1000040 ≤ m) :
    ∃ c h', ev Try.prog m 106 [.ptr q 0, .agg (opC k id n w)] h = some (.agg c, h') ∧ StpO S (doF S F (k, id, n, w)).1 (doF S F (k, id, n, w)).2 q bs h h' c := by
  obtain ⟨m, rfl⟩ : ∃ k, m = k + 1 := ⟨m - 1, by omega⟩
  let A0 : AH := (h.push (.cells 65 false (opC k id n w))).push (.cells 63 false (obC 0 0 0 .nilSlice))
  have kA : Kp h A0 := ((Kp.refl h).push _).push _
  have X0 := X.kp kA
  have qn := X.qn
  have hbn : ∀ b ∈ bs, b < h.next := X.R.mem
  have nA : A0.next = h.next + 2 := by simp [A0]
  have p0 : A0.get h.next = some (.cells 65 false (opC k id n w)) := by simp [A0]
  have p1 : A0.get (h.next + 1) = some (.cells 63 false (obC 0 0 0 .nilSlice)) := by simp [A0]
  have i0 : InK .i64 0 := InK.i64 (by omega) (by omega)
  have o0 : ldVar Try.prog 3 h.next 0 A0 = some (.int .i64 k) := by simp only [opC] at p0; simp [ldVar, p0]
  have o1 : ldVar Try.prog 3 h.next 1 A0 = some (.int .i64 id) := by simp only [opC] at p0; simp [ldVar, p0]
  have o2 : ldVar Try.prog 3 h.next 2 A0 = some (.int .i64 n) := by simp only [opC] at p0; simp [ldVar, p0]
  have o3 : ldVar Try.prog 4 h.next 3 A0 = some (.bool w) := by simp only [opC] at p0; simp [ldVar, p0]
  have o4 : ldVar Try.prog 65 h.next 0 A0 = some (.agg (opC k id n w)) := by simp only [opC] at p0 ⊢; simp [ldVar, p0]
  have hA0 : (h.push (.cells 65 false [.int .i64 k, .int .i64 id, .int .i64 n, .bool w])).push (.cells 63 false [.int .i64 0, .int .i64 0, .int .i64 0, .nilSlice]) = A0 := rfl
  have st0 : StpS S F q bs A0 A0 := ⟨v, bs, X0, KoS.refl _ _, fun b hb => .inl hb⟩
  -- what a store of the answer does
  have stO : ∀ {F' d h' c}, StpO S F' d q bs A0 h' c → stVar Try.prog 63 (h.next + 1) 0 (.agg c) h' = some (h'.set (h.next + 1) (.cells 63 false c)) ∧ ldVar Try.prog 63 (h.next + 1) 0 (h'.set (h.next + 1) (.cells 63 false c)) = some (.agg c) := by
    intro F' d h' c Y
    obtain ⟨c0, c1, c2, va, rfl, ov⟩ := Y.cells
    obtain ⟨v', bs', bo, a1, a2, _⟩ := Y
    have pp := (a2.get (h.next + 1) (by omega) (by intro hx; simp at hx; rcases hx with e | e; omega; have := hbn _ e; omega)).trans p1
    simp only [obC] at pp ⊢
    refine ⟨?_, by simp [ldVar]⟩
    simp only [stVar, pp]; simp [spl, ov]
  have fin : ∀ {F' d h' c}, StpO S F' d q bs A0 h' c → StpO S F' d q bs h (h'.set (h.next + 1) (.cells 63 false c)) c := fun Y => Y.fin kA hbn qn (by omega) (by omega) _
  by_cases k1 : k = 1
  · subst k1
    obtain ⟨c, i, n', h', e1, d1, s1⟩ := open_ev X0 G w m (by omega)
    have hd : doF S F (1, id, n, w) = openP S F w := by simp [doF]
    have hK : InK .i64 c ∧ InK .i64 i ∧ InK .i64 n' := by
      have := G.o w; have := G.kk
      unfold openP ob at d1
      split at d1
      · simp at d1; obtain ⟨rfl, rfl, rfl⟩ := d1; exact ⟨InK.i64 (by omega) (by omega), i0, i0⟩
      · simp at d1
        obtain ⟨rfl, rfl, rfl⟩ := d1
        refine ⟨i0, ?_, i0⟩
        unfold idOf
        rw [if_neg (by omega)]
        exact InK.i64 (by split <;> split <;> omega) (by split <;> split <;> omega)
    have Y := s1.o hK.1 hK.2.1 hK.2.2
    rw [hd, d1]
    obtain ⟨f1, f2⟩ := stO Y
    refine ⟨_, _, ?_, fin Y⟩
    simp only [obC, opC] at e1 f1 f2 hA0 ⊢
    clear_value A0
    rw [ev_M Try.func106 ok106 [] m _ h (by simp [Try.f106])]
    simp [Try.f106, tm0, hA0, o0, o3, e1, f1, f2, fillA]
  by_cases k2 : k = 2
  · subst k2
    obtain ⟨c, i, n', h', e1, d1, hn', s1⟩ := send_ev X0 G id n m (by omega)
    have hd : doF S F (2, id, n, w) = sendP S F id n := by simp [doF]
    have hK : InK .i64 c ∧ InK .i64 i := by
      unfold sendP ob at d1
      split at d1
      · simp at d1; obtain ⟨rfl, rfl, rfl⟩ := d1; exact ⟨InK.i64 (by omega) (by omega), i0⟩
      · split at d1 <;> simp at d1 <;> obtain ⟨rfl, rfl, _⟩ := d1 <;> exact ⟨InK.i64 (by omega) (by omega), i0⟩
    have Y := s1.o hK.1 hK.2 hn'
    rw [hd, d1]
    obtain ⟨f1, f2⟩ := stO Y
    refine ⟨_, _, ?_, fin Y⟩
    simp only [obC, opC] at e1 f1 f2 hA0 ⊢
    clear_value A0
    rw [ev_M Try.func106 ok106 [] m _ h (by simp [Try.f106])]
    simp [Try.f106, tm0, hA0, o0, o1, o2, e1, f1, f2, fillA]
  by_cases k3 : k = 3
  · subst k3
    obtain ⟨h', e1, s1⟩ := arrive_ev X0 G id n m (by omega)
    have hd : doF S F (3, id, n, w) = ((arriveP S F id n).1, ob (arriveP S F id n).2 0 0 []) := by simp [doF]
    have hK : InK .i64 (arriveP S F id n).2 := by
      simp only [arriveP]
      repeat' split
      all_goals (dsimp only; exact InK.i64 (by omega) (by omega))
    have Y := s1.o hK i0 i0
    rw [hd]
    obtain ⟨f1, f2⟩ := stO Y
    refine ⟨_, _, ?_, fin Y⟩
    simp only [obC, opC] at f1 f2 hA0 ⊢
    clear_value A0
    rw [ev_M Try.func106 ok106 [] m _ h (by simp [Try.f106])]
    simp [Try.f106, tm0, hA0, o0, o1, o2, e1, f1, f2, fillA, spl]
  by_cases k4 : k = 4
  · subst k4
    obtain ⟨c, h', e1, Y⟩ := read_ev X0 G id n m (by omega)
    have hd : doF S F (4, id, n, w) = readP S F id n := by simp [doF]
    rw [hd]
    obtain ⟨f1, f2⟩ := stO Y
    refine ⟨_, _, ?_, fin Y⟩
    simp only [opC] at hA0 ⊢
    clear_value A0
    rw [ev_M Try.func106 ok106 [] m _ h (by simp [Try.f106])]
    simp [Try.f106, tm0, hA0, o0, o1, o2, e1, f1, f2, fillA]
  by_cases k5 : k = 5
  · subst k5
    obtain ⟨c, h', e1, Y⟩ := over_ev X0 G id m (by omega)
    have hd : doF S F (5, id, n, w) = overP S F id := by simp [doF]
    rw [hd]
    obtain ⟨f1, f2⟩ := stO Y
    refine ⟨_, _, ?_, fin Y⟩
    simp only [opC] at hA0 ⊢
    clear_value A0
    rw [ev_M Try.func106 ok106 [] m _ h (by simp [Try.f106])]
    simp [Try.f106, tm0, hA0, o0, o1, e1, f1, f2, fillA]
  by_cases k6 : k = 6 ∨ k = 7 ∨ k = 8
  · obtain ⟨h', e1, s1⟩ := told_ev X0 G k id n w k6 m (by omega)
    have hd : doF S F (k, id, n, w) = ((toldP S F k id n w).1, ob (toldP S F k id n w).2 0 0 []) := by simp [doF, k1, k2, k3, k4, k5, k6]
    have hK : InK .i64 (toldP S F k id n w).2 := by
      simp only [toldP]
      repeat' split
      all_goals (dsimp only; exact InK.i64 (by omega) (by omega))
    have Y := s1.o hK i0 i0
    rw [hd]
    obtain ⟨f1, f2⟩ := stO Y
    refine ⟨_, _, ?_, fin Y⟩
    generalize (toldP S F k id n w).2 = r at *
    simp only [obC, opC] at e1 f1 f2 hA0 o4 ⊢
    clear_value A0
    rw [ev_M Try.func106 ok106 [] m _ h (by simp [Try.f106])]
    rcases k6 with rfl | rfl | rfl <;> simp [Try.f106, tm0, hA0, o0, o4, e1, f1, f2, fillA, spl]
  · have hd : doF S F (k, id, n, w) = (F, ob 1 0 0 []) := by simp [doF, k1, k2, k3, k4, k5, k6]
    simp only [not_or] at k6
    obtain ⟨k6, k7, k8⟩ := k6
    have Y := st0.o (InK.i64 (by decide) (by decide) : InK .i64 1) i0 i0
    rw [hd]
    obtain ⟨f1, f2⟩ := stO Y
    refine ⟨_, _, ?_, fin Y⟩
    simp only [obC, opC] at f1 f2 hA0 ⊢
    clear_value A0
    rw [ev_M Try.func106 ok106 [] m _ h (by simp [Try.f106])]
    simp [Try.f106, tm0, hA0, o0, f1, f2, fillA, spl, beqF, k1, k2, k3, k4, k5, k6, k7, k8]
end Go.Ev

/- Credit: setups, both sides; the reference's books at the start. -/
namespace Go.Ev
open Go Go.Proofs
set_option linter.unusedSimpArgs false
set_option linter.unusedVariables false

noncomputable instance (S : Sup) : Decidable S.ok := Classical.propDecidable _
def suC (S : Sup) : List AV := [.bool S.sv, .int .i64 S.cw, .int .i64 S.sw, .int .i64 S.tw, .int .i64 S.ow, .int .i64 S.pc, .int .i64 S.ps, .int .i64 S.ptw, .int .i64 S.pow]
def wdw (S : Sup) : Prop := 1 ≤ S.cw ∧ S.cw ≤ 16384 ∧ 1 ≤ S.sw ∧ S.sw ≤ 16384
def wys (S : Sup) : Prop := 0 ≤ S.tw ∧ S.tw ≤ 64 ∧ 0 ≤ S.ow ∧ S.ow ≤ 64
def prs (S : Sup) : Prop := inW S.pc ∧ inW S.ps ∧ 0 ≤ S.ptw ∧ S.ptw ≤ 1152921504606846976 ∧ 0 ≤ S.pow ∧ S.pow ≤ 1152921504606846976
theorem supOK_iff (S : Sup) : S.ok ↔ wdw S ∧ wys S ∧ prs S :=
  ⟨fun h => ⟨⟨h.cw.1, h.cw.2, h.sw.1, h.sw.2⟩, ⟨h.tw.1, h.tw.2, h.ow.1, h.ow.2⟩, ⟨h.pc, h.ps, h.ptw.1, h.ptw.2, h.pow.1, h.pow.2⟩⟩,
   fun ⟨⟨a1, a2, a3, a4⟩, ⟨b1, b2, b3, b4⟩, ⟨c1, c2, c3, c4, c5, c6⟩⟩ => ⟨⟨a1, a2⟩, ⟨a3, a4⟩, ⟨b1, b2⟩, ⟨b3, b4⟩, c1, c2, ⟨c3, c4⟩, ⟨c5, c6⟩⟩⟩
instance (S : Sup) : Decidable (wdw S) := by unfold wdw; infer_instance
instance (S : Sup) : Decidable (wys S) := by unfold wys; infer_instance
instance (S : Sup) : Decidable (prs S) := by unfold prs; infer_instance
theorem within_ev (x lo hi : Int) (H : AH) (m : Nat) (hm : 1 ≤ m) : ev Try.prog m 205 [.int .i64 x, .int .i64 lo, .int .i64 hi] H = some (.bool (decide (lo ≤ x ∧ x ≤ hi)), H) := by
  obtain ⟨m, rfl⟩ : ∃ k, m = k + 1 := ⟨m - 1, by omega⟩
  rw [ev_M Try.func205 ok205 [] m _ H (by simp [Try.f205])]
  by_cases h0 : lo ≤ x
  · by_cases h1 : x ≤ hi <;> simp [Try.f205, tm0, h0, h1]
  · simp [Try.f205, tm0, h0]
theorem supS1 {S : Sup} {p : Nat} {h : AH} (g : h.get p = some (.cells 49 false (suC S))) (m : Nat) (τ : Tm) (t1 : τ 1 = .ptr p 0) :
    ∃ τ', evAt Try.prog (ev Try.prog m) m 104 3 τ h = evAt Try.prog (ev Try.prog m) m 104 7 τ' h ∧ τ' 1 = .ptr p 0 ∧ τ' 3 = .bool (decide (wdw S)) := by
  simp only [suC] at g
  obtain ⟨sv, cw, sw, tw, ow, pc, ps, ptw, pow⟩ := S
  simp only at g
  rw [at_M Try.func104 3 (by decide) 2 (by decide) (by kernel_rfl) [7]]
  unfold wdw
  simp only
  by_cases c1 : 1 ≤ cw
  · by_cases c2 : cw ≤ 16384
    · by_cases c3 : 1 ≤ sw
      · by_cases c4 : sw ≤ 16384
        · exact ⟨_, by simp [Try.f104, t1, g, ldVar, c1, c2, c3, c4]; rfl, by simp [t1], by simp [c1, c2, c3, c4]⟩
        · exact ⟨_, by simp [Try.f104, t1, g, ldVar, c1, c2, c3, c4]; rfl, by simp [t1], by simp [c1, c2, c3, c4]⟩
      · exact ⟨_, by simp [Try.f104, t1, g, ldVar, c1, c2, c3]; rfl, by simp [t1], by simp [c1, c2, c3]⟩
    · exact ⟨_, by simp [Try.f104, t1, g, ldVar, c1, c2]; rfl, by simp [t1], by simp [c1, c2]⟩
  · exact ⟨_, by simp [Try.f104, t1, g, ldVar, c1]; rfl, by simp [t1], by simp [c1]⟩
theorem supS2 {S : Sup} {p : Nat} {h : AH} {b3 : Bool} (g : h.get p = some (.cells 49 false (suC S))) (m : Nat) (τ : Tm) (t1 : τ 1 = .ptr p 0) (t3 : τ 3 = .bool b3) :
    ∃ τ', evAt Try.prog (ev Try.prog m) m 104 7 τ h = evAt Try.prog (ev Try.prog m) m 104 15 τ' h ∧ τ' 1 = .ptr p 0 ∧ τ' 3 = .bool b3 ∧ τ' 4 = .bool (decide (wys S)) := by
  simp only [suC] at g
  obtain ⟨sv, cw, sw, tw, ow, pc, ps, ptw, pow⟩ := S
  simp only at g
  rw [at_M Try.func104 7 (by decide) 3 (by decide) (by kernel_rfl) [15]]
  unfold wys
  simp only
  by_cases c1 : 0 ≤ tw
  · by_cases c2 : tw ≤ 64
    · by_cases c3 : 0 ≤ ow
      · by_cases c4 : ow ≤ 64
        · exact ⟨_, by simp [Try.f104, t1, g, ldVar, c1, c2, c3, c4]; rfl, by simp [t1], by simp [t3], by simp [c1, c2, c3, c4]⟩
        · exact ⟨_, by simp [Try.f104, t1, g, ldVar, c1, c2, c3, c4]; rfl, by simp [t1], by simp [t3], by simp [c1, c2, c3, c4]⟩
      · exact ⟨_, by simp [Try.f104, t1, g, ldVar, c1, c2, c3]; rfl, by simp [t1], by simp [t3], by simp [c1, c2, c3]⟩
    · exact ⟨_, by simp [Try.f104, t1, g, ldVar, c1, c2]; rfl, by simp [t1], by simp [t3], by simp [c1, c2]⟩
  · exact ⟨_, by simp [Try.f104, t1, g, ldVar, c1]; rfl, by simp [t1], by simp [t3], by simp [c1]⟩
set_option maxRecDepth 20000 in
theorem supS3 {S : Sup} {p : Nat} {h : AH} {b3 b4 : Bool} (g : h.get p = some (.cells 49 false (suC S))) (m : Nat) (hm : 1 ≤ m) (τ : Tm) (t1 : τ 1 = .ptr p 0) (t3 : τ 3 = .bool b3) (t4 : τ 4 = .bool b4) :
    resM Try.prog [.tmp 2] (evAt Try.prog (ev Try.prog m) m 104 15 τ h) = some (.bool (b3 && b4 && decide (prs S)), h) := by
  simp only [suC] at g
  obtain ⟨sv, cw, sw, tw, ow, pc, ps, ptw, pow⟩ := S
  simp only at g
  have e1 := fun H => l05VarF_ev pc H m hm
  have e2 := fun H => l05VarF_ev ps H m hm
  rw [at_M Try.func104 15 (by decide) 4 (by decide) (by kernel_rfl) []]
  unfold prs
  simp only
  cases b3
  · simp [Try.f104, t1, t3, t4, g, ldVar, U]
  cases b4
  · simp [Try.f104, t1, t3, t4, g, ldVar, U]
  by_cases c1 : inW pc
  · by_cases c2 : inW ps
    · by_cases c3 : 0 ≤ ptw
      · by_cases c4 : ptw ≤ 1152921504606846976
        · by_cases c5 : 0 ≤ pow
          · by_cases c6 : pow ≤ 1152921504606846976 <;> simp [Try.f104, t1, t3, t4, g, ldVar, e1, e2, c1, c2, c3, c4, c5, c6]
          · simp [Try.f104, t1, t3, t4, g, ldVar, e1, e2, c1, c2, c3, c4, c5]
        · simp [Try.f104, t1, t3, t4, g, ldVar, e1, e2, c1, c2, c3, c4]
      · simp [Try.f104, t1, t3, t4, g, ldVar, e1, e2, c1, c2, c3]
    · simp [Try.f104, t1, t3, t4, g, ldVar, e1, e2, c1, c2]
  · simp [Try.f104, t1, t3, t4, g, ldVar, e1, e2, c1]
theorem supS_ev (S : Sup) (H : AH) (m : Nat) (hm : 2 ≤ m) : ev Try.prog m 104 [.agg (suC S)] H = some (.bool (decide S.ok), H.push (.cells 49 false (suC S))) := by
  obtain ⟨m, rfl⟩ : ∃ k, m = k + 1 := ⟨m - 1, by omega⟩
  have hh : ∃ τ', ev Try.prog (m + 1) 104 [.agg (suC S)] H = resM Try.prog [.tmp 2] (evAt Try.prog (ev Try.prog m) m 104 3 τ' (H.push (.cells 49 false (suC S)))) ∧ τ' 1 = .ptr H.next 0 := by
    simp only [suC]
    rw [ev_M Try.func104 ok104 [3] m _ H (by simp [Try.f104])]
    exact ⟨_, by simp [Try.f104, tm0]; rfl, by simp⟩
  obtain ⟨τ1, e1, t1⟩ := hh
  have g : (H.push (.cells 49 false (suC S))).get H.next = some (.cells 49 false (suC S)) := by simp
  obtain ⟨τ2, e2, u1, u3⟩ := supS1 g m τ1 t1
  obtain ⟨τ3, e3, v1, v3, v4⟩ := supS2 g m τ2 u1 u3
  have e4 := supS3 g m (by omega) τ3 v1 v3 v4
  rw [e1, e2, e3, e4]
  have : (decide (wdw S) && decide (wys S) && decide (prs S)) = decide S.ok := by
    rw [Bool.eq_iff_iff]; simp [supOK_iff, and_assoc]
  rw [this]
set_option maxRecDepth 20000 in
theorem supI_ev (S : Sup) (H : AH) (m : Nat) (hm : 2 ≤ m) : ev Try.prog m 108 [.agg (suC S)] H = some (.bool (decide S.ok), H.push (.cells 49 false (suC S))) := by
  obtain ⟨m, rfl⟩ : ∃ k, m = k + 1 := ⟨m - 1, by omega⟩
  have e0 := fun x lo hi H => within_ev x lo hi H m (by omega)
  have e1 := fun x H => inVarF_ev x H m (by omega)
  have hd : decide S.ok = decide ((1 ≤ S.cw ∧ S.cw ≤ 16384) ∧ (1 ≤ S.sw ∧ S.sw ≤ 16384) ∧ (0 ≤ S.tw ∧ S.tw ≤ 64) ∧ (0 ≤ S.ow ∧ S.ow ≤ 64) ∧ inW S.pc ∧ inW S.ps ∧ (0 ≤ S.ptw ∧ S.ptw ≤ 1152921504606846976) ∧ (0 ≤ S.pow ∧ S.pow ≤ 1152921504606846976)) := by
    rw [Bool.eq_iff_iff]; simp only [decide_eq_true_eq]
    exact ⟨fun h => ⟨h.cw, h.sw, h.tw, h.ow, h.pc, h.ps, h.ptw, h.pow⟩, fun ⟨a, b, c, d, e, f, g, i⟩ => ⟨a, b, c, d, e, f, g, i⟩⟩
  rw [hd]
  obtain ⟨sv, cw, sw, tw, ow, pc, ps, ptw, pow⟩ := S
  simp only [suC]
  rw [ev_M Try.func108 ok108 [] m _ H (by simp [Try.f108])]
  by_cases c1 : 1 ≤ cw ∧ cw ≤ 16384
  · by_cases c2 : 1 ≤ sw ∧ sw ≤ 16384
    · by_cases c3 : 0 ≤ tw ∧ tw ≤ 64
      · by_cases c4 : 0 ≤ ow ∧ ow ≤ 64
        · by_cases c5 : inW pc
          · by_cases c6 : inW ps
            · by_cases c7 : 0 ≤ ptw ∧ ptw ≤ 1152921504606846976
              · by_cases c8 : 0 ≤ pow ∧ pow ≤ 1152921504606846976 <;> simp [Try.f108, tm0, ldVar, e0, e1, c1, c2, c3, c4, c5, c6, c7, c8, -Bool.decide_and]
              · simp [Try.f108, tm0, ldVar, e0, e1, c1, c2, c3, c4, c5, c6, c7, U, -Bool.decide_and]
            · simp [Try.f108, tm0, ldVar, e0, e1, c1, c2, c3, c4, c5, c6, U, -Bool.decide_and]
          · simp [Try.f108, tm0, ldVar, e0, e1, c1, c2, c3, c4, c5, U, -Bool.decide_and]
        · simp [Try.f108, tm0, ldVar, e0, e1, c1, c2, c3, c4, U, -Bool.decide_and]
      · simp [Try.f108, tm0, ldVar, e0, e1, c1, c2, c3, U, -Bool.decide_and]
    · simp [Try.f108, tm0, ldVar, e0, e1, c1, c2, U, -Bool.decide_and]
  · simp [Try.f108, tm0, ldVar, e0, e1, c1, U, -Bool.decide_and]
end Go.Ev
