/- Lemmas of an evaluator of the given code and of what the functions answer; no condition of its own. -/
import Derived.Test.YtnoacfilglgbgaaEv20
/- The source that the drawn laws draw from: a byte, a number below a bound. -/
namespace Go.Ev
open Go Go.Proofs
set_option linter.unusedSimpArgs false
set_option linter.unusedVariables false

structure Src where
  l : List Int
  pos : Nat
  mix : Int
def srcC (v : AV) (S : Src) : List AV := [v, .int .i64 S.pos, .int .i64 S.mix]
structure SrcI (H : AH) (q : Nat) (v : AV) (S : Src) (bs : List Nat) : Prop where
  get : H.get q = some (.cells 259 false (srcC v S))
  lt : q < H.next
  nin : q ∉ bs
  row : (Ty.sl 5 (.int .u8)).R false H [v] S.l bs
  pos : S.pos ≤ 1099511627776
  mix : 0 ≤ S.mix ∧ S.mix < 2147483648
  len : S.l.length ≤ 1048576
def byteP (S : Src) : Int × Src :=
  if h : S.pos + 1 ≤ S.l.length then (S.l[S.pos], { S with pos := S.pos + 1, mix := (S.mix * 31 + S.l[S.pos] + 7) % 2147483648 })
  else if S.pos + 1 > 4000 + 4 * S.l.length then (0, { S with pos := S.pos + 1 })
  else ((S.mix * 1103515245 + 12345) % 2147483648 / 65536 % 256, { S with pos := S.pos + 1, mix := (S.mix * 1103515245 + 12345) % 2147483648 })
theorem SrcI.at_ {H : AH} {q : Nat} {v : AV} {S : Src} {bs : List Nat} (h : SrcI H q v S bs) {k : Nat} (hk : k < S.l.length) :
    ∃ b o e ro xs, idxA Try.prog 34 v (.int .i64 k) = some (.ptr b o) ∧ H.get b = some (.cells e ro xs) ∧ xs[o]? = some (.int .u8 S.l[k]) ∧ 0 ≤ S.l[k] ∧ S.l[k] ≤ 255 ∧ b ≠ q := by
  obtain ⟨b, o, ro, x1, c, x2, bk, u1, u2, u3, u4, u5, u6, u7, u8⟩ := Ty.R.at_ h.row (P := Try.prog) (T := 34) (by simp) (by simp [Ty.n]) (k := k) hk
  obtain ⟨rfl, r1, r2, _⟩ := u5
  refine ⟨b, o, _, ro, _, u1, u3, by rw [List.append_assoc, List.getElem?_append_right (by omega)]; simp [u4], ?_, ?_, fun e => h.nin (by rw [← e]; exact u7)⟩
  · exact r1
  · exact r2
theorem SrcI.set {H : AH} {q : Nat} {v : AV} {S S' : Src} {bs : List Nat} (h : SrcI H q v S bs) (hl : S'.l = S.l) (hp : S'.pos ≤ 1099511627776) (hm : 0 ≤ S'.mix ∧ S'.mix < 2147483648) : SrcI (H.set q (.cells 259 false (srcC v S'))) q v S' bs :=
  ⟨AH.set_getS _ _ _, h.lt, h.nin, by rw [hl]; exact h.row.stay (by simp) fun b hb => AH.set_getN _ _ (fun e => h.nin (by rw [← e]; exact hb)), hp, hm, by rw [hl]; exact h.len⟩
theorem byteP_in {H : AH} {q : Nat} {v : AV} {S : Src} {bs : List Nat} (h : SrcI H q v S bs) : 0 ≤ (byteP S).1 ∧ (byteP S).1 ≤ 255 ∧ (byteP S).2.l = S.l ∧ (byteP S).2.pos = S.pos + 1 ∧ 0 ≤ (byteP S).2.mix ∧ (byteP S).2.mix < 2147483648 := by
  have hm := h.mix
  unfold byteP
  split
  · rename_i h1
    obtain ⟨b, o, e, ro, xs, u1, u2, u3, u4, u5, u6⟩ := h.at_ (k := S.pos) (by omega)
    exact ⟨u4, u5, rfl, rfl, Int.emod_nonneg _ (by omega), Int.emod_lt_of_pos _ (by omega)⟩
  · split
    · exact ⟨by simp, by simp, rfl, rfl, hm⟩
    · refine ⟨Int.emod_nonneg _ (by omega), ?_, rfl, rfl, Int.emod_nonneg _ (by omega), Int.emod_lt_of_pos _ (by omega)⟩
      have := Int.emod_lt_of_pos ((S.mix * 1103515245 + 12345) % 2147483648 / 65536) (b := 256) (by omega)
      simp only; omega
end Go.Ev

/- The source: a byte, by the evaluator. -/
namespace Go.Ev
open Go Go.Proofs
set_option linter.unusedSimpArgs false
set_option linter.unusedVariables false

set_option maxRecDepth 20000 in
theorem byte_ev {H : AH} {q : Nat} {v : AV} {S : Src} {bs : List Nat} (h : SrcI H q v S bs) (hp : S.pos < 1099511627776) (m : Nat) (hm : 1 ≤ m) :
    ev Try.prog m 198 [.ptr q 0] H = some (.int .i64 (byteP S).1, H.set q (.cells 259 false (srcC v (byteP S).2))) := by
  obtain ⟨m, rfl⟩ : ∃ k, m = k + 1 := ⟨m - 1, by omega⟩
  have hg := h.get
  have hmx := h.mix
  have hle := h.len
  have hL := Ty.R.lenA h.row (P := Try.prog) (T := 34) (by simp)
  have w1 := wrap_i64 (n := (S.pos : Int) + 1) (by omega) (by omega)
  have w2 := wrap_i64 (n := (S.pos : Int)) (by omega) (by omega)
  simp only [srcC] at hg
  rw [ev_eq Try.func198 ok198 m _ H (by simp [Try.f198])]
  unfold byteP
  by_cases c1 : S.pos + 1 ≤ S.l.length
  · rw [dif_pos c1]
    obtain ⟨b, o, e, ro, xs, u1, u2, u3, u4, u5, u6⟩ := h.at_ (k := S.pos) (by omega)
    have c1' : (S.pos : Int) + 1 ≤ S.l.length := by omega
    have hqb : ¬ (q = b) := Ne.symm u6
    generalize S.l[S.pos] = x at *
    have cv : ∀ h, convA Try.prog 5 3 (.int .u8 x) h = some (.int .i64 x, h) := fun h => (conv_int (ds := .int .u8) (k := .i64) (by simp) (by simp)).trans (by rw [wrap_i64 (by omega) (by omega)])
    have w3 := wrap_i64 (n := S.mix * 31) (by omega) (by omega)
    have w4 := wrap_i64 (n := S.mix * 31 + x) (by omega) (by omega)
    have w5 := wrap_i64 (n := S.mix * 31 + x + 7) (by omega) (by omega)
    have t5 : (S.mix * 31 + x + 7).tmod 2147483648 = (S.mix * 31 + x + 7) % 2147483648 := Int.tmod_eq_emod_of_nonneg (by omega)
    have w6 := wrap_i64 (n := (S.mix * 31 + x + 7) % 2147483648) (by omega) (by omega)
    simp [Try.f198, ldVar, stVar, spl, srcC, hg, w1, w2, hL, c1', u1, u2, u3, u6, hqb, cv, w3, w4, w5, t5, w6, evHist, ObsOk, ObOk, List.getElem?_cons_zero]
  · rw [dif_neg c1]
    have c1' : ¬ ((S.pos : Int) + 1 ≤ S.l.length) := by omega
    have w7 := wrap_i64 (n := 4 * (S.l.length : Int)) (by omega) (by omega)
    have w8 := wrap_i64 (n := 4000 + 4 * (S.l.length : Int)) (by omega) (by omega)
    by_cases c2 : S.pos + 1 > 4000 + 4 * S.l.length
    · rw [if_pos c2]
      have c2' : 4000 + 4 * (S.l.length : Int) < (S.pos : Int) + 1 := by omega
      simp [Try.f198, ldVar, stVar, spl, srcC, hg, w1, w2, hL, c1', w7, w8, c2', evHist, ObsOk, ObOk, List.getElem?_cons_zero]
    · rw [if_neg c2]
      have c2' : ¬ (4000 + 4 * (S.l.length : Int) < (S.pos : Int) + 1) := by omega
      have w9 := wrap_i64 (n := S.mix * 1103515245) (by omega) (by omega)
      have w10 := wrap_i64 (n := S.mix * 1103515245 + 12345) (by omega) (by omega)
      have t6 : (S.mix * 1103515245 + 12345).tmod 2147483648 = (S.mix * 1103515245 + 12345) % 2147483648 := Int.tmod_eq_emod_of_nonneg (by omega)
      have y0 := Int.emod_nonneg (S.mix * 1103515245 + 12345) (b := 2147483648) (by omega)
      have y1 := Int.emod_lt_of_pos (S.mix * 1103515245 + 12345) (b := 2147483648) (by omega)
      generalize hY : (S.mix * 1103515245 + 12345) % 2147483648 = Y at *
      have w11 := wrap_i64 (n := Y) (by omega) (by omega)
      have t7 : Y.tdiv 65536 = Y / 65536 := Int.tdiv_eq_ediv_of_nonneg (by omega)
      have w12 := wrap_i64 (n := Y / 65536) (by omega) (by omega)
      have t8 : (Y / 65536).tmod 256 = Y / 65536 % 256 := Int.tmod_eq_emod_of_nonneg (by omega)
      have w13 := wrap_i64 (n := Y / 65536 % 256) (by omega) (by omega)
      simp [Try.f198, ldVar, stVar, spl, srcC, hg, w1, w2, hL, c1', w7, w8, c2', w9, w10, t6, w11, t7, w12, t8, w13, evHist, ObsOk, ObOk, List.getElem?_cons_zero]
end Go.Ev

/- The source: a number below a bound, a chance. -/
namespace Go.Ev
open Go Go.Proofs
set_option linter.unusedSimpArgs false
set_option linter.unusedVariables false

def nextP (n : Int) (S : Src) : Int × Src :=
  if n ≤ 1 then (0, S)
  else if n ≤ 256 then ((byteP S).1 % n, (byteP S).2)
  else (((byteP S).1 * 65536 + (byteP (byteP S).2).1 * 256 + (byteP (byteP (byteP S).2).2).1) % n, (byteP (byteP (byteP S).2).2).2)
theorem SrcI.byte {H : AH} {q : Nat} {v : AV} {S : Src} {bs : List Nat} (h : SrcI H q v S bs) (hp : S.pos < 1099511627776) : SrcI (H.set q (.cells 259 false (srcC v (byteP S).2))) q v (byteP S).2 bs := by
  obtain ⟨h1, h2, h3, h4, h5, h6⟩ := byteP_in h
  exact h.set h3 (by omega) ⟨h5, h6⟩
theorem next_ev {H : AH} {q : Nat} {v : AV} {S : Src} {bs : List Nat} (h : SrcI H q v S bs) (hp : S.pos + 3 ≤ 1099511627776) {n : Int} (hn : n ≤ 1099511627776) (m : Nat) (hm : 2 ≤ m) :
    ev Try.prog m 100 [.ptr q 0, .int .i64 n] H = some (.int .i64 (nextP n S).1, H.set q (.cells 259 false (srcC v (nextP n S).2))) := by
  obtain ⟨m, rfl⟩ : ∃ k, m = k + 1 := ⟨m - 1, by omega⟩
  have hg := h.get
  rw [ev_eq Try.func100 ok100 m _ H (by simp [Try.f100])]
  unfold nextP
  by_cases c1 : n ≤ 1
  · rw [if_pos c1, AH.set_same _ _ _ hg]
    simp [Try.f100, c1]
  · rw [if_neg c1]
    have e1 := byte_ev h (by omega) m (by omega)
    obtain ⟨a1, a2, a3, a4, a5, a6⟩ := byteP_in h
    have hnz : ¬ (n = 0) := by omega
    by_cases c2 : n ≤ 256
    · rw [if_pos c2]
      have t1 : (byteP S).1.tmod n = (byteP S).1 % n := Int.tmod_eq_emod_of_nonneg a1
      have y0 := Int.emod_nonneg (byteP S).1 hnz
      have y1 := Int.emod_lt_of_pos (byteP S).1 (b := n) (by omega)
      have w1 := wrap_i64 (n := (byteP S).1 % n) (by omega) (by omega)
      simp [Try.f100, c1, c2, e1, hnz, t1, w1]
    · rw [if_neg c2]
      have h1 := h.byte (by omega)
      have e2 := byte_ev h1 (by omega) m (by omega)
      obtain ⟨b1, b2, b3, b4, b5, b6⟩ := byteP_in h1
      have h2 := h1.byte (by omega)
      have e3 := byte_ev h2 (by omega) m (by omega)
      obtain ⟨d1, d2, d3, d4, d5, d6⟩ := byteP_in h2
      rw [set_set] at e2 e3
      rw [set_set] at e3
      generalize hx : (byteP S).1 = x at *
      generalize hS1 : (byteP S).2 = S1 at *
      generalize hy : (byteP S1).1 = y at *
      generalize hS2 : (byteP S1).2 = S2 at *
      generalize hz : (byteP S2).1 = z at *
      generalize hS3 : (byteP S2).2 = S3 at *
      have w1 := wrap_i64 (n := x * 65536) (by omega) (by omega)
      have w2 := wrap_i64 (n := y * 256) (by omega) (by omega)
      have w3 := wrap_i64 (n := x * 65536 + y * 256) (by omega) (by omega)
      have w4 := wrap_i64 (n := x * 65536 + y * 256 + z) (by omega) (by omega)
      have t1 : (x * 65536 + y * 256 + z).tmod n = (x * 65536 + y * 256 + z) % n := Int.tmod_eq_emod_of_nonneg (by omega)
      have y0 := Int.emod_nonneg (x * 65536 + y * 256 + z) hnz
      have y1 := Int.emod_lt_of_pos (x * 65536 + y * 256 + z) (b := n) (by omega)
      have w5 := wrap_i64 (n := (x * 65536 + y * 256 + z) % n) (by omega) (by omega)
      simp [Try.f100, c1, c2, e1, e2, e3, hnz, w1, w2, w3, w4, t1, w5]
end Go.Ev

/- The source: what a draw leaves; chance, size, an odd number. -/
namespace Go.Ev
open Go Go.Proofs
set_option linter.unusedSimpArgs false
set_option linter.unusedVariables false

theorem nextP_pos {n : Int} {S : Src} : (nextP n S).2.pos ≤ S.pos + 3 ∧ (nextP n S).2.l = S.l := by
  have hb : ∀ S : Src, (byteP S).2.pos = S.pos + 1 ∧ (byteP S).2.l = S.l := fun S => by
    unfold byteP; split
    · exact ⟨rfl, rfl⟩
    · split <;> exact ⟨rfl, rfl⟩
  have h1 := hb S
  have h2 := hb (byteP S).2
  have h3 := hb (byteP (byteP S).2).2
  unfold nextP
  split
  · exact ⟨by simp, rfl⟩
  · split
    · exact ⟨by simp only; omega, h1.2⟩
    · exact ⟨by simp only; omega, by simp only; rw [h3.2, h2.2, h1.2]⟩
theorem SrcI.next {H : AH} {q : Nat} {v : AV} {S : Src} {bs : List Nat} (h : SrcI H q v S bs) (hp : S.pos + 3 ≤ 1099511627776) (n : Int) : SrcI (H.set q (.cells 259 false (srcC v (nextP n S).2))) q v (nextP n S).2 bs := by
  have h1 := h.byte (by omega)
  have a1 := (byteP_in h).2.2.2.1
  have h2 := h1.byte (by omega)
  have a2 := (byteP_in h1).2.2.2.1
  have h3 := h2.byte (by omega)
  rw [set_set] at h2
  rw [set_set, set_set] at h3
  unfold nextP
  split
  · simp only; rw [AH.set_same _ _ _ h.get]; exact h
  · split
    · exact h1
    · exact h3
theorem nextP_in {H : AH} {q : Nat} {v : AV} {S : Src} {bs : List Nat} (h : SrcI H q v S bs) (hp : S.pos + 3 ≤ 1099511627776) (n : Int) : 0 ≤ (nextP n S).1 ∧ (nextP n S).1 < mxI 1 n := by
  unfold nextP mxI
  split
  · simp only; split <;> omega
  · split
    · have y0 := Int.emod_nonneg (byteP S).1 (b := n) (by omega)
      have y1 := Int.emod_lt_of_pos (byteP S).1 (b := n) (by omega)
      simp only; split <;> omega
    · simp only
      have y0 := Int.emod_nonneg ((byteP S).1 * 65536 + (byteP (byteP S).2).1 * 256 + (byteP (byteP (byteP S).2).2).1) (b := n) (by omega)
      have y1 := Int.emod_lt_of_pos ((byteP S).1 * 65536 + (byteP (byteP S).2).1 * 256 + (byteP (byteP (byteP S).2).2).1) (b := n) (by omega)
      split <;> omega
def chanceP (n : Int) (S : Src) : Bool × Src := (decide ((nextP n S).1 = n - 1), (nextP n S).2)
theorem chance_ev {H : AH} {q : Nat} {v : AV} {S : Src} {bs : List Nat} (h : SrcI H q v S bs) (hp : S.pos + 3 ≤ 1099511627776) {n : Int} (h0 : 0 ≤ n) (hn : n ≤ 1099511627776) (m : Nat) (hm : 3 ≤ m) :
    ev Try.prog m 101 [.ptr q 0, .int .i64 n] H = some (.bool (chanceP n S).1, H.set q (.cells 259 false (srcC v (chanceP n S).2))) := by
  obtain ⟨m, rfl⟩ : ∃ k, m = k + 1 := ⟨m - 1, by omega⟩
  have e1 := next_ev h hp hn m (by omega)
  have w1 := wrap_i64 (n := n - 1) (by omega) (by omega)
  rw [ev_eq Try.func101 ok101 m _ H (by simp [Try.f101])]
  simp [Try.f101, e1, w1, chanceP]
  rw [Bool.eq_iff_iff]; simp
def sizeP (n : Int) (S : Src) : Int := miI (1 + S.l.length / 12) n
theorem size_ev {H : AH} {q : Nat} {v : AV} {S : Src} {bs : List Nat} (h : SrcI H q v S bs) (n : Int) (m : Nat) (hm : 1 ≤ m) :
    ev Try.prog m 102 [.ptr q 0, .int .i64 n] H = some (.int .i64 (sizeP n S), H) := by
  obtain ⟨m, rfl⟩ : ∃ k, m = k + 1 := ⟨m - 1, by omega⟩
  have hg := h.get
  have hle := h.len
  have hL := Ty.R.lenA h.row (P := Try.prog) (T := 34) (by simp)
  have t1 : (S.l.length : Int).tdiv 12 = S.l.length / 12 := Int.tdiv_eq_ediv_of_nonneg (by omega)
  have w1 := wrap_i64 (n := (S.l.length : Int) / 12) (by omega) (by omega)
  have w2 := wrap_i64 (n := 1 + (S.l.length : Int) / 12) (by omega) (by omega)
  simp only [srcC] at hg
  rw [ev_eq Try.func102 ok102 m _ H (by simp [Try.f102])]
  simp [Try.f102, ldVar, hg, hL, t1, w1, w2, sizeP, miI, evHist, ObsOk, ObOk, List.getElem?_cons_zero]
theorem source_ev {H : AH} {v : AV} {l : List Int} {bs : List Nat} (h : (Ty.sl 5 (.int .u8)).R false H [v] l bs) (hv : v.one = true) (hl : l.length ≤ 1048576) (m : Nat) (hm : 1 ≤ m) :
    ev Try.prog m 99 [v] H = some (.ptr H.next 0, H.push (.cells 259 false (srcC v ⟨l, 0, l.length % 1000⟩))) := by
  obtain ⟨m, rfl⟩ : ∃ k, m = k + 1 := ⟨m - 1, by omega⟩
  have hL := Ty.R.lenA h (P := Try.prog) (T := 34) (by simp)
  have t1 : (l.length : Int).tmod 1000 = l.length % 1000 := Int.tmod_eq_emod_of_nonneg (by omega)
  have w1 := wrap_i64 (n := (l.length : Int) % 1000) (by omega) (by omega)
  rw [ev_eq Try.func99 ok99 m _ H (by simp [Try.f99])]
  simp [Try.f99, hL, t1, w1, fillA, spl, srcC, hv, cells_one hv]
theorem source_I {H : AH} {v : AV} {l : List Int} {bs : List Nat} (h : (Ty.sl 5 (.int .u8)).R false H [v] l bs) (hl : l.length ≤ 1048576) :
    SrcI (H.push (.cells 259 false (srcC v ⟨l, 0, l.length % 1000⟩))) H.next v ⟨l, 0, l.length % 1000⟩ bs :=
  ⟨by simp, by simp, fun e => by have := h.mem _ e; omega, h.kp ((Kp.refl H).push _), by simp, by simp only; omega, hl⟩
end Go.Ev

/- The source: an odd number; one of a row of numbers. -/
namespace Go.Ev
open Go Go.Proofs
set_option linter.unusedSimpArgs false
set_option linter.unusedVariables false

def pickP (l : List Int) (S : Src) : Int := (l[(nextP l.length S).1.toNat]?).getD 0
def oddL : List Int := [0, 1, -1, 1000000000000, 1000000000001, 9223372036854775807]
theorem pick_get {l : List Int} {S : Src} {H : AH} {q : Nat} {v : AV} {bs : List Nat} (h : SrcI H q v S bs) (hp : S.pos + 3 ≤ 1099511627776) (hl : 2 ≤ l.length) :
    ∃ k : Nat, (nextP l.length S).1 = k ∧ k < l.length ∧ (l.map (AV.int .i64))[k]? = some (.int .i64 (pickP l S)) := by
  obtain ⟨h0, h1⟩ := nextP_in h hp (l.length : Int)
  unfold mxI at h1
  rw [if_pos (by omega)] at h1
  refine ⟨(nextP l.length S).1.toNat, by omega, by omega, ?_⟩
  have hk : (nextP l.length S).1.toNat < l.length := by omega
  unfold pickP
  rw [List.getElem?_map, List.getElem?_eq_getElem hk]
  rfl
theorem odd_ev {H : AH} {q : Nat} {v : AV} {S : Src} {bs : List Nat} (h : SrcI H q v S bs) (hp : S.pos + 3 ≤ 1099511627776) (m : Nat) (hm : 3 ≤ m) :
    ev Try.prog m 103 [.ptr q 0] H = some (.int .i64 (pickP oddL S), (H.push (.cells 3 false (oddL.map (.int .i64)))).set q (.cells 259 false (srcC v (nextP 6 S).2))) := by
  obtain ⟨m, rfl⟩ : ∃ k, m = k + 1 := ⟨m - 1, by omega⟩
  have hq := h.lt
  have hK : Kp H (H.push (.cells 3 false (oddL.map (.int .i64)))) := (Kp.refl H).push _
  have h' : SrcI (H.push (.cells 3 false (oddL.map (.int .i64)))) q v S bs := ⟨by rw [hK.get q hq]; exact h.get, by have := hK.next; omega, h.nin, h.row.kp hK, h.pos, h.mix, h.len⟩
  have e1 := next_ev h' hp (n := 6) (by omega) m (by omega)
  obtain ⟨k, p1, p2, p3⟩ := pick_get (l := oddL) h hp (by simp [oddL])
  have hk6 : (oddL.length : Int) = 6 := rfl
  rw [hk6] at p1
  have hk : k < 6 := by simpa [oddL] using p2
  have hk2 : (k : Int) < 6 := by omega
  have hnq : ¬ (H.next = q) := by omega
  rw [p1] at e1
  simp only [oddL, List.map_cons, List.map_nil] at e1 p3 ⊢
  rw [ev_eq Try.func103 ok103 m _ H (by simp [Try.f103])]
  simp [Try.f103, zerosA, e1, idxA, hk, hk2, ldVar, hnq]
  rw [List.getElem?_eq_getElem (by simpa using hk)] at p3
  exact Option.some.inj p3
end Go.Ev

/- The drawn congestion run, plain. -/
namespace Go.Ev
open Go Go.Proofs
set_option linter.unusedSimpArgs false
set_option linter.unusedVariables false

structure DrS where
  S : Src
  now : Int
  fl : List Int
  tm : List Int
/-- the i-th of a row -/
def lkP (l : List Int) (i : Int) : Int := (l[i.toNat]?).getD 0
theorem lk_get {l : List Int} {k : Nat} (h : k < l.length) : (l.map (AV.int .i64))[k]? = some (.int .i64 (lkP l k)) := by
  unfold lkP; rw [List.getElem?_map, Int.toNat_natCast, List.getElem?_eq_getElem h]; rfl
/-- a kind, a time, the bytes, when sent, the trip, as drawn first -/
def dwA (trip : Int) (x : DrS) : CcOpP × DrS :=
  let r1 := nextP 2000 x.S
  let r2 := nextP 40000 r1.2
  let r3 := nextP 3 r2.2
  let now := x.now + lkP [0, r1.1, r2.1] r3.1
  let r4 := nextP 8 r3.2
  let r5 := nextP 1300 r4.2
  let r6 := nextP 9000 r5.2
  (⟨lkP [1, 1, 1, 2, 2, 2, 3, 4] r4.1, now, 1 + r5.1, 0, trip + r6.1⟩, ⟨r6.2, now, x.fl, x.tm⟩)
/-- what is sent, what is told -/
def dwB (o : CcOpP) (x : DrS) : CcOpP × DrS :=
  if o.k = 1 then (o, { x with fl := x.fl ++ [o.b], tm := x.tm ++ [x.now] })
  else if o.k = 2 ∨ o.k = 3 then
    match x.fl, x.tm with
    | f :: fl, t :: tm => ({ o with b := f, s := t }, { x with fl := fl, tm := tm })
    | _, _ => (o, x)
  else (o, x)
/-- a field that may be odd -/
def dwC (o : CcOpP) (S : Src) : CcOpP × Src :=
  let r := nextP 80 S
  if r.1 = 0 then ({ o with t := pickP oddL r.2 }, (nextP 6 r.2).2)
  else if r.1 = 1 then ({ o with s := pickP oddL r.2 }, (nextP 6 r.2).2)
  else if r.1 = 2 then ({ o with b := lkP [-1, 0, 2000, 2001] (nextP 4 r.2).1 }, (nextP 4 r.2).2)
  else if r.1 = 3 then ({ o with p := lkP [0, 1, 1000000000000, 1000000000001] (nextP 4 r.2).1 }, (nextP 4 r.2).2)
  else if r.1 = 4 then ({ o with k := (nextP 7 r.2).1 - 1 }, (nextP 7 r.2).2)
  else (o, r.2)
def dwD (trip : Int) (x : DrS) : CcOpP × DrS :=
  let a := dwA trip x
  let b := dwB a.1 a.2
  let c := dwC b.1 b.2.S
  (c.1, { b.2 with S := c.2 })
def CcOpP.d (o : CcOpP) : tT40.D := (o.k, o.t, o.b, o.s, o.p)
theorem CcOpP.of_d (o : CcOpP) : CcOpP.of o.d = o := rfl
def dwDraws (trip : Int) : Nat → DrS → List tT40.D
  | 0, _ => []
  | n + 1, x => (dwD trip x).1.d :: dwDraws trip n (dwD trip x).2
def dwHead (l : List Int) : Int × Src :=
  let k := nextP 2 ⟨l, 0, (l.length : Int) % 1000⟩
  let c := chanceP 40 k.2
  if c.1 = true then ((nextP 5 c.2).1 - 1, (nextP 5 c.2).2) else (1 + k.1, c.2)
def drawCcP (l : List Int) : Int × List tT40.D :=
  let h := dwHead l
  let t := nextP 90000 h.2
  let i := nextP (sizeP 150 t.2 + 1) t.2
  (h.1, dwDraws (1000 + t.1) (i.1.toNat + 1) ⟨i.2, 0, [], []⟩)
theorem drawCcP_len (l : List Int) : (drawCcP l).2.length = (nextP (sizeP 150 (nextP 90000 (dwHead l).2).2 + 1) (nextP 90000 (dwHead l).2).2).1.toNat + 1 := by
  have : ∀ trip n x, (dwDraws trip n x).length = n := fun trip n => by
    induction n with
    | zero => intro x; rfl
    | succ n ih => intro x; simp only [dwDraws, List.length_cons, ih]
  simp only [drawCcP]; rw [this]

/-! what a run's answers show -/
/-- an operation's answer, as the law looks at it -/
structure WinOk (kind : Int) (fli wnd : Int) (op : CcOpP) (r : Cc × Bool × Int) : Prop where
  flight : r.1.flight = if r.2.2 = 0 then (if op.k = 1 then fli + op.b else if op.k = 2 ∨ op.k = 3 then fli - op.b else fli) else fli
  win : 2400 ≤ r.1.window ∧ r.1.window ≤ 100000000
  rate : 0 ≤ r.1.rate ∧ r.1.rate ≤ 1000000000000
  fall : kind = 1 → r.1.window < wnd → op.k = 3 ∧ wnd.tdiv 2 ≤ r.1.window
  ask : r.2.2 = 0 → op.k = 4 → r.2.1 = decide (fli + op.b ≤ r.1.window)
  small : r.2.2 = 0 → 0 ≤ op.b ∧ op.b ≤ 2000
theorem ackLossP_up {S : Cc} {op : CcOpP} {n : Nat} (h : S.ok 1 n) (ho : opGood op) : S.window ≤ (ackLossP S op).window := by
  have hw := h.win
  have hb := ho.b
  unfold ackLossP
  split
  · omega
  · split
    · simp only; unfold miI; split <;> omega
    · split <;> (simp only; unfold miI; split <;> omega)
theorem winOk {kind : Int} {n : Nat} {S : Cc} {op : CcOpP} (hkd : kind = 1 ∨ kind = 2) (h : S.ok kind n) (hn : n + 1 ≤ 600) : WinOk kind S.flight S.window op (ccDo kind S op) := by
  have hok := ccDo_ok (op := op) hkd h hn
  refine ⟨?_, hok.win, hok.rate, ?_, ?_, ?_⟩
  · have hack : ∀ S : Cc, (ackLossP S op).flight = S.flight := fun S => by
      unfold ackLossP; repeat' split
      all_goals rfl
    have hlost : ∀ S : Cc, (lostP S op).flight = S.flight := fun S => by unfold lostP; split <;> rfl
    have hmod : ∀ S : Cc, (ackModelP S op).flight = S.flight := fun S => by
      unfold ackModelP ack3P; unfold ack2P; repeat' split
      all_goals rfl
    unfold ccDo
    split
    · simp
    · split
      · simp
      · split
        · rename_i h1; simp [h1]
        · rename_i h1
          split
          · rename_i h2
            split
            · simp [h2, hack]
            · simp [h2, hmod]
          · split
            · rename_i h2 h3
              split
              · simp [h3, hlost]
              · simp [h3]
            · rename_i h2 h3; simp [h1, h2, h3]
  · rintro rfl
    unfold ccDo
    have hfl := h.flight
    split
    · intro hl; simp only at hl; omega
    · rename_i hg
      have ho := opGood.of hg
      have hb := ho.b
      split
      · intro hl; simp only at hl; omega
      · rename_i hs
        split
        · intro hl; simp only at hl; omega
        · split
          · intro hl
            simp only [if_true] at hl
            have := ackLossP_up (op := op) (flight_ok (f := S.flight - op.b) h (by omega) (by omega)) ho
            simp only at this; omega
          · split
            · rename_i h3
              intro hl
              refine ⟨h3, ?_⟩
              have hw := h.win
              have hd := tdiv_le_self (a := S.window) (b := 2) (by omega) (by omega)
              simp only [if_true]
              unfold lostP
              split
              · simp only; omega
              · simp only; unfold mxI; split <;> omega
            · intro hl; simp only at hl; omega
  · unfold ccDo
    split
    · simp
    · split
      · simp
      · intro _ h4
        rw [if_neg (by omega), if_neg (by omega), if_neg (by omega)]
  · unfold ccDo
    split
    · simp
    · rename_i hg
      intro _
      exact (opGood.of hg).b
end Go.Ev
