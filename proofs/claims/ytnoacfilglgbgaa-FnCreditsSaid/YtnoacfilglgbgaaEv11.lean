/- Lemmas of an evaluator of the given code and of what the functions answer; no condition of its own. -/
import Derived.Test.YtnoacfilglgbgaaEv7
import Derived.Test.YtnoacfilglgbgaaEv8
import Derived.Test.YtnoacfilglgbgaaEv10
/- The source that the drawn laws draw from: a byte, a number below a bound. -/
namespace Go.Ev
open Go Go.Proofs
set_option linter.unusedSimpArgs false
set_option linter.unusedVariables false

structure Src where
  l : List Int
  pos : Nat
  mix : Int
def srcC (v : AV) (S : Src) : List AV := [v, .int .i64 S.pos, .int .i64 S.mix]
structure SrcI (H : AH) (q : Nat) (v : AV) (S : Src) (bs : List Nat) : Prop where
  get : H.get q = some (.cells 259 false (srcC v S))
  lt : q < H.next
  nin : q ∉ bs
  row : (Ty.sl 5 (.int .u8)).R false H [v] S.l bs
  pos : S.pos ≤ 1099511627776
  mix : 0 ≤ S.mix ∧ S.mix < 2147483648
  len : S.l.length ≤ 1048576
def byteP (S : Src) : Int × Src :=
  if h : S.pos + 1 ≤ S.l.length then (S.l[S.pos], { S with pos := S.pos + 1, mix := (S.mix * 31 + S.l[S.pos] + 7) % 2147483648 })
  else if S.pos + 1 > 4000 + 4 * S.l.length then (0, { S with pos := S.pos + 1 })
  else ((S.mix * 1103515245 + 12345) % 2147483648 / 65536 % 256, { S with pos := S.pos + 1, mix := (S.mix * 1103515245 + 12345) % 2147483648 })
theorem SrcI.at_ {H : AH} {q : Nat} {v : AV} {S : Src} {bs : List Nat} (h : SrcI H q v S bs) {k : Nat} (hk : k < S.l.length) :
    ∃ b o e ro xs, idxA Try.prog 34 v (.int .i64 k) = some (.ptr b o) ∧ H.get b = some (.cells e ro xs) ∧ xs[o]? = some (.int .u8 S.l[k]) ∧ 0 ≤ S.l[k] ∧ S.l[k] ≤ 255 ∧ b ≠ q := by
  obtain ⟨b, o, ro, x1, c, x2, bk, u1, u2, u3, u4, u5, u6, u7, u8⟩ := Ty.R.at_ h.row (P := Try.prog) (T := 34) (by simp) (by simp [Ty.n]) (k := k) hk
  obtain ⟨rfl, r1, r2, _⟩ := u5
  refine ⟨b, o, _, ro, _, u1, u3, by rw [List.append_assoc, List.getElem?_append_right (by omega)]; simp [u4], ?_, ?_, fun e => h.nin (by rw [← e]; exact u7)⟩
  · exact r1
  · exact r2
theorem SrcI.set {H : AH} {q : Nat} {v : AV} {S S' : Src} {bs : List Nat} (h : SrcI H q v S bs) (hl : S'.l = S.l) (hp : S'.pos ≤ 1099511627776) (hm : 0 ≤ S'.mix ∧ S'.mix < 2147483648) : SrcI (H.set q (.cells 259 false (srcC v S'))) q v S' bs :=
  ⟨AH.set_getS _ _ _, h.lt, h.nin, by rw [hl]; exact h.row.stay (by simp) fun b hb => AH.set_getN _ _ (fun e => h.nin (by rw [← e]; exact hb)), hp, hm, by rw [hl]; exact h.len⟩
theorem byteP_in {H : AH} {q : Nat} {v : AV} {S : Src} {bs : List Nat} (h : SrcI H q v S bs) : 0 ≤ (byteP S).1 ∧ (byteP S).1 ≤ 255 ∧ (byteP S).2.l = S.l ∧ (byteP S).2.pos = S.pos + 1 ∧ 0 ≤ (byteP S).2.mix ∧ (byteP S).2.mix < 2147483648 := by
  have hm := h.mix
  unfold byteP
  split
  · rename_i h1
    obtain ⟨b, o, e, ro, xs, u1, u2, u3, u4, u5, u6⟩ := h.at_ (k := S.pos) (by omega)
    exact ⟨u4, u5, rfl, rfl, Int.emod_nonneg _ (by omega), Int.emod_lt_of_pos _ (by omega)⟩
  · split
    · exact ⟨by simp, by simp, rfl, rfl, hm⟩
    · refine ⟨Int.emod_nonneg _ (by omega), ?_, rfl, rfl, Int.emod_nonneg _ (by omega), Int.emod_lt_of_pos _ (by omega)⟩
      have := Int.emod_lt_of_pos ((S.mix * 1103515245 + 12345) % 2147483648 / 65536) (b := 256) (by omega)
      simp only; omega
end Go.Ev

/- The source: a byte, by the evaluator. -/
namespace Go.Ev
open Go Go.Proofs
set_option linter.unusedSimpArgs false
set_option linter.unusedVariables false

set_option maxRecDepth 20000 in
theorem byte_ev {H : AH} {q : Nat} {v : AV} {S : Src} {bs : List Nat} (h : SrcI H q v S bs) (hp : S.pos < 1099511627776) (m : Nat) (hm : 1 ≤ m) :
    ev Try.prog m 198 [.ptr q 0] H = some (.int .i64 (byteP S).1, H.set q (.cells 259 false (srcC v (byteP S).2))) := by
  obtain ⟨m, rfl⟩ : ∃ k, m = k + 1 := ⟨m - 1, by omega⟩
  have hg := h.get
  have hmx := h.mix
  have hle := h.len
  have hL := Ty.R.lenA h.row (P := Try.prog) (T := 34) (by simp)
  have w1 := wrap_i64 (n := (S.pos : Int) + 1) (by omega) (by omega)
  have w2 := wrap_i64 (n := (S.pos : Int)) (by omega) (by omega)
  simp only [srcC] at hg
  rw [ev_eq Try.func198 ok198 m _ H (by simp [Try.f198])]
  unfold byteP
  by_cases c1 : S.pos + 1 ≤ S.l.length
  · rw [dif_pos c1]
    obtain ⟨b, o, e, ro, xs, u1, u2, u3, u4, u5, u6⟩ := h.at_ (k := S.pos) (by omega)
    have c1' : (S.pos : Int) + 1 ≤ S.l.length := by omega
    have hqb : ¬ (q = b) := Ne.symm u6
    generalize S.l[S.pos] = x at *
    have cv : ∀ h, convA Try.prog 5 3 (.int .u8 x) h = some (.int .i64 x, h) := fun h => (conv_int (ds := .int .u8) (k := .i64) (by simp) (by simp)).trans (by rw [wrap_i64 (by omega) (by omega)])
    have w3 := wrap_i64 (n := S.mix * 31) (by omega) (by omega)
    have w4 := wrap_i64 (n := S.mix * 31 + x) (by omega) (by omega)
    have w5 := wrap_i64 (n := S.mix * 31 + x + 7) (by omega) (by omega)
    have t5 : (S.mix * 31 + x + 7).tmod 2147483648 = (S.mix * 31 + x + 7) % 2147483648 := Int.tmod_eq_emod_of_nonneg (by omega)
    have w6 := wrap_i64 (n := (S.mix * 31 + x + 7) % 2147483648) (by omega) (by omega)
    simp [Try.f198, ldVar, stVar, spl, srcC, hg, w1, w2, hL, c1', u1, u2, u3, u6, hqb, cv, w3, w4, w5, t5, w6, evHist, ObsOk, ObOk, List.getElem?_cons_zero]
  · rw [dif_neg c1]
    have c1' : ¬ ((S.pos : Int) + 1 ≤ S.l.length) := by omega
    have w7 := wrap_i64 (n := 4 * (S.l.length : Int)) (by omega) (by omega)
    have w8 := wrap_i64 (n := 4000 + 4 * (S.l.length : Int)) (by omega) (by omega)
    by_cases c2 : S.pos + 1 > 4000 + 4 * S.l.length
    · rw [if_pos c2]
      have c2' : 4000 + 4 * (S.l.length : Int) < (S.pos : Int) + 1 := by omega
      simp [Try.f198, ldVar, stVar, spl, srcC, hg, w1, w2, hL, c1', w7, w8, c2', evHist, ObsOk, ObOk, List.getElem?_cons_zero]
    · rw [if_neg c2]
      have c2' : ¬ (4000 + 4 * (S.l.length : Int) < (S.pos : Int) + 1) := by omega
      have w9 := wrap_i64 (n := S.mix * 1103515245) (by omega) (by omega)
      have w10 := wrap_i64 (n := S.mix * 1103515245 + 12345) (by omega) (by omega)
      have t6 : (S.mix * 1103515245 + 12345).tmod 2147483648 = (S.mix * 1103515245 + 12345) % 2147483648 := Int.tmod_eq_emod_of_nonneg (by omega)
      have y0 := Int.emod_nonneg (S.mix * 1103515245 + 12345) (b := 2147483648) (by omega)
      have y1 := Int.emod_lt_of_pos (S.mix * 1103515245 + 12345) (b := 2147483648) (by omega)
      generalize hY : (S.mix * 1103515245 + 12345) % 2147483648 = Y at *
      have w11 := wrap_i64 (n := Y) (by omega) (by omega)
      have t7 : Y.tdiv 65536 = Y / 65536 := Int.tdiv_eq_ediv_of_nonneg (by omega)
      have w12 := wrap_i64 (n := Y / 65536) (by omega) (by omega)
      have t8 : (Y / 65536).tmod 256 = Y / 65536 % 256 := Int.tmod_eq_emod_of_nonneg (by omega)
      have w13 := wrap_i64 (n := Y / 65536 % 256) (by omega) (by omega)
      simp [Try.f198, ldVar, stVar, spl, srcC, hg, w1, w2, hL, c1', w7, w8, c2', w9, w10, t6, w11, t7, w12, t8, w13, evHist, ObsOk, ObOk, List.getElem?_cons_zero]
end Go.Ev

/- The source: a number below a bound, a chance. -/
namespace Go.Ev
open Go Go.Proofs
set_option linter.unusedSimpArgs false
set_option linter.unusedVariables false

def nextP (n : Int) (S : Src) : Int × Src :=
  if n ≤ 1 then (0, S)
  else if n ≤ 256 then ((byteP S).1 % n, (byteP S).2)
  else (((byteP S).1 * 65536 + (byteP (byteP S).2).1 * 256 + (byteP (byteP (byteP S).2).2).1) % n, (byteP (byteP (byteP S).2).2).2)
theorem SrcI.byte {H : AH} {q : Nat} {v : AV} {S : Src} {bs : List Nat} (h : SrcI H q v S bs) (hp : S.pos < 1099511627776) : SrcI (H.set q (.cells 259 false (srcC v (byteP S).2))) q v (byteP S).2 bs := by
  obtain ⟨h1, h2, h3, h4, h5, h6⟩ := byteP_in h
  exact h.set h3 (by omega) ⟨h5, h6⟩
theorem next_ev {H : AH} {q : Nat} {v : AV} {S : Src} {bs : List Nat} (h : SrcI H q v S bs) (hp : S.pos + 3 ≤ 1099511627776) {n : Int} (hn : n ≤ 1099511627776) (m : Nat) (hm : 2 ≤ m) :
    ev Try.prog m 100 [.ptr q 0, .int .i64 n] H = some (.int .i64 (nextP n S).1, H.set q (.cells 259 false (srcC v (nextP n S).2))) := by
  obtain ⟨m, rfl⟩ : ∃ k, m = k + 1 := ⟨m - 1, by omega⟩
  have hg := h.get
  rw [ev_eq Try.func100 ok100 m _ H (by simp [Try.f100])]
  unfold nextP
  by_cases c1 : n ≤ 1
  · rw [if_pos c1, AH.set_same _ _ _ hg]
    simp [Try.f100, c1]
  · rw [if_neg c1]
    have e1 := byte_ev h (by omega) m (by omega)
    obtain ⟨a1, a2, a3, a4, a5, a6⟩ := byteP_in h
    have hnz : ¬ (n = 0) := by omega
    by_cases c2 : n ≤ 256
    · rw [if_pos c2]
      have t1 : (byteP S).1.tmod n = (byteP S).1 % n := Int.tmod_eq_emod_of_nonneg a1
      have y0 := Int.emod_nonneg (byteP S).1 hnz
      have y1 := Int.emod_lt_of_pos (byteP S).1 (b := n) (by omega)
      have w1 := wrap_i64 (n := (byteP S).1 % n) (by omega) (by omega)
      simp [Try.f100, c1, c2, e1, hnz, t1, w1]
    · rw [if_neg c2]
      have h1 := h.byte (by omega)
      have e2 := byte_ev h1 (by omega) m (by omega)
      obtain ⟨b1, b2, b3, b4, b5, b6⟩ := byteP_in h1
      have h2 := h1.byte (by omega)
      have e3 := byte_ev h2 (by omega) m (by omega)
      obtain ⟨d1, d2, d3, d4, d5, d6⟩ := byteP_in h2
      rw [set_set] at e2 e3
      rw [set_set] at e3
      generalize hx : (byteP S).1 = x at *
      generalize hS1 : (byteP S).2 = S1 at *
      generalize hy : (byteP S1).1 = y at *
      generalize hS2 : (byteP S1).2 = S2 at *
      generalize hz : (byteP S2).1 = z at *
      generalize hS3 : (byteP S2).2 = S3 at *
      have w1 := wrap_i64 (n := x * 65536) (by omega) (by omega)
      have w2 := wrap_i64 (n := y * 256) (by omega) (by omega)
      have w3 := wrap_i64 (n := x * 65536 + y * 256) (by omega) (by omega)
      have w4 := wrap_i64 (n := x * 65536 + y * 256 + z) (by omega) (by omega)
      have t1 : (x * 65536 + y * 256 + z).tmod n = (x * 65536 + y * 256 + z) % n := Int.tmod_eq_emod_of_nonneg (by omega)
      have y0 := Int.emod_nonneg (x * 65536 + y * 256 + z) hnz
      have y1 := Int.emod_lt_of_pos (x * 65536 + y * 256 + z) (b := n) (by omega)
      have w5 := wrap_i64 (n := (x * 65536 + y * 256 + z) % n) (by omega) (by omega)
      simp [Try.f100, c1, c2, e1, e2, e3, hnz, w1, w2, w3, w4, t1, w5]
end Go.Ev

/- The source: what a draw leaves; chance, size, an odd number. -/
namespace Go.Ev
open Go Go.Proofs
set_option linter.unusedSimpArgs false
set_option linter.unusedVariables false

theorem nextP_pos {n : Int} {S : Src} : (nextP n S).2.pos ≤ S.pos + 3 ∧ (nextP n S).2.l = S.l := by
  have hb : ∀ S : Src, (byteP S).2.pos = S.pos + 1 ∧ (byteP S).2.l = S.l := fun S => by
    unfold byteP; split
    · exact ⟨rfl, rfl⟩
    · split <;> exact ⟨rfl, rfl⟩
  have h1 := hb S
  have h2 := hb (byteP S).2
  have h3 := hb (byteP (byteP S).2).2
  unfold nextP
  split
  · exact ⟨by simp, rfl⟩
  · split
    · exact ⟨by simp only; omega, h1.2⟩
    · exact ⟨by simp only; omega, by simp only; rw [h3.2, h2.2, h1.2]⟩
theorem SrcI.next {H : AH} {q : Nat} {v : AV} {S : Src} {bs : List Nat} (h : SrcI H q v S bs) (hp : S.pos + 3 ≤ 1099511627776) (n : Int) : SrcI (H.set q (.cells 259 false (srcC v (nextP n S).2))) q v (nextP n S).2 bs := by
  have h1 := h.byte (by omega)
  have a1 := (byteP_in h).2.2.2.1
  have h2 := h1.byte (by omega)
  have a2 := (byteP_in h1).2.2.2.1
  have h3 := h2.byte (by omega)
  rw [set_set] at h2
  rw [set_set, set_set] at h3
  unfold nextP
  split
  · simp only; rw [AH.set_same _ _ _ h.get]; exact h
  · split
    · exact h1
    · exact h3
theorem nextP_in {H : AH} {q : Nat} {v : AV} {S : Src} {bs : List Nat} (h : SrcI H q v S bs) (hp : S.pos + 3 ≤ 1099511627776) (n : Int) : 0 ≤ (nextP n S).1 ∧ (nextP n S).1 < mxI 1 n := by
  unfold nextP mxI
  split
  · simp only; split <;> omega
  · split
    · have y0 := Int.emod_nonneg (byteP S).1 (b := n) (by omega)
      have y1 := Int.emod_lt_of_pos (byteP S).1 (b := n) (by omega)
      simp only; split <;> omega
    · simp only
      have y0 := Int.emod_nonneg ((byteP S).1 * 65536 + (byteP (byteP S).2).1 * 256 + (byteP (byteP (byteP S).2).2).1) (b := n) (by omega)
      have y1 := Int.emod_lt_of_pos ((byteP S).1 * 65536 + (byteP (byteP S).2).1 * 256 + (byteP (byteP (byteP S).2).2).1) (b := n) (by omega)
      split <;> omega
def chanceP (n : Int) (S : Src) : Bool × Src := (decide ((nextP n S).1 = n - 1), (nextP n S).2)
theorem chance_ev {H : AH} {q : Nat} {v : AV} {S : Src} {bs : List Nat} (h : SrcI H q v S bs) (hp : S.pos + 3 ≤ 1099511627776) {n : Int} (h0 : 0 ≤ n) (hn : n ≤ 1099511627776) (m : Nat) (hm : 3 ≤ m) :
    ev Try.prog m 101 [.ptr q 0, .int .i64 n] H = some (.bool (chanceP n S).1, H.set q (.cells 259 false (srcC v (chanceP n S).2))) := by
  obtain ⟨m, rfl⟩ : ∃ k, m = k + 1 := ⟨m - 1, by omega⟩
  have e1 := next_ev h hp hn m (by omega)
  have w1 := wrap_i64 (n := n - 1) (by omega) (by omega)
  rw [ev_eq Try.func101 ok101 m _ H (by simp [Try.f101])]
  simp [Try.f101, e1, w1, chanceP]
  rw [Bool.eq_iff_iff]; simp
def sizeP (n : Int) (S : Src) : Int := miI (1 + S.l.length / 12) n
theorem size_ev {H : AH} {q : Nat} {v : AV} {S : Src} {bs : List Nat} (h : SrcI H q v S bs) (n : Int) (m : Nat) (hm : 1 ≤ m) :
    ev Try.prog m 102 [.ptr q 0, .int .i64 n] H = some (.int .i64 (sizeP n S), H) := by
  obtain ⟨m, rfl⟩ : ∃ k, m = k + 1 := ⟨m - 1, by omega⟩
  have hg := h.get
  have hle := h.len
  have hL := Ty.R.lenA h.row (P := Try.prog) (T := 34) (by simp)
  have t1 : (S.l.length : Int).tdiv 12 = S.l.length / 12 := Int.tdiv_eq_ediv_of_nonneg (by omega)
  have w1 := wrap_i64 (n := (S.l.length : Int) / 12) (by omega) (by omega)
  have w2 := wrap_i64 (n := 1 + (S.l.length : Int) / 12) (by omega) (by omega)
  simp only [srcC] at hg
  rw [ev_eq Try.func102 ok102 m _ H (by simp [Try.f102])]
  simp [Try.f102, ldVar, hg, hL, t1, w1, w2, sizeP, miI, evHist, ObsOk, ObOk, List.getElem?_cons_zero]
theorem source_ev {H : AH} {v : AV} {l : List Int} {bs : List Nat} (h : (Ty.sl 5 (.int .u8)).R false H [v] l bs) (hv : v.one = true) (hl : l.length ≤ 1048576) (m : Nat) (hm : 1 ≤ m) :
    ev Try.prog m 99 [v] H = some (.ptr H.next 0, H.push (.cells 259 false (srcC v ⟨l, 0, l.length % 1000⟩))) := by
  obtain ⟨m, rfl⟩ : ∃ k, m = k + 1 := ⟨m - 1, by omega⟩
  have hL := Ty.R.lenA h (P := Try.prog) (T := 34) (by simp)
  have t1 : (l.length : Int).tmod 1000 = l.length % 1000 := Int.tmod_eq_emod_of_nonneg (by omega)
  have w1 := wrap_i64 (n := (l.length : Int) % 1000) (by omega) (by omega)
  rw [ev_eq Try.func99 ok99 m _ H (by simp [Try.f99])]
  simp [Try.f99, hL, t1, w1, fillA, spl, srcC, hv, cells_one hv]
theorem source_I {H : AH} {v : AV} {l : List Int} {bs : List Nat} (h : (Ty.sl 5 (.int .u8)).R false H [v] l bs) (hl : l.length ≤ 1048576) :
    SrcI (H.push (.cells 259 false (srcC v ⟨l, 0, l.length % 1000⟩))) H.next v ⟨l, 0, l.length % 1000⟩ bs :=
  ⟨by simp, by simp, fun e => by have := h.mem _ e; omega, h.kp ((Kp.refl H).push _), by simp, by simp only; omega, hl⟩
end Go.Ev

/- The source: an odd number; one of a row of numbers. -/
namespace Go.Ev
open Go Go.Proofs
set_option linter.unusedSimpArgs false
set_option linter.unusedVariables false

def pickP (l : List Int) (S : Src) : Int := (l[(nextP l.length S).1.toNat]?).getD 0
def oddL : List Int := [0, 1, -1, 1000000000000, 1000000000001, 9223372036854775807]
theorem pick_get {l : List Int} {S : Src} {H : AH} {q : Nat} {v : AV} {bs : List Nat} (h : SrcI H q v S bs) (hp : S.pos + 3 ≤ 1099511627776) (hl : 2 ≤ l.length) :
    ∃ k : Nat, (nextP l.length S).1 = k ∧ k < l.length ∧ (l.map (AV.int .i64))[k]? = some (.int .i64 (pickP l S)) := by
  obtain ⟨h0, h1⟩ := nextP_in h hp (l.length : Int)
  unfold mxI at h1
  rw [if_pos (by omega)] at h1
  refine ⟨(nextP l.length S).1.toNat, by omega, by omega, ?_⟩
  have hk : (nextP l.length S).1.toNat < l.length := by omega
  unfold pickP
  rw [List.getElem?_map, List.getElem?_eq_getElem hk]
  rfl
theorem odd_ev {H : AH} {q : Nat} {v : AV} {S : Src} {bs : List Nat} (h : SrcI H q v S bs) (hp : S.pos + 3 ≤ 1099511627776) (m : Nat) (hm : 3 ≤ m) :
    ev Try.prog m 103 [.ptr q 0] H = some (.int .i64 (pickP oddL S), (H.push (.cells 3 false (oddL.map (.int .i64)))).set q (.cells 259 false (srcC v (nextP 6 S).2))) := by
  obtain ⟨m, rfl⟩ : ∃ k, m = k + 1 := ⟨m - 1, by omega⟩
  have hq := h.lt
  have hK : Kp H (H.push (.cells 3 false (oddL.map (.int .i64)))) := (Kp.refl H).push _
  have h' : SrcI (H.push (.cells 3 false (oddL.map (.int .i64)))) q v S bs := ⟨by rw [hK.get q hq]; exact h.get, by have := hK.next; omega, h.nin, h.row.kp hK, h.pos, h.mix, h.len⟩
  have e1 := next_ev h' hp (n := 6) (by omega) m (by omega)
  obtain ⟨k, p1, p2, p3⟩ := pick_get (l := oddL) h hp (by simp [oddL])
  have hk6 : (oddL.length : Int) = 6 := rfl
  rw [hk6] at p1
  have hk : k < 6 := by simpa [oddL] using p2
  have hk2 : (k : Int) < 6 := by omega
  have hnq : ¬ (H.next = q) := by omega
  rw [p1] at e1
  simp only [oddL, List.map_cons, List.map_nil] at e1 p3 ⊢
  rw [ev_eq Try.func103 ok103 m _ H (by simp [Try.f103])]
  simp [Try.f103, zerosA, e1, idxA, hk, hk2, ldVar, hnq]
  rw [List.getElem?_eq_getElem (by simpa using hk)] at p3
  exact Option.some.inj p3
end Go.Ev

/- The source: what stays, one draw, one of a row. -/
namespace Go.Ev
open Go Go.Proofs
set_option linter.unusedSimpArgs false
set_option linter.unusedVariables false

theorem SrcI.ko {H H' : AH} {q : Nat} {v : AV} {S : Src} {bs : List Nat} (h : SrcI H q v S bs) (hn : H.next ≤ H'.next) (hq : H'.get q = H.get q) (hb : ∀ b ∈ bs, H'.get b = H.get b) : SrcI H' q v S bs :=
  ⟨hq.trans h.get, by have := h.lt; omega, h.nin, h.row.stay hn hb, h.pos, h.mix, h.len⟩
theorem SrcI.push {H : AH} {q : Nat} {v : AV} {S : Src} {bs : List Nat} (h : SrcI H q v S bs) (x : Blk) : SrcI (H.push x) q v S bs :=
  have hK : Kp H (H.push x) := (Kp.refl H).push x
  h.ko hK.next (hK.get q h.lt) fun b hb => hK.get b (h.row.mem b hb)
theorem SrcI.set_ne {H : AH} {q p : Nat} {v : AV} {S : Src} {bs : List Nat} (h : SrcI H q v S bs) (x : Blk) (hp : p ≠ q) (hb : p ∉ bs) : SrcI (H.set p x) q v S bs :=
  h.ko (Nat.le_refl _) (AH.set_getN _ _ (Ne.symm hp)) fun b hb' => AH.set_getN _ _ (fun e => hb (by rw [← e]; exact hb'))
theorem SrcI.resv {H : AH} {q : Nat} {v : AV} {S : Src} {bs : List Nat} (h : SrcI H q v S bs) (n : Nat) : SrcI (H.res n) q v S bs :=
  h.ko (by simp) (by simp; intro h1 h2; have := h.lt; omega) fun b hb => by simp; intro h1 h2; have := h.row.mem b hb; omega
theorem nextP_p {n : Int} {S : Src} {k : Nat} (h : S.pos ≤ k) : (nextP n S).2.pos ≤ k + 3 := by have := (nextP_pos (n := n) (S := S)).1; omega

/-- the i-th of a row -/
def lkP (l : List Int) (i : Int) : Int := (l[i.toNat]?).getD 0
theorem lk_get {l : List Int} {k : Nat} (h : k < l.length) : (l.map (AV.int .i64))[k]? = some (.int .i64 (lkP l k)) := by
  unfold lkP; rw [List.getElem?_map, Int.toNat_natCast, List.getElem?_eq_getElem h]; rfl
/-- a draw -/
theorem draw {h : AH} {q : Nat} {v : AV} {S : Src} {bs : List Nat} {K : Nat} (h0 : SrcI h q v S bs) (hp : S.pos ≤ K) (hK : K ≤ 1000000) (n : Int) (hn1 : 1 ≤ n) (hn : n ≤ 1099511627776) (m : Nat) (hm : 2 ≤ m) :
    ∃ (k : Nat) (S' : Src), nextP n S = ((k : Int), S') ∧ (k : Int) < n ∧ S'.pos ≤ K + 3 ∧ ev Try.prog m 100 [.ptr q 0, .int .i64 n] h = some (.int .i64 k, h.set q (.cells 259 false (srcC v S'))) ∧
      SrcI (h.set q (.cells 259 false (srcC v S'))) q v S' bs := by
  have e1 := next_ev h0 (n := n) (by omega) (by omega) m (by omega)
  have h1 := h0.next (by omega) n
  have p1 := nextP_p (n := n) hp
  have i1 := nextP_in h0 (by omega) n
  generalize nextP n S = r at *
  obtain ⟨a, S'⟩ := r
  simp only at *
  obtain ⟨k, rfl⟩ : ∃ k : Nat, a = k := ⟨a.toNat, by omega⟩
  unfold mxI at i1
  exact ⟨k, S', rfl, by split at i1 <;> omega, p1, e1, h1⟩
end Go.Ev

/- The source: a number of any size. -/
namespace Go.Ev
open Go Go.Proofs
set_option linter.unusedSimpArgs false
set_option linter.unusedVariables false

def numL : List Int := [0, 63, 64, 16383, 16384, 1073741823, 1073741824, 4611686018427387903, 4611686018427387902]
def farL : List Int := [-1, 4611686018427387904, 9223372036854775807, -9223372036854775808]
def numP (S : Src) : Int × Src :=
  let k := nextP 12 S
  if k.1 = 0 then (lkP numL (nextP 9 k.2).1, (nextP 9 k.2).2)
  else if k.1 = 1 then ((nextP 16777216 k.2).1 * 65536 + (nextP 65536 (nextP 16777216 k.2).2).1, (nextP 65536 (nextP 16777216 k.2).2).2)
  else if k.1 = 2 then (lkP farL (nextP 4 k.2).1, (nextP 4 k.2).2)
  else if k.1 = 3 ∨ k.1 = 4 then nextP 20000 k.2
  else nextP 100 k.2
theorem koS_set {h : AH} {q : Nat} (x : Blk) : KoS [q] h (h.set q x) :=
  ⟨by simp, fun b hb hn => AH.set_getN _ _ (by simpa using hn)⟩
theorem koS_qpq {h : AH} {q : Nat} (x y z : Blk) : KoS [q] h (((h.set q x).push y).set q z) :=
  ⟨by simp, fun b hb hn => by
    have hbq : b ≠ q := by simpa using hn
    rw [AH.set_getN _ _ hbq, AH.push_get, if_neg (by simp; omega), AH.set_getN _ _ hbq]⟩
theorem inK64 {n : Int} (h1 : -9223372036854775808 ≤ n) (h2 : n ≤ 9223372036854775807) : InK .i64 n := ⟨h1, h2⟩
theorem inK_in {n : Int} (h : InK .i64 n) : -9223372036854775808 ≤ n ∧ n ≤ 9223372036854775807 := ⟨h.1, h.2⟩
theorem lkP_in {l : List Int} (h : ∀ x ∈ l, InK .i64 x) (i : Int) : InK .i64 (lkP l i) := by
  unfold lkP
  cases e : l[i.toNat]? with
  | none => exact inK64 (by simp) (by simp)
  | some x => exact h x (List.mem_of_getElem? e)
theorem number_ev {h : AH} {q : Nat} {v : AV} {S : Src} {bs : List Nat} {K : Nat} (h0 : SrcI h q v S bs) (hp : S.pos ≤ K) (hK : K ≤ 900000) (m : Nat) (hm : 4 ≤ m) :
    ∃ (n : Int) (S' : Src) (H' : AH), numP S = (n, S') ∧ InK .i64 n ∧ S'.pos ≤ K + 9 ∧ ev Try.prog m 121 [.ptr q 0] h = some (.int .i64 n, H') ∧ SrcI H' q v S' bs ∧ KoS [q] h H' := by
  obtain ⟨m, rfl⟩ : ∃ k, m = k + 1 := ⟨m - 1, by omega⟩
  have hq := h0.lt
  obtain ⟨k, S1, d1, a1, p1, e1, h1⟩ := draw h0 hp (by omega) 12 (by omega) (by omega) m (by omega)
  rw [ev_eq Try.func121 ok121 m _ h (by simp [Try.f121])]
  unfold numP
  simp only [d1]
  by_cases c0 : k = 0
  · subst c0
    obtain ⟨j, S2, d2, a2, p2, e2, h2⟩ := draw (h1.push (.cells 3 false (numL.map (.int .i64)))) p1 (by omega) 9 (by omega) (by omega) m (by omega)
    have g := lk_get (l := numL) (k := j) (by simp [numL]; omega)
    have b1 : InK .i64 (lkP numL j) := lkP_in (fun x hx => by simp only [numL, List.mem_cons, List.not_mem_nil, or_false] at hx; apply inK64 <;> omega) _
    simp only [numL, List.map_cons, List.map_nil] at e2 h2 g
    have hn1 : ¬ (h.next = q) := by omega
    refine ⟨lkP numL j, S2, _, by simp [d2], b1, by omega, ?_, h2, koS_qpq _ _ _⟩
    simp (disch := omega) [Try.f121, e1, e2, zerosA, idxA, ldVar, hn1, g, numL, a2]
  by_cases c1 : k = 1
  · subst c1
    obtain ⟨i, S2, d2, a2, p2, e2, h2⟩ := draw h1 p1 (by omega) 16777216 (by omega) (by omega) m (by omega)
    rw [set_set] at e2 h2
    obtain ⟨j, S3, d3, a3, p3, e3, h3⟩ := draw h2 p2 (by omega) 65536 (by omega) (by omega) m (by omega)
    rw [set_set] at e3 h3
    have w1 := wrap_i64 (n := (i : Int) * 65536) (by omega) (by omega)
    have w2 := wrap_i64 (n := (i : Int) * 65536 + j) (by omega) (by omega)
    refine ⟨(i : Int) * 65536 + j, S3, _, by simp [d2, d3], inK64 (by omega) (by omega), by omega, ?_, h3, koS_set _⟩
    simp [Try.f121, e1, e2, e3, w1, w2]
  by_cases c2 : k = 2
  · subst c2
    obtain ⟨j, S2, d2, a2, p2, e2, h2⟩ := draw (h1.push (.cells 3 false (farL.map (.int .i64)))) p1 (by omega) 4 (by omega) (by omega) m (by omega)
    have g := lk_get (l := farL) (k := j) (by simp [farL]; omega)
    have b1 : InK .i64 (lkP farL j) := lkP_in (fun x hx => by simp only [farL, List.mem_cons, List.not_mem_nil, or_false] at hx; apply inK64 <;> omega) _
    simp only [farL, List.map_cons, List.map_nil] at e2 h2 g
    have hn1 : ¬ (h.next = q) := by omega
    refine ⟨lkP farL j, S2, _, by simp [d2], b1, by omega, ?_, h2, koS_qpq _ _ _⟩
    simp (disch := omega) [Try.f121, e1, e2, zerosA, idxA, ldVar, hn1, g, farL, a2]
  have k0 : ¬ ((k : Int) = 0) := by omega
  have k1 : ¬ ((k : Int) = 1) := by omega
  have k2 : ¬ ((k : Int) = 2) := by omega
  by_cases c3 : k = 3 ∨ k = 4
  · obtain ⟨j, S2, d2, a2, p2, e2, h2⟩ := draw h1 p1 (by omega) 20000 (by omega) (by omega) m (by omega)
    rw [set_set] at e2 h2
    refine ⟨j, S2, _, ?_, inK64 (by omega) (by omega), by omega, ?_, h2, koS_set _⟩
    · rw [if_neg k0, if_neg k1, if_neg k2, if_pos (by omega), d2]
    · rcases c3 with rfl | rfl <;> simp [Try.f121, e1, e2]
  · have k3 : ¬ ((k : Int) = 3) := by omega
    have k4 : ¬ ((k : Int) = 4) := by omega
    have k03 : ¬ (k = 3) := by omega
    have k04 : ¬ (k = 4) := by omega
    obtain ⟨j, S2, d2, a2, p2, e2, h2⟩ := draw h1 p1 (by omega) 100 (by omega) (by omega) m (by omega)
    rw [set_set] at e2 h2
    refine ⟨j, S2, _, ?_, inK64 (by omega) (by omega), by omega, ?_, h2, koS_set _⟩
    · rw [if_neg k0, if_neg k1, if_neg k2, if_neg (by omega), d2]
    · simp [Try.f121, e1, e2, k0, k1, k2, k3, k4, c0, c1, c2, k03, k04, beqF k0, beqF k1, beqF k2, beqF k3, beqF k4]
end Go.Ev

/- The laws' helpers of this seat: written by a program of this session (helpgen.py). -/
namespace Go.Ev
open Go Go.Proofs
set_option linter.unusedSimpArgs false
set_option linter.unusedVariables false
/-! toFlowSetup -/
abbrev tT43 : Ty := .pair Ty.bool (.pair (Ty.int .i64) (.pair (Ty.int .i64) (.pair (Ty.int .i64) (.pair (Ty.int .i64) (.pair (Ty.int .i64) (.pair (Ty.int .i64) (.pair (Ty.int .i64) (Ty.int .i64))))))))
theorem o43 {rw : Bool} {H : AH} {c : List AV} {x_0 : Bool} {x_1 : Int} {x_2 : Int} {x_3 : Int} {x_4 : Int} {x_5 : Int} {x_6 : Int} {x_7 : Int} {x_8 : Int} {bs : List Nat} (h : tT43.R rw H c (x_0, x_1, x_2, x_3, x_4, x_5, x_6, x_7, x_8) bs) : c = [.bool x_0, .int .i64 x_1, .int .i64 x_2, .int .i64 x_3, .int .i64 x_4, .int .i64 x_5, .int .i64 x_6, .int .i64 x_7, .int .i64 x_8] ∧ ([] : List Nat) = bs ∧ InK .i64 x_1 ∧ InK .i64 x_2 ∧ InK .i64 x_3 ∧ InK .i64 x_4 ∧ InK .i64 x_5 ∧ InK .i64 x_6 ∧ InK .i64 x_7 ∧ InK .i64 x_8 := by
  obtain ⟨c1, d1, e1, f1, rfl, rfl, ⟨rfl, rfl⟩, ⟨c2, d2, e2, f2, rfl, rfl, ⟨rfl, rx_1, sx_1, rfl⟩, ⟨c3, d3, e3, f3, rfl, rfl, ⟨rfl, rx_2, sx_2, rfl⟩, ⟨c4, d4, e4, f4, rfl, rfl, ⟨rfl, rx_3, sx_3, rfl⟩, ⟨c5, d5, e5, f5, rfl, rfl, ⟨rfl, rx_4, sx_4, rfl⟩, ⟨c6, d6, e6, f6, rfl, rfl, ⟨rfl, rx_5, sx_5, rfl⟩, ⟨c7, d7, e7, f7, rfl, rfl, ⟨rfl, rx_6, sx_6, rfl⟩, ⟨c8, d8, e8, f8, rfl, rfl, ⟨rfl, rx_7, sx_7, rfl⟩, ⟨rfl, rx_8, sx_8, rfl⟩⟩⟩⟩⟩⟩⟩⟩⟩ := h
  exact ⟨by simp, by simp, ⟨rx_1, sx_1⟩, ⟨rx_2, sx_2⟩, ⟨rx_3, sx_3⟩, ⟨rx_4, sx_4⟩, ⟨rx_5, sx_5⟩, ⟨rx_6, sx_6⟩, ⟨rx_7, sx_7⟩, ⟨rx_8, sx_8⟩⟩
theorem i43 {rw : Bool} {H : AH} {x_0 : Bool} {x_1 : Int} {x_2 : Int} {x_3 : Int} {x_4 : Int} {x_5 : Int} {x_6 : Int} {x_7 : Int} {x_8 : Int}  (ix_1 : InK .i64 x_1) (ix_2 : InK .i64 x_2) (ix_3 : InK .i64 x_3) (ix_4 : InK .i64 x_4) (ix_5 : InK .i64 x_5) (ix_6 : InK .i64 x_6) (ix_7 : InK .i64 x_7) (ix_8 : InK .i64 x_8) : tT43.R rw H [.bool x_0, .int .i64 x_1, .int .i64 x_2, .int .i64 x_3, .int .i64 x_4, .int .i64 x_5, .int .i64 x_6, .int .i64 x_7, .int .i64 x_8] (x_0, x_1, x_2, x_3, x_4, x_5, x_6, x_7, x_8) ([] : List Nat) := by
  have h : tT43.R rw H ([.bool x_0] ++ ([.int .i64 x_1] ++ ([.int .i64 x_2] ++ ([.int .i64 x_3] ++ ([.int .i64 x_4] ++ ([.int .i64 x_5] ++ ([.int .i64 x_6] ++ ([.int .i64 x_7] ++ [.int .i64 x_8])))))))) (x_0, x_1, x_2, x_3, x_4, x_5, x_6, x_7, x_8) ([] ++ ([] ++ ([] ++ ([] ++ ([] ++ ([] ++ ([] ++ ([] ++ [])))))))) := (Ty.R.pair (Ty.R.bool x_0) (Ty.R.pair (Ty.R.int ix_1) (Ty.R.pair (Ty.R.int ix_2) (Ty.R.pair (Ty.R.int ix_3) (Ty.R.pair (Ty.R.int ix_4) (Ty.R.pair (Ty.R.int ix_5) (Ty.R.pair (Ty.R.int ix_6) (Ty.R.pair (Ty.R.int ix_7) (Ty.R.int ix_8)))))))))
  simpa using h
abbrev tT49 : Ty := .pair Ty.bool (.pair (Ty.int .i64) (.pair (Ty.int .i64) (.pair (Ty.int .i64) (.pair (Ty.int .i64) (.pair (Ty.int .i64) (.pair (Ty.int .i64) (.pair (Ty.int .i64) (Ty.int .i64))))))))
theorem o49 {rw : Bool} {H : AH} {c : List AV} {x_0 : Bool} {x_1 : Int} {x_2 : Int} {x_3 : Int} {x_4 : Int} {x_5 : Int} {x_6 : Int} {x_7 : Int} {x_8 : Int} {bs : List Nat} (h : tT49.R rw H c (x_0, x_1, x_2, x_3, x_4, x_5, x_6, x_7, x_8) bs) : c = [.bool x_0, .int .i64 x_1, .int .i64 x_2, .int .i64 x_3, .int .i64 x_4, .int .i64 x_5, .int .i64 x_6, .int .i64 x_7, .int .i64 x_8] ∧ ([] : List Nat) = bs ∧ InK .i64 x_1 ∧ InK .i64 x_2 ∧ InK .i64 x_3 ∧ InK .i64 x_4 ∧ InK .i64 x_5 ∧ InK .i64 x_6 ∧ InK .i64 x_7 ∧ InK .i64 x_8 := by
  obtain ⟨c1, d1, e1, f1, rfl, rfl, ⟨rfl, rfl⟩, ⟨c2, d2, e2, f2, rfl, rfl, ⟨rfl, rx_1, sx_1, rfl⟩, ⟨c3, d3, e3, f3, rfl, rfl, ⟨rfl, rx_2, sx_2, rfl⟩, ⟨c4, d4, e4, f4, rfl, rfl, ⟨rfl, rx_3, sx_3, rfl⟩, ⟨c5, d5, e5, f5, rfl, rfl, ⟨rfl, rx_4, sx_4, rfl⟩, ⟨c6, d6, e6, f6, rfl, rfl, ⟨rfl, rx_5, sx_5, rfl⟩, ⟨c7, d7, e7, f7, rfl, rfl, ⟨rfl, rx_6, sx_6, rfl⟩, ⟨c8, d8, e8, f8, rfl, rfl, ⟨rfl, rx_7, sx_7, rfl⟩, ⟨rfl, rx_8, sx_8, rfl⟩⟩⟩⟩⟩⟩⟩⟩⟩ := h
  exact ⟨by simp, by simp, ⟨rx_1, sx_1⟩, ⟨rx_2, sx_2⟩, ⟨rx_3, sx_3⟩, ⟨rx_4, sx_4⟩, ⟨rx_5, sx_5⟩, ⟨rx_6, sx_6⟩, ⟨rx_7, sx_7⟩, ⟨rx_8, sx_8⟩⟩
theorem i49 {rw : Bool} {H : AH} {x_0 : Bool} {x_1 : Int} {x_2 : Int} {x_3 : Int} {x_4 : Int} {x_5 : Int} {x_6 : Int} {x_7 : Int} {x_8 : Int}  (ix_1 : InK .i64 x_1) (ix_2 : InK .i64 x_2) (ix_3 : InK .i64 x_3) (ix_4 : InK .i64 x_4) (ix_5 : InK .i64 x_5) (ix_6 : InK .i64 x_6) (ix_7 : InK .i64 x_7) (ix_8 : InK .i64 x_8) : tT49.R rw H [.bool x_0, .int .i64 x_1, .int .i64 x_2, .int .i64 x_3, .int .i64 x_4, .int .i64 x_5, .int .i64 x_6, .int .i64 x_7, .int .i64 x_8] (x_0, x_1, x_2, x_3, x_4, x_5, x_6, x_7, x_8) ([] : List Nat) := by
  have h : tT49.R rw H ([.bool x_0] ++ ([.int .i64 x_1] ++ ([.int .i64 x_2] ++ ([.int .i64 x_3] ++ ([.int .i64 x_4] ++ ([.int .i64 x_5] ++ ([.int .i64 x_6] ++ ([.int .i64 x_7] ++ [.int .i64 x_8])))))))) (x_0, x_1, x_2, x_3, x_4, x_5, x_6, x_7, x_8) ([] ++ ([] ++ ([] ++ ([] ++ ([] ++ ([] ++ ([] ++ ([] ++ [])))))))) := (Ty.R.pair (Ty.R.bool x_0) (Ty.R.pair (Ty.R.int ix_1) (Ty.R.pair (Ty.R.int ix_2) (Ty.R.pair (Ty.R.int ix_3) (Ty.R.pair (Ty.R.int ix_4) (Ty.R.pair (Ty.R.int ix_5) (Ty.R.pair (Ty.R.int ix_6) (Ty.R.pair (Ty.R.int ix_7) (Ty.R.int ix_8)))))))))
  simpa using h
set_option maxHeartbeats 4000000 in
theorem toFlowSetup_h {Hb H : AH} {c : List AV} {d : tT43.D} {bs : List Nat} {rw : Bool} (hd : tT43.R rw Hb c d bs) (hK : Kp Hb H) (hb : tT43.bd 1048576 d) (m : Nat) (hm : 1048720 ≤ m) :
    ∃ c' H' bs', ev Try.prog m 27 [.agg c] H = some (.agg c', H') ∧ Kp H H' ∧ tT49.R true H' c' d bs' ∧ bs'.Nodup ∧ ∀ b ∈ bs', H.next ≤ b := by
  obtain ⟨m, rfl⟩ : ∃ k, m = k + 1 := ⟨m - 1, by omega⟩
  obtain ⟨x_0, x_1, x_2, x_3, x_4, x_5, x_6, x_7, x_8⟩ := d
  obtain ⟨hbx_0, hbx_1, hbx_2, hbx_3, hbx_4, hbx_5, hbx_6, hbx_7, hbx_8⟩ := hb
  obtain ⟨rfl, rfl, ix_1, ix_2, ix_3, ix_4, ix_5, ix_6, ix_7, ix_8⟩ := o43 hd
  have nA : ¬ (H.next + 1 = H.next) := by omega
  have nn0 : ¬ (H.next + 1 = H.next) := by omega
  have nn1 : ¬ (H.next + 1 + 1 = H.next) := by omega
  have nn2 : ¬ (H.next = H.next + 1) := by omega
  have nn3 : ¬ (H.next = H.next + 1 + 1) := by omega
  have nn4 : ¬ (H.next + 1 = H.next + 1 + 1) := by omega
  have nn5 : ¬ (H.next + 1 + 1 = H.next + 1) := by omega
  refine ⟨[.bool x_0, .int .i64 x_1, .int .i64 x_2, .int .i64 x_3, .int .i64 x_4, .int .i64 x_5, .int .i64 x_6, .int .i64 x_7, .int .i64 x_8], _, [], ?_, ((((Kp.refl H).push (.cells 43 false [.bool x_0, .int .i64 x_1, .int .i64 x_2, .int .i64 x_3, .int .i64 x_4, .int .i64 x_5, .int .i64 x_6, .int .i64 x_7, .int .i64 x_8])).push (.cells 49 false [.bool false, .int .i64 0, .int .i64 0, .int .i64 0, .int .i64 0, .int .i64 0, .int .i64 0, .int .i64 0, .int .i64 0])).push (.cells 49 false [.bool x_0, .int .i64 x_1, .int .i64 x_2, .int .i64 x_3, .int .i64 x_4, .int .i64 x_5, .int .i64 x_6, .int .i64 x_7, .int .i64 x_8])).set (b := H.next + 1) (by omega) (.cells 49 false [.bool x_0, .int .i64 x_1, .int .i64 x_2, .int .i64 x_3, .int .i64 x_4, .int .i64 x_5, .int .i64 x_6, .int .i64 x_7, .int .i64 x_8]), i49 ix_1 ix_2 ix_3 ix_4 ix_5 ix_6 ix_7 ix_8, by simp, by simp⟩
  rw [ev_eq Try.func27 ok27 m _ H (by simp [Try.f27])]
  simp [Try.f27, ldVar, stVar, spl, push_set2, push_set3, nn0, nn1, nn2, nn3, nn4, nn5]
/-! szFlowOpS -/
abbrev tT165 : Ty := .pair (Ty.int .i64) (.pair (Ty.int .i64) (.pair (Ty.int .i64) Ty.bool))
theorem o165 {rw : Bool} {H : AH} {c : List AV} {x_0 : Int} {x_1 : Int} {x_2 : Int} {x_3 : Bool} {bs : List Nat} (h : tT165.R rw H c (x_0, x_1, x_2, x_3) bs) : c = [.int .i64 x_0, .int .i64 x_1, .int .i64 x_2, .bool x_3] ∧ ([] : List Nat) = bs ∧ InK .i64 x_0 ∧ InK .i64 x_1 ∧ InK .i64 x_2 := by
  obtain ⟨c1, d1, e1, f1, rfl, rfl, ⟨rfl, rx_0, sx_0, rfl⟩, ⟨c2, d2, e2, f2, rfl, rfl, ⟨rfl, rx_1, sx_1, rfl⟩, ⟨c3, d3, e3, f3, rfl, rfl, ⟨rfl, rx_2, sx_2, rfl⟩, ⟨rfl, rfl⟩⟩⟩⟩ := h
  exact ⟨by simp, by simp, ⟨rx_0, sx_0⟩, ⟨rx_1, sx_1⟩, ⟨rx_2, sx_2⟩⟩
theorem i165 {rw : Bool} {H : AH} {x_0 : Int} {x_1 : Int} {x_2 : Int} {x_3 : Bool}  (ix_0 : InK .i64 x_0) (ix_1 : InK .i64 x_1) (ix_2 : InK .i64 x_2) : tT165.R rw H [.int .i64 x_0, .int .i64 x_1, .int .i64 x_2, .bool x_3] (x_0, x_1, x_2, x_3) ([] : List Nat) := by
  have h : tT165.R rw H ([.int .i64 x_0] ++ ([.int .i64 x_1] ++ ([.int .i64 x_2] ++ [.bool x_3]))) (x_0, x_1, x_2, x_3) ([] ++ ([] ++ ([] ++ []))) := (Ty.R.pair (Ty.R.int ix_0) (Ty.R.pair (Ty.R.int ix_1) (Ty.R.pair (Ty.R.int ix_2) (Ty.R.bool x_3))))
  simpa using h
set_option maxHeartbeats 4000000 in
theorem szFlowOpS_h {Hb H : AH} {s : AV} {ds : List tT165.D} {bs : List Nat} {rw : Bool} (hd : (Ty.sl 165 tT165).R rw Hb [s] ds bs) (hK : Kp Hb H) {left : Int} (h0 : 0 ≤ left) (h1 : left ≤ 1048576) (hb : (Ty.sl 165 tT165).bd 9223372036854775807 ds) (m : Nat) (hm : 1048740 ≤ m) :
    ∃ H', ev Try.prog m 25 [s, .int .i64 left] H = some (.int .i64 (szR left ((Ty.sl 165 tT165).sz ds)), H') ∧ Kp H H' := by
  obtain ⟨m, rfl⟩ : ∃ k, m = k + 1 := ⟨m - 1, by omega⟩
  obtain ⟨hl, hl2⟩ := hb
  have hL := Ty.R.lenA hd (P := Try.prog) (T := 44) (by simp)
  rw [ev_eq Try.func25 ok25 m _ H (by simp [Try.f25])]
  have w := wrap_i64 (n := left - ds.length) (by omega) (by omega)
  have hsz : (Ty.sl 165 tT165).sz ds = ds.length + cntL tT165.sz ds := rfl
  rw [hsz]
  have hz : cntL tT165.sz ds = 0 := by
    have := cntL_le tT165.sz 0 ds (fun d _ => by simp [Ty.sz])
    omega
  rw [hz, Nat.add_zero]
  refine ⟨H, ?_, Kp.refl H⟩
  by_cases hlt : left < ds.length
  · have h2 : left - (ds.length : Int) < 0 := by omega
    rw [szR_lt hlt]
    simp [Try.f25, hL, w, h2]
  · have h2 : ¬ (left - (ds.length : Int) < 0) := by omega
    rw [szR_ge (by omega)]
    simp [Try.f25, hL, w, h2]
/-! toFlowOp -/
abbrev tT65 : Ty := .pair (Ty.int .i64) (.pair (Ty.int .i64) (.pair (Ty.int .i64) Ty.bool))
theorem o65 {rw : Bool} {H : AH} {c : List AV} {x_0 : Int} {x_1 : Int} {x_2 : Int} {x_3 : Bool} {bs : List Nat} (h : tT65.R rw H c (x_0, x_1, x_2, x_3) bs) : c = [.int .i64 x_0, .int .i64 x_1, .int .i64 x_2, .bool x_3] ∧ ([] : List Nat) = bs ∧ InK .i64 x_0 ∧ InK .i64 x_1 ∧ InK .i64 x_2 := by
  obtain ⟨c1, d1, e1, f1, rfl, rfl, ⟨rfl, rx_0, sx_0, rfl⟩, ⟨c2, d2, e2, f2, rfl, rfl, ⟨rfl, rx_1, sx_1, rfl⟩, ⟨c3, d3, e3, f3, rfl, rfl, ⟨rfl, rx_2, sx_2, rfl⟩, ⟨rfl, rfl⟩⟩⟩⟩ := h
  exact ⟨by simp, by simp, ⟨rx_0, sx_0⟩, ⟨rx_1, sx_1⟩, ⟨rx_2, sx_2⟩⟩
theorem i65 {rw : Bool} {H : AH} {x_0 : Int} {x_1 : Int} {x_2 : Int} {x_3 : Bool}  (ix_0 : InK .i64 x_0) (ix_1 : InK .i64 x_1) (ix_2 : InK .i64 x_2) : tT65.R rw H [.int .i64 x_0, .int .i64 x_1, .int .i64 x_2, .bool x_3] (x_0, x_1, x_2, x_3) ([] : List Nat) := by
  have h : tT65.R rw H ([.int .i64 x_0] ++ ([.int .i64 x_1] ++ ([.int .i64 x_2] ++ [.bool x_3]))) (x_0, x_1, x_2, x_3) ([] ++ ([] ++ ([] ++ []))) := (Ty.R.pair (Ty.R.int ix_0) (Ty.R.pair (Ty.R.int ix_1) (Ty.R.pair (Ty.R.int ix_2) (Ty.R.bool x_3))))
  simpa using h
set_option maxHeartbeats 4000000 in
theorem toFlowOp_h {Hb H : AH} {c : List AV} {d : tT165.D} {bs : List Nat} {rw : Bool} (hd : tT165.R rw Hb c d bs) (hK : Kp Hb H) (hb : tT165.bd 1048576 d) (m : Nat) (hm : 1048720 ≤ m) :
    ∃ c' H' bs', ev Try.prog m 107 [.agg c] H = some (.agg c', H') ∧ Kp H H' ∧ tT65.R true H' c' d bs' ∧ bs'.Nodup ∧ ∀ b ∈ bs', H.next ≤ b := by
  obtain ⟨m, rfl⟩ : ∃ k, m = k + 1 := ⟨m - 1, by omega⟩
  obtain ⟨x_0, x_1, x_2, x_3⟩ := d
  obtain ⟨hbx_0, hbx_1, hbx_2, hbx_3⟩ := hb
  obtain ⟨rfl, rfl, ix_0, ix_1, ix_2⟩ := o165 hd
  have nA : ¬ (H.next + 1 = H.next) := by omega
  have nn0 : ¬ (H.next + 1 = H.next) := by omega
  have nn1 : ¬ (H.next + 1 + 1 = H.next) := by omega
  have nn2 : ¬ (H.next = H.next + 1) := by omega
  have nn3 : ¬ (H.next = H.next + 1 + 1) := by omega
  have nn4 : ¬ (H.next + 1 = H.next + 1 + 1) := by omega
  have nn5 : ¬ (H.next + 1 + 1 = H.next + 1) := by omega
  refine ⟨[.int .i64 x_0, .int .i64 x_1, .int .i64 x_2, .bool x_3], _, [], ?_, ((((Kp.refl H).push (.cells 165 false [.int .i64 x_0, .int .i64 x_1, .int .i64 x_2, .bool x_3])).push (.cells 65 false [.int .i64 0, .int .i64 0, .int .i64 0, .bool false])).push (.cells 65 false [.int .i64 x_0, .int .i64 x_1, .int .i64 x_2, .bool x_3])).set (b := H.next + 1) (by omega) (.cells 65 false [.int .i64 x_0, .int .i64 x_1, .int .i64 x_2, .bool x_3]), i65 ix_0 ix_1 ix_2, by simp, by simp⟩
  rw [ev_eq Try.func107 ok107 m _ H (by simp [Try.f107])]
  simp [Try.f107, ldVar, stVar, spl, push_set2, push_set3, nn0, nn1, nn2, nn3, nn4, nn5]
/-! toFlowOpS -/
def ItoFlowOpS_h (ds : List tT165.D) (s : AV) (H : AH) (d : Nat) (τ : Tm) (h : AH) : Prop :=
  ∃ k x1 bs, k + d = ds.length ∧ τ 0 = s ∧ τ 3 = .slice H.next 0 ds.length ∧ τ 4 = .int .i64 k ∧ Kp H h ∧ H.next < h.next ∧ h.get H.next = some (.cells 65 false (x1 ++ zerosA [.int .i64 0, .int .i64 0, .int .i64 0, .bool false] d)) ∧ Rows (tT65.R true h) 4 x1 (ds.take k) bs ∧ bs.Nodup ∧ ∀ b ∈ bs, H.next < b
set_option maxHeartbeats 4000000 in
theorem toFlowOpS_h {Hb H : AH} {s : AV} {ds : List tT165.D} {bs : List Nat} {rw : Bool} (hd : (Ty.sl 165 tT165).R rw Hb [s] ds bs) (hK : Kp Hb H) (hb : (Ty.sl 165 tT165).bd 1048576 ds) (m : Nat) (hm : 1048740 ≤ m) :
    ∃ r H' bs', ev Try.prog m 28 [s] H = some (r, H') ∧ Kp H H' ∧ (Ty.sl 65 tT65).R true H' [r] ds bs' ∧ bs'.Nodup ∧ ∀ b ∈ bs', H.next ≤ b := by
  obtain ⟨m, rfl⟩ : ∃ k, m = k + 1 := ⟨m - 1, by omega⟩
  obtain ⟨hl, hl2⟩ := hb
  have hL := Ty.R.lenA hd (P := Try.prog) (T := 44) (by simp)
  rw [ev_eq Try.func28 ok28 m _ H (by simp [Try.f28])]
  have hb1 : (32 : Int) * (ds.length : Int) ≤ 281474976710656 := by omega
  have hb2 : (ds.length : Int) ≤ 281474976710656 := by omega
  simp [Try.f28, hL, hb1, hb2]
  generalize hLo : evLoop _ _ _ _ _ _ = R
  obtain ⟨e, τ', H', rfl, rfl, g⟩ := loop_at hLo (loop_rule (d := ds.length) (ItoFlowOpS_h ds s H)
    (fun e τ h => e = .exit 0 ∧ ItoFlowOpS_h ds s H 0 τ h)
    (by
      rintro d τ h ⟨k, x1, bs1, hk, t0, t3, t4, hKh, hnx, hg, hR, hnd, hlo⟩
      by_cases hd0 : d = 0
      · subst hd0
        have hkl : (k : Int) = ds.length := by omega
        rewrite [lp28_58]
        simp [Try.f28, t0, t4, hL, hkl]
        exact ⟨k, x1, bs1, hk, t0, t3, t4, hKh, hnx, hg, hR, hnd, hlo⟩
      · obtain ⟨d, rfl⟩ : ∃ q, d = q + 1 := ⟨d - 1, by omega⟩
        have hlt : k < ds.length := by omega
        have hx1 := hR.len
        rw [List.length_take, Nat.min_eq_left (Nat.le_of_lt hlt)] at hx1
        obtain ⟨b, o, ro, y1, c, y2, bk, u1, u2, u3, u4, u5, u6, u7, u8⟩ := Ty.R.at_ (hd.kp (hK.trans hKh)) (P := Try.prog) (T := 44) (by simp) (by simp [Ty.n]) (k := k) hlt
        have hld := ld_midA0 (P := Try.prog) (T := 165) (n := 4) u3 u4 (by simp) (by simp) (by simpa [Ty.n] using u5.len)
        obtain ⟨c', h2, b2, v1, v2, v3, v4, v5⟩ := toFlowOp_h u5 (Kp.refl h) (hl2 _ (List.getElem_mem hlt)) m (by omega)
        have hc5 : c'.length = 4 := by simpa [Ty.n] using v3.len
        have hg2 : h2.get H.next = some (.cells 65 false (x1 ++ [.int .i64 0, .int .i64 0, .int .i64 0, .bool false] ++ zerosA [.int .i64 0, .int .i64 0, .int .i64 0, .bool false] d)) := by rw [v2.get _ hnx, hg, zerosA, List.append_assoc]
        have hst := st_midA (P := Try.prog) (T := 65) (o := k * 4) hg2 (by omega) (by simp [hc5]) (by simp [hc5]) v3.one
        have hidx : idxA Try.prog 51 (.slice H.next 0 ds.length) (.int .i64 k) = some (.ptr H.next (k * 4)) := by simp [idxA, hlt]
        rewrite [lp28_58]
        simp [Try.f28, t0, t3, t4, hL, hlt, u1, hld, v1, hidx, hst, wrap_i64 (n := (k : Int) + 1) (by omega) (by omega)]
        have hn2 := v2.next
        have hset : ∀ y, ∀ x, x ≠ H.next → (h2.set H.next y).get x = h2.get x := fun y x hx => by rw [AH.set_get, if_neg hx]
        refine ⟨d, by omega, k + 1, x1 ++ c', bs1 ++ b2, by omega, by simp [t0], by simp [t3], by simp, (hKh.trans v2).set (Nat.le_refl _) _, by simp; omega, by simp, ?_, ?_, ?_⟩
        · rw [List.take_add_one, List.getElem?_eq_getElem hlt]
          exact Rows.app (hR.imp fun c d b3 _ hb hh => (hh.kp v2).stay (by simp) fun x hx => hset _ x (by have := hlo x (hb x hx); omega)) (Rows.one (v3.stay (by simp) fun x hx => hset _ x (by have := v5 x hx; omega)) hc5)
        · refine List.nodup_append.2 ⟨hnd, v4, fun x hx y hy e => ?_⟩
          have h1 := Rows.mem (fun c d bs h => Ty.R.mem h) hR x hx
          have h2 := v5 y hy
          omega
        · intro x hx
          rcases List.mem_append.1 hx with hx | hx
          · exact hlo x hx
          · have := v5 x hx; omega)
    ⟨0, [], [], by simp, by simp, by simp, by simp, (Kp.refl H).push _, by simp, by simp, ⟨rfl, rfl⟩, by simp, by simp⟩ (by omega))
  obtain ⟨k, x1, bs1, hk, t0, t3, t4, hKh, hnx, hg, hR, hnd, hlo⟩ := g
  have hkl : k = ds.length := by omega
  subst hkl
  rw [List.take_length] at hR
  have hx1 := hR.len
  simp [t3]
  refine ⟨_, _, ⟨rfl, rfl⟩, hKh, H.next :: bs1, .inr ⟨H.next, 0, false, x1, bs1, rfl, rfl, hnx, by simpa using hg, fun _ => ⟨rfl, rfl, by simpa [Ty.n] using hx1⟩, by simp [Ty.n, hx1], ?_⟩, ?_, ?_⟩
  · have : (x1.drop 0).take (ds.length * tT65.n) = x1 := by rw [List.drop_zero, List.take_of_length_le (by simp [Ty.n, hx1])]
    rw [this]; exact hR
  · rw [List.nodup_cons]; exact ⟨fun hx => by have := hlo _ hx; omega, hnd⟩
  · intro x hx
    rcases List.mem_cons.1 hx with rfl | hx
    · exact Nat.le_refl _
    · have := hlo x hx; omega
/-! eqByteS -/
def IeqByteS_h (n : Nat) (s1 s2 : AV) (H : AH) (d : Nat) (τ : Tm) (h : AH) : Prop := ∃ k : Nat, k + d = n ∧ τ 0 = s1 ∧ τ 1 = s2 ∧ τ 5 = .int .i64 k ∧ Kp H h
set_option maxHeartbeats 4000000 in
theorem eqByteS_h {H h : AH} {s1 s2 : AV} {ds : List (Ty.int .u8).D} {b1 b2 : List Nat} {r1 r2 : Bool} (h1 : (Ty.sl 5 (Ty.int .u8)).R r1 H [s1] ds b1) (h2 : (Ty.sl 5 (Ty.int .u8)).R r2 H [s2] ds b2) (hK : Kp H h) (hb : (Ty.sl 5 (Ty.int .u8)).bd 1048576 ds) (m : Nat) (hm : 1048720 ≤ m) :
    ∃ h', ev Try.prog m 43 [s1, s2] h = some (.bool true, h') ∧ Kp h h' := by
  obtain ⟨m, rfl⟩ : ∃ k, m = k + 1 := ⟨m - 1, by omega⟩
  obtain ⟨hl, hl2⟩ := hb
  have e1 := Ty.R.lenA h1 (P := Try.prog) (T := 34) (by simp)
  have e2 := Ty.R.lenA h2 (P := Try.prog) (T := 34) (by simp)
  rw [ev_eq Try.func43 ok43 m _ h (by simp [Try.f43])]
  simp [Try.f43, e1, e2]
  generalize hLo : evLoop _ _ _ _ _ _ = R
  obtain ⟨e, τ', H', rfl, rfl, g⟩ := loop_at hLo (loop_rule (d := ds.length) (fun d τ h' => IeqByteS_h ds.length s1 s2 h d τ h')
    (fun e τ h' => e = .exit 0 ∧ Kp h h')
    (by
      rintro d τ h' ⟨k, hk, t0, t1, t5, hKh⟩
      by_cases hd0 : d = 0
      · subst hd0
        have hkl : (k : Int) = ds.length := by omega
        rewrite [lp43_58]
        simp [Try.f43, t0, t1, t5, e1, hkl]
        exact hKh
      · have hlt : k < ds.length := by omega
        have hKK := hK.trans hKh
        obtain ⟨b, o, ro, x1, c, x2, bk, u1, u2, u3, u4, u5, u6, u7, u8⟩ := Ty.R.at_ (h1.kp hKK) (P := Try.prog) (T := 34) (by simp) (by simp [Ty.n]) (k := k) hlt
        obtain ⟨b', o', ro', y1, c', y2, bk', w1, w2, w3, w4, w5, w6, w7, w8⟩ := Ty.R.at_ (h2.kp hKK) (P := Try.prog) (T := 34) (by simp) (by simp [Ty.n]) (k := k) hlt
        obtain ⟨a, rfl⟩ := List.length_eq_one_iff.1 u5.len
        have hld := ld_mid0 (P := Try.prog) (T := 5) u3 u4 (by simp)
        obtain ⟨a', rfl⟩ := List.length_eq_one_iff.1 w5.len
        have hld' := ld_mid0 (P := Try.prog) (T := 5) w3 w4 (by simp)
        have v1 : a = a' := by have q1 := u5.1; have q2 := w5.1; simp at q1 q2; rw [q1, q2]
        have q1 := u5.1
        simp only [List.cons.injEq, and_true] at q1
        subst v1
        rw [q1] at hld hld'
        obtain ⟨h3, hh3⟩ : ∃ x, x = h' := ⟨_, rfl⟩
        have v2 : Kp h' h3 := by rw [hh3]; exact Kp.refl h'
        rewrite [lp43_58]
        simp [Try.f43, t0, t1, t5, e1, hlt, u1, w1, hld, hld', ba_refl, evHist, ObsOk, ObOk, wrap_i64 (n := (k : Int) + 1) (by omega) (by omega)]
        rw [← hh3]
        exact ⟨d - 1, by omega, k + 1, by omega, by simp [t0], by simp [t1], by simp, hKh.trans v2⟩)
    ⟨0, by simp, by simp, by simp, by simp, Kp.refl h⟩ (by omega))
  simp
  exact g
/-! eqRange -/
abbrev tT94 : Ty := .pair (Ty.int .i64) (Ty.int .i64)
theorem o94 {rw : Bool} {H : AH} {c : List AV} {x_0 : Int} {x_1 : Int} {bs : List Nat} (h : tT94.R rw H c (x_0, x_1) bs) : c = [.int .i64 x_0, .int .i64 x_1] ∧ ([] : List Nat) = bs ∧ InK .i64 x_0 ∧ InK .i64 x_1 := by
  obtain ⟨c1, d1, e1, f1, rfl, rfl, ⟨rfl, rx_0, sx_0, rfl⟩, ⟨rfl, rx_1, sx_1, rfl⟩⟩ := h
  exact ⟨by simp, by simp, ⟨rx_0, sx_0⟩, ⟨rx_1, sx_1⟩⟩
theorem i94 {rw : Bool} {H : AH} {x_0 : Int} {x_1 : Int}  (ix_0 : InK .i64 x_0) (ix_1 : InK .i64 x_1) : tT94.R rw H [.int .i64 x_0, .int .i64 x_1] (x_0, x_1) ([] : List Nat) := by
  have h : tT94.R rw H ([.int .i64 x_0] ++ [.int .i64 x_1]) (x_0, x_1) ([] ++ []) := (Ty.R.pair (Ty.R.int ix_0) (Ty.R.int ix_1))
  simpa using h
set_option maxHeartbeats 4000000 in
theorem eqRange_h {H h : AH} {c1 c2 : List AV} {d : tT94.D} {b1 b2 : List Nat} {r1 r2 : Bool} (h1 : tT94.R r1 H c1 d b1) (h2 : tT94.R r2 H c2 d b2) (hK : Kp H h) (hb : tT94.bd 1048576 d) (m : Nat) (hm : 1048720 ≤ m) :
    ∃ h', ev Try.prog m 221 [.agg c1, .agg c2] h = some (.bool true, h') ∧ Kp h h' := by
  obtain ⟨m, rfl⟩ : ∃ k, m = k + 1 := ⟨m - 1, by omega⟩
  obtain ⟨x_0, x_1⟩ := d
  obtain ⟨hbx_0, hbx_1⟩ := hb
  obtain ⟨rfl, rfl, ix_0, ix_1⟩ := o94 h1
  obtain ⟨rfl, rfl, jx_0, jx_1⟩ := o94 h2
  let A0 : AH := (h.push (.cells 94 false [.int .i64 x_0, .int .i64 x_1])).push (.cells 94 false [.int .i64 x_0, .int .i64 x_1])
  have K0 : Kp h A0 := ((Kp.refl h).push _).push _
  have g0 : A0.get h.next = some (.cells 94 false [.int .i64 x_0, .int .i64 x_1]) := by simp [A0]
  have f0 : A0.get (h.next + 1) = some (.cells 94 false [.int .i64 x_0, .int .i64 x_1]) := by simp [A0]
  have n0 : h.next + 2 ≤ A0.next := by simp [A0]
  refine ⟨A0, ?_, K0⟩
  have nn1 : ¬ (h.next = h.next + 1) := by omega
  rw [ev_eq Try.func221 ok221 m _ h (by simp [Try.f221])]
  simp [Try.f221, ldVar, nn1, evHist, ObsOk, ObOk, ba_refl, A0]
/-! eqRangeS -/
def IeqRangeS_h (n : Nat) (s1 s2 : AV) (H : AH) (d : Nat) (τ : Tm) (h : AH) : Prop := ∃ k : Nat, k + d = n ∧ τ 0 = s1 ∧ τ 1 = s2 ∧ τ 5 = .int .i64 k ∧ Kp H h
set_option maxHeartbeats 4000000 in
theorem eqRangeS_h {H h : AH} {s1 s2 : AV} {ds : List tT94.D} {b1 b2 : List Nat} {r1 r2 : Bool} (h1 : (Ty.sl 94 tT94).R r1 H [s1] ds b1) (h2 : (Ty.sl 94 tT94).R r2 H [s2] ds b2) (hK : Kp H h) (hb : (Ty.sl 94 tT94).bd 1048576 ds) (m : Nat) (hm : 1048740 ≤ m) :
    ∃ h', ev Try.prog m 127 [s1, s2] h = some (.bool true, h') ∧ Kp h h' := by
  obtain ⟨m, rfl⟩ : ∃ k, m = k + 1 := ⟨m - 1, by omega⟩
  obtain ⟨hl, hl2⟩ := hb
  have e1 := Ty.R.lenA h1 (P := Try.prog) (T := 70) (by simp)
  have e2 := Ty.R.lenA h2 (P := Try.prog) (T := 70) (by simp)
  rw [ev_eq Try.func127 ok127 m _ h (by simp [Try.f127])]
  simp [Try.f127, e1, e2]
  generalize hLo : evLoop _ _ _ _ _ _ = R
  obtain ⟨e, τ', H', rfl, rfl, g⟩ := loop_at hLo (loop_rule (d := ds.length) (fun d τ h' => IeqRangeS_h ds.length s1 s2 h d τ h')
    (fun e τ h' => e = .exit 0 ∧ Kp h h')
    (by
      rintro d τ h' ⟨k, hk, t0, t1, t5, hKh⟩
      by_cases hd0 : d = 0
      · subst hd0
        have hkl : (k : Int) = ds.length := by omega
        rewrite [lp127_58]
        simp [Try.f127, t0, t1, t5, e1, hkl]
        exact hKh
      · have hlt : k < ds.length := by omega
        have hKK := hK.trans hKh
        obtain ⟨b, o, ro, x1, c, x2, bk, u1, u2, u3, u4, u5, u6, u7, u8⟩ := Ty.R.at_ (h1.kp hKK) (P := Try.prog) (T := 70) (by simp) (by simp [Ty.n]) (k := k) hlt
        obtain ⟨b', o', ro', y1, c', y2, bk', w1, w2, w3, w4, w5, w6, w7, w8⟩ := Ty.R.at_ (h2.kp hKK) (P := Try.prog) (T := 70) (by simp) (by simp [Ty.n]) (k := k) hlt
        have hld := ld_midA0 (P := Try.prog) (T := 94) (n := 2) u3 u4 (by simp) (by simp) (by simpa [Ty.n] using u5.len)
        have hld' := ld_midA0 (P := Try.prog) (T := 94) (n := 2) w3 w4 (by simp) (by simp) (by simpa [Ty.n] using w5.len)
        obtain ⟨h3, v1, v2⟩ := eqRange_h u5 w5 (Kp.refl h') (hl2 _ (List.getElem_mem hlt)) m (by omega)
        rewrite [lp127_58]
        simp [Try.f127, t0, t1, t5, e1, hlt, u1, w1, hld, hld', v1, evHist, ObsOk, ObOk, wrap_i64 (n := (k : Int) + 1) (by omega) (by omega)]
        exact ⟨d - 1, by omega, k + 1, by omega, by simp [t0], by simp [t1], by simp, hKh.trans v2⟩)
    ⟨0, by simp, by simp, by simp, by simp, Kp.refl h⟩ (by omega))
  simp
  exact g
/-! eqFrame -/
abbrev tT72 : Ty := .pair (Ty.int .i64) (.pair (Ty.int .i64) (.pair (Ty.int .i64) (.pair (Ty.int .i64) (.pair Ty.bool (.pair (Ty.sl 5 (Ty.int .u8)) (.pair (Ty.sl 5 (Ty.int .u8)) (Ty.sl 94 tT94)))))))
theorem o72 {rw : Bool} {H : AH} {c : List AV} {x_0 : Int} {x_1 : Int} {x_2 : Int} {x_3 : Int} {x_4 : Bool} {x_5 : List (Ty.int .u8).D} {x_6 : List (Ty.int .u8).D} {x_7 : List tT94.D} {bs : List Nat} (h : tT72.R rw H c (x_0, x_1, x_2, x_3, x_4, x_5, x_6, x_7) bs) : ∃ vx_5 vx_6 vx_7 bx_5 bx_6 bx_7, c = [.int .i64 x_0, .int .i64 x_1, .int .i64 x_2, .int .i64 x_3, .bool x_4, vx_5, vx_6, vx_7] ∧ (bx_5 ++ (bx_6 ++ bx_7)) = bs ∧ (Ty.sl 5 (Ty.int .u8)).R rw H [vx_5] x_5 bx_5 ∧ (Ty.sl 5 (Ty.int .u8)).R rw H [vx_6] x_6 bx_6 ∧ (Ty.sl 94 tT94).R rw H [vx_7] x_7 bx_7 ∧ InK .i64 x_0 ∧ InK .i64 x_1 ∧ InK .i64 x_2 ∧ InK .i64 x_3 := by
  obtain ⟨c1, d1, e1, f1, rfl, rfl, ⟨rfl, rx_0, sx_0, rfl⟩, ⟨c2, d2, e2, f2, rfl, rfl, ⟨rfl, rx_1, sx_1, rfl⟩, ⟨c3, d3, e3, f3, rfl, rfl, ⟨rfl, rx_2, sx_2, rfl⟩, ⟨c4, d4, e4, f4, rfl, rfl, ⟨rfl, rx_3, sx_3, rfl⟩, ⟨c5, d5, e5, f5, rfl, rfl, ⟨rfl, rfl⟩, ⟨c6, d6, e6, f6, rfl, rfl, hx_5, ⟨c7, d7, e7, f7, rfl, rfl, hx_6, hx_7⟩⟩⟩⟩⟩⟩⟩ := h
  obtain ⟨vx_5, rfl⟩ := hx_5.sl_cell
  obtain ⟨vx_6, rfl⟩ := hx_6.sl_cell
  obtain ⟨vx_7, rfl⟩ := hx_7.sl_cell
  exact ⟨vx_5, vx_6, vx_7, _, _, _, by simp, by simp, hx_5, hx_6, hx_7, ⟨rx_0, sx_0⟩, ⟨rx_1, sx_1⟩, ⟨rx_2, sx_2⟩, ⟨rx_3, sx_3⟩⟩
theorem i72 {rw : Bool} {H : AH} {x_0 : Int} {x_1 : Int} {x_2 : Int} {x_3 : Int} {x_4 : Bool} {x_5 : List (Ty.int .u8).D} {x_6 : List (Ty.int .u8).D} {x_7 : List tT94.D} {vx_5 vx_6 vx_7 : AV} {bx_5 bx_6 bx_7 : List Nat} (hx_5 : (Ty.sl 5 (Ty.int .u8)).R rw H [vx_5] x_5 bx_5) (hx_6 : (Ty.sl 5 (Ty.int .u8)).R rw H [vx_6] x_6 bx_6) (hx_7 : (Ty.sl 94 tT94).R rw H [vx_7] x_7 bx_7) (ix_0 : InK .i64 x_0) (ix_1 : InK .i64 x_1) (ix_2 : InK .i64 x_2) (ix_3 : InK .i64 x_3) : tT72.R rw H [.int .i64 x_0, .int .i64 x_1, .int .i64 x_2, .int .i64 x_3, .bool x_4, vx_5, vx_6, vx_7] (x_0, x_1, x_2, x_3, x_4, x_5, x_6, x_7) (bx_5 ++ (bx_6 ++ bx_7)) := by
  have h : tT72.R rw H ([.int .i64 x_0] ++ ([.int .i64 x_1] ++ ([.int .i64 x_2] ++ ([.int .i64 x_3] ++ ([.bool x_4] ++ ([vx_5] ++ ([vx_6] ++ [vx_7]))))))) (x_0, x_1, x_2, x_3, x_4, x_5, x_6, x_7) ([] ++ ([] ++ ([] ++ ([] ++ ([] ++ (bx_5 ++ (bx_6 ++ bx_7))))))) := (Ty.R.pair (Ty.R.int ix_0) (Ty.R.pair (Ty.R.int ix_1) (Ty.R.pair (Ty.R.int ix_2) (Ty.R.pair (Ty.R.int ix_3) (Ty.R.pair (Ty.R.bool x_4) (Ty.R.pair hx_5 (Ty.R.pair hx_6 hx_7)))))))
  simpa using h
set_option maxHeartbeats 4000000 in
theorem eqFrame_h {H h : AH} {c1 c2 : List AV} {d : tT72.D} {b1 b2 : List Nat} {r1 r2 : Bool} (h1 : tT72.R r1 H c1 d b1) (h2 : tT72.R r2 H c2 d b2) (hK : Kp H h) (hb : tT72.bd 1048576 d) (m : Nat) (hm : 1048760 ≤ m) :
    ∃ h', ev Try.prog m 42 [.agg c1, .agg c2] h = some (.bool true, h') ∧ Kp h h' := by
  obtain ⟨m, rfl⟩ : ∃ k, m = k + 1 := ⟨m - 1, by omega⟩
  obtain ⟨x_0, x_1, x_2, x_3, x_4, x_5, x_6, x_7⟩ := d
  obtain ⟨hbx_0, hbx_1, hbx_2, hbx_3, hbx_4, hbx_5, hbx_6, hbx_7⟩ := hb
  obtain ⟨vx_5, vx_6, vx_7, bx_5, bx_6, bx_7, rfl, rfl, hx_5, hx_6, hx_7, ix_0, ix_1, ix_2, ix_3⟩ := o72 h1
  obtain ⟨wx_5, wx_6, wx_7, ex_5, ex_6, ex_7, rfl, rfl, kx_5, kx_6, kx_7, jx_0, jx_1, jx_2, jx_3⟩ := o72 h2
  have ox_5 := hx_5.sl_one
  have px_5 := kx_5.sl_one
  have ox_6 := hx_6.sl_one
  have px_6 := kx_6.sl_one
  have ox_7 := hx_7.sl_one
  have px_7 := kx_7.sl_one
  let A0 : AH := (h.push (.cells 72 false [.int .i64 x_0, .int .i64 x_1, .int .i64 x_2, .int .i64 x_3, .bool x_4, vx_5, vx_6, vx_7])).push (.cells 72 false [.int .i64 x_0, .int .i64 x_1, .int .i64 x_2, .int .i64 x_3, .bool x_4, wx_5, wx_6, wx_7])
  have K0 : Kp h A0 := ((Kp.refl h).push _).push _
  have g0 : A0.get h.next = some (.cells 72 false [.int .i64 x_0, .int .i64 x_1, .int .i64 x_2, .int .i64 x_3, .bool x_4, vx_5, vx_6, vx_7]) := by simp [A0]
  have f0 : A0.get (h.next + 1) = some (.cells 72 false [.int .i64 x_0, .int .i64 x_1, .int .i64 x_2, .int .i64 x_3, .bool x_4, wx_5, wx_6, wx_7]) := by simp [A0]
  have n0 : h.next + 2 ≤ A0.next := by simp [A0]
  obtain ⟨A1, a1, Q1⟩ := eqByteS_h hx_5 kx_5 (hK.trans K0) hbx_5 m (by omega)
  have K1 : Kp h A1 := K0.trans Q1
  have g1 : A1.get h.next = _ := (Q1.get _ (by omega)).trans g0
  have f1 : A1.get (h.next + 1) = _ := (Q1.get _ (by omega)).trans f0
  have n1 : h.next + 2 ≤ A1.next := by have := Q1.next; omega
  obtain ⟨A2, a2, Q2⟩ := eqByteS_h hx_6 kx_6 (hK.trans K1) hbx_6 m (by omega)
  have K2 : Kp h A2 := K1.trans Q2
  have g2 : A2.get h.next = _ := (Q2.get _ (by omega)).trans g1
  have f2 : A2.get (h.next + 1) = _ := (Q2.get _ (by omega)).trans f1
  have n2 : h.next + 2 ≤ A2.next := by have := Q2.next; omega
  obtain ⟨A3, a3, Q3⟩ := eqRangeS_h hx_7 kx_7 (hK.trans K2) hbx_7 m (by omega)
  have K3 : Kp h A3 := K2.trans Q3
  have g3 : A3.get h.next = _ := (Q3.get _ (by omega)).trans g2
  have f3 : A3.get (h.next + 1) = _ := (Q3.get _ (by omega)).trans f2
  have n3 : h.next + 2 ≤ A3.next := by have := Q3.next; omega
  refine ⟨A3, ?_, K3⟩
  have nn1 : ¬ (h.next = h.next + 1) := by omega
  rw [ev_eq Try.func42 ok42 m _ h (by simp [Try.f42])]
  simp only [A0] at a1 g0 f0
  simp [Try.f42, ldVar, nn1, evHist, ObsOk, ObOk, ba_refl, ox_5, ox_6, ox_7, px_5, px_6, px_7, a1, g1, f1, a2, g2, f2, a3, g3, f3]
/-! eqFrameS -/
def IeqFrameS_h (n : Nat) (s1 s2 : AV) (H : AH) (d : Nat) (τ : Tm) (h : AH) : Prop := ∃ k : Nat, k + d = n ∧ τ 0 = s1 ∧ τ 1 = s2 ∧ τ 5 = .int .i64 k ∧ Kp H h
set_option maxHeartbeats 4000000 in
theorem eqFrameS_h {H h : AH} {s1 s2 : AV} {ds : List tT72.D} {b1 b2 : List Nat} {r1 r2 : Bool} (h1 : (Ty.sl 72 tT72).R r1 H [s1] ds b1) (h2 : (Ty.sl 72 tT72).R r2 H [s2] ds b2) (hK : Kp H h) (hb : (Ty.sl 72 tT72).bd 1048576 ds) (m : Nat) (hm : 1048780 ≤ m) :
    ∃ h', ev Try.prog m 213 [s1, s2] h = some (.bool true, h') ∧ Kp h h' := by
  obtain ⟨m, rfl⟩ : ∃ k, m = k + 1 := ⟨m - 1, by omega⟩
  obtain ⟨hl, hl2⟩ := hb
  have e1 := Ty.R.lenA h1 (P := Try.prog) (T := 61) (by simp)
  have e2 := Ty.R.lenA h2 (P := Try.prog) (T := 61) (by simp)
  rw [ev_eq Try.func213 ok213 m _ h (by simp [Try.f213])]
  simp [Try.f213, e1, e2]
  generalize hLo : evLoop _ _ _ _ _ _ = R
  obtain ⟨e, τ', H', rfl, rfl, g⟩ := loop_at hLo (loop_rule (d := ds.length) (fun d τ h' => IeqFrameS_h ds.length s1 s2 h d τ h')
    (fun e τ h' => e = .exit 0 ∧ Kp h h')
    (by
      rintro d τ h' ⟨k, hk, t0, t1, t5, hKh⟩
      by_cases hd0 : d = 0
      · subst hd0
        have hkl : (k : Int) = ds.length := by omega
        rewrite [lp213_58]
        simp [Try.f213, t0, t1, t5, e1, hkl]
        exact hKh
      · have hlt : k < ds.length := by omega
        have hKK := hK.trans hKh
        obtain ⟨b, o, ro, x1, c, x2, bk, u1, u2, u3, u4, u5, u6, u7, u8⟩ := Ty.R.at_ (h1.kp hKK) (P := Try.prog) (T := 61) (by simp) (by simp [Ty.n]) (k := k) hlt
        obtain ⟨b', o', ro', y1, c', y2, bk', w1, w2, w3, w4, w5, w6, w7, w8⟩ := Ty.R.at_ (h2.kp hKK) (P := Try.prog) (T := 61) (by simp) (by simp [Ty.n]) (k := k) hlt
        have hld := ld_midA0 (P := Try.prog) (T := 72) (n := 8) u3 u4 (by simp) (by simp) (by simpa [Ty.n] using u5.len)
        have hld' := ld_midA0 (P := Try.prog) (T := 72) (n := 8) w3 w4 (by simp) (by simp) (by simpa [Ty.n] using w5.len)
        obtain ⟨h3, v1, v2⟩ := eqFrame_h u5 w5 (Kp.refl h') (hl2 _ (List.getElem_mem hlt)) m (by omega)
        rewrite [lp213_58]
        simp [Try.f213, t0, t1, t5, e1, hlt, u1, w1, hld, hld', v1, evHist, ObsOk, ObOk, wrap_i64 (n := (k : Int) + 1) (by omega) (by omega)]
        exact ⟨d - 1, by omega, k + 1, by omega, by simp [t0], by simp [t1], by simp, hKh.trans v2⟩)
    ⟨0, by simp, by simp, by simp, by simp, Kp.refl h⟩ (by omega))
  simp
  exact g
/-! eqFlowObs -/
abbrev tT63 : Ty := .pair (Ty.int .i64) (.pair (Ty.int .i64) (.pair (Ty.int .i64) (Ty.sl 72 tT72)))
theorem o63 {rw : Bool} {H : AH} {c : List AV} {x_0 : Int} {x_1 : Int} {x_2 : Int} {x_3 : List tT72.D} {bs : List Nat} (h : tT63.R rw H c (x_0, x_1, x_2, x_3) bs) : ∃ vx_3 bx_3, c = [.int .i64 x_0, .int .i64 x_1, .int .i64 x_2, vx_3] ∧ bx_3 = bs ∧ (Ty.sl 72 tT72).R rw H [vx_3] x_3 bx_3 ∧ InK .i64 x_0 ∧ InK .i64 x_1 ∧ InK .i64 x_2 := by
  obtain ⟨c1, d1, e1, f1, rfl, rfl, ⟨rfl, rx_0, sx_0, rfl⟩, ⟨c2, d2, e2, f2, rfl, rfl, ⟨rfl, rx_1, sx_1, rfl⟩, ⟨c3, d3, e3, f3, rfl, rfl, ⟨rfl, rx_2, sx_2, rfl⟩, hx_3⟩⟩⟩ := h
  obtain ⟨vx_3, rfl⟩ := hx_3.sl_cell
  exact ⟨vx_3, _, by simp, by simp, hx_3, ⟨rx_0, sx_0⟩, ⟨rx_1, sx_1⟩, ⟨rx_2, sx_2⟩⟩
theorem i63 {rw : Bool} {H : AH} {x_0 : Int} {x_1 : Int} {x_2 : Int} {x_3 : List tT72.D} {vx_3 : AV} {bx_3 : List Nat} (hx_3 : (Ty.sl 72 tT72).R rw H [vx_3] x_3 bx_3) (ix_0 : InK .i64 x_0) (ix_1 : InK .i64 x_1) (ix_2 : InK .i64 x_2) : tT63.R rw H [.int .i64 x_0, .int .i64 x_1, .int .i64 x_2, vx_3] (x_0, x_1, x_2, x_3) bx_3 := by
  have h : tT63.R rw H ([.int .i64 x_0] ++ ([.int .i64 x_1] ++ ([.int .i64 x_2] ++ [vx_3]))) (x_0, x_1, x_2, x_3) ([] ++ ([] ++ ([] ++ bx_3))) := (Ty.R.pair (Ty.R.int ix_0) (Ty.R.pair (Ty.R.int ix_1) (Ty.R.pair (Ty.R.int ix_2) hx_3)))
  simpa using h
set_option maxHeartbeats 4000000 in
theorem eqFlowObs_h {H h : AH} {c1 c2 : List AV} {d : tT63.D} {b1 b2 : List Nat} {r1 r2 : Bool} (h1 : tT63.R r1 H c1 d b1) (h2 : tT63.R r2 H c2 d b2) (hK : Kp H h) (hb : tT63.bd 1048576 d) (m : Nat) (hm : 1048800 ≤ m) :
    ∃ h', ev Try.prog m 116 [.agg c1, .agg c2] h = some (.bool true, h') ∧ Kp h h' := by
  obtain ⟨m, rfl⟩ : ∃ k, m = k + 1 := ⟨m - 1, by omega⟩
  obtain ⟨x_0, x_1, x_2, x_3⟩ := d
  obtain ⟨hbx_0, hbx_1, hbx_2, hbx_3⟩ := hb
  obtain ⟨vx_3, bx_3, rfl, rfl, hx_3, ix_0, ix_1, ix_2⟩ := o63 h1
  obtain ⟨wx_3, ex_3, rfl, rfl, kx_3, jx_0, jx_1, jx_2⟩ := o63 h2
  have ox_3 := hx_3.sl_one
  have px_3 := kx_3.sl_one
  let A0 : AH := (h.push (.cells 63 false [.int .i64 x_0, .int .i64 x_1, .int .i64 x_2, vx_3])).push (.cells 63 false [.int .i64 x_0, .int .i64 x_1, .int .i64 x_2, wx_3])
  have K0 : Kp h A0 := ((Kp.refl h).push _).push _
  have g0 : A0.get h.next = some (.cells 63 false [.int .i64 x_0, .int .i64 x_1, .int .i64 x_2, vx_3]) := by simp [A0]
  have f0 : A0.get (h.next + 1) = some (.cells 63 false [.int .i64 x_0, .int .i64 x_1, .int .i64 x_2, wx_3]) := by simp [A0]
  have n0 : h.next + 2 ≤ A0.next := by simp [A0]
  obtain ⟨A1, a1, Q1⟩ := eqFrameS_h hx_3 kx_3 (hK.trans K0) hbx_3 m (by omega)
  have K1 : Kp h A1 := K0.trans Q1
  have g1 : A1.get h.next = _ := (Q1.get _ (by omega)).trans g0
  have f1 : A1.get (h.next + 1) = _ := (Q1.get _ (by omega)).trans f0
  have n1 : h.next + 2 ≤ A1.next := by have := Q1.next; omega
  refine ⟨A1, ?_, K1⟩
  have nn1 : ¬ (h.next = h.next + 1) := by omega
  rw [ev_eq Try.func116 ok116 m _ h (by simp [Try.f116])]
  simp only [A0] at a1 g0 f0
  simp [Try.f116, ldVar, nn1, evHist, ObsOk, ObOk, ba_refl, ox_3, px_3, a1, g1, f1]
/-! eqFlowObsS -/
def IeqFlowObsS_h (n : Nat) (s1 s2 : AV) (H : AH) (d : Nat) (τ : Tm) (h : AH) : Prop := ∃ k : Nat, k + d = n ∧ τ 0 = s1 ∧ τ 1 = s2 ∧ τ 5 = .int .i64 k ∧ Kp H h
set_option maxHeartbeats 4000000 in
theorem eqFlowObsS_h {H h : AH} {s1 s2 : AV} {ds : List tT63.D} {b1 b2 : List Nat} {r1 r2 : Bool} (h1 : (Ty.sl 63 tT63).R r1 H [s1] ds b1) (h2 : (Ty.sl 63 tT63).R r2 H [s2] ds b2) (hK : Kp H h) (hb : (Ty.sl 63 tT63).bd 1048576 ds) (m : Nat) (hm : 1048820 ≤ m) :
    ∃ h', ev Try.prog m 30 [s1, s2] h = some (.bool true, h') ∧ Kp h h' := by
  obtain ⟨m, rfl⟩ : ∃ k, m = k + 1 := ⟨m - 1, by omega⟩
  obtain ⟨hl, hl2⟩ := hb
  have e1 := Ty.R.lenA h1 (P := Try.prog) (T := 46) (by simp)
  have e2 := Ty.R.lenA h2 (P := Try.prog) (T := 46) (by simp)
  rw [ev_eq Try.func30 ok30 m _ h (by simp [Try.f30])]
  simp [Try.f30, e1, e2]
  generalize hLo : evLoop _ _ _ _ _ _ = R
  obtain ⟨e, τ', H', rfl, rfl, g⟩ := loop_at hLo (loop_rule (d := ds.length) (fun d τ h' => IeqFlowObsS_h ds.length s1 s2 h d τ h')
    (fun e τ h' => e = .exit 0 ∧ Kp h h')
    (by
      rintro d τ h' ⟨k, hk, t0, t1, t5, hKh⟩
      by_cases hd0 : d = 0
      · subst hd0
        have hkl : (k : Int) = ds.length := by omega
        rewrite [lp30_58]
        simp [Try.f30, t0, t1, t5, e1, hkl]
        exact hKh
      · have hlt : k < ds.length := by omega
        have hKK := hK.trans hKh
        obtain ⟨b, o, ro, x1, c, x2, bk, u1, u2, u3, u4, u5, u6, u7, u8⟩ := Ty.R.at_ (h1.kp hKK) (P := Try.prog) (T := 46) (by simp) (by simp [Ty.n]) (k := k) hlt
        obtain ⟨b', o', ro', y1, c', y2, bk', w1, w2, w3, w4, w5, w6, w7, w8⟩ := Ty.R.at_ (h2.kp hKK) (P := Try.prog) (T := 46) (by simp) (by simp [Ty.n]) (k := k) hlt
        have hld := ld_midA0 (P := Try.prog) (T := 63) (n := 4) u3 u4 (by simp) (by simp) (by simpa [Ty.n] using u5.len)
        have hld' := ld_midA0 (P := Try.prog) (T := 63) (n := 4) w3 w4 (by simp) (by simp) (by simpa [Ty.n] using w5.len)
        obtain ⟨h3, v1, v2⟩ := eqFlowObs_h u5 w5 (Kp.refl h') (hl2 _ (List.getElem_mem hlt)) m (by omega)
        rewrite [lp30_58]
        simp [Try.f30, t0, t1, t5, e1, hlt, u1, w1, hld, hld', v1, evHist, ObsOk, ObOk, wrap_i64 (n := (k : Int) + 1) (by omega) (by omega)]
        exact ⟨d - 1, by omega, k + 1, by omega, by simp [t0], by simp [t1], by simp, hKh.trans v2⟩)
    ⟨0, by simp, by simp, by simp, by simp, Kp.refl h⟩ (by omega))
  simp
  exact g
/-! eqFlowOp -/
set_option maxHeartbeats 4000000 in
theorem eqFlowOp_h {H h : AH} {c1 c2 : List AV} {d : tT65.D} {b1 b2 : List Nat} {r1 r2 : Bool} (h1 : tT65.R r1 H c1 d b1) (h2 : tT65.R r2 H c2 d b2) (hK : Kp H h) (hb : tT65.bd 1048576 d) (m : Nat) (hm : 1048720 ≤ m) :
    ∃ h', ev Try.prog m 117 [.agg c1, .agg c2] h = some (.bool true, h') ∧ Kp h h' := by
  obtain ⟨m, rfl⟩ : ∃ k, m = k + 1 := ⟨m - 1, by omega⟩
  obtain ⟨x_0, x_1, x_2, x_3⟩ := d
  obtain ⟨hbx_0, hbx_1, hbx_2, hbx_3⟩ := hb
  obtain ⟨rfl, rfl, ix_0, ix_1, ix_2⟩ := o65 h1
  obtain ⟨rfl, rfl, jx_0, jx_1, jx_2⟩ := o65 h2
  let A0 : AH := (h.push (.cells 65 false [.int .i64 x_0, .int .i64 x_1, .int .i64 x_2, .bool x_3])).push (.cells 65 false [.int .i64 x_0, .int .i64 x_1, .int .i64 x_2, .bool x_3])
  have K0 : Kp h A0 := ((Kp.refl h).push _).push _
  have g0 : A0.get h.next = some (.cells 65 false [.int .i64 x_0, .int .i64 x_1, .int .i64 x_2, .bool x_3]) := by simp [A0]
  have f0 : A0.get (h.next + 1) = some (.cells 65 false [.int .i64 x_0, .int .i64 x_1, .int .i64 x_2, .bool x_3]) := by simp [A0]
  have n0 : h.next + 2 ≤ A0.next := by simp [A0]
  refine ⟨A0, ?_, K0⟩
  have nn1 : ¬ (h.next = h.next + 1) := by omega
  rw [ev_eq Try.func117 ok117 m _ h (by simp [Try.f117])]
  simp [Try.f117, ldVar, nn1, evHist, ObsOk, ObOk, ba_refl, A0]
/-! eqFlowOpS -/
def IeqFlowOpS_h (n : Nat) (s1 s2 : AV) (H : AH) (d : Nat) (τ : Tm) (h : AH) : Prop := ∃ k : Nat, k + d = n ∧ τ 0 = s1 ∧ τ 1 = s2 ∧ τ 5 = .int .i64 k ∧ Kp H h
set_option maxHeartbeats 4000000 in
theorem eqFlowOpS_h {H h : AH} {s1 s2 : AV} {ds : List tT65.D} {b1 b2 : List Nat} {r1 r2 : Bool} (h1 : (Ty.sl 65 tT65).R r1 H [s1] ds b1) (h2 : (Ty.sl 65 tT65).R r2 H [s2] ds b2) (hK : Kp H h) (hb : (Ty.sl 65 tT65).bd 1048576 ds) (m : Nat) (hm : 1048740 ≤ m) :
    ∃ h', ev Try.prog m 31 [s1, s2] h = some (.bool true, h') ∧ Kp h h' := by
  obtain ⟨m, rfl⟩ : ∃ k, m = k + 1 := ⟨m - 1, by omega⟩
  obtain ⟨hl, hl2⟩ := hb
  have e1 := Ty.R.lenA h1 (P := Try.prog) (T := 51) (by simp)
  have e2 := Ty.R.lenA h2 (P := Try.prog) (T := 51) (by simp)
  rw [ev_eq Try.func31 ok31 m _ h (by simp [Try.f31])]
  simp [Try.f31, e1, e2]
  generalize hLo : evLoop _ _ _ _ _ _ = R
  obtain ⟨e, τ', H', rfl, rfl, g⟩ := loop_at hLo (loop_rule (d := ds.length) (fun d τ h' => IeqFlowOpS_h ds.length s1 s2 h d τ h')
    (fun e τ h' => e = .exit 0 ∧ Kp h h')
    (by
      rintro d τ h' ⟨k, hk, t0, t1, t5, hKh⟩
      by_cases hd0 : d = 0
      · subst hd0
        have hkl : (k : Int) = ds.length := by omega
        rewrite [lp31_58]
        simp [Try.f31, t0, t1, t5, e1, hkl]
        exact hKh
      · have hlt : k < ds.length := by omega
        have hKK := hK.trans hKh
        obtain ⟨b, o, ro, x1, c, x2, bk, u1, u2, u3, u4, u5, u6, u7, u8⟩ := Ty.R.at_ (h1.kp hKK) (P := Try.prog) (T := 51) (by simp) (by simp [Ty.n]) (k := k) hlt
        obtain ⟨b', o', ro', y1, c', y2, bk', w1, w2, w3, w4, w5, w6, w7, w8⟩ := Ty.R.at_ (h2.kp hKK) (P := Try.prog) (T := 51) (by simp) (by simp [Ty.n]) (k := k) hlt
        have hld := ld_midA0 (P := Try.prog) (T := 65) (n := 4) u3 u4 (by simp) (by simp) (by simpa [Ty.n] using u5.len)
        have hld' := ld_midA0 (P := Try.prog) (T := 65) (n := 4) w3 w4 (by simp) (by simp) (by simpa [Ty.n] using w5.len)
        obtain ⟨h3, v1, v2⟩ := eqFlowOp_h u5 w5 (Kp.refl h') (hl2 _ (List.getElem_mem hlt)) m (by omega)
        rewrite [lp31_58]
        simp [Try.f31, t0, t1, t5, e1, hlt, u1, w1, hld, hld', v1, evHist, ObsOk, ObOk, wrap_i64 (n := (k : Int) + 1) (by omega) (by omega)]
        exact ⟨d - 1, by omega, k + 1, by omega, by simp [t0], by simp [t1], by simp, hKh.trans v2⟩)
    ⟨0, by simp, by simp, by simp, by simp, Kp.refl h⟩ (by omega))
  simp
  exact g
/-! markFlowOpS -/
def ImarkFlowOpS_h (ds : List tT65.D) (s : AV) (k0 : Int) (bs : List Nat) (H : AH) (d : Nat) (τ : Tm) (h : AH) : Prop :=
  ∃ k : Nat, k + d = ds.length ∧ τ 0 = s ∧ τ 1 = .int .i64 (k0 + (cntL (tT65.cnt true) (ds.take k) : Nat)) ∧ τ 5 = .int .i64 k ∧ KoL bs H h ∧ (Ty.sl 65 tT65).R true h [s] (mkRow (tT65.mk true) (tT65.cnt true) k0 (ds.take k) ++ ds.drop k) bs
set_option maxHeartbeats 4000000 in
theorem markFlowOpS_h {H : AH} {s : AV} {ds : List tT65.D} {bs : List Nat} (hd : (Ty.sl 65 tT65).R true H [s] ds bs) (hnd : bs.Nodup) (hb : (Ty.sl 65 tT65).bd 1048576 ds) {k0 : Int} (hk0 : 0 ≤ k0) (hk1 : k0 + ((Ty.sl 65 tT65).cnt true ds : Nat) ≤ 2147483648) (m : Nat) (hm : 1048740 ≤ m) :
    ∃ H', ev Try.prog m 32 [s, .int .i64 k0] H = some (.int .i64 (k0 + ((Ty.sl 65 tT65).cnt true ds : Nat)), H') ∧ KoL bs H H' ∧ (Ty.sl 65 tT65).R true H' [s] ((Ty.sl 65 tT65).mk true k0 ds) bs := by
  obtain ⟨m, rfl⟩ : ∃ k, m = k + 1 := ⟨m - 1, by omega⟩
  obtain ⟨hl, hl2⟩ := hb
  rw [cnt_sl] at hk1 ⊢
  rw [mk_sl]
  rw [ev_eq Try.func32 ok32 m _ H (by simp [Try.f32])]
  simp [Try.f32]
  generalize hLo : evLoop _ _ _ _ _ _ = R
  obtain ⟨e, τ', H', rfl, rfl, g1, g2, g3⟩ := loop_at hLo (loop_rule (d := ds.length) (ImarkFlowOpS_h ds s k0 bs H)
    (fun e τ h => e = .exit 0 ∧ τ 1 = .int .i64 (k0 + (cntL (tT65.cnt true) ds : Nat)) ∧ KoL bs H h ∧ (Ty.sl 65 tT65).R true h [s] (mkRow (tT65.mk true) (tT65.cnt true) k0 ds) bs)
    (by
      rintro d τ h ⟨k, hk, t0, t1, t5, hK, hR⟩
      have hlen' : (mkRow (tT65.mk true) (tT65.cnt true) k0 (ds.take k) ++ ds.drop k).length = ds.length := by simp [mkRow_len]; omega
      have hL := Ty.R.lenA hR (P := Try.prog) (T := 51) (by simp)
      rw [hlen'] at hL
      by_cases hd0 : d = 0
      · subst hd0
        have : k = ds.length := by omega
        subst this
        rw [List.take_length] at t1
        rewrite [lp32_26]
        simp [Try.f32, t0, t1, t5, hL]
        exact ⟨hK, by simpa using hR⟩
      · have hlt : k < ds.length := by omega
        obtain ⟨b, o, x1, c, x2, bk, u1, u2, u3, u4, u5, u6, u7, u8, u9, u10⟩ := Ty.R.upd hR hnd (P := Try.prog) (T := 51) (by simp) (by simp [Ty.n]) (k := k) (by omega)
        have hat := mkRow_atH (tT65.mk true) (tT65.cnt true) k0 ds k hlt (by rw [hlen']; exact hlt)
        rw [hat] at u5
        have hbd := hl2 _ (List.getElem_mem hlt)
        have hct := cntL_take_succ' (tT65.cnt true) ds k hlt
        have hcl := cntL_take_le' (tT65.cnt true) ds (k + 1)
        have hms := mkRow_setH (tT65.mk true) (tT65.cnt true) k0 ds k hlt
        generalize hK0 : k0 + (cntL (tT65.cnt true) (ds.take k) : Nat) = K0 at *
        have hKb : 0 ≤ K0 ∧ K0 ≤ 2147483648 := by omega
        generalize hdk : ds[k] = dk at *
        obtain ⟨x_0, x_1, x_2, x_3⟩ := dk
        obtain ⟨hbx_0, hbx_1, hbx_2, hbx_3⟩ := hbd
        obtain ⟨rfl, rfl, ix_0, ix_1, ix_2⟩ := o65 u5
        obtain ⟨K1, hK1⟩ : ∃ z, z = K0 + (((Ty.int .i64).cnt true x_0 : Nat) : Int) := ⟨_, rfl⟩
        obtain ⟨K2, hK2⟩ : ∃ z, z = K1 + (((Ty.int .i64).cnt true x_1 : Nat) : Int) := ⟨_, rfl⟩
        obtain ⟨K3, hK3⟩ : ∃ z, z = K2 + (((Ty.int .i64).cnt true x_2 : Nat) : Int) := ⟨_, rfl⟩
        obtain ⟨K4, hK4⟩ : ∃ z, z = K3 + ((Ty.bool.cnt true x_3 : Nat) : Int) := ⟨_, rfl⟩
        have htot : tT65.cnt true (x_0, x_1, x_2, x_3) = (Ty.int .i64).cnt true x_0 + ((Ty.int .i64).cnt true x_1 + ((Ty.int .i64).cnt true x_2 + (Ty.bool.cnt true x_3))) := rfl
        rw [htot] at hct
        have hKl : K4 = k0 + (cntL (tT65.cnt true) (ds.take (k + 1)) : Nat) := by rw [hct]; push_cast; omega
        have u4' : K4 ≤ 2147483648 := by omega
        have u3' := dn_step hK4 u4'
        have u2' := dn_step hK3 u3'
        have u1' := dn_step hK2 u2'
        have u0' := dn_step hK1 u1'
        have p0' : 0 ≤ K0 := hKb.1
        have p1' := up_step hK1 p0'
        have p2' := up_step hK2 p1'
        have p3' := up_step hK3 p2'
        have p4' := up_step hK4 p3'
        have w0 := wrap_step hK1 rfl p0' u1'
        have w1 := wrap_step hK2 rfl p1' u2'
        have w2 := wrap_step hK3 rfl p2' u3'
        have w3 := wrap_step hK4 rfl p3' u4'
        obtain ⟨q3, hq3⟩ : ∃ q, decide (K3 % 3 = 0) = q := ⟨_, rfl⟩
        have m3 := mod3 p3' hq3
        have hmk : tT65.mk true K0 (x_0, x_1, x_2, x_3) = (K0, K1, K2, q3) := by rw [mk_pair, ← hK1, mk_pair, ← hK2, mk_pair, ← hK3, mk_int31 p0' u0', mk_int31 p1' u1', mk_int31 p2' u2', mk_bool1, hq3]
        have h0 : h = h := rfl
        have G0 : h.get b = some (.cells 65 false (x1 ++ [.int .i64 x_0, .int .i64 x_1, .int .i64 x_2, .bool x_3] ++ x2)) := u3
        have N0 : h.next = h.next := rfl
        have E0 : ∀ y, y < h.next → y ≠ b → y ∉ ([] : List Nat) → h.get y = h.get y := fun _ _ _ _ => rfl
        obtain ⟨B0, hB0⟩ : ∃ B, B = Blk.cells 65 false (x1 ++ [.int .i64 K0, .int .i64 x_1, .int .i64 x_2, .bool x_3] ++ x2) := ⟨_, rfl⟩
        have s0 : stVar Try.prog 3 b o (.int .i64 K0) h = some (h.set b B0) := by rw [hB0]; exact stf0 G0 u4 (by simp) rfl (by simp) rfl
        obtain ⟨h1, eh1⟩ : ∃ z, h.set b B0 = z := ⟨_, rfl⟩
        have G1 : h1.get b = some (.cells 65 false (x1 ++ [.int .i64 K0, .int .i64 x_1, .int .i64 x_2, .bool x_3] ++ x2)) := by rw [← eh1, AH.set_getS, hB0]
        have N1 : h1.next = h.next := by rw [← eh1, AH.set_next]
        have E1 : ∀ y, y < h.next → y ≠ b → y ∉ ([] : List Nat) → h1.get y = h.get y := fun y hy h1 h2 => by rw [← eh1]; exact (AH.set_getN _ _ h1).trans (E0 y hy h1 h2)
        rw [eh1] at s0
        obtain ⟨B1, hB1⟩ : ∃ B, B = Blk.cells 65 false (x1 ++ [.int .i64 K0, .int .i64 K1, .int .i64 x_2, .bool x_3] ++ x2) := ⟨_, rfl⟩
        have s1 : stVar Try.prog 3 b (o + 1) (.int .i64 K1) h1 = some (h1.set b B1) := by rw [hB1]; exact stf G1 u4 (by simp) rfl (by simp) rfl
        obtain ⟨h2, eh2⟩ : ∃ z, h1.set b B1 = z := ⟨_, rfl⟩
        have G2 : h2.get b = some (.cells 65 false (x1 ++ [.int .i64 K0, .int .i64 K1, .int .i64 x_2, .bool x_3] ++ x2)) := by rw [← eh2, AH.set_getS, hB1]
        have N2 : h2.next = h.next := by rw [← eh2, AH.set_next, N1]
        have E2 : ∀ y, y < h.next → y ≠ b → y ∉ ([] : List Nat) → h2.get y = h.get y := fun y hy h1 h2 => by rw [← eh2]; exact (AH.set_getN _ _ h1).trans (E1 y hy h1 h2)
        rw [eh2] at s1
        obtain ⟨B2, hB2⟩ : ∃ B, B = Blk.cells 65 false (x1 ++ [.int .i64 K0, .int .i64 K1, .int .i64 K2, .bool x_3] ++ x2) := ⟨_, rfl⟩
        have s2 : stVar Try.prog 3 b (o + 2) (.int .i64 K2) h2 = some (h2.set b B2) := by rw [hB2]; exact stf G2 u4 (by simp) rfl (by simp) rfl
        obtain ⟨h3, eh3⟩ : ∃ z, h2.set b B2 = z := ⟨_, rfl⟩
        have G3 : h3.get b = some (.cells 65 false (x1 ++ [.int .i64 K0, .int .i64 K1, .int .i64 K2, .bool x_3] ++ x2)) := by rw [← eh3, AH.set_getS, hB2]
        have N3 : h3.next = h.next := by rw [← eh3, AH.set_next, N2]
        have E3 : ∀ y, y < h.next → y ≠ b → y ∉ ([] : List Nat) → h3.get y = h.get y := fun y hy h1 h2 => by rw [← eh3]; exact (AH.set_getN _ _ h1).trans (E2 y hy h1 h2)
        rw [eh3] at s2
        obtain ⟨B3, hB3⟩ : ∃ B, B = Blk.cells 65 false (x1 ++ [.int .i64 K0, .int .i64 K1, .int .i64 K2, .bool q3] ++ x2) := ⟨_, rfl⟩
        have s3 : stVar Try.prog 4 b (o + 3) (.bool q3) h3 = some (h3.set b B3) := by rw [hB3]; exact stf G3 u4 (by simp) rfl (by simp) rfl
        obtain ⟨h4, eh4⟩ : ∃ z, h3.set b B3 = z := ⟨_, rfl⟩
        have G4 : h4.get b = some (.cells 65 false (x1 ++ [.int .i64 K0, .int .i64 K1, .int .i64 K2, .bool q3] ++ x2)) := by rw [← eh4, AH.set_getS, hB3]
        have N4 : h4.next = h.next := by rw [← eh4, AH.set_next, N3]
        have E4 : ∀ y, y < h.next → y ≠ b → y ∉ ([] : List Nat) → h4.get y = h.get y := fun y hy h1 h2 => by rw [← eh4]; exact (AH.set_getN _ _ h1).trans (E3 y hy h1 h2)
        rw [eh4] at s3
        have KLf : KoL bs h h4 := ⟨N4, fun y hy hyb => E4 y hy (fun e => hyb (by rw [e]; exact u7)) (fun e => hyb (u6 y e))⟩
        have hRf : tT65.R true h4 [.int .i64 K0, .int .i64 K1, .int .i64 K2, .bool q3] (K0, K1, K2, q3) ([] : List Nat) := i65  (InK.k31 p0' u0') (InK.k31 p1' u1') (InK.k31 p2' u2')
        rw [hmk] at hms
        have hR6 := u10 h4 _ _ (by rw [N4]; exact Nat.le_refl _) (fun y hy h1 h2 => E4 y (hR.mem y hy) h1 h2) G4 hRf
        rw [hms] at hR6
        rewrite [lp32_26]
        simp [Try.f32, t0, t1, t5, hL, hlt, u1, w0, w1, w2, w3, m3, s0, s1, s2, s3, wrap_i64 (n := (k : Int) + 1) (by omega) (by omega)]
        exact ⟨d - 1, by omega, k + 1, by omega, by simp [t0], by simp; omega, by simp, hK.trans KLf, hR6⟩)
    ⟨0, by simp, by simp, by simp [cntL], by simp, KoL.refl _ _, by simpa [mkRow] using hd⟩ (by omega))
  simp [g1]
  exact ⟨g2, g3⟩
/-! markByteS -/
def ImarkByteS_h (ds : List (Ty.int .u8).D) (s : AV) (k0 : Int) (bs : List Nat) (H : AH) (d : Nat) (τ : Tm) (h : AH) : Prop :=
  ∃ k : Nat, k + d = ds.length ∧ τ 0 = s ∧ τ 1 = .int .i64 (k0 + (cntL ((Ty.int .u8).cnt true) (ds.take k) : Nat)) ∧ τ 5 = .int .i64 k ∧ KoL bs H h ∧ (Ty.sl 5 (Ty.int .u8)).R true h [s] (mkRow ((Ty.int .u8).mk true) ((Ty.int .u8).cnt true) k0 (ds.take k) ++ ds.drop k) bs
set_option maxHeartbeats 4000000 in
theorem markByteS_h {H : AH} {s : AV} {ds : List (Ty.int .u8).D} {bs : List Nat} (hd : (Ty.sl 5 (Ty.int .u8)).R true H [s] ds bs) (hnd : bs.Nodup) (hb : (Ty.sl 5 (Ty.int .u8)).bd 1048576 ds) {k0 : Int} (hk0 : 0 ≤ k0) (hk1 : k0 + ((Ty.sl 5 (Ty.int .u8)).cnt true ds : Nat) ≤ 2147483648) (m : Nat) (hm : 1048720 ≤ m) :
    ∃ H', ev Try.prog m 44 [s, .int .i64 k0] H = some (.int .i64 (k0 + ((Ty.sl 5 (Ty.int .u8)).cnt true ds : Nat)), H') ∧ KoL bs H H' ∧ (Ty.sl 5 (Ty.int .u8)).R true H' [s] ((Ty.sl 5 (Ty.int .u8)).mk true k0 ds) bs := by
  obtain ⟨m, rfl⟩ : ∃ k, m = k + 1 := ⟨m - 1, by omega⟩
  obtain ⟨hl, hl2⟩ := hb
  rw [cnt_sl] at hk1 ⊢
  rw [mk_sl]
  rw [ev_eq Try.func44 ok44 m _ H (by simp [Try.f44])]
  simp [Try.f44]
  generalize hLo : evLoop _ _ _ _ _ _ = R
  obtain ⟨e, τ', H', rfl, rfl, g1, g2, g3⟩ := loop_at hLo (loop_rule (d := ds.length) (ImarkByteS_h ds s k0 bs H)
    (fun e τ h => e = .exit 0 ∧ τ 1 = .int .i64 (k0 + (cntL ((Ty.int .u8).cnt true) ds : Nat)) ∧ KoL bs H h ∧ (Ty.sl 5 (Ty.int .u8)).R true h [s] (mkRow ((Ty.int .u8).mk true) ((Ty.int .u8).cnt true) k0 ds) bs)
    (by
      rintro d τ h ⟨k, hk, t0, t1, t5, hK, hR⟩
      have hlen' : (mkRow ((Ty.int .u8).mk true) ((Ty.int .u8).cnt true) k0 (ds.take k) ++ ds.drop k).length = ds.length := by simp [mkRow_len]; omega
      have hL := Ty.R.lenA hR (P := Try.prog) (T := 34) (by simp)
      rw [hlen'] at hL
      by_cases hd0 : d = 0
      · subst hd0
        have : k = ds.length := by omega
        subst this
        rw [List.take_length] at t1
        rewrite [lp44_26]
        simp [Try.f44, t0, t1, t5, hL]
        exact ⟨hK, by simpa using hR⟩
      · have hlt : k < ds.length := by omega
        obtain ⟨b, o, x1, c, x2, bk, u1, u2, u3, u4, u5, u6, u7, u8, u9, u10⟩ := Ty.R.upd hR hnd (P := Try.prog) (T := 34) (by simp) (by simp [Ty.n]) (k := k) (by omega)
        have hat := mkRow_atH ((Ty.int .u8).mk true) ((Ty.int .u8).cnt true) k0 ds k hlt (by rw [hlen']; exact hlt)
        rw [hat] at u5
        have hbd := hl2 _ (List.getElem_mem hlt)
        have hct := cntL_take_succ' ((Ty.int .u8).cnt true) ds k hlt
        have hcl := cntL_take_le' ((Ty.int .u8).cnt true) ds (k + 1)
        have hms := mkRow_setH ((Ty.int .u8).mk true) ((Ty.int .u8).cnt true) k0 ds k hlt
        generalize hK0 : k0 + (cntL ((Ty.int .u8).cnt true) (ds.take k) : Nat) = K0 at *
        have hKb : 0 ≤ K0 ∧ K0 ≤ 2147483648 := by omega
        generalize hdk : ds[k] = dk at *
        obtain ⟨x, hx0⟩ : ∃ x, x = dk := ⟨_, rfl⟩
        subst hx0
        obtain ⟨rfl, r1, r2, rfl⟩ := u5
        obtain ⟨K1, hK1⟩ : ∃ z, z = K0 + (((Ty.int .u8).cnt true x : Nat) : Int) := ⟨_, rfl⟩
        have htot : (Ty.int .u8).cnt true x = (Ty.int .u8).cnt true x := rfl
        rw [htot] at hct
        have hKl : K1 = k0 + (cntL ((Ty.int .u8).cnt true) (ds.take (k + 1)) : Nat) := by rw [hct]; push_cast; omega
        have u1' : K1 ≤ 2147483648 := by omega
        have u0' := dn_step hK1 u1'
        have p0' : 0 ≤ K0 := hKb.1
        have p1' := up_step hK1 p0'
        have w0 := wrap_step hK1 rfl p0' u1'
        obtain ⟨z0, hz0⟩ : ∃ z, IntKind.u8.wrap K0 = z := ⟨_, rfl⟩
        have cv0 : ∀ h', convA Try.prog 3 5 (.int .i64 K0) h' = some (.int .u8 z0, h') := fun h' => (conv_int (ds := .int .i64) (k := .u8) (by simp) (by simp)).trans (by rw [hz0])
        have hmk : (Ty.int .u8).mk true K0 x = z0 := by rw [mk_intw, hz0]
        have h0 : h = h := rfl
        have G0 : h.get b = some (.cells 5 false (x1 ++ [.int .u8 x] ++ x2)) := u3
        have N0 : h.next = h.next := rfl
        have E0 : ∀ y, y < h.next → y ≠ b → y ∉ ([] : List Nat) → h.get y = h.get y := fun _ _ _ _ => rfl
        obtain ⟨B0, hB0⟩ : ∃ B, B = Blk.cells 5 false (x1 ++ [.int .u8 z0] ++ x2) := ⟨_, rfl⟩
        have s0 : stVar Try.prog 5 b o (.int .u8 z0) h = some (h.set b B0) := by rw [hB0]; exact stf0 G0 u4 (by simp) rfl (by simp) rfl
        obtain ⟨h1, eh1⟩ : ∃ z, h.set b B0 = z := ⟨_, rfl⟩
        have G1 : h1.get b = some (.cells 5 false (x1 ++ [.int .u8 z0] ++ x2)) := by rw [← eh1, AH.set_getS, hB0]
        have N1 : h1.next = h.next := by rw [← eh1, AH.set_next]
        have E1 : ∀ y, y < h.next → y ≠ b → y ∉ ([] : List Nat) → h1.get y = h.get y := fun y hy h1 h2 => by rw [← eh1]; exact (AH.set_getN _ _ h1).trans (E0 y hy h1 h2)
        rw [eh1] at s0
        have KLf : KoL bs h h1 := ⟨N1, fun y hy hyb => E1 y hy (fun e => hyb (by rw [e]; exact u7)) (fun e => hyb (u6 y e))⟩
        have hRf : (Ty.int .u8).R true h1 [.int .u8 z0] z0 ([] : List Nat) := Ty.R.int (hz0 ▸ InK.wrap _ _)
        rw [hmk] at hms
        have hR6 := u10 h1 _ _ (by rw [N1]; exact Nat.le_refl _) (fun y hy h1 h2 => E1 y (hR.mem y hy) h1 h2) G1 hRf
        rw [hms] at hR6
        rewrite [lp44_26]
        simp [Try.f44, t0, t1, t5, hL, hlt, u1, w0, cv0, s0, wrap_i64 (n := (k : Int) + 1) (by omega) (by omega)]
        exact ⟨d - 1, by omega, k + 1, by omega, by simp [t0], by simp; omega, by simp, hK.trans KLf, hR6⟩)
    ⟨0, by simp, by simp, by simp [cntL], by simp, KoL.refl _ _, by simpa [mkRow] using hd⟩ (by omega))
  simp [g1]
  exact ⟨g2, g3⟩
/-! markRangeS -/
def ImarkRangeS_h (ds : List tT94.D) (s : AV) (k0 : Int) (bs : List Nat) (H : AH) (d : Nat) (τ : Tm) (h : AH) : Prop :=
  ∃ k : Nat, k + d = ds.length ∧ τ 0 = s ∧ τ 1 = .int .i64 (k0 + (cntL (tT94.cnt true) (ds.take k) : Nat)) ∧ τ 5 = .int .i64 k ∧ KoL bs H h ∧ (Ty.sl 94 tT94).R true h [s] (mkRow (tT94.mk true) (tT94.cnt true) k0 (ds.take k) ++ ds.drop k) bs
set_option maxHeartbeats 4000000 in
theorem markRangeS_h {H : AH} {s : AV} {ds : List tT94.D} {bs : List Nat} (hd : (Ty.sl 94 tT94).R true H [s] ds bs) (hnd : bs.Nodup) (hb : (Ty.sl 94 tT94).bd 1048576 ds) {k0 : Int} (hk0 : 0 ≤ k0) (hk1 : k0 + ((Ty.sl 94 tT94).cnt true ds : Nat) ≤ 2147483648) (m : Nat) (hm : 1048740 ≤ m) :
    ∃ H', ev Try.prog m 128 [s, .int .i64 k0] H = some (.int .i64 (k0 + ((Ty.sl 94 tT94).cnt true ds : Nat)), H') ∧ KoL bs H H' ∧ (Ty.sl 94 tT94).R true H' [s] ((Ty.sl 94 tT94).mk true k0 ds) bs := by
  obtain ⟨m, rfl⟩ : ∃ k, m = k + 1 := ⟨m - 1, by omega⟩
  obtain ⟨hl, hl2⟩ := hb
  rw [cnt_sl] at hk1 ⊢
  rw [mk_sl]
  rw [ev_eq Try.func128 ok128 m _ H (by simp [Try.f128])]
  simp [Try.f128]
  generalize hLo : evLoop _ _ _ _ _ _ = R
  obtain ⟨e, τ', H', rfl, rfl, g1, g2, g3⟩ := loop_at hLo (loop_rule (d := ds.length) (ImarkRangeS_h ds s k0 bs H)
    (fun e τ h => e = .exit 0 ∧ τ 1 = .int .i64 (k0 + (cntL (tT94.cnt true) ds : Nat)) ∧ KoL bs H h ∧ (Ty.sl 94 tT94).R true h [s] (mkRow (tT94.mk true) (tT94.cnt true) k0 ds) bs)
    (by
      rintro d τ h ⟨k, hk, t0, t1, t5, hK, hR⟩
      have hlen' : (mkRow (tT94.mk true) (tT94.cnt true) k0 (ds.take k) ++ ds.drop k).length = ds.length := by simp [mkRow_len]; omega
      have hL := Ty.R.lenA hR (P := Try.prog) (T := 70) (by simp)
      rw [hlen'] at hL
      by_cases hd0 : d = 0
      · subst hd0
        have : k = ds.length := by omega
        subst this
        rw [List.take_length] at t1
        rewrite [lp128_26]
        simp [Try.f128, t0, t1, t5, hL]
        exact ⟨hK, by simpa using hR⟩
      · have hlt : k < ds.length := by omega
        obtain ⟨b, o, x1, c, x2, bk, u1, u2, u3, u4, u5, u6, u7, u8, u9, u10⟩ := Ty.R.upd hR hnd (P := Try.prog) (T := 70) (by simp) (by simp [Ty.n]) (k := k) (by omega)
        have hat := mkRow_atH (tT94.mk true) (tT94.cnt true) k0 ds k hlt (by rw [hlen']; exact hlt)
        rw [hat] at u5
        have hbd := hl2 _ (List.getElem_mem hlt)
        have hct := cntL_take_succ' (tT94.cnt true) ds k hlt
        have hcl := cntL_take_le' (tT94.cnt true) ds (k + 1)
        have hms := mkRow_setH (tT94.mk true) (tT94.cnt true) k0 ds k hlt
        generalize hK0 : k0 + (cntL (tT94.cnt true) (ds.take k) : Nat) = K0 at *
        have hKb : 0 ≤ K0 ∧ K0 ≤ 2147483648 := by omega
        generalize hdk : ds[k] = dk at *
        obtain ⟨x_0, x_1⟩ := dk
        obtain ⟨hbx_0, hbx_1⟩ := hbd
        obtain ⟨rfl, rfl, ix_0, ix_1⟩ := o94 u5
        obtain ⟨K1, hK1⟩ : ∃ z, z = K0 + (((Ty.int .i64).cnt true x_0 : Nat) : Int) := ⟨_, rfl⟩
        obtain ⟨K2, hK2⟩ : ∃ z, z = K1 + (((Ty.int .i64).cnt true x_1 : Nat) : Int) := ⟨_, rfl⟩
        have htot : tT94.cnt true (x_0, x_1) = (Ty.int .i64).cnt true x_0 + ((Ty.int .i64).cnt true x_1) := rfl
        rw [htot] at hct
        have hKl : K2 = k0 + (cntL (tT94.cnt true) (ds.take (k + 1)) : Nat) := by rw [hct]; push_cast; omega
        have u2' : K2 ≤ 2147483648 := by omega
        have u1' := dn_step hK2 u2'
        have u0' := dn_step hK1 u1'
        have p0' : 0 ≤ K0 := hKb.1
        have p1' := up_step hK1 p0'
        have p2' := up_step hK2 p1'
        have w0 := wrap_step hK1 rfl p0' u1'
        have w1 := wrap_step hK2 rfl p1' u2'
        have hmk : tT94.mk true K0 (x_0, x_1) = (K0, K1) := by rw [mk_pair, ← hK1, mk_int31 p0' u0', mk_int31 p1' u1']
        have h0 : h = h := rfl
        have G0 : h.get b = some (.cells 94 false (x1 ++ [.int .i64 x_0, .int .i64 x_1] ++ x2)) := u3
        have N0 : h.next = h.next := rfl
        have E0 : ∀ y, y < h.next → y ≠ b → y ∉ ([] : List Nat) → h.get y = h.get y := fun _ _ _ _ => rfl
        obtain ⟨B0, hB0⟩ : ∃ B, B = Blk.cells 94 false (x1 ++ [.int .i64 K0, .int .i64 x_1] ++ x2) := ⟨_, rfl⟩
        have s0 : stVar Try.prog 3 b o (.int .i64 K0) h = some (h.set b B0) := by rw [hB0]; exact stf0 G0 u4 (by simp) rfl (by simp) rfl
        obtain ⟨h1, eh1⟩ : ∃ z, h.set b B0 = z := ⟨_, rfl⟩
        have G1 : h1.get b = some (.cells 94 false (x1 ++ [.int .i64 K0, .int .i64 x_1] ++ x2)) := by rw [← eh1, AH.set_getS, hB0]
        have N1 : h1.next = h.next := by rw [← eh1, AH.set_next]
        have E1 : ∀ y, y < h.next → y ≠ b → y ∉ ([] : List Nat) → h1.get y = h.get y := fun y hy h1 h2 => by rw [← eh1]; exact (AH.set_getN _ _ h1).trans (E0 y hy h1 h2)
        rw [eh1] at s0
        obtain ⟨B1, hB1⟩ : ∃ B, B = Blk.cells 94 false (x1 ++ [.int .i64 K0, .int .i64 K1] ++ x2) := ⟨_, rfl⟩
        have s1 : stVar Try.prog 3 b (o + 1) (.int .i64 K1) h1 = some (h1.set b B1) := by rw [hB1]; exact stf G1 u4 (by simp) rfl (by simp) rfl
        obtain ⟨h2, eh2⟩ : ∃ z, h1.set b B1 = z := ⟨_, rfl⟩
        have G2 : h2.get b = some (.cells 94 false (x1 ++ [.int .i64 K0, .int .i64 K1] ++ x2)) := by rw [← eh2, AH.set_getS, hB1]
        have N2 : h2.next = h.next := by rw [← eh2, AH.set_next, N1]
        have E2 : ∀ y, y < h.next → y ≠ b → y ∉ ([] : List Nat) → h2.get y = h.get y := fun y hy h1 h2 => by rw [← eh2]; exact (AH.set_getN _ _ h1).trans (E1 y hy h1 h2)
        rw [eh2] at s1
        have KLf : KoL bs h h2 := ⟨N2, fun y hy hyb => E2 y hy (fun e => hyb (by rw [e]; exact u7)) (fun e => hyb (u6 y e))⟩
        have hRf : tT94.R true h2 [.int .i64 K0, .int .i64 K1] (K0, K1) ([] : List Nat) := i94  (InK.k31 p0' u0') (InK.k31 p1' u1')
        rw [hmk] at hms
        have hR6 := u10 h2 _ _ (by rw [N2]; exact Nat.le_refl _) (fun y hy h1 h2 => E2 y (hR.mem y hy) h1 h2) G2 hRf
        rw [hms] at hR6
        rewrite [lp128_26]
        simp [Try.f128, t0, t1, t5, hL, hlt, u1, w0, w1, s0, s1, wrap_i64 (n := (k : Int) + 1) (by omega) (by omega)]
        exact ⟨d - 1, by omega, k + 1, by omega, by simp [t0], by simp; omega, by simp, hK.trans KLf, hR6⟩)
    ⟨0, by simp, by simp, by simp [cntL], by simp, KoL.refl _ _, by simpa [mkRow] using hd⟩ (by omega))
  simp [g1]
  exact ⟨g2, g3⟩
/-! markFrameS -/
def ImarkFrameS_h (ds : List tT72.D) (s : AV) (k0 : Int) (bs : List Nat) (H : AH) (d : Nat) (τ : Tm) (h : AH) : Prop :=
  ∃ k : Nat, k + d = ds.length ∧ τ 0 = s ∧ τ 1 = .int .i64 (k0 + (cntL (tT72.cnt true) (ds.take k) : Nat)) ∧ τ 5 = .int .i64 k ∧ KoL bs H h ∧ (Ty.sl 72 tT72).R true h [s] (mkRow (tT72.mk true) (tT72.cnt true) k0 (ds.take k) ++ ds.drop k) bs
set_option maxHeartbeats 4000000 in
theorem markFrameS_h {H : AH} {s : AV} {ds : List tT72.D} {bs : List Nat} (hd : (Ty.sl 72 tT72).R true H [s] ds bs) (hnd : bs.Nodup) (hb : (Ty.sl 72 tT72).bd 1048576 ds) {k0 : Int} (hk0 : 0 ≤ k0) (hk1 : k0 + ((Ty.sl 72 tT72).cnt true ds : Nat) ≤ 2147483648) (m : Nat) (hm : 1048780 ≤ m) :
    ∃ H', ev Try.prog m 118 [s, .int .i64 k0] H = some (.int .i64 (k0 + ((Ty.sl 72 tT72).cnt true ds : Nat)), H') ∧ KoL bs H H' ∧ (Ty.sl 72 tT72).R true H' [s] ((Ty.sl 72 tT72).mk true k0 ds) bs := by
  obtain ⟨m, rfl⟩ : ∃ k, m = k + 1 := ⟨m - 1, by omega⟩
  obtain ⟨hl, hl2⟩ := hb
  rw [cnt_sl] at hk1 ⊢
  rw [mk_sl]
  rw [ev_eq Try.func118 ok118 m _ H (by simp [Try.f118])]
  simp [Try.f118]
  generalize hLo : evLoop _ _ _ _ _ _ = R
  obtain ⟨e, τ', H', rfl, rfl, g1, g2, g3⟩ := loop_at hLo (loop_rule (d := ds.length) (ImarkFrameS_h ds s k0 bs H)
    (fun e τ h => e = .exit 0 ∧ τ 1 = .int .i64 (k0 + (cntL (tT72.cnt true) ds : Nat)) ∧ KoL bs H h ∧ (Ty.sl 72 tT72).R true h [s] (mkRow (tT72.mk true) (tT72.cnt true) k0 ds) bs)
    (by
      rintro d τ h ⟨k, hk, t0, t1, t5, hK, hR⟩
      have hlen' : (mkRow (tT72.mk true) (tT72.cnt true) k0 (ds.take k) ++ ds.drop k).length = ds.length := by simp [mkRow_len]; omega
      have hL := Ty.R.lenA hR (P := Try.prog) (T := 61) (by simp)
      rw [hlen'] at hL
      by_cases hd0 : d = 0
      · subst hd0
        have : k = ds.length := by omega
        subst this
        rw [List.take_length] at t1
        rewrite [lp118_26]
        simp [Try.f118, t0, t1, t5, hL]
        exact ⟨hK, by simpa using hR⟩
      · have hlt : k < ds.length := by omega
        obtain ⟨b, o, x1, c, x2, bk, u1, u2, u3, u4, u5, u6, u7, u8, u9, u10⟩ := Ty.R.upd hR hnd (P := Try.prog) (T := 61) (by simp) (by simp [Ty.n]) (k := k) (by omega)
        have hat := mkRow_atH (tT72.mk true) (tT72.cnt true) k0 ds k hlt (by rw [hlen']; exact hlt)
        rw [hat] at u5
        have hbd := hl2 _ (List.getElem_mem hlt)
        have hct := cntL_take_succ' (tT72.cnt true) ds k hlt
        have hcl := cntL_take_le' (tT72.cnt true) ds (k + 1)
        have hms := mkRow_setH (tT72.mk true) (tT72.cnt true) k0 ds k hlt
        generalize hK0 : k0 + (cntL (tT72.cnt true) (ds.take k) : Nat) = K0 at *
        have hKb : 0 ≤ K0 ∧ K0 ≤ 2147483648 := by omega
        generalize hdk : ds[k] = dk at *
        obtain ⟨x_0, x_1, x_2, x_3, x_4, x_5, x_6, x_7⟩ := dk
        obtain ⟨hbx_0, hbx_1, hbx_2, hbx_3, hbx_4, hbx_5, hbx_6, hbx_7⟩ := hbd
        obtain ⟨vx_5, vx_6, vx_7, bx_5, bx_6, bx_7, rfl, rfl, hx_5, hx_6, hx_7, ix_0, ix_1, ix_2, ix_3⟩ := o72 u5
        obtain ⟨K1, hK1⟩ : ∃ z, z = K0 + (((Ty.int .i64).cnt true x_0 : Nat) : Int) := ⟨_, rfl⟩
        obtain ⟨K2, hK2⟩ : ∃ z, z = K1 + (((Ty.int .i64).cnt true x_1 : Nat) : Int) := ⟨_, rfl⟩
        obtain ⟨K3, hK3⟩ : ∃ z, z = K2 + (((Ty.int .i64).cnt true x_2 : Nat) : Int) := ⟨_, rfl⟩
        obtain ⟨K4, hK4⟩ : ∃ z, z = K3 + (((Ty.int .i64).cnt true x_3 : Nat) : Int) := ⟨_, rfl⟩
        obtain ⟨K5, hK5⟩ : ∃ z, z = K4 + ((Ty.bool.cnt true x_4 : Nat) : Int) := ⟨_, rfl⟩
        obtain ⟨K6, hK6⟩ : ∃ z, z = K5 + (((Ty.sl 5 (Ty.int .u8)).cnt true x_5 : Nat) : Int) := ⟨_, rfl⟩
        obtain ⟨K7, hK7⟩ : ∃ z, z = K6 + (((Ty.sl 5 (Ty.int .u8)).cnt true x_6 : Nat) : Int) := ⟨_, rfl⟩
        obtain ⟨K8, hK8⟩ : ∃ z, z = K7 + (((Ty.sl 94 tT94).cnt true x_7 : Nat) : Int) := ⟨_, rfl⟩
        have htot : tT72.cnt true (x_0, x_1, x_2, x_3, x_4, x_5, x_6, x_7) = (Ty.int .i64).cnt true x_0 + ((Ty.int .i64).cnt true x_1 + ((Ty.int .i64).cnt true x_2 + ((Ty.int .i64).cnt true x_3 + (Ty.bool.cnt true x_4 + ((Ty.sl 5 (Ty.int .u8)).cnt true x_5 + ((Ty.sl 5 (Ty.int .u8)).cnt true x_6 + ((Ty.sl 94 tT94).cnt true x_7))))))) := rfl
        rw [htot] at hct
        have hKl : K8 = k0 + (cntL (tT72.cnt true) (ds.take (k + 1)) : Nat) := by rw [hct]; push_cast; omega
        have u8' : K8 ≤ 2147483648 := by omega
        have u7' := dn_step hK8 u8'
        have u6' := dn_step hK7 u7'
        have u5' := dn_step hK6 u6'
        have u4' := dn_step hK5 u5'
        have u3' := dn_step hK4 u4'
        have u2' := dn_step hK3 u3'
        have u1' := dn_step hK2 u2'
        have u0' := dn_step hK1 u1'
        have p0' : 0 ≤ K0 := hKb.1
        have p1' := up_step hK1 p0'
        have p2' := up_step hK2 p1'
        have p3' := up_step hK3 p2'
        have p4' := up_step hK4 p3'
        have p5' := up_step hK5 p4'
        have p6' := up_step hK6 p5'
        have p7' := up_step hK7 p6'
        have p8' := up_step hK8 p7'
        have w0 := wrap_step hK1 rfl p0' u1'
        have w1 := wrap_step hK2 rfl p1' u2'
        have w2 := wrap_step hK3 rfl p2' u3'
        have w3 := wrap_step hK4 rfl p3' u4'
        have w4 := wrap_step hK5 rfl p4' u5'
        obtain ⟨q4, hq4⟩ : ∃ q, decide (K4 % 3 = 0) = q := ⟨_, rfl⟩
        have m4 := mod3 p4' hq4
        have hmk : tT72.mk true K0 (x_0, x_1, x_2, x_3, x_4, x_5, x_6, x_7) = (K0, K1, K2, K3, q4, ((Ty.sl 5 (Ty.int .u8)).mk true K5 x_5), ((Ty.sl 5 (Ty.int .u8)).mk true K6 x_6), ((Ty.sl 94 tT94).mk true K7 x_7)) := by rw [mk_pair, ← hK1, mk_pair, ← hK2, mk_pair, ← hK3, mk_pair, ← hK4, mk_pair, ← hK5, mk_pair, ← hK6, mk_pair, ← hK7, mk_int31 p0' u0', mk_int31 p1' u1', mk_int31 p2' u2', mk_int31 p3' u3', mk_bool1, hq4]
        have h0 : h = h := rfl
        have G0 : h.get b = some (.cells 72 false (x1 ++ [.int .i64 x_0, .int .i64 x_1, .int .i64 x_2, .int .i64 x_3, .bool x_4, vx_5, vx_6, vx_7] ++ x2)) := u3
        have N0 : h.next = h.next := rfl
        have E0 : ∀ y, y < h.next → y ≠ b → y ∉ (bx_5 ++ (bx_6 ++ bx_7)) → h.get y = h.get y := fun _ _ _ _ => rfl
        obtain ⟨B0, hB0⟩ : ∃ B, B = Blk.cells 72 false (x1 ++ [.int .i64 K0, .int .i64 x_1, .int .i64 x_2, .int .i64 x_3, .bool x_4, vx_5, vx_6, vx_7] ++ x2) := ⟨_, rfl⟩
        have s0 : stVar Try.prog 3 b o (.int .i64 K0) h = some (h.set b B0) := by rw [hB0]; exact stf0 G0 u4 (by simp) rfl (by simp) rfl
        obtain ⟨h1, eh1⟩ : ∃ z, h.set b B0 = z := ⟨_, rfl⟩
        have G1 : h1.get b = some (.cells 72 false (x1 ++ [.int .i64 K0, .int .i64 x_1, .int .i64 x_2, .int .i64 x_3, .bool x_4, vx_5, vx_6, vx_7] ++ x2)) := by rw [← eh1, AH.set_getS, hB0]
        have N1 : h1.next = h.next := by rw [← eh1, AH.set_next]
        have E1 : ∀ y, y < h.next → y ≠ b → y ∉ (bx_5 ++ (bx_6 ++ bx_7)) → h1.get y = h.get y := fun y hy h1 h2 => by rw [← eh1]; exact (AH.set_getN _ _ h1).trans (E0 y hy h1 h2)
        have M1x_5 := hx_5.stay (H' := h1) (by rw [N1]; exact Nat.le_refl _) (fun z hz => by rw [← eh1]; exact AH.set_getN _ _ (fun e => u8 (by rw [← e]; simp [hz])))
        have M1x_6 := hx_6.stay (H' := h1) (by rw [N1]; exact Nat.le_refl _) (fun z hz => by rw [← eh1]; exact AH.set_getN _ _ (fun e => u8 (by rw [← e]; simp [hz])))
        have M1x_7 := hx_7.stay (H' := h1) (by rw [N1]; exact Nat.le_refl _) (fun z hz => by rw [← eh1]; exact AH.set_getN _ _ (fun e => u8 (by rw [← e]; simp [hz])))
        rw [eh1] at s0
        obtain ⟨B1, hB1⟩ : ∃ B, B = Blk.cells 72 false (x1 ++ [.int .i64 K0, .int .i64 K1, .int .i64 x_2, .int .i64 x_3, .bool x_4, vx_5, vx_6, vx_7] ++ x2) := ⟨_, rfl⟩
        have s1 : stVar Try.prog 3 b (o + 1) (.int .i64 K1) h1 = some (h1.set b B1) := by rw [hB1]; exact stf G1 u4 (by simp) rfl (by simp) rfl
        obtain ⟨h2, eh2⟩ : ∃ z, h1.set b B1 = z := ⟨_, rfl⟩
        have G2 : h2.get b = some (.cells 72 false (x1 ++ [.int .i64 K0, .int .i64 K1, .int .i64 x_2, .int .i64 x_3, .bool x_4, vx_5, vx_6, vx_7] ++ x2)) := by rw [← eh2, AH.set_getS, hB1]
        have N2 : h2.next = h.next := by rw [← eh2, AH.set_next, N1]
        have E2 : ∀ y, y < h.next → y ≠ b → y ∉ (bx_5 ++ (bx_6 ++ bx_7)) → h2.get y = h.get y := fun y hy h1 h2 => by rw [← eh2]; exact (AH.set_getN _ _ h1).trans (E1 y hy h1 h2)
        have M2x_5 := M1x_5.stay (H' := h2) (by rw [N2, N1]; exact Nat.le_refl _) (fun z hz => by rw [← eh2]; exact AH.set_getN _ _ (fun e => u8 (by rw [← e]; simp [hz])))
        have M2x_6 := M1x_6.stay (H' := h2) (by rw [N2, N1]; exact Nat.le_refl _) (fun z hz => by rw [← eh2]; exact AH.set_getN _ _ (fun e => u8 (by rw [← e]; simp [hz])))
        have M2x_7 := M1x_7.stay (H' := h2) (by rw [N2, N1]; exact Nat.le_refl _) (fun z hz => by rw [← eh2]; exact AH.set_getN _ _ (fun e => u8 (by rw [← e]; simp [hz])))
        rw [eh2] at s1
        obtain ⟨B2, hB2⟩ : ∃ B, B = Blk.cells 72 false (x1 ++ [.int .i64 K0, .int .i64 K1, .int .i64 K2, .int .i64 x_3, .bool x_4, vx_5, vx_6, vx_7] ++ x2) := ⟨_, rfl⟩
        have s2 : stVar Try.prog 3 b (o + 2) (.int .i64 K2) h2 = some (h2.set b B2) := by rw [hB2]; exact stf G2 u4 (by simp) rfl (by simp) rfl
        obtain ⟨h3, eh3⟩ : ∃ z, h2.set b B2 = z := ⟨_, rfl⟩
        have G3 : h3.get b = some (.cells 72 false (x1 ++ [.int .i64 K0, .int .i64 K1, .int .i64 K2, .int .i64 x_3, .bool x_4, vx_5, vx_6, vx_7] ++ x2)) := by rw [← eh3, AH.set_getS, hB2]
        have N3 : h3.next = h.next := by rw [← eh3, AH.set_next, N2]
        have E3 : ∀ y, y < h.next → y ≠ b → y ∉ (bx_5 ++ (bx_6 ++ bx_7)) → h3.get y = h.get y := fun y hy h1 h2 => by rw [← eh3]; exact (AH.set_getN _ _ h1).trans (E2 y hy h1 h2)
        have M3x_5 := M2x_5.stay (H' := h3) (by rw [N3, N2]; exact Nat.le_refl _) (fun z hz => by rw [← eh3]; exact AH.set_getN _ _ (fun e => u8 (by rw [← e]; simp [hz])))
        have M3x_6 := M2x_6.stay (H' := h3) (by rw [N3, N2]; exact Nat.le_refl _) (fun z hz => by rw [← eh3]; exact AH.set_getN _ _ (fun e => u8 (by rw [← e]; simp [hz])))
        have M3x_7 := M2x_7.stay (H' := h3) (by rw [N3, N2]; exact Nat.le_refl _) (fun z hz => by rw [← eh3]; exact AH.set_getN _ _ (fun e => u8 (by rw [← e]; simp [hz])))
        rw [eh3] at s2
        obtain ⟨B3, hB3⟩ : ∃ B, B = Blk.cells 72 false (x1 ++ [.int .i64 K0, .int .i64 K1, .int .i64 K2, .int .i64 K3, .bool x_4, vx_5, vx_6, vx_7] ++ x2) := ⟨_, rfl⟩
        have s3 : stVar Try.prog 3 b (o + 3) (.int .i64 K3) h3 = some (h3.set b B3) := by rw [hB3]; exact stf G3 u4 (by simp) rfl (by simp) rfl
        obtain ⟨h4, eh4⟩ : ∃ z, h3.set b B3 = z := ⟨_, rfl⟩
        have G4 : h4.get b = some (.cells 72 false (x1 ++ [.int .i64 K0, .int .i64 K1, .int .i64 K2, .int .i64 K3, .bool x_4, vx_5, vx_6, vx_7] ++ x2)) := by rw [← eh4, AH.set_getS, hB3]
        have N4 : h4.next = h.next := by rw [← eh4, AH.set_next, N3]
        have E4 : ∀ y, y < h.next → y ≠ b → y ∉ (bx_5 ++ (bx_6 ++ bx_7)) → h4.get y = h.get y := fun y hy h1 h2 => by rw [← eh4]; exact (AH.set_getN _ _ h1).trans (E3 y hy h1 h2)
        have M4x_5 := M3x_5.stay (H' := h4) (by rw [N4, N3]; exact Nat.le_refl _) (fun z hz => by rw [← eh4]; exact AH.set_getN _ _ (fun e => u8 (by rw [← e]; simp [hz])))
        have M4x_6 := M3x_6.stay (H' := h4) (by rw [N4, N3]; exact Nat.le_refl _) (fun z hz => by rw [← eh4]; exact AH.set_getN _ _ (fun e => u8 (by rw [← e]; simp [hz])))
        have M4x_7 := M3x_7.stay (H' := h4) (by rw [N4, N3]; exact Nat.le_refl _) (fun z hz => by rw [← eh4]; exact AH.set_getN _ _ (fun e => u8 (by rw [← e]; simp [hz])))
        rw [eh4] at s3
        obtain ⟨B4, hB4⟩ : ∃ B, B = Blk.cells 72 false (x1 ++ [.int .i64 K0, .int .i64 K1, .int .i64 K2, .int .i64 K3, .bool q4, vx_5, vx_6, vx_7] ++ x2) := ⟨_, rfl⟩
        have s4 : stVar Try.prog 4 b (o + 4) (.bool q4) h4 = some (h4.set b B4) := by rw [hB4]; exact stf G4 u4 (by simp) rfl (by simp) rfl
        obtain ⟨h5, eh5⟩ : ∃ z, h4.set b B4 = z := ⟨_, rfl⟩
        have G5 : h5.get b = some (.cells 72 false (x1 ++ [.int .i64 K0, .int .i64 K1, .int .i64 K2, .int .i64 K3, .bool q4, vx_5, vx_6, vx_7] ++ x2)) := by rw [← eh5, AH.set_getS, hB4]
        have N5 : h5.next = h.next := by rw [← eh5, AH.set_next, N4]
        have E5 : ∀ y, y < h.next → y ≠ b → y ∉ (bx_5 ++ (bx_6 ++ bx_7)) → h5.get y = h.get y := fun y hy h1 h2 => by rw [← eh5]; exact (AH.set_getN _ _ h1).trans (E4 y hy h1 h2)
        have M5x_5 := M4x_5.stay (H' := h5) (by rw [N5, N4]; exact Nat.le_refl _) (fun z hz => by rw [← eh5]; exact AH.set_getN _ _ (fun e => u8 (by rw [← e]; simp [hz])))
        have M5x_6 := M4x_6.stay (H' := h5) (by rw [N5, N4]; exact Nat.le_refl _) (fun z hz => by rw [← eh5]; exact AH.set_getN _ _ (fun e => u8 (by rw [← e]; simp [hz])))
        have M5x_7 := M4x_7.stay (H' := h5) (by rw [N5, N4]; exact Nat.le_refl _) (fun z hz => by rw [← eh5]; exact AH.set_getN _ _ (fun e => u8 (by rw [← e]; simp [hz])))
        rw [eh5] at s4
        have l5 : ldVar Try.prog 34 b (o + 5) h5 = some vx_5 := ldf G5 u4 (by simp) rfl
        have nd5 : bx_5.Nodup := by simp only [List.nodup_append] at u9; grind
        obtain ⟨h6, s5, L5, R5⟩ := markByteS_h M5x_5 nd5 hbx_5 (k0 := K5) p5' (by rw [← hK6]; exact u6') m (by omega)
        rw [← hK6] at s5
        have G6 : h6.get b = some (.cells 72 false (x1 ++ [.int .i64 K0, .int .i64 K1, .int .i64 K2, .int .i64 K3, .bool q4, vx_5, vx_6, vx_7] ++ x2)) := by rw [L5.get b (by rw [N5]; exact u2) (fun e => u8 (by simp [e]))]; exact G5
        have N6 : h6.next = h.next := L5.next.trans N5
        have E6 : ∀ y, y < h.next → y ≠ b → y ∉ (bx_5 ++ (bx_6 ++ bx_7)) → h6.get y = h.get y := fun y hy h1 h2 => (L5.get y (by rw [N5]; exact hy) (fun e => h2 (by simp [e]))).trans (E5 y hy h1 h2)
        have M6x_6 := M5x_6.koL L5 (fun y hy hx => by simp only [List.nodup_append] at u9; grind)
        have M6x_7 := M5x_7.koL L5 (fun y hy hx => by simp only [List.nodup_append] at u9; grind)
        have l6 : ldVar Try.prog 34 b (o + 6) h6 = some vx_6 := ldf G6 u4 (by simp) rfl
        have nd6 : bx_6.Nodup := by simp only [List.nodup_append] at u9; grind
        obtain ⟨h7, s6, L6, R6⟩ := markByteS_h M6x_6 nd6 hbx_6 (k0 := K6) p6' (by rw [← hK7]; exact u7') m (by omega)
        rw [← hK7] at s6
        have G7 : h7.get b = some (.cells 72 false (x1 ++ [.int .i64 K0, .int .i64 K1, .int .i64 K2, .int .i64 K3, .bool q4, vx_5, vx_6, vx_7] ++ x2)) := by rw [L6.get b (by rw [N6]; exact u2) (fun e => u8 (by simp [e]))]; exact G6
        have N7 : h7.next = h.next := L6.next.trans N6
        have E7 : ∀ y, y < h.next → y ≠ b → y ∉ (bx_5 ++ (bx_6 ++ bx_7)) → h7.get y = h.get y := fun y hy h1 h2 => (L6.get y (by rw [N6]; exact hy) (fun e => h2 (by simp [e]))).trans (E6 y hy h1 h2)
        have M7x_5 := R5.koL L6 (fun y hy hx => by simp only [List.nodup_append] at u9; grind)
        have M7x_7 := M6x_7.koL L6 (fun y hy hx => by simp only [List.nodup_append] at u9; grind)
        have l7 : ldVar Try.prog 70 b (o + 7) h7 = some vx_7 := ldf G7 u4 (by simp) rfl
        have nd7 : bx_7.Nodup := by simp only [List.nodup_append] at u9; grind
        obtain ⟨h8, s7, L7, R7⟩ := markRangeS_h M7x_7 nd7 hbx_7 (k0 := K7) p7' (by rw [← hK8]; exact u8') m (by omega)
        rw [← hK8] at s7
        have G8 : h8.get b = some (.cells 72 false (x1 ++ [.int .i64 K0, .int .i64 K1, .int .i64 K2, .int .i64 K3, .bool q4, vx_5, vx_6, vx_7] ++ x2)) := by rw [L7.get b (by rw [N7]; exact u2) (fun e => u8 (by simp [e]))]; exact G7
        have N8 : h8.next = h.next := L7.next.trans N7
        have E8 : ∀ y, y < h.next → y ≠ b → y ∉ (bx_5 ++ (bx_6 ++ bx_7)) → h8.get y = h.get y := fun y hy h1 h2 => (L7.get y (by rw [N7]; exact hy) (fun e => h2 (by simp [e]))).trans (E7 y hy h1 h2)
        have M8x_5 := M7x_5.koL L7 (fun y hy hx => by simp only [List.nodup_append] at u9; grind)
        have M8x_6 := R6.koL L7 (fun y hy hx => by simp only [List.nodup_append] at u9; grind)
        have KLf : KoL bs h h8 := ⟨N8, fun y hy hyb => E8 y hy (fun e => hyb (by rw [e]; exact u7)) (fun e => hyb (u6 y e))⟩
        have hRf : tT72.R true h8 [.int .i64 K0, .int .i64 K1, .int .i64 K2, .int .i64 K3, .bool q4, vx_5, vx_6, vx_7] (K0, K1, K2, K3, q4, ((Ty.sl 5 (Ty.int .u8)).mk true K5 x_5), ((Ty.sl 5 (Ty.int .u8)).mk true K6 x_6), ((Ty.sl 94 tT94).mk true K7 x_7)) (bx_5 ++ (bx_6 ++ bx_7)) := i72 M8x_5 M8x_6 R7 (InK.k31 p0' u0') (InK.k31 p1' u1') (InK.k31 p2' u2') (InK.k31 p3' u3')
        rw [hmk] at hms
        have hR6 := u10 h8 _ _ (by rw [N8]; exact Nat.le_refl _) (fun y hy h1 h2 => E8 y (hR.mem y hy) h1 h2) G8 hRf
        rw [hms] at hR6
        rewrite [lp118_26]
        simp [Try.f118, t0, t1, t5, hL, hlt, u1, w0, w1, w2, w3, w4, m4, s0, s1, s2, s3, s4, l5, s5, l6, s6, l7, s7, wrap_i64 (n := (k : Int) + 1) (by omega) (by omega)]
        exact ⟨d - 1, by omega, k + 1, by omega, by simp [t0], by simp; omega, by simp, hK.trans KLf, hR6⟩)
    ⟨0, by simp, by simp, by simp [cntL], by simp, KoL.refl _ _, by simpa [mkRow] using hd⟩ (by omega))
  simp [g1]
  exact ⟨g2, g3⟩
/-! markFlowObsS -/
def ImarkFlowObsS_h (ds : List tT63.D) (s : AV) (k0 : Int) (bs : List Nat) (H : AH) (d : Nat) (τ : Tm) (h : AH) : Prop :=
  ∃ k : Nat, k + d = ds.length ∧ τ 0 = s ∧ τ 1 = .int .i64 (k0 + (cntL (tT63.cnt true) (ds.take k) : Nat)) ∧ τ 5 = .int .i64 k ∧ KoL bs H h ∧ (Ty.sl 63 tT63).R true h [s] (mkRow (tT63.mk true) (tT63.cnt true) k0 (ds.take k) ++ ds.drop k) bs
set_option maxHeartbeats 4000000 in
theorem markFlowObsS_h {H : AH} {s : AV} {ds : List tT63.D} {bs : List Nat} (hd : (Ty.sl 63 tT63).R true H [s] ds bs) (hnd : bs.Nodup) (hb : (Ty.sl 63 tT63).bd 1048576 ds) {k0 : Int} (hk0 : 0 ≤ k0) (hk1 : k0 + ((Ty.sl 63 tT63).cnt true ds : Nat) ≤ 2147483648) (m : Nat) (hm : 1048820 ≤ m) :
    ∃ H', ev Try.prog m 33 [s, .int .i64 k0] H = some (.int .i64 (k0 + ((Ty.sl 63 tT63).cnt true ds : Nat)), H') ∧ KoL bs H H' ∧ (Ty.sl 63 tT63).R true H' [s] ((Ty.sl 63 tT63).mk true k0 ds) bs := by
  obtain ⟨m, rfl⟩ : ∃ k, m = k + 1 := ⟨m - 1, by omega⟩
  obtain ⟨hl, hl2⟩ := hb
  rw [cnt_sl] at hk1 ⊢
  rw [mk_sl]
  rw [ev_eq Try.func33 ok33 m _ H (by simp [Try.f33])]
  simp [Try.f33]
  generalize hLo : evLoop _ _ _ _ _ _ = R
  obtain ⟨e, τ', H', rfl, rfl, g1, g2, g3⟩ := loop_at hLo (loop_rule (d := ds.length) (ImarkFlowObsS_h ds s k0 bs H)
    (fun e τ h => e = .exit 0 ∧ τ 1 = .int .i64 (k0 + (cntL (tT63.cnt true) ds : Nat)) ∧ KoL bs H h ∧ (Ty.sl 63 tT63).R true h [s] (mkRow (tT63.mk true) (tT63.cnt true) k0 ds) bs)
    (by
      rintro d τ h ⟨k, hk, t0, t1, t5, hK, hR⟩
      have hlen' : (mkRow (tT63.mk true) (tT63.cnt true) k0 (ds.take k) ++ ds.drop k).length = ds.length := by simp [mkRow_len]; omega
      have hL := Ty.R.lenA hR (P := Try.prog) (T := 46) (by simp)
      rw [hlen'] at hL
      by_cases hd0 : d = 0
      · subst hd0
        have : k = ds.length := by omega
        subst this
        rw [List.take_length] at t1
        rewrite [lp33_26]
        simp [Try.f33, t0, t1, t5, hL]
        exact ⟨hK, by simpa using hR⟩
      · have hlt : k < ds.length := by omega
        obtain ⟨b, o, x1, c, x2, bk, u1, u2, u3, u4, u5, u6, u7, u8, u9, u10⟩ := Ty.R.upd hR hnd (P := Try.prog) (T := 46) (by simp) (by simp [Ty.n]) (k := k) (by omega)
        have hat := mkRow_atH (tT63.mk true) (tT63.cnt true) k0 ds k hlt (by rw [hlen']; exact hlt)
        rw [hat] at u5
        have hbd := hl2 _ (List.getElem_mem hlt)
        have hct := cntL_take_succ' (tT63.cnt true) ds k hlt
        have hcl := cntL_take_le' (tT63.cnt true) ds (k + 1)
        have hms := mkRow_setH (tT63.mk true) (tT63.cnt true) k0 ds k hlt
        generalize hK0 : k0 + (cntL (tT63.cnt true) (ds.take k) : Nat) = K0 at *
        have hKb : 0 ≤ K0 ∧ K0 ≤ 2147483648 := by omega
        generalize hdk : ds[k] = dk at *
        obtain ⟨x_0, x_1, x_2, x_3⟩ := dk
        obtain ⟨hbx_0, hbx_1, hbx_2, hbx_3⟩ := hbd
        obtain ⟨vx_3, bx_3, rfl, rfl, hx_3, ix_0, ix_1, ix_2⟩ := o63 u5
        obtain ⟨K1, hK1⟩ : ∃ z, z = K0 + (((Ty.int .i64).cnt true x_0 : Nat) : Int) := ⟨_, rfl⟩
        obtain ⟨K2, hK2⟩ : ∃ z, z = K1 + (((Ty.int .i64).cnt true x_1 : Nat) : Int) := ⟨_, rfl⟩
        obtain ⟨K3, hK3⟩ : ∃ z, z = K2 + (((Ty.int .i64).cnt true x_2 : Nat) : Int) := ⟨_, rfl⟩
        obtain ⟨K4, hK4⟩ : ∃ z, z = K3 + (((Ty.sl 72 tT72).cnt true x_3 : Nat) : Int) := ⟨_, rfl⟩
        have htot : tT63.cnt true (x_0, x_1, x_2, x_3) = (Ty.int .i64).cnt true x_0 + ((Ty.int .i64).cnt true x_1 + ((Ty.int .i64).cnt true x_2 + ((Ty.sl 72 tT72).cnt true x_3))) := rfl
        rw [htot] at hct
        have hKl : K4 = k0 + (cntL (tT63.cnt true) (ds.take (k + 1)) : Nat) := by rw [hct]; push_cast; omega
        have u4' : K4 ≤ 2147483648 := by omega
        have u3' := dn_step hK4 u4'
        have u2' := dn_step hK3 u3'
        have u1' := dn_step hK2 u2'
        have u0' := dn_step hK1 u1'
        have p0' : 0 ≤ K0 := hKb.1
        have p1' := up_step hK1 p0'
        have p2' := up_step hK2 p1'
        have p3' := up_step hK3 p2'
        have p4' := up_step hK4 p3'
        have w0 := wrap_step hK1 rfl p0' u1'
        have w1 := wrap_step hK2 rfl p1' u2'
        have w2 := wrap_step hK3 rfl p2' u3'
        have hmk : tT63.mk true K0 (x_0, x_1, x_2, x_3) = (K0, K1, K2, ((Ty.sl 72 tT72).mk true K3 x_3)) := by rw [mk_pair, ← hK1, mk_pair, ← hK2, mk_pair, ← hK3, mk_int31 p0' u0', mk_int31 p1' u1', mk_int31 p2' u2']
        have h0 : h = h := rfl
        have G0 : h.get b = some (.cells 63 false (x1 ++ [.int .i64 x_0, .int .i64 x_1, .int .i64 x_2, vx_3] ++ x2)) := u3
        have N0 : h.next = h.next := rfl
        have E0 : ∀ y, y < h.next → y ≠ b → y ∉ bx_3 → h.get y = h.get y := fun _ _ _ _ => rfl
        obtain ⟨B0, hB0⟩ : ∃ B, B = Blk.cells 63 false (x1 ++ [.int .i64 K0, .int .i64 x_1, .int .i64 x_2, vx_3] ++ x2) := ⟨_, rfl⟩
        have s0 : stVar Try.prog 3 b o (.int .i64 K0) h = some (h.set b B0) := by rw [hB0]; exact stf0 G0 u4 (by simp) rfl (by simp) rfl
        obtain ⟨h1, eh1⟩ : ∃ z, h.set b B0 = z := ⟨_, rfl⟩
        have G1 : h1.get b = some (.cells 63 false (x1 ++ [.int .i64 K0, .int .i64 x_1, .int .i64 x_2, vx_3] ++ x2)) := by rw [← eh1, AH.set_getS, hB0]
        have N1 : h1.next = h.next := by rw [← eh1, AH.set_next]
        have E1 : ∀ y, y < h.next → y ≠ b → y ∉ bx_3 → h1.get y = h.get y := fun y hy h1 h2 => by rw [← eh1]; exact (AH.set_getN _ _ h1).trans (E0 y hy h1 h2)
        have M1x_3 := hx_3.stay (H' := h1) (by rw [N1]; exact Nat.le_refl _) (fun z hz => by rw [← eh1]; exact AH.set_getN _ _ (fun e => u8 (by rw [← e]; exact hz)))
        rw [eh1] at s0
        obtain ⟨B1, hB1⟩ : ∃ B, B = Blk.cells 63 false (x1 ++ [.int .i64 K0, .int .i64 K1, .int .i64 x_2, vx_3] ++ x2) := ⟨_, rfl⟩
        have s1 : stVar Try.prog 3 b (o + 1) (.int .i64 K1) h1 = some (h1.set b B1) := by rw [hB1]; exact stf G1 u4 (by simp) rfl (by simp) rfl
        obtain ⟨h2, eh2⟩ : ∃ z, h1.set b B1 = z := ⟨_, rfl⟩
        have G2 : h2.get b = some (.cells 63 false (x1 ++ [.int .i64 K0, .int .i64 K1, .int .i64 x_2, vx_3] ++ x2)) := by rw [← eh2, AH.set_getS, hB1]
        have N2 : h2.next = h.next := by rw [← eh2, AH.set_next, N1]
        have E2 : ∀ y, y < h.next → y ≠ b → y ∉ bx_3 → h2.get y = h.get y := fun y hy h1 h2 => by rw [← eh2]; exact (AH.set_getN _ _ h1).trans (E1 y hy h1 h2)
        have M2x_3 := M1x_3.stay (H' := h2) (by rw [N2, N1]; exact Nat.le_refl _) (fun z hz => by rw [← eh2]; exact AH.set_getN _ _ (fun e => u8 (by rw [← e]; exact hz)))
        rw [eh2] at s1
        obtain ⟨B2, hB2⟩ : ∃ B, B = Blk.cells 63 false (x1 ++ [.int .i64 K0, .int .i64 K1, .int .i64 K2, vx_3] ++ x2) := ⟨_, rfl⟩
        have s2 : stVar Try.prog 3 b (o + 2) (.int .i64 K2) h2 = some (h2.set b B2) := by rw [hB2]; exact stf G2 u4 (by simp) rfl (by simp) rfl
        obtain ⟨h3, eh3⟩ : ∃ z, h2.set b B2 = z := ⟨_, rfl⟩
        have G3 : h3.get b = some (.cells 63 false (x1 ++ [.int .i64 K0, .int .i64 K1, .int .i64 K2, vx_3] ++ x2)) := by rw [← eh3, AH.set_getS, hB2]
        have N3 : h3.next = h.next := by rw [← eh3, AH.set_next, N2]
        have E3 : ∀ y, y < h.next → y ≠ b → y ∉ bx_3 → h3.get y = h.get y := fun y hy h1 h2 => by rw [← eh3]; exact (AH.set_getN _ _ h1).trans (E2 y hy h1 h2)
        have M3x_3 := M2x_3.stay (H' := h3) (by rw [N3, N2]; exact Nat.le_refl _) (fun z hz => by rw [← eh3]; exact AH.set_getN _ _ (fun e => u8 (by rw [← e]; exact hz)))
        rw [eh3] at s2
        have l3 : ldVar Try.prog 61 b (o + 3) h3 = some vx_3 := ldf G3 u4 (by simp) rfl
        have nd3 : bx_3.Nodup := by exact u9
        obtain ⟨h4, s3, L3, R3⟩ := markFrameS_h M3x_3 nd3 hbx_3 (k0 := K3) p3' (by rw [← hK4]; exact u4') m (by omega)
        rw [← hK4] at s3
        have G4 : h4.get b = some (.cells 63 false (x1 ++ [.int .i64 K0, .int .i64 K1, .int .i64 K2, vx_3] ++ x2)) := by rw [L3.get b (by rw [N3]; exact u2) (fun e => u8 (by exact e))]; exact G3
        have N4 : h4.next = h.next := L3.next.trans N3
        have E4 : ∀ y, y < h.next → y ≠ b → y ∉ bx_3 → h4.get y = h.get y := fun y hy h1 h2 => (L3.get y (by rw [N3]; exact hy) (fun e => h2 (by exact e))).trans (E3 y hy h1 h2)
        have KLf : KoL bs h h4 := ⟨N4, fun y hy hyb => E4 y hy (fun e => hyb (by rw [e]; exact u7)) (fun e => hyb (u6 y e))⟩
        have hRf : tT63.R true h4 [.int .i64 K0, .int .i64 K1, .int .i64 K2, vx_3] (K0, K1, K2, ((Ty.sl 72 tT72).mk true K3 x_3)) bx_3 := i63 R3 (InK.k31 p0' u0') (InK.k31 p1' u1') (InK.k31 p2' u2')
        rw [hmk] at hms
        have hR6 := u10 h4 _ _ (by rw [N4]; exact Nat.le_refl _) (fun y hy h1 h2 => E4 y (hR.mem y hy) h1 h2) G4 hRf
        rw [hms] at hR6
        rewrite [lp33_26]
        simp [Try.f33, t0, t1, t5, hL, hlt, u1, w0, w1, w2, s0, s1, s2, l3, s3, wrap_i64 (n := (k : Int) + 1) (by omega) (by omega)]
        exact ⟨d - 1, by omega, k + 1, by omega, by simp [t0], by simp; omega, by simp, hK.trans KLf, hR6⟩)
    ⟨0, by simp, by simp, by simp [cntL], by simp, KoL.refl _ _, by simpa [mkRow] using hd⟩ (by omega))
  simp [g1]
  exact ⟨g2, g3⟩
/-! heldByteS -/
def IheldByteS_h (ds : List (Ty.int .u8).D) (s : AV) (k0 : Int) (H : AH) (d : Nat) (τ : Tm) (h : AH) : Prop :=
  ∃ k : Nat, k + d = ds.length ∧ τ 0 = s ∧ τ 1 = .int .i64 (k0 + (cntL ((Ty.int .u8).cnt true) (ds.take k) : Nat)) ∧ τ 5 = .int .i64 k ∧ h = H
set_option maxHeartbeats 4000000 in
theorem heldByteS_h {H : AH} {s : AV} {ds : List (Ty.int .u8).D} {bs : List Nat} {rw : Bool} {k0 : Int} (hd : (Ty.sl 5 (Ty.int .u8)).R rw H [s] ((Ty.sl 5 (Ty.int .u8)).mk true k0 ds) bs) (hb : (Ty.sl 5 (Ty.int .u8)).bd 1048576 ds) (hk0 : 0 ≤ k0) (hk1 : k0 + ((Ty.sl 5 (Ty.int .u8)).cnt true ds : Nat) ≤ 2147483648) (m : Nat) (hm : 1048720 ≤ m) :
    ev Try.prog m 129 [s, .int .i64 k0] H = some (.int .i64 (k0 + ((Ty.sl 5 (Ty.int .u8)).cnt true ds : Nat)), H) := by
  obtain ⟨m, rfl⟩ : ∃ k, m = k + 1 := ⟨m - 1, by omega⟩
  obtain ⟨hl, hl2⟩ := hb
  rw [cnt_sl] at hk1 ⊢
  rw [mk_sl] at hd
  have hL := Ty.R.lenA hd (P := Try.prog) (T := 34) (by simp)
  rw [mkRow_len] at hL
  rw [ev_eq Try.func129 ok129 m _ H (by simp [Try.f129])]
  simp [Try.f129]
  generalize hLo : evLoop _ _ _ _ _ _ = R
  obtain ⟨e, τ', H', rfl, rfl, g1, rfl⟩ := loop_at hLo (loop_rule (d := ds.length) (IheldByteS_h ds s k0 H)
    (fun e τ h => e = .exit 0 ∧ τ 1 = .int .i64 (k0 + (cntL ((Ty.int .u8).cnt true) ds : Nat)) ∧ h = H)
    (by
      rintro d τ h ⟨k, hk, t0, t1, t5, rfl⟩
      by_cases hd0 : d = 0
      · subst hd0
        have : k = ds.length := by omega
        subst this
        rw [List.take_length] at t1
        rewrite [lp129_26]
        simp [Try.f129, t0, t1, t5, hL]
      · have hlt : k < ds.length := by omega
        obtain ⟨b, o, ro, x1, c, x2, bk, u1, u2, u3, u4, u5, u6, u7, u8⟩ := Ty.R.at_ hd (P := Try.prog) (T := 34) (by simp) (by simp [Ty.n]) (k := k) (by rw [mkRow_len]; exact hlt)
        rw [mkRow_getH _ _ _ _ _ hlt] at u5
        have hbd := hl2 _ (List.getElem_mem hlt)
        have hct := cntL_take_succ' ((Ty.int .u8).cnt true) ds k hlt
        have hcl := cntL_take_le' ((Ty.int .u8).cnt true) ds (k + 1)
        generalize hK0 : k0 + (cntL ((Ty.int .u8).cnt true) (ds.take k) : Nat) = K0 at *
        have hKb : 0 ≤ K0 ∧ K0 ≤ 2147483648 := by omega
        generalize hdk : ds[k] = dk at *
        obtain ⟨x, hx0⟩ : ∃ x, x = dk := ⟨_, rfl⟩
        subst hx0
        have hbx := hbd
        obtain ⟨K1, hK1⟩ : ∃ z, z = K0 + (((Ty.int .u8).cnt true x : Nat) : Int) := ⟨_, rfl⟩
        have htot : (Ty.int .u8).cnt true x = (Ty.int .u8).cnt true x := rfl
        rw [htot] at hct
        have hKl : K1 = k0 + (cntL ((Ty.int .u8).cnt true) (ds.take (k + 1)) : Nat) := by rw [hct]; push_cast; omega
        have u1' : K1 ≤ 2147483648 := by omega
        have u0' := dn_step hK1 u1'
        have p0' : 0 ≤ K0 := hKb.1
        have p1' := up_step hK1 p0'
        have w0 := wrap_step hK1 rfl p0' u1'
        obtain ⟨z0, hz0⟩ : ∃ z, IntKind.u8.wrap K0 = z := ⟨_, rfl⟩
        have cv0 : ∀ h', convA Try.prog 3 5 (.int .i64 K0) h' = some (.int .u8 z0, h') := fun h' => (conv_int (ds := .int .i64) (k := .u8) (by simp) (by simp)).trans (by rw [hz0])
        have hmk : (Ty.int .u8).mk true K0 x = z0 := by rw [mk_intw, hz0]
        rw [hmk] at u5
        obtain ⟨rfl, r1, r2, rfl⟩ := u5
        have l0 : ldVar Try.prog 5 b o h = some (.int .u8 z0) := ldf0 u3 u4 (by simp) rfl
        rewrite [lp129_26]
        simp [Try.f129, t0, t1, t5, hL, hlt, u1, w0, cv0, l0, evHist, ObsOk, ObOk, wrap_i64 (n := (k : Int) + 1) (by omega) (by omega)]
        exact ⟨d - 1, by omega, k + 1, by omega, by simp [t0], by simp; omega, by simp⟩)
    ⟨0, by simp, by simp, by simp [cntL], by simp, rfl⟩ (by omega))
  simp [g1]
/-! heldRangeS -/
def IheldRangeS_h (ds : List tT94.D) (s : AV) (k0 : Int) (H : AH) (d : Nat) (τ : Tm) (h : AH) : Prop :=
  ∃ k : Nat, k + d = ds.length ∧ τ 0 = s ∧ τ 1 = .int .i64 (k0 + (cntL (tT94.cnt true) (ds.take k) : Nat)) ∧ τ 5 = .int .i64 k ∧ h = H
set_option maxHeartbeats 4000000 in
theorem heldRangeS_h {H : AH} {s : AV} {ds : List tT94.D} {bs : List Nat} {rw : Bool} {k0 : Int} (hd : (Ty.sl 94 tT94).R rw H [s] ((Ty.sl 94 tT94).mk true k0 ds) bs) (hb : (Ty.sl 94 tT94).bd 1048576 ds) (hk0 : 0 ≤ k0) (hk1 : k0 + ((Ty.sl 94 tT94).cnt true ds : Nat) ≤ 2147483648) (m : Nat) (hm : 1048740 ≤ m) :
    ev Try.prog m 130 [s, .int .i64 k0] H = some (.int .i64 (k0 + ((Ty.sl 94 tT94).cnt true ds : Nat)), H) := by
  obtain ⟨m, rfl⟩ : ∃ k, m = k + 1 := ⟨m - 1, by omega⟩
  obtain ⟨hl, hl2⟩ := hb
  rw [cnt_sl] at hk1 ⊢
  rw [mk_sl] at hd
  have hL := Ty.R.lenA hd (P := Try.prog) (T := 70) (by simp)
  rw [mkRow_len] at hL
  rw [ev_eq Try.func130 ok130 m _ H (by simp [Try.f130])]
  simp [Try.f130]
  generalize hLo : evLoop _ _ _ _ _ _ = R
  obtain ⟨e, τ', H', rfl, rfl, g1, rfl⟩ := loop_at hLo (loop_rule (d := ds.length) (IheldRangeS_h ds s k0 H)
    (fun e τ h => e = .exit 0 ∧ τ 1 = .int .i64 (k0 + (cntL (tT94.cnt true) ds : Nat)) ∧ h = H)
    (by
      rintro d τ h ⟨k, hk, t0, t1, t5, rfl⟩
      by_cases hd0 : d = 0
      · subst hd0
        have : k = ds.length := by omega
        subst this
        rw [List.take_length] at t1
        rewrite [lp130_26]
        simp [Try.f130, t0, t1, t5, hL]
      · have hlt : k < ds.length := by omega
        obtain ⟨b, o, ro, x1, c, x2, bk, u1, u2, u3, u4, u5, u6, u7, u8⟩ := Ty.R.at_ hd (P := Try.prog) (T := 70) (by simp) (by simp [Ty.n]) (k := k) (by rw [mkRow_len]; exact hlt)
        rw [mkRow_getH _ _ _ _ _ hlt] at u5
        have hbd := hl2 _ (List.getElem_mem hlt)
        have hct := cntL_take_succ' (tT94.cnt true) ds k hlt
        have hcl := cntL_take_le' (tT94.cnt true) ds (k + 1)
        generalize hK0 : k0 + (cntL (tT94.cnt true) (ds.take k) : Nat) = K0 at *
        have hKb : 0 ≤ K0 ∧ K0 ≤ 2147483648 := by omega
        generalize hdk : ds[k] = dk at *
        obtain ⟨x_0, x_1⟩ := dk
        obtain ⟨hbx_0, hbx_1⟩ := hbd
        obtain ⟨K1, hK1⟩ : ∃ z, z = K0 + (((Ty.int .i64).cnt true x_0 : Nat) : Int) := ⟨_, rfl⟩
        obtain ⟨K2, hK2⟩ : ∃ z, z = K1 + (((Ty.int .i64).cnt true x_1 : Nat) : Int) := ⟨_, rfl⟩
        have htot : tT94.cnt true (x_0, x_1) = (Ty.int .i64).cnt true x_0 + ((Ty.int .i64).cnt true x_1) := rfl
        rw [htot] at hct
        have hKl : K2 = k0 + (cntL (tT94.cnt true) (ds.take (k + 1)) : Nat) := by rw [hct]; push_cast; omega
        have u2' : K2 ≤ 2147483648 := by omega
        have u1' := dn_step hK2 u2'
        have u0' := dn_step hK1 u1'
        have p0' : 0 ≤ K0 := hKb.1
        have p1' := up_step hK1 p0'
        have p2' := up_step hK2 p1'
        have w0 := wrap_step hK1 rfl p0' u1'
        have w1 := wrap_step hK2 rfl p1' u2'
        have hmk : tT94.mk true K0 (x_0, x_1) = (K0, K1) := by rw [mk_pair, ← hK1, mk_int31 p0' u0', mk_int31 p1' u1']
        rw [hmk] at u5
        obtain ⟨rfl, rfl, ix_0, ix_1⟩ := o94 u5
        have l0 : ldVar Try.prog 3 b o h = some (.int .i64 K0) := ldf0 u3 u4 (by simp) rfl
        have l1 : ldVar Try.prog 3 b (o + 1) h = some (.int .i64 K1) := ldf u3 u4 (by simp) rfl
        rewrite [lp130_26]
        simp [Try.f130, t0, t1, t5, hL, hlt, u1, w0, w1, l0, l1, evHist, ObsOk, ObOk, wrap_i64 (n := (k : Int) + 1) (by omega) (by omega)]
        exact ⟨d - 1, by omega, k + 1, by omega, by simp [t0], by simp; omega, by simp⟩)
    ⟨0, by simp, by simp, by simp [cntL], by simp, rfl⟩ (by omega))
  simp [g1]
/-! heldFrameS -/
def IheldFrameS_h (ds : List tT72.D) (s : AV) (k0 : Int) (H : AH) (d : Nat) (τ : Tm) (h : AH) : Prop :=
  ∃ k : Nat, k + d = ds.length ∧ τ 0 = s ∧ τ 1 = .int .i64 (k0 + (cntL (tT72.cnt true) (ds.take k) : Nat)) ∧ τ 5 = .int .i64 k ∧ h = H
set_option maxHeartbeats 4000000 in
theorem heldFrameS_h {H : AH} {s : AV} {ds : List tT72.D} {bs : List Nat} {rw : Bool} {k0 : Int} (hd : (Ty.sl 72 tT72).R rw H [s] ((Ty.sl 72 tT72).mk true k0 ds) bs) (hb : (Ty.sl 72 tT72).bd 1048576 ds) (hk0 : 0 ≤ k0) (hk1 : k0 + ((Ty.sl 72 tT72).cnt true ds : Nat) ≤ 2147483648) (m : Nat) (hm : 1048780 ≤ m) :
    ev Try.prog m 119 [s, .int .i64 k0] H = some (.int .i64 (k0 + ((Ty.sl 72 tT72).cnt true ds : Nat)), H) := by
  obtain ⟨m, rfl⟩ : ∃ k, m = k + 1 := ⟨m - 1, by omega⟩
  obtain ⟨hl, hl2⟩ := hb
  rw [cnt_sl] at hk1 ⊢
  rw [mk_sl] at hd
  have hL := Ty.R.lenA hd (P := Try.prog) (T := 61) (by simp)
  rw [mkRow_len] at hL
  rw [ev_eq Try.func119 ok119 m _ H (by simp [Try.f119])]
  simp [Try.f119]
  generalize hLo : evLoop _ _ _ _ _ _ = R
  obtain ⟨e, τ', H', rfl, rfl, g1, rfl⟩ := loop_at hLo (loop_rule (d := ds.length) (IheldFrameS_h ds s k0 H)
    (fun e τ h => e = .exit 0 ∧ τ 1 = .int .i64 (k0 + (cntL (tT72.cnt true) ds : Nat)) ∧ h = H)
    (by
      rintro d τ h ⟨k, hk, t0, t1, t5, rfl⟩
      by_cases hd0 : d = 0
      · subst hd0
        have : k = ds.length := by omega
        subst this
        rw [List.take_length] at t1
        rewrite [lp119_26]
        simp [Try.f119, t0, t1, t5, hL]
      · have hlt : k < ds.length := by omega
        obtain ⟨b, o, ro, x1, c, x2, bk, u1, u2, u3, u4, u5, u6, u7, u8⟩ := Ty.R.at_ hd (P := Try.prog) (T := 61) (by simp) (by simp [Ty.n]) (k := k) (by rw [mkRow_len]; exact hlt)
        rw [mkRow_getH _ _ _ _ _ hlt] at u5
        have hbd := hl2 _ (List.getElem_mem hlt)
        have hct := cntL_take_succ' (tT72.cnt true) ds k hlt
        have hcl := cntL_take_le' (tT72.cnt true) ds (k + 1)
        generalize hK0 : k0 + (cntL (tT72.cnt true) (ds.take k) : Nat) = K0 at *
        have hKb : 0 ≤ K0 ∧ K0 ≤ 2147483648 := by omega
        generalize hdk : ds[k] = dk at *
        obtain ⟨x_0, x_1, x_2, x_3, x_4, x_5, x_6, x_7⟩ := dk
        obtain ⟨hbx_0, hbx_1, hbx_2, hbx_3, hbx_4, hbx_5, hbx_6, hbx_7⟩ := hbd
        obtain ⟨K1, hK1⟩ : ∃ z, z = K0 + (((Ty.int .i64).cnt true x_0 : Nat) : Int) := ⟨_, rfl⟩
        obtain ⟨K2, hK2⟩ : ∃ z, z = K1 + (((Ty.int .i64).cnt true x_1 : Nat) : Int) := ⟨_, rfl⟩
        obtain ⟨K3, hK3⟩ : ∃ z, z = K2 + (((Ty.int .i64).cnt true x_2 : Nat) : Int) := ⟨_, rfl⟩
        obtain ⟨K4, hK4⟩ : ∃ z, z = K3 + (((Ty.int .i64).cnt true x_3 : Nat) : Int) := ⟨_, rfl⟩
        obtain ⟨K5, hK5⟩ : ∃ z, z = K4 + ((Ty.bool.cnt true x_4 : Nat) : Int) := ⟨_, rfl⟩
        obtain ⟨K6, hK6⟩ : ∃ z, z = K5 + (((Ty.sl 5 (Ty.int .u8)).cnt true x_5 : Nat) : Int) := ⟨_, rfl⟩
        obtain ⟨K7, hK7⟩ : ∃ z, z = K6 + (((Ty.sl 5 (Ty.int .u8)).cnt true x_6 : Nat) : Int) := ⟨_, rfl⟩
        obtain ⟨K8, hK8⟩ : ∃ z, z = K7 + (((Ty.sl 94 tT94).cnt true x_7 : Nat) : Int) := ⟨_, rfl⟩
        have htot : tT72.cnt true (x_0, x_1, x_2, x_3, x_4, x_5, x_6, x_7) = (Ty.int .i64).cnt true x_0 + ((Ty.int .i64).cnt true x_1 + ((Ty.int .i64).cnt true x_2 + ((Ty.int .i64).cnt true x_3 + (Ty.bool.cnt true x_4 + ((Ty.sl 5 (Ty.int .u8)).cnt true x_5 + ((Ty.sl 5 (Ty.int .u8)).cnt true x_6 + ((Ty.sl 94 tT94).cnt true x_7))))))) := rfl
        rw [htot] at hct
        have hKl : K8 = k0 + (cntL (tT72.cnt true) (ds.take (k + 1)) : Nat) := by rw [hct]; push_cast; omega
        have u8' : K8 ≤ 2147483648 := by omega
        have u7' := dn_step hK8 u8'
        have u6' := dn_step hK7 u7'
        have u5' := dn_step hK6 u6'
        have u4' := dn_step hK5 u5'
        have u3' := dn_step hK4 u4'
        have u2' := dn_step hK3 u3'
        have u1' := dn_step hK2 u2'
        have u0' := dn_step hK1 u1'
        have p0' : 0 ≤ K0 := hKb.1
        have p1' := up_step hK1 p0'
        have p2' := up_step hK2 p1'
        have p3' := up_step hK3 p2'
        have p4' := up_step hK4 p3'
        have p5' := up_step hK5 p4'
        have p6' := up_step hK6 p5'
        have p7' := up_step hK7 p6'
        have p8' := up_step hK8 p7'
        have w0 := wrap_step hK1 rfl p0' u1'
        have w1 := wrap_step hK2 rfl p1' u2'
        have w2 := wrap_step hK3 rfl p2' u3'
        have w3 := wrap_step hK4 rfl p3' u4'
        have w4 := wrap_step hK5 rfl p4' u5'
        obtain ⟨q4, hq4⟩ : ∃ q, decide (K4 % 3 = 0) = q := ⟨_, rfl⟩
        have m4 := mod3 p4' hq4
        have hmk : tT72.mk true K0 (x_0, x_1, x_2, x_3, x_4, x_5, x_6, x_7) = (K0, K1, K2, K3, q4, ((Ty.sl 5 (Ty.int .u8)).mk true K5 x_5), ((Ty.sl 5 (Ty.int .u8)).mk true K6 x_6), ((Ty.sl 94 tT94).mk true K7 x_7)) := by rw [mk_pair, ← hK1, mk_pair, ← hK2, mk_pair, ← hK3, mk_pair, ← hK4, mk_pair, ← hK5, mk_pair, ← hK6, mk_pair, ← hK7, mk_int31 p0' u0', mk_int31 p1' u1', mk_int31 p2' u2', mk_int31 p3' u3', mk_bool1, hq4]
        rw [hmk] at u5
        obtain ⟨vx_5, vx_6, vx_7, bx_5, bx_6, bx_7, rfl, rfl, hx_5, hx_6, hx_7, ix_0, ix_1, ix_2, ix_3⟩ := o72 u5
        have l0 : ldVar Try.prog 3 b o h = some (.int .i64 K0) := ldf0 u3 u4 (by simp) rfl
        have l1 : ldVar Try.prog 3 b (o + 1) h = some (.int .i64 K1) := ldf u3 u4 (by simp) rfl
        have l2 : ldVar Try.prog 3 b (o + 2) h = some (.int .i64 K2) := ldf u3 u4 (by simp) rfl
        have l3 : ldVar Try.prog 3 b (o + 3) h = some (.int .i64 K3) := ldf u3 u4 (by simp) rfl
        have l4 : ldVar Try.prog 4 b (o + 4) h = some (.bool q4) := ldf u3 u4 (by simp) rfl
        have l5 : ldVar Try.prog 34 b (o + 5) h = some (vx_5) := ldf u3 u4 (by simp) rfl
        have s5 := heldByteS_h hx_5 hbx_5 p5' (by rw [← hK6]; exact u6') m (by omega)
        rw [← hK6] at s5
        have p5 : ¬ (K6 < 0) := Int.not_lt.2 p6'
        have l6 : ldVar Try.prog 34 b (o + 6) h = some (vx_6) := ldf u3 u4 (by simp) rfl
        have s6 := heldByteS_h hx_6 hbx_6 p6' (by rw [← hK7]; exact u7') m (by omega)
        rw [← hK7] at s6
        have p6 : ¬ (K7 < 0) := Int.not_lt.2 p7'
        have l7 : ldVar Try.prog 70 b (o + 7) h = some (vx_7) := ldf u3 u4 (by simp) rfl
        have s7 := heldRangeS_h hx_7 hbx_7 p7' (by rw [← hK8]; exact u8') m (by omega)
        rw [← hK8] at s7
        have p7 : ¬ (K8 < 0) := Int.not_lt.2 p8'
        rewrite [lp119_26]
        simp [Try.f119, t0, t1, t5, hL, hlt, u1, w0, w1, w2, w3, w4, m4, l0, l1, l2, l3, l4, l5, s5, p5, l6, s6, p6, l7, s7, p7, evHist, ObsOk, ObOk, wrap_i64 (n := (k : Int) + 1) (by omega) (by omega)]
        exact ⟨d - 1, by omega, k + 1, by omega, by simp [t0], by simp; omega, by simp⟩)
    ⟨0, by simp, by simp, by simp [cntL], by simp, rfl⟩ (by omega))
  simp [g1]
/-! heldFlowObsS -/
def IheldFlowObsS_h (ds : List tT63.D) (s : AV) (k0 : Int) (H : AH) (d : Nat) (τ : Tm) (h : AH) : Prop :=
  ∃ k : Nat, k + d = ds.length ∧ τ 0 = s ∧ τ 1 = .int .i64 (k0 + (cntL (tT63.cnt true) (ds.take k) : Nat)) ∧ τ 5 = .int .i64 k ∧ h = H
set_option maxHeartbeats 4000000 in
theorem heldFlowObsS_h {H : AH} {s : AV} {ds : List tT63.D} {bs : List Nat} {rw : Bool} {k0 : Int} (hd : (Ty.sl 63 tT63).R rw H [s] ((Ty.sl 63 tT63).mk true k0 ds) bs) (hb : (Ty.sl 63 tT63).bd 1048576 ds) (hk0 : 0 ≤ k0) (hk1 : k0 + ((Ty.sl 63 tT63).cnt true ds : Nat) ≤ 2147483648) (m : Nat) (hm : 1048820 ≤ m) :
    ev Try.prog m 34 [s, .int .i64 k0] H = some (.int .i64 (k0 + ((Ty.sl 63 tT63).cnt true ds : Nat)), H) := by
  obtain ⟨m, rfl⟩ : ∃ k, m = k + 1 := ⟨m - 1, by omega⟩
  obtain ⟨hl, hl2⟩ := hb
  rw [cnt_sl] at hk1 ⊢
  rw [mk_sl] at hd
  have hL := Ty.R.lenA hd (P := Try.prog) (T := 46) (by simp)
  rw [mkRow_len] at hL
  rw [ev_eq Try.func34 ok34 m _ H (by simp [Try.f34])]
  simp [Try.f34]
  generalize hLo : evLoop _ _ _ _ _ _ = R
  obtain ⟨e, τ', H', rfl, rfl, g1, rfl⟩ := loop_at hLo (loop_rule (d := ds.length) (IheldFlowObsS_h ds s k0 H)
    (fun e τ h => e = .exit 0 ∧ τ 1 = .int .i64 (k0 + (cntL (tT63.cnt true) ds : Nat)) ∧ h = H)
    (by
      rintro d τ h ⟨k, hk, t0, t1, t5, rfl⟩
      by_cases hd0 : d = 0
      · subst hd0
        have : k = ds.length := by omega
        subst this
        rw [List.take_length] at t1
        rewrite [lp34_26]
        simp [Try.f34, t0, t1, t5, hL]
      · have hlt : k < ds.length := by omega
        obtain ⟨b, o, ro, x1, c, x2, bk, u1, u2, u3, u4, u5, u6, u7, u8⟩ := Ty.R.at_ hd (P := Try.prog) (T := 46) (by simp) (by simp [Ty.n]) (k := k) (by rw [mkRow_len]; exact hlt)
        rw [mkRow_getH _ _ _ _ _ hlt] at u5
        have hbd := hl2 _ (List.getElem_mem hlt)
        have hct := cntL_take_succ' (tT63.cnt true) ds k hlt
        have hcl := cntL_take_le' (tT63.cnt true) ds (k + 1)
        generalize hK0 : k0 + (cntL (tT63.cnt true) (ds.take k) : Nat) = K0 at *
        have hKb : 0 ≤ K0 ∧ K0 ≤ 2147483648 := by omega
        generalize hdk : ds[k] = dk at *
        obtain ⟨x_0, x_1, x_2, x_3⟩ := dk
        obtain ⟨hbx_0, hbx_1, hbx_2, hbx_3⟩ := hbd
        obtain ⟨K1, hK1⟩ : ∃ z, z = K0 + (((Ty.int .i64).cnt true x_0 : Nat) : Int) := ⟨_, rfl⟩
        obtain ⟨K2, hK2⟩ : ∃ z, z = K1 + (((Ty.int .i64).cnt true x_1 : Nat) : Int) := ⟨_, rfl⟩
        obtain ⟨K3, hK3⟩ : ∃ z, z = K2 + (((Ty.int .i64).cnt true x_2 : Nat) : Int) := ⟨_, rfl⟩
        obtain ⟨K4, hK4⟩ : ∃ z, z = K3 + (((Ty.sl 72 tT72).cnt true x_3 : Nat) : Int) := ⟨_, rfl⟩
        have htot : tT63.cnt true (x_0, x_1, x_2, x_3) = (Ty.int .i64).cnt true x_0 + ((Ty.int .i64).cnt true x_1 + ((Ty.int .i64).cnt true x_2 + ((Ty.sl 72 tT72).cnt true x_3))) := rfl
        rw [htot] at hct
        have hKl : K4 = k0 + (cntL (tT63.cnt true) (ds.take (k + 1)) : Nat) := by rw [hct]; push_cast; omega
        have u4' : K4 ≤ 2147483648 := by omega
        have u3' := dn_step hK4 u4'
        have u2' := dn_step hK3 u3'
        have u1' := dn_step hK2 u2'
        have u0' := dn_step hK1 u1'
        have p0' : 0 ≤ K0 := hKb.1
        have p1' := up_step hK1 p0'
        have p2' := up_step hK2 p1'
        have p3' := up_step hK3 p2'
        have p4' := up_step hK4 p3'
        have w0 := wrap_step hK1 rfl p0' u1'
        have w1 := wrap_step hK2 rfl p1' u2'
        have w2 := wrap_step hK3 rfl p2' u3'
        have hmk : tT63.mk true K0 (x_0, x_1, x_2, x_3) = (K0, K1, K2, ((Ty.sl 72 tT72).mk true K3 x_3)) := by rw [mk_pair, ← hK1, mk_pair, ← hK2, mk_pair, ← hK3, mk_int31 p0' u0', mk_int31 p1' u1', mk_int31 p2' u2']
        rw [hmk] at u5
        obtain ⟨vx_3, bx_3, rfl, rfl, hx_3, ix_0, ix_1, ix_2⟩ := o63 u5
        have l0 : ldVar Try.prog 3 b o h = some (.int .i64 K0) := ldf0 u3 u4 (by simp) rfl
        have l1 : ldVar Try.prog 3 b (o + 1) h = some (.int .i64 K1) := ldf u3 u4 (by simp) rfl
        have l2 : ldVar Try.prog 3 b (o + 2) h = some (.int .i64 K2) := ldf u3 u4 (by simp) rfl
        have l3 : ldVar Try.prog 61 b (o + 3) h = some (vx_3) := ldf u3 u4 (by simp) rfl
        have s3 := heldFrameS_h hx_3 hbx_3 p3' (by rw [← hK4]; exact u4') m (by omega)
        rw [← hK4] at s3
        have p3 : ¬ (K4 < 0) := Int.not_lt.2 p4'
        rewrite [lp34_26]
        simp [Try.f34, t0, t1, t5, hL, hlt, u1, w0, w1, w2, l0, l1, l2, l3, s3, p3, evHist, ObsOk, ObOk, wrap_i64 (n := (k : Int) + 1) (by omega) (by omega)]
        exact ⟨d - 1, by omega, k + 1, by omega, by simp [t0], by simp; omega, by simp⟩)
    ⟨0, by simp, by simp, by simp [cntL], by simp, rfl⟩ (by omega))
  simp [g1]
end Go.Ev
