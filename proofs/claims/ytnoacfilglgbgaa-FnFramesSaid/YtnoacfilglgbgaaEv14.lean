/- Lemmas of an evaluator of the given code and of what the functions answer; no condition of its own. -/
import Derived.Test.YtnoacfilglgbgaaEv13
import Derived.Test.YtnoacfilglgbgaaEv6
import Derived.Test.YtnoacfilglgbgaaEv10
import Derived.Test.YtnoacfilglgbgaaEv7
import Derived.Test.YtnoacfilglgbgaaEv11
/- The source that the drawn laws draw from: a byte, a number below a bound. -/
namespace Go.Ev
open Go Go.Proofs
set_option linter.unusedSimpArgs false
set_option linter.unusedVariables false

structure Src where
  l : List Int
  pos : Nat
  mix : Int
def srcC (v : AV) (S : Src) : List AV := [v, .int .i64 S.pos, .int .i64 S.mix]
structure SrcI (H : AH) (q : Nat) (v : AV) (S : Src) (bs : List Nat) : Prop where
  get : H.get q = some (.cells 259 false (srcC v S))
  lt : q < H.next
  nin : q ∉ bs
  row : (Ty.sl 5 (.int .u8)).R false H [v] S.l bs
  pos : S.pos ≤ 1099511627776
  mix : 0 ≤ S.mix ∧ S.mix < 2147483648
  len : S.l.length ≤ 1048576
def byteP (S : Src) : Int × Src :=
  if h : S.pos + 1 ≤ S.l.length then (S.l[S.pos], { S with pos := S.pos + 1, mix := (S.mix * 31 + S.l[S.pos] + 7) % 2147483648 })
  else if S.pos + 1 > 4000 + 4 * S.l.length then (0, { S with pos := S.pos + 1 })
  else ((S.mix * 1103515245 + 12345) % 2147483648 / 65536 % 256, { S with pos := S.pos + 1, mix := (S.mix * 1103515245 + 12345) % 2147483648 })
theorem SrcI.at_ {H : AH} {q : Nat} {v : AV} {S : Src} {bs : List Nat} (h : SrcI H q v S bs) {k : Nat} (hk : k < S.l.length) :
    ∃ b o e ro xs, idxA Try.prog 34 v (.int .i64 k) = some (.ptr b o) ∧ H.get b = some (.cells e ro xs) ∧ xs[o]? = some (.int .u8 S.l[k]) ∧ 0 ≤ S.l[k] ∧ S.l[k] ≤ 255 ∧ b ≠ q := by
  obtain ⟨b, o, ro, x1, c, x2, bk, u1, u2, u3, u4, u5, u6, u7, u8⟩ := Ty.R.at_ h.row (P := Try.prog) (T := 34) (by simp) (by simp [Ty.n]) (k := k) hk
  obtain ⟨rfl, r1, r2, _⟩ := u5
  refine ⟨b, o, _, ro, _, u1, u3, by rw [List.append_assoc, List.getElem?_append_right (by omega)]; simp [u4], ?_, ?_, fun e => h.nin (by rw [← e]; exact u7)⟩
  · exact r1
  · exact r2
theorem SrcI.set {H : AH} {q : Nat} {v : AV} {S S' : Src} {bs : List Nat} (h : SrcI H q v S bs) (hl : S'.l = S.l) (hp : S'.pos ≤ 1099511627776) (hm : 0 ≤ S'.mix ∧ S'.mix < 2147483648) : SrcI (H.set q (.cells 259 false (srcC v S'))) q v S' bs :=
  ⟨AH.set_getS _ _ _, h.lt, h.nin, by rw [hl]; exact h.row.stay (by simp) fun b hb => AH.set_getN _ _ (fun e => h.nin (by rw [← e]; exact hb)), hp, hm, by rw [hl]; exact h.len⟩
theorem byteP_in {H : AH} {q : Nat} {v : AV} {S : Src} {bs : List Nat} (h : SrcI H q v S bs) : 0 ≤ (byteP S).1 ∧ (byteP S).1 ≤ 255 ∧ (byteP S).2.l = S.l ∧ (byteP S).2.pos = S.pos + 1 ∧ 0 ≤ (byteP S).2.mix ∧ (byteP S).2.mix < 2147483648 := by
  have hm := h.mix
  unfold byteP
  split
  · rename_i h1
    obtain ⟨b, o, e, ro, xs, u1, u2, u3, u4, u5, u6⟩ := h.at_ (k := S.pos) (by omega)
    exact ⟨u4, u5, rfl, rfl, Int.emod_nonneg _ (by omega), Int.emod_lt_of_pos _ (by omega)⟩
  · split
    · exact ⟨by simp, by simp, rfl, rfl, hm⟩
    · refine ⟨Int.emod_nonneg _ (by omega), ?_, rfl, rfl, Int.emod_nonneg _ (by omega), Int.emod_lt_of_pos _ (by omega)⟩
      have := Int.emod_lt_of_pos ((S.mix * 1103515245 + 12345) % 2147483648 / 65536) (b := 256) (by omega)
      simp only; omega
end Go.Ev

/- The source: a byte, by the evaluator. -/
namespace Go.Ev
open Go Go.Proofs
set_option linter.unusedSimpArgs false
set_option linter.unusedVariables false

set_option maxRecDepth 20000 in
theorem byte_ev {H : AH} {q : Nat} {v : AV} {S : Src} {bs : List Nat} (h : SrcI H q v S bs) (hp : S.pos < 1099511627776) (m : Nat) (hm : 1 ≤ m) :
    ev Try.prog m 198 [.ptr q 0] H = some (.int .i64 (byteP S).1, H.set q (.cells 259 false (srcC v (byteP S).2))) := by
  obtain ⟨m, rfl⟩ : ∃ k, m = k + 1 := ⟨m - 1, by omega⟩
  have hg := h.get
  have hmx := h.mix
  have hle := h.len
  have hL := Ty.R.lenA h.row (P := Try.prog) (T := 34) (by simp)
  have w1 := wrap_i64 (n := (S.pos : Int) + 1) (by omega) (by omega)
  have w2 := wrap_i64 (n := (S.pos : Int)) (by omega) (by omega)
  simp only [srcC] at hg
  rw [ev_eq Try.func198 ok198 m _ H (by simp [Try.f198])]
  unfold byteP
  by_cases c1 : S.pos + 1 ≤ S.l.length
  · rw [dif_pos c1]
    obtain ⟨b, o, e, ro, xs, u1, u2, u3, u4, u5, u6⟩ := h.at_ (k := S.pos) (by omega)
    have c1' : (S.pos : Int) + 1 ≤ S.l.length := by omega
    have hqb : ¬ (q = b) := Ne.symm u6
    generalize S.l[S.pos] = x at *
    have cv : ∀ h, convA Try.prog 5 3 (.int .u8 x) h = some (.int .i64 x, h) := fun h => (conv_int (ds := .int .u8) (k := .i64) (by simp) (by simp)).trans (by rw [wrap_i64 (by omega) (by omega)])
    have w3 := wrap_i64 (n := S.mix * 31) (by omega) (by omega)
    have w4 := wrap_i64 (n := S.mix * 31 + x) (by omega) (by omega)
    have w5 := wrap_i64 (n := S.mix * 31 + x + 7) (by omega) (by omega)
    have t5 : (S.mix * 31 + x + 7).tmod 2147483648 = (S.mix * 31 + x + 7) % 2147483648 := Int.tmod_eq_emod_of_nonneg (by omega)
    have w6 := wrap_i64 (n := (S.mix * 31 + x + 7) % 2147483648) (by omega) (by omega)
    simp [Try.f198, ldVar, stVar, spl, srcC, hg, w1, w2, hL, c1', u1, u2, u3, u6, hqb, cv, w3, w4, w5, t5, w6, evHist, ObsOk, ObOk, List.getElem?_cons_zero]
  · rw [dif_neg c1]
    have c1' : ¬ ((S.pos : Int) + 1 ≤ S.l.length) := by omega
    have w7 := wrap_i64 (n := 4 * (S.l.length : Int)) (by omega) (by omega)
    have w8 := wrap_i64 (n := 4000 + 4 * (S.l.length : Int)) (by omega) (by omega)
    by_cases c2 : S.pos + 1 > 4000 + 4 * S.l.length
    · rw [if_pos c2]
      have c2' : 4000 + 4 * (S.l.length : Int) < (S.pos : Int) + 1 := by omega
      simp [Try.f198, ldVar, stVar, spl, srcC, hg, w1, w2, hL, c1', w7, w8, c2', evHist, ObsOk, ObOk, List.getElem?_cons_zero]
    · rw [if_neg c2]
      have c2' : ¬ (4000 + 4 * (S.l.length : Int) < (S.pos : Int) + 1) := by omega
      have w9 := wrap_i64 (n := S.mix * 1103515245) (by omega) (by omega)
      have w10 := wrap_i64 (n := S.mix * 1103515245 + 12345) (by omega) (by omega)
      have t6 : (S.mix * 1103515245 + 12345).tmod 2147483648 = (S.mix * 1103515245 + 12345) % 2147483648 := Int.tmod_eq_emod_of_nonneg (by omega)
      have y0 := Int.emod_nonneg (S.mix * 1103515245 + 12345) (b := 2147483648) (by omega)
      have y1 := Int.emod_lt_of_pos (S.mix * 1103515245 + 12345) (b := 2147483648) (by omega)
      generalize hY : (S.mix * 1103515245 + 12345) % 2147483648 = Y at *
      have w11 := wrap_i64 (n := Y) (by omega) (by omega)
      have t7 : Y.tdiv 65536 = Y / 65536 := Int.tdiv_eq_ediv_of_nonneg (by omega)
      have w12 := wrap_i64 (n := Y / 65536) (by omega) (by omega)
      have t8 : (Y / 65536).tmod 256 = Y / 65536 % 256 := Int.tmod_eq_emod_of_nonneg (by omega)
      have w13 := wrap_i64 (n := Y / 65536 % 256) (by omega) (by omega)
      simp [Try.f198, ldVar, stVar, spl, srcC, hg, w1, w2, hL, c1', w7, w8, c2', w9, w10, t6, w11, t7, w12, t8, w13, evHist, ObsOk, ObOk, List.getElem?_cons_zero]
end Go.Ev

/- The source: a number below a bound, a chance. -/
namespace Go.Ev
open Go Go.Proofs
set_option linter.unusedSimpArgs false
set_option linter.unusedVariables false

def nextP (n : Int) (S : Src) : Int × Src :=
  if n ≤ 1 then (0, S)
  else if n ≤ 256 then ((byteP S).1 % n, (byteP S).2)
  else (((byteP S).1 * 65536 + (byteP (byteP S).2).1 * 256 + (byteP (byteP (byteP S).2).2).1) % n, (byteP (byteP (byteP S).2).2).2)
theorem SrcI.byte {H : AH} {q : Nat} {v : AV} {S : Src} {bs : List Nat} (h : SrcI H q v S bs) (hp : S.pos < 1099511627776) : SrcI (H.set q (.cells 259 false (srcC v (byteP S).2))) q v (byteP S).2 bs := by
  obtain ⟨h1, h2, h3, h4, h5, h6⟩ := byteP_in h
  exact h.set h3 (by omega) ⟨h5, h6⟩
theorem next_ev {H : AH} {q : Nat} {v : AV} {S : Src} {bs : List Nat} (h : SrcI H q v S bs) (hp : S.pos + 3 ≤ 1099511627776) {n : Int} (hn : n ≤ 1099511627776) (m : Nat) (hm : 2 ≤ m) :
    ev Try.prog m 100 [.ptr q 0, .int .i64 n] H = some (.int .i64 (nextP n S).1, H.set q (.cells 259 false (srcC v (nextP n S).2))) := by
  obtain ⟨m, rfl⟩ : ∃ k, m = k + 1 := ⟨m - 1, by omega⟩
  have hg := h.get
  rw [ev_eq Try.func100 ok100 m _ H (by simp [Try.f100])]
  unfold nextP
  by_cases c1 : n ≤ 1
  · rw [if_pos c1, AH.set_same _ _ _ hg]
    simp [Try.f100, c1]
  · rw [if_neg c1]
    have e1 := byte_ev h (by omega) m (by omega)
    obtain ⟨a1, a2, a3, a4, a5, a6⟩ := byteP_in h
    have hnz : ¬ (n = 0) := by omega
    by_cases c2 : n ≤ 256
    · rw [if_pos c2]
      have t1 : (byteP S).1.tmod n = (byteP S).1 % n := Int.tmod_eq_emod_of_nonneg a1
      have y0 := Int.emod_nonneg (byteP S).1 hnz
      have y1 := Int.emod_lt_of_pos (byteP S).1 (b := n) (by omega)
      have w1 := wrap_i64 (n := (byteP S).1 % n) (by omega) (by omega)
      simp [Try.f100, c1, c2, e1, hnz, t1, w1]
    · rw [if_neg c2]
      have h1 := h.byte (by omega)
      have e2 := byte_ev h1 (by omega) m (by omega)
      obtain ⟨b1, b2, b3, b4, b5, b6⟩ := byteP_in h1
      have h2 := h1.byte (by omega)
      have e3 := byte_ev h2 (by omega) m (by omega)
      obtain ⟨d1, d2, d3, d4, d5, d6⟩ := byteP_in h2
      rw [set_set] at e2 e3
      rw [set_set] at e3
      generalize hx : (byteP S).1 = x at *
      generalize hS1 : (byteP S).2 = S1 at *
      generalize hy : (byteP S1).1 = y at *
      generalize hS2 : (byteP S1).2 = S2 at *
      generalize hz : (byteP S2).1 = z at *
      generalize hS3 : (byteP S2).2 = S3 at *
      have w1 := wrap_i64 (n := x * 65536) (by omega) (by omega)
      have w2 := wrap_i64 (n := y * 256) (by omega) (by omega)
      have w3 := wrap_i64 (n := x * 65536 + y * 256) (by omega) (by omega)
      have w4 := wrap_i64 (n := x * 65536 + y * 256 + z) (by omega) (by omega)
      have t1 : (x * 65536 + y * 256 + z).tmod n = (x * 65536 + y * 256 + z) % n := Int.tmod_eq_emod_of_nonneg (by omega)
      have y0 := Int.emod_nonneg (x * 65536 + y * 256 + z) hnz
      have y1 := Int.emod_lt_of_pos (x * 65536 + y * 256 + z) (b := n) (by omega)
      have w5 := wrap_i64 (n := (x * 65536 + y * 256 + z) % n) (by omega) (by omega)
      simp [Try.f100, c1, c2, e1, e2, e3, hnz, w1, w2, w3, w4, t1, w5]
end Go.Ev

/- The source: what a draw leaves; chance, size, an odd number. -/
namespace Go.Ev
open Go Go.Proofs
set_option linter.unusedSimpArgs false
set_option linter.unusedVariables false

theorem nextP_pos {n : Int} {S : Src} : (nextP n S).2.pos ≤ S.pos + 3 ∧ (nextP n S).2.l = S.l := by
  have hb : ∀ S : Src, (byteP S).2.pos = S.pos + 1 ∧ (byteP S).2.l = S.l := fun S => by
    unfold byteP; split
    · exact ⟨rfl, rfl⟩
    · split <;> exact ⟨rfl, rfl⟩
  have h1 := hb S
  have h2 := hb (byteP S).2
  have h3 := hb (byteP (byteP S).2).2
  unfold nextP
  split
  · exact ⟨by simp, rfl⟩
  · split
    · exact ⟨by simp only; omega, h1.2⟩
    · exact ⟨by simp only; omega, by simp only; rw [h3.2, h2.2, h1.2]⟩
theorem SrcI.next {H : AH} {q : Nat} {v : AV} {S : Src} {bs : List Nat} (h : SrcI H q v S bs) (hp : S.pos + 3 ≤ 1099511627776) (n : Int) : SrcI (H.set q (.cells 259 false (srcC v (nextP n S).2))) q v (nextP n S).2 bs := by
  have h1 := h.byte (by omega)
  have a1 := (byteP_in h).2.2.2.1
  have h2 := h1.byte (by omega)
  have a2 := (byteP_in h1).2.2.2.1
  have h3 := h2.byte (by omega)
  rw [set_set] at h2
  rw [set_set, set_set] at h3
  unfold nextP
  split
  · simp only; rw [AH.set_same _ _ _ h.get]; exact h
  · split
    · exact h1
    · exact h3
theorem nextP_in {H : AH} {q : Nat} {v : AV} {S : Src} {bs : List Nat} (h : SrcI H q v S bs) (hp : S.pos + 3 ≤ 1099511627776) (n : Int) : 0 ≤ (nextP n S).1 ∧ (nextP n S).1 < mxI 1 n := by
  unfold nextP mxI
  split
  · simp only; split <;> omega
  · split
    · have y0 := Int.emod_nonneg (byteP S).1 (b := n) (by omega)
      have y1 := Int.emod_lt_of_pos (byteP S).1 (b := n) (by omega)
      simp only; split <;> omega
    · simp only
      have y0 := Int.emod_nonneg ((byteP S).1 * 65536 + (byteP (byteP S).2).1 * 256 + (byteP (byteP (byteP S).2).2).1) (b := n) (by omega)
      have y1 := Int.emod_lt_of_pos ((byteP S).1 * 65536 + (byteP (byteP S).2).1 * 256 + (byteP (byteP (byteP S).2).2).1) (b := n) (by omega)
      split <;> omega
def chanceP (n : Int) (S : Src) : Bool × Src := (decide ((nextP n S).1 = n - 1), (nextP n S).2)
theorem chance_ev {H : AH} {q : Nat} {v : AV} {S : Src} {bs : List Nat} (h : SrcI H q v S bs) (hp : S.pos + 3 ≤ 1099511627776) {n : Int} (h0 : 0 ≤ n) (hn : n ≤ 1099511627776) (m : Nat) (hm : 3 ≤ m) :
    ev Try.prog m 101 [.ptr q 0, .int .i64 n] H = some (.bool (chanceP n S).1, H.set q (.cells 259 false (srcC v (chanceP n S).2))) := by
  obtain ⟨m, rfl⟩ : ∃ k, m = k + 1 := ⟨m - 1, by omega⟩
  have e1 := next_ev h hp hn m (by omega)
  have w1 := wrap_i64 (n := n - 1) (by omega) (by omega)
  rw [ev_eq Try.func101 ok101 m _ H (by simp [Try.f101])]
  simp [Try.f101, e1, w1, chanceP]
  rw [Bool.eq_iff_iff]; simp
def sizeP (n : Int) (S : Src) : Int := miI (1 + S.l.length / 12) n
theorem size_ev {H : AH} {q : Nat} {v : AV} {S : Src} {bs : List Nat} (h : SrcI H q v S bs) (n : Int) (m : Nat) (hm : 1 ≤ m) :
    ev Try.prog m 102 [.ptr q 0, .int .i64 n] H = some (.int .i64 (sizeP n S), H) := by
  obtain ⟨m, rfl⟩ : ∃ k, m = k + 1 := ⟨m - 1, by omega⟩
  have hg := h.get
  have hle := h.len
  have hL := Ty.R.lenA h.row (P := Try.prog) (T := 34) (by simp)
  have t1 : (S.l.length : Int).tdiv 12 = S.l.length / 12 := Int.tdiv_eq_ediv_of_nonneg (by omega)
  have w1 := wrap_i64 (n := (S.l.length : Int) / 12) (by omega) (by omega)
  have w2 := wrap_i64 (n := 1 + (S.l.length : Int) / 12) (by omega) (by omega)
  simp only [srcC] at hg
  rw [ev_eq Try.func102 ok102 m _ H (by simp [Try.f102])]
  simp [Try.f102, ldVar, hg, hL, t1, w1, w2, sizeP, miI, evHist, ObsOk, ObOk, List.getElem?_cons_zero]
theorem source_ev {H : AH} {v : AV} {l : List Int} {bs : List Nat} (h : (Ty.sl 5 (.int .u8)).R false H [v] l bs) (hv : v.one = true) (hl : l.length ≤ 1048576) (m : Nat) (hm : 1 ≤ m) :
    ev Try.prog m 99 [v] H = some (.ptr H.next 0, H.push (.cells 259 false (srcC v ⟨l, 0, l.length % 1000⟩))) := by
  obtain ⟨m, rfl⟩ : ∃ k, m = k + 1 := ⟨m - 1, by omega⟩
  have hL := Ty.R.lenA h (P := Try.prog) (T := 34) (by simp)
  have t1 : (l.length : Int).tmod 1000 = l.length % 1000 := Int.tmod_eq_emod_of_nonneg (by omega)
  have w1 := wrap_i64 (n := (l.length : Int) % 1000) (by omega) (by omega)
  rw [ev_eq Try.func99 ok99 m _ H (by simp [Try.f99])]
  simp [Try.f99, hL, t1, w1, fillA, spl, srcC, hv, cells_one hv]
theorem source_I {H : AH} {v : AV} {l : List Int} {bs : List Nat} (h : (Ty.sl 5 (.int .u8)).R false H [v] l bs) (hl : l.length ≤ 1048576) :
    SrcI (H.push (.cells 259 false (srcC v ⟨l, 0, l.length % 1000⟩))) H.next v ⟨l, 0, l.length % 1000⟩ bs :=
  ⟨by simp, by simp, fun e => by have := h.mem _ e; omega, h.kp ((Kp.refl H).push _), by simp, by simp only; omega, hl⟩
end Go.Ev

/- The source: an odd number; one of a row of numbers. -/
namespace Go.Ev
open Go Go.Proofs
set_option linter.unusedSimpArgs false
set_option linter.unusedVariables false

def pickP (l : List Int) (S : Src) : Int := (l[(nextP l.length S).1.toNat]?).getD 0
def oddL : List Int := [0, 1, -1, 1000000000000, 1000000000001, 9223372036854775807]
theorem pick_get {l : List Int} {S : Src} {H : AH} {q : Nat} {v : AV} {bs : List Nat} (h : SrcI H q v S bs) (hp : S.pos + 3 ≤ 1099511627776) (hl : 2 ≤ l.length) :
    ∃ k : Nat, (nextP l.length S).1 = k ∧ k < l.length ∧ (l.map (AV.int .i64))[k]? = some (.int .i64 (pickP l S)) := by
  obtain ⟨h0, h1⟩ := nextP_in h hp (l.length : Int)
  unfold mxI at h1
  rw [if_pos (by omega)] at h1
  refine ⟨(nextP l.length S).1.toNat, by omega, by omega, ?_⟩
  have hk : (nextP l.length S).1.toNat < l.length := by omega
  unfold pickP
  rw [List.getElem?_map, List.getElem?_eq_getElem hk]
  rfl
theorem odd_ev {H : AH} {q : Nat} {v : AV} {S : Src} {bs : List Nat} (h : SrcI H q v S bs) (hp : S.pos + 3 ≤ 1099511627776) (m : Nat) (hm : 3 ≤ m) :
    ev Try.prog m 103 [.ptr q 0] H = some (.int .i64 (pickP oddL S), (H.push (.cells 3 false (oddL.map (.int .i64)))).set q (.cells 259 false (srcC v (nextP 6 S).2))) := by
  obtain ⟨m, rfl⟩ : ∃ k, m = k + 1 := ⟨m - 1, by omega⟩
  have hq := h.lt
  have hK : Kp H (H.push (.cells 3 false (oddL.map (.int .i64)))) := (Kp.refl H).push _
  have h' : SrcI (H.push (.cells 3 false (oddL.map (.int .i64)))) q v S bs := ⟨by rw [hK.get q hq]; exact h.get, by have := hK.next; omega, h.nin, h.row.kp hK, h.pos, h.mix, h.len⟩
  have e1 := next_ev h' hp (n := 6) (by omega) m (by omega)
  obtain ⟨k, p1, p2, p3⟩ := pick_get (l := oddL) h hp (by simp [oddL])
  have hk6 : (oddL.length : Int) = 6 := rfl
  rw [hk6] at p1
  have hk : k < 6 := by simpa [oddL] using p2
  have hk2 : (k : Int) < 6 := by omega
  have hnq : ¬ (H.next = q) := by omega
  rw [p1] at e1
  simp only [oddL, List.map_cons, List.map_nil] at e1 p3 ⊢
  rw [ev_eq Try.func103 ok103 m _ H (by simp [Try.f103])]
  simp [Try.f103, zerosA, e1, idxA, hk, hk2, ldVar, hnq]
  rw [List.getElem?_eq_getElem (by simpa using hk)] at p3
  exact Option.some.inj p3
end Go.Ev

/- The source: what stays, one draw, one of a row. -/
namespace Go.Ev
open Go Go.Proofs
set_option linter.unusedSimpArgs false
set_option linter.unusedVariables false

theorem SrcI.ko {H H' : AH} {q : Nat} {v : AV} {S : Src} {bs : List Nat} (h : SrcI H q v S bs) (hn : H.next ≤ H'.next) (hq : H'.get q = H.get q) (hb : ∀ b ∈ bs, H'.get b = H.get b) : SrcI H' q v S bs :=
  ⟨hq.trans h.get, by have := h.lt; omega, h.nin, h.row.stay hn hb, h.pos, h.mix, h.len⟩
theorem SrcI.push {H : AH} {q : Nat} {v : AV} {S : Src} {bs : List Nat} (h : SrcI H q v S bs) (x : Blk) : SrcI (H.push x) q v S bs :=
  have hK : Kp H (H.push x) := (Kp.refl H).push x
  h.ko hK.next (hK.get q h.lt) fun b hb => hK.get b (h.row.mem b hb)
theorem SrcI.set_ne {H : AH} {q p : Nat} {v : AV} {S : Src} {bs : List Nat} (h : SrcI H q v S bs) (x : Blk) (hp : p ≠ q) (hb : p ∉ bs) : SrcI (H.set p x) q v S bs :=
  h.ko (Nat.le_refl _) (AH.set_getN _ _ (Ne.symm hp)) fun b hb' => AH.set_getN _ _ (fun e => hb (by rw [← e]; exact hb'))
theorem SrcI.resv {H : AH} {q : Nat} {v : AV} {S : Src} {bs : List Nat} (h : SrcI H q v S bs) (n : Nat) : SrcI (H.res n) q v S bs :=
  h.ko (by simp) (by simp; intro h1 h2; have := h.lt; omega) fun b hb => by simp; intro h1 h2; have := h.row.mem b hb; omega
theorem nextP_p {n : Int} {S : Src} {k : Nat} (h : S.pos ≤ k) : (nextP n S).2.pos ≤ k + 3 := by have := (nextP_pos (n := n) (S := S)).1; omega

/-- the i-th of a row -/
def lkP (l : List Int) (i : Int) : Int := (l[i.toNat]?).getD 0
theorem lk_get {l : List Int} {k : Nat} (h : k < l.length) : (l.map (AV.int .i64))[k]? = some (.int .i64 (lkP l k)) := by
  unfold lkP; rw [List.getElem?_map, Int.toNat_natCast, List.getElem?_eq_getElem h]; rfl
/-- a draw -/
theorem draw {h : AH} {q : Nat} {v : AV} {S : Src} {bs : List Nat} {K : Nat} (h0 : SrcI h q v S bs) (hp : S.pos ≤ K) (hK : K ≤ 1000000) (n : Int) (hn1 : 1 ≤ n) (hn : n ≤ 1099511627776) (m : Nat) (hm : 2 ≤ m) :
    ∃ (k : Nat) (S' : Src), nextP n S = ((k : Int), S') ∧ (k : Int) < n ∧ S'.pos ≤ K + 3 ∧ ev Try.prog m 100 [.ptr q 0, .int .i64 n] h = some (.int .i64 k, h.set q (.cells 259 false (srcC v S'))) ∧
      SrcI (h.set q (.cells 259 false (srcC v S'))) q v S' bs := by
  have e1 := next_ev h0 (n := n) (by omega) (by omega) m (by omega)
  have h1 := h0.next (by omega) n
  have p1 := nextP_p (n := n) hp
  have i1 := nextP_in h0 (by omega) n
  generalize nextP n S = r at *
  obtain ⟨a, S'⟩ := r
  simp only at *
  obtain ⟨k, rfl⟩ : ∃ k : Nat, a = k := ⟨a.toNat, by omega⟩
  unfold mxI at i1
  exact ⟨k, S', rfl, by split at i1 <;> omega, p1, e1, h1⟩
end Go.Ev

/- The source: a number of any size. -/
namespace Go.Ev
open Go Go.Proofs
set_option linter.unusedSimpArgs false
set_option linter.unusedVariables false

def numL : List Int := [0, 63, 64, 16383, 16384, 1073741823, 1073741824, 4611686018427387903, 4611686018427387902]
def farL : List Int := [-1, 4611686018427387904, 9223372036854775807, -9223372036854775808]
def numP (S : Src) : Int × Src :=
  let k := nextP 12 S
  if k.1 = 0 then (lkP numL (nextP 9 k.2).1, (nextP 9 k.2).2)
  else if k.1 = 1 then ((nextP 16777216 k.2).1 * 65536 + (nextP 65536 (nextP 16777216 k.2).2).1, (nextP 65536 (nextP 16777216 k.2).2).2)
  else if k.1 = 2 then (lkP farL (nextP 4 k.2).1, (nextP 4 k.2).2)
  else if k.1 = 3 ∨ k.1 = 4 then nextP 20000 k.2
  else nextP 100 k.2
theorem koS_set {h : AH} {q : Nat} (x : Blk) : KoS [q] h (h.set q x) :=
  ⟨by simp, fun b hb hn => AH.set_getN _ _ (by simpa using hn)⟩
theorem koS_qpq {h : AH} {q : Nat} (x y z : Blk) : KoS [q] h (((h.set q x).push y).set q z) :=
  ⟨by simp, fun b hb hn => by
    have hbq : b ≠ q := by simpa using hn
    rw [AH.set_getN _ _ hbq, AH.push_get, if_neg (by simp; omega), AH.set_getN _ _ hbq]⟩
theorem inK64 {n : Int} (h1 : -9223372036854775808 ≤ n) (h2 : n ≤ 9223372036854775807) : InK .i64 n := ⟨h1, h2⟩
theorem inK_in {n : Int} (h : InK .i64 n) : -9223372036854775808 ≤ n ∧ n ≤ 9223372036854775807 := ⟨h.1, h.2⟩
theorem lkP_in {l : List Int} (h : ∀ x ∈ l, InK .i64 x) (i : Int) : InK .i64 (lkP l i) := by
  unfold lkP
  cases e : l[i.toNat]? with
  | none => exact inK64 (by simp) (by simp)
  | some x => exact h x (List.mem_of_getElem? e)
theorem drawNum_ev {h : AH} {q : Nat} {v : AV} {S : Src} {bs : List Nat} {K : Nat} (h0 : SrcI h q v S bs) (hp : S.pos ≤ K) (hK : K ≤ 900000) (m : Nat) (hm : 4 ≤ m) :
    ∃ (n : Int) (S' : Src) (H' : AH), numP S = (n, S') ∧ InK .i64 n ∧ S'.pos ≤ K + 9 ∧ ev Try.prog m 121 [.ptr q 0] h = some (.int .i64 n, H') ∧ SrcI H' q v S' bs ∧ KoS [q] h H' := by
  obtain ⟨m, rfl⟩ : ∃ k, m = k + 1 := ⟨m - 1, by omega⟩
  have hq := h0.lt
  obtain ⟨k, S1, d1, a1, p1, e1, h1⟩ := draw h0 hp (by omega) 12 (by omega) (by omega) m (by omega)
  rw [ev_eq Try.func121 ok121 m _ h (by simp [Try.f121])]
  unfold numP
  simp only [d1]
  by_cases c0 : k = 0
  · subst c0
    obtain ⟨j, S2, d2, a2, p2, e2, h2⟩ := draw (h1.push (.cells 3 false (numL.map (.int .i64)))) p1 (by omega) 9 (by omega) (by omega) m (by omega)
    have g := lk_get (l := numL) (k := j) (by simp [numL]; omega)
    have b1 : InK .i64 (lkP numL j) := lkP_in (fun x hx => by simp only [numL, List.mem_cons, List.not_mem_nil, or_false] at hx; apply inK64 <;> omega) _
    simp only [numL, List.map_cons, List.map_nil] at e2 h2 g
    have hn1 : ¬ (h.next = q) := by omega
    refine ⟨lkP numL j, S2, _, by simp [d2], b1, by omega, ?_, h2, koS_qpq _ _ _⟩
    simp (disch := omega) [Try.f121, e1, e2, zerosA, idxA, ldVar, hn1, g, numL, a2]
  by_cases c1 : k = 1
  · subst c1
    obtain ⟨i, S2, d2, a2, p2, e2, h2⟩ := draw h1 p1 (by omega) 16777216 (by omega) (by omega) m (by omega)
    rw [set_set] at e2 h2
    obtain ⟨j, S3, d3, a3, p3, e3, h3⟩ := draw h2 p2 (by omega) 65536 (by omega) (by omega) m (by omega)
    rw [set_set] at e3 h3
    have w1 := wrap_i64 (n := (i : Int) * 65536) (by omega) (by omega)
    have w2 := wrap_i64 (n := (i : Int) * 65536 + j) (by omega) (by omega)
    refine ⟨(i : Int) * 65536 + j, S3, _, by simp [d2, d3], inK64 (by omega) (by omega), by omega, ?_, h3, koS_set _⟩
    simp [Try.f121, e1, e2, e3, w1, w2]
  by_cases c2 : k = 2
  · subst c2
    obtain ⟨j, S2, d2, a2, p2, e2, h2⟩ := draw (h1.push (.cells 3 false (farL.map (.int .i64)))) p1 (by omega) 4 (by omega) (by omega) m (by omega)
    have g := lk_get (l := farL) (k := j) (by simp [farL]; omega)
    have b1 : InK .i64 (lkP farL j) := lkP_in (fun x hx => by simp only [farL, List.mem_cons, List.not_mem_nil, or_false] at hx; apply inK64 <;> omega) _
    simp only [farL, List.map_cons, List.map_nil] at e2 h2 g
    have hn1 : ¬ (h.next = q) := by omega
    refine ⟨lkP farL j, S2, _, by simp [d2], b1, by omega, ?_, h2, koS_qpq _ _ _⟩
    simp (disch := omega) [Try.f121, e1, e2, zerosA, idxA, ldVar, hn1, g, farL, a2]
  have k0 : ¬ ((k : Int) = 0) := by omega
  have k1 : ¬ ((k : Int) = 1) := by omega
  have k2 : ¬ ((k : Int) = 2) := by omega
  by_cases c3 : k = 3 ∨ k = 4
  · obtain ⟨j, S2, d2, a2, p2, e2, h2⟩ := draw h1 p1 (by omega) 20000 (by omega) (by omega) m (by omega)
    rw [set_set] at e2 h2
    refine ⟨j, S2, _, ?_, inK64 (by omega) (by omega), by omega, ?_, h2, koS_set _⟩
    · rw [if_neg k0, if_neg k1, if_neg k2, if_pos (by omega), d2]
    · rcases c3 with rfl | rfl <;> simp [Try.f121, e1, e2]
  · have k3 : ¬ ((k : Int) = 3) := by omega
    have k4 : ¬ ((k : Int) = 4) := by omega
    have k03 : ¬ (k = 3) := by omega
    have k04 : ¬ (k = 4) := by omega
    obtain ⟨j, S2, d2, a2, p2, e2, h2⟩ := draw h1 p1 (by omega) 100 (by omega) (by omega) m (by omega)
    rw [set_set] at e2 h2
    refine ⟨j, S2, _, ?_, inK64 (by omega) (by omega), by omega, ?_, h2, koS_set _⟩
    · rw [if_neg k0, if_neg k1, if_neg k2, if_neg (by omega), d2]
    · simp [Try.f121, e1, e2, k0, k1, k2, k3, k4, c0, c1, c2, k03, k04, beqF k0, beqF k1, beqF k2, beqF k3, beqF k4]
end Go.Ev

/- A source whose drawn things are not looked at: what is drawn, and what stays. -/
namespace Go.Ev
open Go Go.Proofs
set_option linter.unusedSimpArgs false
set_option linter.unusedVariables false

def SX (h : AH) (q : Nat) (v : AV) (bs : List Nat) (K : Nat) : Prop := ∃ S, SrcI h q v S bs ∧ S.pos ≤ K
section
variable {h h' : AH} {q : Nat} {v : AV} {bs : List Nat} {K : Nat}
theorem SX.lt (X : SX h q v bs K) : q < h.next := X.choose_spec.1.lt
theorem SX.nin (X : SX h q v bs K) : q ∉ bs := X.choose_spec.1.nin
theorem SX.mem (X : SX h q v bs K) : ∀ b ∈ bs, b < h.next := fun b hb => X.choose_spec.1.row.mem b hb
theorem SX.ko (X : SX h q v bs K) (hn : h.next ≤ h'.next) (hq : h'.get q = h.get q) (hb : ∀ b ∈ bs, h'.get b = h.get b) : SX h' q v bs K := by
  obtain ⟨S, s1, s2⟩ := X; exact ⟨S, s1.ko hn hq hb, s2⟩
theorem SX.kp (X : SX h q v bs K) (k : Kp h h') : SX h' q v bs K := X.ko k.next (k.get q X.lt) fun b hb => k.get b (X.mem b hb)
theorem SX.koS {cs : List Nat} (X : SX h q v bs K) (k : KoS cs h h') (hq : q ∉ cs) (hb : ∀ b ∈ bs, b ∉ cs) : SX h' q v bs K := X.ko k.next (k.get q X.lt hq) fun b hb' => k.get b (X.mem b hb') (hb b hb')
theorem SX.push (X : SX h q v bs K) (x : Blk) : SX (h.push x) q v bs K := X.kp ((Kp.refl h).push x)
theorem SX.set_ne {p : Nat} (X : SX h q v bs K) (x : Blk) (hp : p ≠ q) (hb : p ∉ bs) : SX (h.set p x) q v bs K := by
  obtain ⟨S, s1, s2⟩ := X; exact ⟨S, s1.set_ne x hp hb, s2⟩
theorem SX.resv (X : SX h q v bs K) (n : Nat) : SX (h.res n) q v bs K := by
  obtain ⟨S, s1, s2⟩ := X; exact ⟨S, s1.resv n, s2⟩
theorem SX.mono {K' : Nat} (X : SX h q v bs K) (hk : K ≤ K') : SX h q v bs K' := by
  obtain ⟨S, s1, s2⟩ := X; exact ⟨S, s1, Nat.le_trans s2 hk⟩
theorem SX.next (X : SX h q v bs K) (hK : K ≤ 1000000) (n : Int) (hn1 : 1 ≤ n) (hn : n ≤ 1099511627776) (m : Nat) (hm : 2 ≤ m) :
    ∃ (k : Nat) (h' : AH), ev Try.prog m 100 [.ptr q 0, .int .i64 n] h = some (.int .i64 k, h') ∧ (k : Int) < n ∧ SX h' q v bs (K + 3) ∧ KoS [q] h h' ∧ h'.next = h.next := by
  obtain ⟨S, s1, s2⟩ := X
  obtain ⟨k, S', d, a, p, e, i⟩ := draw s1 s2 hK n hn1 hn m hm
  exact ⟨k, _, e, a, ⟨S', i, p⟩, koS_set _, by simp⟩
theorem SX.byte (X : SX h q v bs K) (hK : K ≤ 1000000) (m : Nat) (hm : 1 ≤ m) :
    ∃ (k : Int) (h' : AH), ev Try.prog m 198 [.ptr q 0] h = some (.int .i64 k, h') ∧ 0 ≤ k ∧ k ≤ 255 ∧ SX h' q v bs (K + 1) ∧ KoS [q] h h' ∧ h'.next = h.next := by
  obtain ⟨S, s1, s2⟩ := X
  have e := byte_ev s1 (by omega) m hm
  obtain ⟨a1, a2, a3, a4, a5, a6⟩ := byteP_in s1
  exact ⟨_, _, e, a1, a2, ⟨_, s1.byte (by omega), by omega⟩, koS_set _, by simp⟩
theorem SX.chance (X : SX h q v bs K) (hK : K ≤ 1000000) (n : Int) (hn1 : 0 ≤ n) (hn : n ≤ 1099511627776) (m : Nat) (hm : 3 ≤ m) :
    ∃ (b : Bool) (h' : AH), ev Try.prog m 101 [.ptr q 0, .int .i64 n] h = some (.bool b, h') ∧ SX h' q v bs (K + 3) ∧ KoS [q] h h' ∧ h'.next = h.next := by
  obtain ⟨S, s1, s2⟩ := X
  have e := chance_ev s1 (by omega) hn1 hn m hm
  exact ⟨_, _, e, ⟨_, s1.next (by omega) n, nextP_p s2⟩, koS_set _, by simp⟩
theorem SX.size (X : SX h q v bs K) (n : Int) (hn : 1 ≤ n) (m : Nat) (hm : 1 ≤ m) :
    ∃ k : Int, ev Try.prog m 102 [.ptr q 0, .int .i64 n] h = some (.int .i64 k, h) ∧ 1 ≤ k ∧ k ≤ n := by
  obtain ⟨S, s1, s2⟩ := X
  refine ⟨_, size_ev s1 n m hm, ?_⟩
  have := s1.len
  unfold sizeP miI; split <;> omega
theorem SX.number (X : SX h q v bs K) (hK : K ≤ 900000) (m : Nat) (hm : 4 ≤ m) :
    ∃ (n : Int) (h' : AH), ev Try.prog m 121 [.ptr q 0] h = some (.int .i64 n, h') ∧ InK .i64 n ∧ SX h' q v bs (K + 9) ∧ KoS [q] h h' := by
  obtain ⟨S, s1, s2⟩ := X
  obtain ⟨n, S', H', d, i, p, e, s, k⟩ := drawNum_ev s1 s2 hK m hm
  exact ⟨n, H', e, i, ⟨S', s, p⟩, k⟩
end
theorem koS1 {q : Nat} {A B C : AH} (h : KoS [q] A B) (k : KoS [q] B C) : KoS [q] A C := h.trans k fun b hb => .inl hb
theorem Kp.koS1 {q : Nat} {A B : AH} (h : Kp A B) : KoS [q] A B := h.koS _
/-! drawn bytes -/
def BxI (q : Nat) (v : AV) (bs : List Nat) (K N : Nat) (n1 : Int) (H : AH) (d : Nat) (τ : Tm) (h : AH) : Prop :=
  ∃ (k : Nat) (l : List Int) (r : AV) (b : Nat), k + d = N ∧ τ 0 = .ptr q 0 ∧ τ 1 = .int .i64 n1 ∧ τ 5 = r ∧ τ 6 = .int .i64 k ∧ l.length = k ∧ By l ∧ BO h r l b ∧ H.next ≤ b ∧ SX h q v bs (K + k) ∧ KoS [q] H h
set_option maxRecDepth 20000 in
theorem SX.bytes {h : AH} {q : Nat} {v : AV} {bs : List Nat} {K : Nat} (X : SX h q v bs K) (hK : K ≤ 900000) (n : Int) (hn : n ≤ 20000) (m : Nat) (hm : 20010 ≤ m) :
    ∃ (l : List Int) (r : AV) (h' : AH) (b : Nat), ev Try.prog m 155 [.ptr q 0, .int .i64 n] h = some (r, h') ∧ l.length = n.toNat ∧ By l ∧ BO h' r l b ∧ h.next ≤ b ∧ SX h' q v bs (K + n.toNat) ∧ KoS [q] h h' := by
  obtain ⟨m, rfl⟩ : ∃ k, m = k + 1 := ⟨m - 1, by omega⟩
  have hq := X.lt
  obtain ⟨Z, hZ⟩ : ∃ Z : AH, Z = h.push (.cells 5 false []) := ⟨_, rfl⟩
  have kZ : Kp h Z := by rw [hZ]; exact (Kp.refl h).push _
  have nZ : Z.next = h.next + 1 := by rw [hZ]; simp
  have bZ : BO Z (.slice h.next 0 0) [] h.next := ⟨rfl, by omega, by rw [hZ]; simp [u8L]⟩
  have hZ' := hZ.symm
  rw [ev_M Try.func155 ok155 [] m _ h (by simp [Try.f155])]
  simp [Try.f155, U, tm0, hZ', zerosA, fillA]
  generalize hLo : evLoop _ _ _ _ _ _ = R
  obtain ⟨e, τ', H', rfl, rfl, g⟩ := loop_at hLo (loop_rule (d := n.toNat) (BxI q v bs K n.toNat n h) (fun e τ h' => e = .exit 0 ∧ BxI q v bs K n.toNat n h 0 τ h') (by
    rintro d τ hh ⟨k, l, r, b, hk, t0, t1, t5, t6, hlen, hby, B, hb, Y, KY⟩
    rw [lp_M Try.func155 58 (by decide) 6 (by decide) (by kernel_rfl) []]
    by_cases hd0 : d = 0
    · subst hd0
      have hkl : ((k : Int) < n) = False := eq_false (by omega)
      simp [Try.f155, U, t1, t6, hkl]
      exact ⟨k, l, r, b, hk, by simp [t0], by simp [t1], by simp [t5], by simp [t6], hlen, hby, B, hb, Y, KY⟩
    · have hkl : ((k : Int) < n) = True := eq_true (by omega)
      obtain ⟨x, h1, e1, x0, x1, Y1, K1, N1⟩ := Y.byte (by omega) m (by omega)
      have w8 : IntKind.u8.wrap x = x := by rw [IntKind.wrap_u8]; omega
      have cx : ∀ h', convA Try.prog 3 5 (.int .i64 x) h' = some (.int .u8 x, h') := fun h' => (conv_int (ds := .int .i64) (k := .u8) (by simp) (by simp)).trans (by rw [w8])
      have hbq : b ≠ q := by omega
      have B1 : BO h1 r l b := ⟨B.1, by have := B.2.1; omega, by rw [K1.get b B.2.1 (by simpa using hbq)]; exact B.2.2⟩
      obtain ⟨v', X', b', q1, q2, q3, q4⟩ := B1.app1 (x := x) (by omega)
      have w1 : IntKind.i64.wrap ((k : Int) + 1) = (k : Int) + 1 := wrap_i64 (by omega) (by omega)
      obtain ⟨P1, hP⟩ : ∃ P : AH, P = h1.push (.cells 5 false [.int .u8 x]) := ⟨_, rfl⟩
      rw [← hP] at q1
      have hP' := hP.symm
      simp [Try.f155, U, t0, t1, t5, t6, hkl, e1, cx, zerosA, fillA, spl, hP', q1, w1]
      have hbs := Y.mem
      have hlb := Y1.mem
      refine ⟨d - 1, by omega, k + 1, l ++ [x], v', b', by omega, by simp [t0], by simp [t1], by simp, by simp, by simp [hlen], ?_, q2, by have := KY.next; omega, ?_, ?_⟩
      · intro y hy
        rcases List.mem_append.1 hy with hy | hy
        · exact hby y hy
        · simp at hy; subst hy; omega
      · have hbb : ∀ y ∈ bs, y ≠ b := fun y hy e => by have := X.mem y hy; omega
        exact (Y1.koS q3 (by simp; omega) fun y hy => by simpa using hbb y hy).mono (by omega)
      · exact (koS1 KY K1).trans q3 fun y hy => by simp at hy; subst hy; exact .inr hb) ⟨0, [], .slice h.next 0 0, h.next, by omega, by simp, by simp, by simp, by simp, rfl, by simp [By], bZ, Nat.le_refl _, (X.kp kZ).mono (by omega), kZ.koS1⟩ (by omega))
  obtain ⟨k, l, r, b, hk, t0, t1, t5, t6, hlen, hby, B, hb, Y, KY⟩ := g
  have hk' : k = n.toNat := by omega
  subst hk'
  exact ⟨l, r, H', by simp [t5], hlen, hby, b, B, hb, Y, KY⟩
end Go.Ev

/- Drawn numbers that fit, drawn ranges. -/
namespace Go.Ev
open Go Go.Proofs
set_option linter.unusedSimpArgs false
set_option linter.unusedVariables false

theorem SX.good {h : AH} {q : Nat} {v : AV} {bs : List Nat} {K : Nat} (X : SX h q v bs K) (hK : K ≤ 900000) (m : Nat) (hm : 6 ≤ m) :
    ∃ (n : Int) (h' : AH), ev Try.prog m 222 [.ptr q 0] h = some (.int .i64 n, h') ∧ inN n ∧ SX h' q v bs (K + 12) ∧ KoS [q] h h' := by
  obtain ⟨m, rfl⟩ : ∃ k, m = k + 1 := ⟨m - 1, by omega⟩
  obtain ⟨n, h1, e1, i1, X1, k1⟩ := X.number hK m (by omega)
  have hi := inK_in i1
  rw [ev_M Try.func222 ok222 [] m _ h (by simp [Try.f222])]
  by_cases c1 : n < 0
  · obtain ⟨k, h2, e2, a2, X2, k2, _⟩ := X1.next (by omega) 50 (by omega) (by omega) m (by omega)
    exact ⟨k, h2, by simp [Try.f222, U, tm0, e1, c1, e2], ⟨by omega, by omega⟩, X2.mono (by omega), koS1 k1 k2⟩
  · by_cases c2 : 4611686018427387903 < n
    · obtain ⟨k, h2, e2, a2, X2, k2, _⟩ := X1.next (by omega) 50 (by omega) (by omega) m (by omega)
      exact ⟨k, h2, by simp [Try.f222, U, tm0, e1, c1, c2, e2], ⟨by omega, by omega⟩, X2.mono (by omega), koS1 k1 k2⟩
    · exact ⟨n, h1, by simp [Try.f222, U, tm0, e1, c1, c2], ⟨by omega, by omega⟩, X1.mono (by omega), k1⟩
/-- one bound of a range is written -/
theorem stRg {H : AH} {v : AV} {l : List (Int × Int)} {bs : List Nat} (h : (Ty.sl 94 tT94).R true H [v] l bs) (hnd : bs.Nodup) {k : Nat} (hk : k < l.length) {x : Int} (ix : InK .i64 x) :
    ∃ b o H1 H2, idxA Try.prog 70 v (.int .i64 k) = some (.ptr b o) ∧ b ∈ bs ∧ stVar Try.prog 3 b o (.int .i64 x) H = some H1 ∧ stVar Try.prog 3 b (o + 1) (.int .i64 x) H = some H2 ∧
      (Ty.sl 94 tT94).R true H1 [v] (l.set k (x, l[k].2)) bs ∧ KoL bs H H1 ∧ (Ty.sl 94 tT94).R true H2 [v] (l.set k (l[k].1, x)) bs ∧ KoL bs H H2 := by
  obtain ⟨b, o, x1, c, x2, bk, u1, u2, u3, u4, u5, u6, u7, u8, u9, u10⟩ := Ty.R.upd h hnd (P := Try.prog) (T := 70) (by simp) (by simp [Ty.n]) hk
  obtain ⟨A, B⟩ : ∃ p : Int × Int, p = l[k] := ⟨_, rfl⟩
  rcases hx : l[k] with ⟨X, Y⟩
  rw [hx] at u5
  obtain ⟨rfl, rfl, i1, i2⟩ := o94 u5
  have s1 : stVar Try.prog 3 b o (.int .i64 x) H = some (H.set b (.cells 94 false (x1 ++ [.int .i64 x, .int .i64 Y] ++ x2))) := stf0 u3 u4 (by simp) rfl (by simp) rfl
  have s2 : stVar Try.prog 3 b (o + 1) (.int .i64 x) H = some (H.set b (.cells 94 false (x1 ++ [.int .i64 X, .int .i64 x] ++ x2))) := stf u3 u4 (by simp) rfl (by simp) rfl
  refine ⟨b, o, _, _, u1, u7, s1, s2, ?_, (KoL.refl _ _).set u7 _, ?_, (KoL.refl _ _).set u7 _⟩
  · exact u10 _ _ _ (by simp) (fun y hy h1 h2 => AH.set_getN _ _ h1) (AH.set_getS _ _ _) (i94 ix i2)
  · exact u10 _ _ _ (by simp) (fun y hy h1 h2 => AH.set_getN _ _ h1) (AH.set_getS _ _ _) (i94 i1 ix)
structure RxS (τ : Tm) (q : Nat) (at_ i : Int) (r : AV) : Prop where
  t0 : τ 0 = .ptr q 0
  t3 : τ 3 = r
  t4 : τ 4 = .int .i64 at_
  t5 : τ 5 = .int .i64 i
def RxI (q : Nat) (v : AV) (bs : List Nat) (K N : Nat) (H : AH) (d : Nat) (τ : Tm) (h : AH) : Prop :=
  ∃ (k : Nat) (at_ : Int) (r : AV) (l : List (Int × Int)) (br : List Nat), k + d = N ∧ RxS τ q at_ ((d : Int) - 1) r ∧ 0 ≤ at_ ∧ at_ ≤ 30 + 200 * k ∧ l.length = k ∧ (Ty.sl 94 tT94).R true h [r] l br ∧ br.Nodup ∧ (∀ b ∈ br, H.next ≤ b) ∧ SX h q v bs (K + 9 * k) ∧ KoS [q] H h
set_option maxRecDepth 20000 in
theorem rxLoop {H h0 : AH} {q : Nat} {v : AV} {bs : List Nat} {K N : Nat} (hq : q < H.next) (hbs : ∀ b ∈ bs, b < H.next) (hN : N ≤ 100) (hK : K ≤ 900000) (m : Nat) (hm : 200 ≤ m) (τ : Tm) (hI : RxI q v bs K N H N τ h0) :
    ∃ e τ' H', evLoop Try.prog (ev Try.prog m) m (lp Try.prog 223 122) τ h0 = some (e, τ', H') ∧ e = .exit 0 ∧ RxI q v bs K N H 0 τ' H' := by
  refine loop_rule (d := N) (RxI q v bs K N H) (fun e τ' H' => e = .exit 0 ∧ RxI q v bs K N H 0 τ' H') ?_ hI (by omega)
  rintro d τ h ⟨k, a, r, l, br, hk, ⟨t0, t3, t4, t5⟩, a0, a1, hl, hR, hnd, hbr, X, KX⟩
  rw [lp_M Try.func223 122 (by decide) 7 (by decide) (by kernel_rfl) []]
  by_cases hd0 : d = 0
  · subst hd0
    have hkl : ((0:Int) ≤ ((0 : Nat) : Int) - 1) = False := eq_false (by omega)
    simp [Try.f223, U, t5]
    exact ⟨k, a, r, l, br, hk, ⟨by simp [t0], by simp [t3], by simp [t4], by simp [t5]⟩, a0, a1, hl, hR, hnd, hbr, X, KX⟩
  · obtain ⟨j, rfl⟩ : ∃ j, d = j + 1 := ⟨d - 1, by omega⟩
    have e1 : (((j + 1 : Nat) : Int) - 1) = j := by omega
    rw [e1] at t5
    have hkl : ((0:Int) ≤ (j : Int)) = True := eq_true (by omega)
    have KXn := KX.next
    obtain ⟨x1, h1, f1, b1, X1, k1, n1⟩ := X.next (by omega) 6 (by omega) (by omega) m (by omega)
    have w1 : IntKind.i64.wrap (a + (x1 : Int)) = a + x1 := wrap_i64 (by omega) (by omega)
    obtain ⟨Z, hZ⟩ : ∃ Z : AH, Z = h1.push (.cells 94 false [.int .i64 a, .int .i64 (a + x1)]) := ⟨_, rfl⟩
    have kZ : Kp h1 Z := by rw [hZ]; exact (Kp.refl h1).push _
    have nZ : Z.next = h1.next + 1 := by rw [hZ]; simp
    have gZ : Z.get h1.next = some (.cells 94 false [.int .i64 a, .int .i64 (a + x1)]) := by rw [hZ]; simp
    have hZ' := hZ.symm
    have hR1 := (hR.koS k1 fun b hb => by have := hbr b hb; simp; omega).kp kZ
    obtain ⟨r2, Y, br2, f2, hR2, nd2, bb2, ks2⟩ := ap94 hR1 hnd (a := a) (b := a + x1) (InK.i64 (by omega) (by omega)) (InK.i64 (by omega) (by omega)) (by omega)
    obtain ⟨W, hW⟩ : ∃ W : AH, W = Z.push (.cells 94 false [.int .i64 a, .int .i64 (a + x1)]) := ⟨_, rfl⟩
    rw [← hW] at f2
    have hW' := hW.symm
    have nY := ks2.next
    have hbq : q ∉ br := fun e => by have := hbr q e; omega
    have hbb : ∀ b ∈ bs, b ∉ br := fun b hb e => by have := hbr b e; have := hbs b hb; omega
    have XY : SX Y q v bs (K + 9 * k + 3) := (X1.kp kZ).koS ks2 hbq hbb
    have lbr : ∀ b ∈ br, b < h.next := fun b hb => hR.mem b hb
    have gY : Y.get h1.next = some (.cells 94 false [.int .i64 a, .int .i64 (a + x1)]) := by
      rw [ks2.get _ (by omega) (fun e => by have := lbr _ e; omega)]; exact gZ
    obtain ⟨x3, h3, f3, b3, X3, k3, n3⟩ := XY.next (by omega) 5 (by omega) (by omega) m (by omega)
    obtain ⟨x4, h4, f4, b4, X4, k4, n4⟩ := X3.next (by omega) 40 (by omega) (by omega) m (by omega)
    have gY3 : h3.get h1.next = some (.cells 94 false [.int .i64 a, .int .i64 (a + x1)]) := by rw [k3.get _ (by omega) (by simp; omega)]; exact gY
    have gY4 : h4.get h1.next = some (.cells 94 false [.int .i64 a, .int .i64 (a + x1)]) := by rw [k4.get _ (by omega) (by simp; omega)]; exact gY3
    have lZ : ldVar Try.prog 94 h1.next 0 Z = some (.agg [.int .i64 a, .int .i64 (a + x1)]) := by simp [ldVar, gZ]
    have lY : ldVar Try.prog 3 h1.next 1 Y = some (.int .i64 (a + x1)) := by simp [ldVar, gY]
    have lY3 : ldVar Try.prog 3 h1.next 1 h3 = some (.int .i64 (a + x1)) := by simp [ldVar, gY3]
    have lY4 : ldVar Try.prog 3 h1.next 1 h4 = some (.int .i64 (a + x1)) := by simp [ldVar, gY4]
    have hx34 : 0 ≤ (x3 : Int) * x4 ∧ (x3 : Int) * x4 ≤ 4 * 39 := ⟨Int.mul_nonneg (by omega) (by omega), Int.le_trans (Int.mul_le_mul_of_nonneg_right (by omega : (x3 : Int) ≤ 4) (by omega)) (Int.mul_le_mul_of_nonneg_left (by omega) (by omega))⟩
    generalize hP : (x3 : Int) * x4 = P at *
    have w2 : IntKind.i64.wrap (a + x1 + 2) = a + x1 + 2 := wrap_i64 (by omega) (by omega)
    have w3 : IntKind.i64.wrap P = P := wrap_i64 (by omega) (by omega)
    have w4 : IntKind.i64.wrap (a + x1 + 2 + P) = a + x1 + 2 + P := wrap_i64 (by omega) (by omega)
    have w5 : IntKind.i64.wrap ((j : Int) - 1) = (j : Int) - 1 := wrap_i64 (by omega) (by omega)
    have st0 : ∀ c : List AV, c.length = 2 → stVar Try.prog 94 h1.next 0 (.agg [.int .i64 a, .int .i64 (a + x1)]) (h1.push (.cells 94 false [.int .i64 0, .int .i64 0])) = some Z := by
      intro c _; rw [hZ]; simp [stVar, spl, push_set]
    simp [Try.f223, U, t0, t3, t4, t5, f1, w1, hZ', st0 [.nilPtr, .nilPtr] rfl, lZ, hW', f2, f3, f4, lY, lY3, lY4, hP, w2, w3, w4, w5, fillA, zerosA, spl, evHist, ObsOk, ObOk, List.getElem?_cons_zero]
    have hq2 : ∀ b ∈ br2, H.next ≤ b ∧ b ≠ q := fun b hb => by
      rcases bb2 b hb with h' | h'
      · have := hbr b h'; exact ⟨this, by omega⟩
      · exact ⟨by omega, by omega⟩
    refine ⟨j, by omega, k + 1, a + x1 + 2 + P, r2, l ++ [(a, a + x1)], br2, by omega, ⟨by simp [t0], by simp, by simp, by simp⟩, by omega, by push_cast; omega, by simp [hl], (hR2.koS k3 fun b hb => by simpa using (hq2 b hb).2).koS k4 fun b hb => by simpa using (hq2 b hb).2, nd2, fun b hb => (hq2 b hb).1, X4.mono (by omega), ?_⟩
    exact koS1 (koS1 (((koS1 KX k1).trans kZ.koS1 fun b hb => .inl hb).trans ks2 fun b hb => .inr (hbr b hb)) k3) k4
set_option maxRecDepth 20000 in
theorem SX.ranges {h : AH} {q : Nat} {v : AV} {bs : List Nat} {K : Nat} (X : SX h q v bs K) (hK : K ≤ 800000) (m : Nat) (hm : 210 ≤ m) :
    ∃ (l : List (Int × Int)) (r : AV) (h' : AH) (br : List Nat), ev Try.prog m 223 [.ptr q 0] h = some (r, h') ∧ l.length ≤ 20 ∧ (Ty.sl 94 tT94).R true h' [r] l br ∧ br.Nodup ∧ (∀ b ∈ br, h.next ≤ b) ∧ SX h' q v bs (K + 200) ∧ KoS [q] h h' := by
  obtain ⟨m, rfl⟩ : ∃ k, m = k + 1 := ⟨m - 1, by omega⟩
  obtain ⟨Z, hZ⟩ : ∃ Z : AH, Z = h.push (.cells 94 false []) := ⟨_, rfl⟩
  have kZ : Kp h Z := by rw [hZ]; exact (Kp.refl h).push _
  have nZ : Z.next = h.next + 1 := by rw [hZ]; simp
  have gZ : Z.get h.next = some (.cells 94 false []) := by rw [hZ]; simp
  have hZ' := hZ.symm
  have hq := X.lt
  have hbs := X.mem
  obtain ⟨x1, h1, f1, b1, X1, k1, n1⟩ := (X.kp kZ).next (by omega) 30 (by omega) (by omega) m (by omega)
  obtain ⟨sz, f2, s1, s2⟩ := X1.size 20 (by omega) m (by omega)
  obtain ⟨x3, h3, f3, b3, X3, k3, n3⟩ := X1.next (by omega) sz s1 (by omega) m (by omega)
  have R0 : (Ty.sl 94 tT94).R true h3 [.slice h.next 0 0] [] [h.next] :=
    empty94 (by omega) (by rw [k3.get _ (by omega) (by simp; omega), k1.get _ (by omega) (by simp; omega)]; exact gZ)
  have K0 : KoS [q] h h3 := koS1 (koS1 kZ.koS1 k1) k3
  rw [ev_M Try.func223 ok223 [31] m _ h (by simp [Try.f223])]
  simp [Try.f223, U, tm0, hZ', f1, f2, f3, zerosA, fillA]
  generalize hLo : evLoop _ _ _ _ _ _ = R
  obtain ⟨e, τ', H', rfl, rfl, k, a, r, l, br, hk, ⟨t0, t3, t4, t5⟩, a0, a1, hl, hR, hnd, hbr, Y, KY⟩ := loop_at hLo (rxLoop (H := h) (N := x3 + 1) (K := K + 6) (q := q) (v := v) (bs := bs) hq hbs (by omega) (by omega) m (by omega) _ ⟨0, x1, .slice h.next 0 0, [], [h.next], by omega, ⟨by simp, by simp, by simp, by simp⟩, by omega, by omega, rfl, R0, by simp, by simp, X3.mono (by omega), K0⟩)
  simp
  obtain ⟨c, h5, f5, X5, k5, n5⟩ := Y.chance (by omega) 12 (by omega) (by omega) m (by omega)
  have hqb : ∀ b ∈ br, b ≠ q := fun b hb => by have := hbr b hb; omega
  have hR5 := hR.koS k5 fun b hb => by simpa using hqb b hb
  have L5 := hR5.lenA (P := Try.prog) (T := 70) (by simp)
  have w1 : IntKind.i64.wrap ((l.length : Int) - 1) = ((l.length - 1 : Nat) : Int) := by rw [wrap_i64 (by omega) (by omega)]; omega
  rw [at_M Try.func223 31 (by decide) 5 (by decide) (by kernel_rfl) []]
  cases c with
  | false =>
    refine ⟨l, r, h5, by simp [Try.f223, U, t0, t3, f5], by omega, br, hR5, hnd, hbr, X5.mono (by omega), koS1 KY k5⟩
  | true =>
    obtain ⟨b, o, H1, H2, u1, u2, u3, u4, u5, u6, u7, u8⟩ := stRg hR5 hnd (k := l.length - 1) (by omega) (x := 4611686018427387903) (InK.i64 (by omega) (by omega))
    refine ⟨_, r, H2, by simp [Try.f223, U, t0, t3, f5, L5, w1, u1, u4], by simp; omega, br, u7, hnd, hbr, (X5.koS u8.koS (fun e => hqb q e rfl) fun b hb e => by have := hbr b e; have := hbs b hb; omega).mono (by omega), (koS1 KY k5).trans u8.koS fun b hb => .inr (hbr b hb)⟩
end Go.Ev

/- A drawn frame. -/
namespace Go.Ev
open Go Go.Proofs
set_option linter.unusedSimpArgs false
set_option linter.unusedVariables false

structure FrB (q : Nat) (v : AV) (bs : List Nat) (K : Nat) (H0 : AH) (p : Nat) (k a b c : Int) (fin : Bool) (d t r : AV) (D T : List Int) (rs : List (Int × Int)) (bD bT bR : List Nat) (h : AH) : Prop where
  g : h.get p = some (.cells 72 false (frC k a b c fin d t r))
  RD : (Ty.sl 5 (.int .u8)).R true h [d] D bD
  RT : (Ty.sl 5 (.int .u8)).R true h [t] T bT
  RR : (Ty.sl 94 tT94).R true h [r] rs bR
  nd : (bD ++ (bT ++ bR)).Nodup
  lo : ∀ x ∈ bD ++ (bT ++ bR), H0.next ≤ x
  pn : p ∉ bD ++ (bT ++ bR)
  ps : H0.next ≤ p ∧ p < h.next
  ik : InK .i64 k
  ia : InK .i64 a
  ib : InK .i64 b
  ic : InK .i64 c
  X : SX h q v bs K
  KK : KoS [q] H0 h
  qn : q < H0.next
  bn : ∀ x ∈ bs, x < H0.next
  lD : D.length ≤ 1600
  lT : T.length ≤ 20
  lR : rs.length ≤ 66
section
variable {q p K K' : Nat} {v : AV} {bs : List Nat} {H0 h h' : AH} {k a b c k' a' b' c' : Int} {fin fin' : Bool} {d t r d' t' r' : AV} {D T D' T' : List Int} {rs rs' : List (Int × Int)} {bD bT bR bD' bT' bR' : List Nat}
theorem FrB.go (F : FrB q v bs K H0 p k a b c fin d t r D T rs bD bT bR h) (X' : SX h' q v bs K') (ks : KoS [q] h h') : FrB q v bs K' H0 p k a b c fin d t r D T rs bD bT bR h' := by
  have hq := F.qn
  have hn : ∀ x ∈ bD ++ (bT ++ bR), x ∉ [q] := fun x hx => by have := F.lo x hx; simp; omega
  exact ⟨by rw [ks.get p F.ps.2 (by have := F.ps.1; simp; omega)]; exact F.g, F.RD.koS ks fun x hx => hn x (by simp [hx]), F.RT.koS ks fun x hx => hn x (by simp [hx]), F.RR.koS ks fun x hx => hn x (by simp [hx]), F.nd, F.lo, F.pn, ⟨F.ps.1, by have := F.ps.2; have := ks.next; omega⟩, F.ik, F.ia, F.ib, F.ic, X', koS1 F.KK ks, F.qn, F.bn, F.lD, F.lT, F.lR⟩
theorem FrB.st (F : FrB q v bs K H0 p k a b c fin d t r D T rs bD bT bR h) (ik : InK .i64 k') (ia : InK .i64 a') (ib : InK .i64 b') (ic : InK .i64 c') : FrB q v bs K H0 p k' a' b' c' fin' d t r D T rs bD bT bR (h.set p (.cells 72 false (frC k' a' b' c' fin' d t r))) := by
  have hn : ∀ x ∈ bD ++ (bT ++ bR), x ≠ p := fun x hx e => F.pn (by rw [← e]; exact hx)
  have hp := F.ps
  exact ⟨by simp, F.RD.stay (by simp) fun x hx => AH.set_getN _ _ (hn x (by simp [hx])), F.RT.stay (by simp) fun x hx => AH.set_getN _ _ (hn x (by simp [hx])), F.RR.stay (by simp) fun x hx => AH.set_getN _ _ (hn x (by simp [hx])), F.nd, F.lo, F.pn, by simpa using F.ps, ik, ia, ib, ic,
    F.X.set_ne _ (by have := F.qn; omega) (fun e => by have := F.bn p e; omega), ⟨by have := F.KK.next; simpa using this, fun x hx hxq => by rw [AH.set_getN _ _ (by omega)]; exact F.KK.get x hx hxq⟩, F.qn, F.bn, F.lD, F.lT, F.lR⟩
theorem FrB.stD (F : FrB q v bs K H0 p k a b c fin d t r D T rs bD bT bR h) {nb : Nat} (B : BO h d' D' nb) (hb : By D') (hnb : nb ∉ bT ++ bR ∧ nb ≠ p ∧ H0.next ≤ nb) (lD' : D'.length ≤ 1600) :
    FrB q v bs K H0 p k a b c fin d' t r D' T rs [nb] bT bR (h.set p (.cells 72 false (frC k a b c fin d' t r))) := by
  have hn : ∀ x ∈ bD ++ (bT ++ bR), x ≠ p := fun x hx e => F.pn (by rw [← e]; exact hx)
  have hp := F.ps
  have hnd := F.nd
  rw [List.nodup_append] at hnd
  exact ⟨by simp, (B.R hb).stay (by simp) fun x hx => AH.set_getN _ _ (by simp at hx; rw [hx]; exact hnb.2.1), F.RT.stay (by simp) fun x hx => AH.set_getN _ _ (hn x (by simp [hx])), F.RR.stay (by simp) fun x hx => AH.set_getN _ _ (hn x (by simp [hx])),
    by simp only [List.cons_append, List.nil_append, List.nodup_cons]; exact ⟨hnb.1, hnd.2.1⟩, fun x hx => by
      simp only [List.cons_append, List.nil_append, List.mem_cons] at hx
      rcases hx with rfl | hx
      · exact hnb.2.2
      · exact F.lo x (by simp only [List.mem_append] at hx ⊢; exact .inr hx),
    by simp only [List.cons_append, List.nil_append, List.mem_cons, not_or]; exact ⟨fun e => hnb.2.1 e.symm, fun e => F.pn (by simp only [List.mem_append] at e ⊢; exact .inr e)⟩, by simpa using F.ps, F.ik, F.ia, F.ib, F.ic,
    F.X.set_ne _ (by have := F.qn; omega) (fun e => by have := F.bn p e; omega), ⟨by have := F.KK.next; simpa using this, fun x hx hxq => by rw [AH.set_getN _ _ (by omega)]; exact F.KK.get x hx hxq⟩, F.qn, F.bn, lD', F.lT, F.lR⟩
theorem FrB.stT (F : FrB q v bs K H0 p k a b c fin d t r D T rs bD bT bR h) {nb : Nat} (B : BO h t' T' nb) (hb : By T') (hnb : nb ∉ bD ++ bR ∧ nb ≠ p ∧ H0.next ≤ nb) (lT' : T'.length ≤ 20) :
    FrB q v bs K H0 p k a b c fin d t' r D T' rs bD [nb] bR (h.set p (.cells 72 false (frC k a b c fin d t' r))) := by
  have hn : ∀ x ∈ bD ++ (bT ++ bR), x ≠ p := fun x hx e => F.pn (by rw [← e]; exact hx)
  have hp := F.ps
  have hnd := F.nd
  simp only [List.mem_append, not_or] at hnb
  exact ⟨by simp, F.RD.stay (by simp) fun x hx => AH.set_getN _ _ (hn x (by simp [hx])), (B.R hb).stay (by simp) fun x hx => AH.set_getN _ _ (by simp at hx; rw [hx]; exact hnb.2.1), F.RR.stay (by simp) fun x hx => AH.set_getN _ _ (hn x (by simp [hx])),
    by simp only [List.nodup_append, List.nodup_cons] at hnd ⊢; grind, fun x hx => by
      simp only [List.mem_append, List.mem_cons, List.not_mem_nil, or_false] at hx
      rcases hx with hx | rfl | hx
      · exact F.lo x (by simp [hx])
      · exact hnb.2.2
      · exact F.lo x (by simp [hx]),
    fun e => by
      simp only [List.mem_append, List.mem_cons, List.not_mem_nil, or_false] at e
      rcases e with e | e | e
      · exact F.pn (by simp [e])
      · exact hnb.2.1 e.symm
      · exact F.pn (by simp [e]), by simpa using F.ps, F.ik, F.ia, F.ib, F.ic,
    F.X.set_ne _ (by have := F.qn; omega) (fun e => by have := F.bn p e; omega), ⟨by have := F.KK.next; simpa using this, fun x hx hxq => by rw [AH.set_getN _ _ (by omega)]; exact F.KK.get x hx hxq⟩, F.qn, F.bn, F.lD, lT', F.lR⟩
theorem FrB.stR (F : FrB q v bs K H0 p k a b c fin d t r D T rs bD bT bR h) (B : (Ty.sl 94 tT94).R true h [r'] rs' bR') (hndR : bR'.Nodup) (hnb : ∀ x ∈ bR', x ∉ bD ++ bT ∧ x ≠ p ∧ H0.next ≤ x) (lR' : rs'.length ≤ 66) :
    FrB q v bs K H0 p k a b c fin d t r' D T rs' bD bT bR' (h.set p (.cells 72 false (frC k a b c fin d t r'))) := by
  have hn : ∀ x ∈ bD ++ (bT ++ bR), x ≠ p := fun x hx e => F.pn (by rw [← e]; exact hx)
  have hp := F.ps
  have hnd := F.nd
  simp only [List.mem_append, not_or] at hnb
  exact ⟨by simp, F.RD.stay (by simp) fun x hx => AH.set_getN _ _ (hn x (by simp [hx])), F.RT.stay (by simp) fun x hx => AH.set_getN _ _ (hn x (by simp [hx])), B.stay (by simp) fun x hx => AH.set_getN _ _ (hnb x hx).2.1,
    by simp only [List.nodup_append, List.mem_append] at hnd ⊢; grind, fun x hx => by
      simp only [List.mem_append] at hx
      rcases hx with hx | hx | hx
      · exact F.lo x (by simp [hx])
      · exact F.lo x (by simp [hx])
      · exact (hnb x hx).2.2,
    fun e => by
      simp only [List.mem_append] at e
      rcases e with e | e | e
      · exact F.pn (by simp [e])
      · exact F.pn (by simp [e])
      · exact (hnb _ e).2.1 rfl, by simpa using F.ps, F.ik, F.ia, F.ib, F.ic,
    F.X.set_ne _ (by have := F.qn; omega) (fun e => by have := F.bn p e; omega), ⟨by have := F.KK.next; simpa using this, fun x hx hxq => by rw [AH.set_getN _ _ (by omega)]; exact F.KK.get x hx hxq⟩, F.qn, F.bn, F.lD, F.lT, lR'⟩
theorem FrB.ty (F : FrB q v bs K H0 p k a b c fin d t r D T rs bD bT bR h) : tT72.R true h (frC k a b c fin d t r) (k, a, b, c, fin, D, T, rs) (bD ++ (bT ++ bR)) := i72 F.RD F.RT F.RR F.ik F.ia F.ib F.ic
/-- the fields read -/
theorem FrB.ld (F : FrB q v bs K H0 p k a b c fin d t r D T rs bD bT bR h) : ldVar Try.prog 3 p 0 h = some (.int .i64 k) ∧ ldVar Try.prog 3 p 1 h = some (.int .i64 a) ∧ ldVar Try.prog 3 p 2 h = some (.int .i64 b) ∧ ldVar Try.prog 3 p 3 h = some (.int .i64 c) ∧ ldVar Try.prog 4 p 4 h = some (.bool fin) ∧ ldVar Try.prog 34 p 5 h = some d ∧ ldVar Try.prog 34 p 6 h = some t ∧ ldVar Try.prog 70 p 7 h = some r ∧ ldVar Try.prog 72 p 0 h = some (.agg (frC k a b c fin d t r)) := by
  have g := F.g
  unfold frC at g
  refine ⟨?_, ?_, ?_, ?_, ?_, ?_, ?_, ?_, ?_⟩ <;> simp [ldVar, g, frC]
/-- the fields written -/
theorem FrB.sto (F : FrB q v bs K H0 p k a b c fin d t r D T rs bD bT bR h) : (∀ x, stVar Try.prog 3 p 0 (.int .i64 x) h = some (h.set p (.cells 72 false (frC x a b c fin d t r)))) ∧ (∀ x, stVar Try.prog 3 p 1 (.int .i64 x) h = some (h.set p (.cells 72 false (frC k x b c fin d t r)))) ∧ (∀ x, stVar Try.prog 3 p 2 (.int .i64 x) h = some (h.set p (.cells 72 false (frC k a x c fin d t r)))) ∧ (∀ x, stVar Try.prog 3 p 3 (.int .i64 x) h = some (h.set p (.cells 72 false (frC k a b x fin d t r)))) ∧ (∀ x, stVar Try.prog 4 p 4 (.bool x) h = some (h.set p (.cells 72 false (frC k a b c x d t r)))) ∧ (∀ x : AV, x.one = true → stVar Try.prog 34 p 5 x h = some (h.set p (.cells 72 false (frC k a b c fin x t r)))) ∧ (∀ x : AV, x.one = true → stVar Try.prog 34 p 6 x h = some (h.set p (.cells 72 false (frC k a b c fin d x r)))) ∧ (∀ x : AV, x.one = true → stVar Try.prog 70 p 7 x h = some (h.set p (.cells 72 false (frC k a b c fin d t x)))) := by
  have g := F.g
  unfold frC at g
  refine ⟨fun x => ?_, fun x => ?_, fun x => ?_, fun x => ?_, fun x => ?_, fun x hx => ?_, fun x hx => ?_, fun x hx => ?_⟩
  all_goals (try have hx1 := cells_one hx)
  all_goals simp [stVar, g, frC, spl]
  all_goals simp [hx1, hx, spl]
end
end Go.Ev

/- A drawn frame: the function's segments. -/
namespace Go.Ev
open Go Go.Proofs
set_option linter.unusedSimpArgs false
set_option linter.unusedVariables false

def z72 : List AV := frC 0 0 0 0 false .nilSlice .nilSlice .nilSlice
def usCells (ok : Bool) (u : Us) : List AV := [.bool ok, .bool u.a, .bool u.b, .bool u.c, .bool u.fin, .bool u.r, .int .i64 u.lo, .int .i64 u.hi, .int .i64 u.tok]
structure UsB (u : Us) : Prop where
  h1 : 0 ≤ u.lo
  h2 : u.lo ≤ u.hi
  h3 : u.hi ≤ 1500
  h4 : u.lo ≤ 8
  h5 : 0 ≤ u.tok
  h6 : u.tok ≤ 8
theorem usB (k : Int) : UsB ((usesL.lookup k).getD usN) := by
  have key : ∀ p ∈ usesL, 0 ≤ p.2.lo ∧ p.2.lo ≤ p.2.hi ∧ p.2.hi ≤ 1500 ∧ p.2.lo ≤ 8 ∧ 0 ≤ p.2.tok ∧ p.2.tok ≤ 8 := by decide
  cases hl : usesL.lookup k with
  | none => exact ⟨by decide, by decide, by decide, by decide, by decide, by decide⟩
  | some u =>
    obtain ⟨l1, l2, h1, h2⟩ := List.lookup_eq_some_iff.1 hl
    obtain ⟨a1, a2, a3, a4, a5, a6⟩ := key (k, u) (by rw [h1]; simp)
    exact ⟨a1, a2, a3, a4, a5, a6⟩
structure DfT (τ : Tm) (q p2 p pu : Nat) : Prop where
  t0 : τ 0 = .ptr q 0
  t2 : τ 2 = .ptr p2 0
  t3 : τ 3 = .ptr p 0
  t4 : τ 4 = .ptr pu 0
structure DfP (q : Nat) (H0 : AH) (p2 p pu : Nat) (ok : Bool) (u : Us) (h : AH) : Prop where
  gz : h.get p2 = some (.cells 72 false z72)
  gu : h.get pu = some (.cells 222 false (usCells ok u))
  n1 : p2 ≠ p
  n2 : pu ≠ p
  l2 : H0.next ≤ p2 ∧ p2 < h.next
  lu : H0.next ≤ pu ∧ pu < h.next
  qn : q < H0.next
theorem DfP.go {q p2 p pu : Nat} {H0 h h' : AH} {ok : Bool} {u : Us} (D : DfP q H0 p2 p pu ok u h) (k : KoS [q] h h') : DfP q H0 p2 p pu ok u h' := by
  have := k.next; have := D.l2; have := D.lu; have := D.qn
  exact ⟨by rw [k.get p2 (by omega) (by simp; omega)]; exact D.gz, by rw [k.get pu (by omega) (by simp; omega)]; exact D.gu, D.n1, D.n2, by omega, by omega, D.qn⟩
theorem DfP.st {q p2 p pu : Nat} {H0 h : AH} {ok : Bool} {u : Us} (D : DfP q H0 p2 p pu ok u h) (x : Blk) : DfP q H0 p2 p pu ok u (h.set p x) :=
  ⟨by rw [AH.set_getN _ _ D.n1]; exact D.gz, by rw [AH.set_getN _ _ D.n2]; exact D.gu, D.n1, D.n2, by simpa using D.l2, by simpa using D.lu, D.qn⟩
theorem DfP.ldu {q p2 p pu : Nat} {H0 h : AH} {ok : Bool} {u : Us} (D : DfP q H0 p2 p pu ok u h) : ldVar Try.prog 4 pu 1 h = some (.bool u.a) ∧ ldVar Try.prog 4 pu 2 h = some (.bool u.b) ∧ ldVar Try.prog 4 pu 3 h = some (.bool u.c) ∧ ldVar Try.prog 4 pu 4 h = some (.bool u.fin) ∧ ldVar Try.prog 4 pu 5 h = some (.bool u.r) ∧ ldVar Try.prog 3 pu 6 h = some (.int .i64 u.lo) ∧ ldVar Try.prog 3 pu 7 h = some (.int .i64 u.hi) ∧ ldVar Try.prog 3 pu 8 h = some (.int .i64 u.tok) := by
  have g := D.gu
  unfold usCells at g
  refine ⟨?_, ?_, ?_, ?_, ?_, ?_, ?_, ?_⟩ <;> simp [ldVar, g]
/-- the state at a place -/
def DfI (q : Nat) (v : AV) (bs : List Nat) (K : Nat) (H0 : AH) (ok : Bool) (u : Us) (τ : Tm) (h : AH) : Prop :=
  ∃ (p2 p pu : Nat) (k a b c : Int) (fin : Bool) (d t r : AV) (D T : List Int) (rs : List (Int × Int)) (bD bT bR : List Nat),
    DfT τ q p2 p pu ∧ DfP q H0 p2 p pu ok u h ∧ FrB q v bs K H0 p k a b c fin d t r D T rs bD bT bR h ∧ (p2 ∉ bD ++ (bT ++ bR) ∧ pu ∉ bD ++ (bT ++ bR))
section
variable {q K : Nat} {v : AV} {bs : List Nat} {H0 h : AH} {ok : Bool} {u : Us} {τ : Tm}
theorem DfI.mono {K' : Nat} (I : DfI q v bs K H0 ok u τ h) (hk : K ≤ K') : DfI q v bs K' H0 ok u τ h := by
  obtain ⟨p2, p, pu, k, a, b, c, fin, d, t, r, D, T, rs, bD, bT, bR, T1, P, F, L⟩ := I
  exact ⟨p2, p, pu, k, a, b, c, fin, d, t, r, D, T, rs, bD, bT, bR, T1, P, F.go (F.X.mono hk) (KoS.refl _ _), L⟩
set_option maxRecDepth 20000 in
theorem df_a (I : DfI q v bs K H0 ok u τ h) (hK : K ≤ 800000) (m : Nat) (hm : 300 ≤ m) :
    ∃ τ' h', evAt Try.prog (ev Try.prog m) m 131 15 τ h = evAt Try.prog (ev Try.prog m) m 131 31 τ' h' ∧ DfI q v bs (K + 12) H0 ok u τ' h' := by
  obtain ⟨p2, p, pu, k, a, b, c, fin, d, t, r, D, T, rs, bD, bT, bR, ⟨t0, t2, t3, t4⟩, P, F, L⟩ := I
  obtain ⟨l1, l2, l3, l4, l5, l6, l7, l8⟩ := P.ldu
  rw [at_M Try.func131 15 (by decide) 4 (by decide) (by kernel_rfl) [31]]
  cases hu : u.a with
  | false =>
    rw [hu] at l1
    exact ⟨_, h, by simp [Try.f131, U, t4, l1]; rfl, p2, p, pu, k, a, b, c, fin, d, t, r, D, T, rs, bD, bT, bR, ⟨by simp [t0], by simp [t2], by simp [t3], by simp [t4]⟩, P, F.go (F.X.mono (by omega)) (KoS.refl _ _), L⟩
  | true =>
    rw [hu] at l1
    obtain ⟨n, h1, e1, i1, X1, k1⟩ := F.X.good (by omega) m (by omega)
    have F1 := F.go X1 k1
    have P1 := P.go k1
    obtain ⟨s0, s1, s2, s3, s4, s5, s6, s7⟩ := F1.sto
    exact ⟨_, _, by simp [Try.f131, U, t0, t3, t4, l1, e1, s1]; rfl, p2, p, pu, k, n, b, c, fin, d, t, r, D, T, rs, bD, bT, bR, ⟨by simp [t0], by simp [t2], by simp [t3], by simp [t4]⟩, P1.st _, F1.st F1.ik (InK.i64 (by have := i1.1; omega) (by have := i1.2; omega)) F1.ib F1.ic, L⟩
set_option maxRecDepth 20000 in
theorem df_b (I : DfI q v bs K H0 ok u τ h) (hK : K ≤ 800000) (m : Nat) (hm : 300 ≤ m) :
    ∃ τ' h', evAt Try.prog (ev Try.prog m) m 131 31 τ h = evAt Try.prog (ev Try.prog m) m 131 63 τ' h' ∧ DfI q v bs (K + 12) H0 ok u τ' h' := by
  obtain ⟨p2, p, pu, k, a, b, c, fin, d, t, r, D, T, rs, bD, bT, bR, ⟨t0, t2, t3, t4⟩, P, F, L⟩ := I
  obtain ⟨l1, l2, l3, l4, l5, l6, l7, l8⟩ := P.ldu
  rw [at_M Try.func131 31 (by decide) 5 (by decide) (by kernel_rfl) [63]]
  cases hu : u.b with
  | false =>
    rw [hu] at l2
    exact ⟨_, h, by simp [Try.f131, U, t4, l2]; rfl, p2, p, pu, k, a, b, c, fin, d, t, r, D, T, rs, bD, bT, bR, ⟨by simp [t0], by simp [t2], by simp [t3], by simp [t4]⟩, P, F.go (F.X.mono (by omega)) (KoS.refl _ _), L⟩
  | true =>
    rw [hu] at l2
    obtain ⟨n, h1, e1, i1, X1, k1⟩ := F.X.good (by omega) m (by omega)
    have F1 := F.go X1 k1
    have P1 := P.go k1
    obtain ⟨s0, s1, s2, s3, s4, s5, s6, s7⟩ := F1.sto
    exact ⟨_, _, by simp [Try.f131, U, t0, t3, t4, l2, e1, s2]; rfl, p2, p, pu, k, a, n, c, fin, d, t, r, D, T, rs, bD, bT, bR, ⟨by simp [t0], by simp [t2], by simp [t3], by simp [t4]⟩, P1.st _, F1.st F1.ik F1.ia (InK.i64 (by have := i1.1; omega) (by have := i1.2; omega)) F1.ic, L⟩
set_option maxRecDepth 20000 in
theorem df_c (I : DfI q v bs K H0 ok u τ h) (hK : K ≤ 800000) (m : Nat) (hm : 300 ≤ m) :
    ∃ τ' h', evAt Try.prog (ev Try.prog m) m 131 63 τ h = evAt Try.prog (ev Try.prog m) m 131 127 τ' h' ∧ DfI q v bs (K + 12) H0 ok u τ' h' := by
  obtain ⟨p2, p, pu, k, a, b, c, fin, d, t, r, D, T, rs, bD, bT, bR, ⟨t0, t2, t3, t4⟩, P, F, L⟩ := I
  obtain ⟨l1, l2, l3, l4, l5, l6, l7, l8⟩ := P.ldu
  rw [at_M Try.func131 63 (by decide) 6 (by decide) (by kernel_rfl) [127]]
  cases hu : u.c with
  | false =>
    rw [hu] at l3
    exact ⟨_, h, by simp [Try.f131, U, t4, l3]; rfl, p2, p, pu, k, a, b, c, fin, d, t, r, D, T, rs, bD, bT, bR, ⟨by simp [t0], by simp [t2], by simp [t3], by simp [t4]⟩, P, F.go (F.X.mono (by omega)) (KoS.refl _ _), L⟩
  | true =>
    rw [hu] at l3
    obtain ⟨n, h1, e1, i1, X1, k1⟩ := F.X.good (by omega) m (by omega)
    have F1 := F.go X1 k1
    have P1 := P.go k1
    obtain ⟨s0, s1, s2, s3, s4, s5, s6, s7⟩ := F1.sto
    exact ⟨_, _, by simp [Try.f131, U, t0, t3, t4, l3, e1, s3]; rfl, p2, p, pu, k, a, b, n, fin, d, t, r, D, T, rs, bD, bT, bR, ⟨by simp [t0], by simp [t2], by simp [t3], by simp [t4]⟩, P1.st _, F1.st F1.ik F1.ia F1.ib (InK.i64 (by have := i1.1; omega) (by have := i1.2; omega)), L⟩
set_option maxRecDepth 20000 in
theorem df_fin (I : DfI q v bs K H0 ok u τ h) (hK : K ≤ 800000) (m : Nat) (hm : 300 ≤ m) :
    ∃ τ' h', evAt Try.prog (ev Try.prog m) m 131 127 τ h = evAt Try.prog (ev Try.prog m) m 131 255 τ' h' ∧ DfI q v bs (K + 12) H0 ok u τ' h' := by
  obtain ⟨p2, p, pu, k, a, b, c, fin, d, t, r, D, T, rs, bD, bT, bR, ⟨t0, t2, t3, t4⟩, P, F, L⟩ := I
  obtain ⟨l1, l2, l3, l4, l5, l6, l7, l8⟩ := P.ldu
  rw [at_M Try.func131 127 (by decide) 7 (by decide) (by kernel_rfl) [255]]
  cases hu : u.fin with
  | false =>
    rw [hu] at l4
    obtain ⟨s0, s1, s2, s3, s4, s5, s6, s7⟩ := F.sto
    exact ⟨_, _, by simp [Try.f131, U, t0, t3, t4, l4, s4]; rfl, p2, p, pu, k, a, b, c, false, d, t, r, D, T, rs, bD, bT, bR, ⟨by simp [t0], by simp [t2], by simp [t3], by simp [t4]⟩, P.st _, (F.go (F.X.mono (by omega)) (KoS.refl _ _)).st F.ik F.ia F.ib F.ic, L⟩
  | true =>
    rw [hu] at l4
    obtain ⟨n, h1, e1, X1, k1, n1⟩ := F.X.chance (by omega) 3 (by omega) (by omega) m (by omega)
    have F1 := F.go (X1.mono (by omega : K + 3 ≤ K + 12)) k1
    have P1 := P.go k1
    obtain ⟨s0, s1, s2, s3, s4, s5, s6, s7⟩ := F1.sto
    exact ⟨_, _, by simp [Try.f131, U, t0, t3, t4, l4, e1, s4]; rfl, p2, p, pu, k, a, b, c, n, d, t, r, D, T, rs, bD, bT, bR, ⟨by simp [t0], by simp [t2], by simp [t3], by simp [t4]⟩, P1.st _, F1.st F1.ik F1.ia F1.ib F1.ic, L⟩
set_option maxRecDepth 20000 in
theorem df_d (I : DfI q v bs K H0 ok u τ h) (B : UsB u) (hK : K ≤ 800000) (m : Nat) (hm : 20020 ≤ m) :
    ∃ τ' h', evAt Try.prog (ev Try.prog m) m 131 255 τ h = evAt Try.prog (ev Try.prog m) m 131 511 τ' h' ∧ DfI q v bs (K + 60) H0 ok u τ' h' := by
  obtain ⟨p2, p, pu, k, a, b, c, fin, d, t, r, D, T, rs, bD, bT, bR, ⟨t0, t2, t3, t4⟩, P, F, L⟩ := I
  obtain ⟨l1, l2, l3, l4, l5, l6, l7, l8⟩ := P.ldu
  obtain ⟨b1, b2, b3, b4, b5, b6⟩ := B
  obtain ⟨M, hM⟩ : ∃ M : Int, M = if (40 : Int) < u.hi - u.lo then 40 else u.hi - u.lo := ⟨_, rfl⟩
  have hM' : 0 ≤ M ∧ M ≤ 40 := by rw [hM]; split <;> omega
  have mn := hM.symm
  have w1 : IntKind.i64.wrap (u.hi - u.lo) = u.hi - u.lo := wrap_i64 (by omega) (by omega)
  have w2 : IntKind.i64.wrap (M + 1) = M + 1 := wrap_i64 (by omega) (by omega)
  obtain ⟨x, h1, e1, a1, X1, k1, n1⟩ := F.X.next (by omega) (M + 1) (by omega) (by omega) m (by omega)
  have w3 : IntKind.i64.wrap (u.lo + (x : Int)) = u.lo + x := wrap_i64 (by omega) (by omega)
  have P1 := P.go k1
  obtain ⟨l1', l2', l3', l4', l5', l6', l7', l8'⟩ := P1.ldu
  obtain ⟨l, rr, h2, nb, e2, hl, hby, BB, hnb, X2, k2⟩ := X1.bytes (by omega) (u.lo + x) (by omega) m (by omega)
  have F1 := F.go X1 k1
  have F2 := F1.go (X2.mono (by omega : K + 3 + (u.lo + (x : Int)).toNat ≤ K + 60)) k2
  have P2 := P1.go k2
  obtain ⟨s0, s1, s2, s3, s4, s5, s6, s7⟩ := F2.sto
  have st := s5 rr BB.bs.one
  have mem : ∀ y ∈ bD ++ (bT ++ bR), y < h1.next := fun y hy => by
    simp only [List.mem_append] at hy
    rcases hy with hy | hy | hy
    · exact F1.RD.mem y hy
    · exact F1.RT.mem y hy
    · exact F1.RR.mem y hy
  have hF1 := F1.ps
  have hP1 := P1.l2; have hP2 := P1.lu
  rw [at_M Try.func131 255 (by decide) 8 (by decide) (by kernel_rfl) [511]]
  refine ⟨_, _, by simp [Try.f131, U, t0, t3, t4, l6, l7, l6', w1, mn, mn2, foldA, w2, e1, w3, e2, st, evHist, ObsOk, ObOk, List.getElem?_cons_zero]; rfl, p2, p, pu, k, a, b, c, fin, rr, t, r, l, T, rs, [nb], bT, bR, ⟨by simp [t0], by simp [t2], by simp [t3], by simp [t4]⟩, P2.st _, F2.stD BB hby ⟨fun e => by have := mem nb (by simp only [List.mem_append] at e ⊢; exact .inr e); omega, by omega, by have := F1.KK.next; omega⟩ (by omega), ?_, ?_⟩
  · intro e; simp only [List.cons_append, List.nil_append, List.mem_cons] at e
    rcases e with e | e
    · omega
    · exact L.1 (by simp only [List.mem_append] at e ⊢; exact .inr e)
  · intro e; simp only [List.cons_append, List.nil_append, List.mem_cons] at e
    rcases e with e | e
    · omega
    · exact L.2 (by simp only [List.mem_append] at e ⊢; exact .inr e)
set_option maxRecDepth 20000 in
theorem df_t (I : DfI q v bs K H0 ok u τ h) (B : UsB u) (hK : K ≤ 800000) (m : Nat) (hm : 20020 ≤ m) :
    ∃ τ' h', evAt Try.prog (ev Try.prog m) m 131 511 τ h = evAt Try.prog (ev Try.prog m) m 131 1023 τ' h' ∧ DfI q v bs (K + 60) H0 ok u τ' h' := by
  obtain ⟨p2, p, pu, k, a, b, c, fin, d, t, r, D, T, rs, bD, bT, bR, ⟨t0, t2, t3, t4⟩, P, F, L⟩ := I
  obtain ⟨l1, l2, l3, l4, l5, l6, l7, l8⟩ := P.ldu
  obtain ⟨b1, b2, b3, b4, b5, b6⟩ := B
  obtain ⟨l, rr, h2, nb, e2, hl, hby, BB, hnb, X2, k2⟩ := F.X.bytes (by omega) u.tok (by omega) m (by omega)
  have F2 := F.go (X2.mono (by omega : K + u.tok.toNat ≤ K + 60)) k2
  have P2 := P.go k2
  obtain ⟨s0, s1, s2, s3, s4, s5, s6, s7⟩ := F2.sto
  have st := s6 rr BB.bs.one
  have mem : ∀ y ∈ bD ++ (bT ++ bR), y < h.next := fun y hy => by
    simp only [List.mem_append] at hy
    rcases hy with hy | hy | hy
    · exact F.RD.mem y hy
    · exact F.RT.mem y hy
    · exact F.RR.mem y hy
  have hF1 := F.ps
  have hP1 := P.l2; have hP2 := P.lu
  rw [at_M Try.func131 511 (by decide) 9 (by decide) (by kernel_rfl) [1023]]
  refine ⟨_, _, by simp [Try.f131, U, t0, t3, t4, l8, e2, st]; rfl, p2, p, pu, k, a, b, c, fin, d, rr, r, D, l, rs, bD, [nb], bR, ⟨by simp [t0], by simp [t2], by simp [t3], by simp [t4]⟩, P2.st _, F2.stT BB hby ⟨fun e => by have := mem nb (by simp only [List.mem_append] at e ⊢; rcases e with e | e; exact .inl e; exact .inr (.inr e)); omega, by omega, by have := F.KK.next; omega⟩ (by omega), ?_, ?_⟩
  · intro e; simp only [List.mem_append, List.mem_cons, List.not_mem_nil, or_false] at e
    rcases e with e | e | e
    · exact L.1 (by simp [e])
    · omega
    · exact L.1 (by simp [e])
  · intro e; simp only [List.mem_append, List.mem_cons, List.not_mem_nil, or_false] at e
    rcases e with e | e | e
    · exact L.2 (by simp [e])
    · omega
    · exact L.2 (by simp [e])
set_option maxRecDepth 20000 in
theorem df_r (I : DfI q v bs K H0 ok u τ h) (hK : K ≤ 700000) (m : Nat) (hm : 20020 ≤ m) :
    ∃ τ' h', evAt Try.prog (ev Try.prog m) m 131 1023 τ h = evAt Try.prog (ev Try.prog m) m 131 2047 τ' h' ∧ DfI q v bs (K + 200) H0 ok u τ' h' := by
  obtain ⟨p2, p, pu, k, a, b, c, fin, d, t, r, D, T, rs, bD, bT, bR, ⟨t0, t2, t3, t4⟩, P, F, L⟩ := I
  obtain ⟨l1, l2, l3, l4, l5, l6, l7, l8⟩ := P.ldu
  rw [at_M Try.func131 1023 (by decide) 10 (by decide) (by kernel_rfl) [2047]]
  cases hu : u.r with
  | false =>
    rw [hu] at l5
    exact ⟨_, h, by simp [Try.f131, U, t4, l5]; rfl, p2, p, pu, k, a, b, c, fin, d, t, r, D, T, rs, bD, bT, bR, ⟨by simp [t0], by simp [t2], by simp [t3], by simp [t4]⟩, P, F.go (F.X.mono (by omega)) (KoS.refl _ _), L⟩
  | true =>
    rw [hu] at l5
    obtain ⟨l, rr, h1, br, e1, hl, RR, hnd, hlo, X1, k1⟩ := F.X.ranges (by omega) m (by omega)
    have F1 := F.go X1 k1
    have P1 := P.go k1
    obtain ⟨s0, s1, s2, s3, s4, s5, s6, s7⟩ := F1.sto
    have st := s7 rr RR.sl_one
    have mem : ∀ y ∈ bD ++ bT, y < h.next := fun y hy => by
      simp only [List.mem_append] at hy
      rcases hy with hy | hy
      · exact F.RD.mem y hy
      · exact F.RT.mem y hy
    have hF1 := F.ps
    have hP1 := P.l2; have hP2 := P.lu
    refine ⟨_, _, by simp [Try.f131, U, t0, t3, t4, l5, e1, st]; rfl, p2, p, pu, k, a, b, c, fin, d, t, rr, D, T, l, bD, bT, br, ⟨by simp [t0], by simp [t2], by simp [t3], by simp [t4]⟩, P1.st _, F1.stR RR hnd (fun x hx => ⟨fun e => by have := mem x e; have := hlo x hx; omega, by have := hlo x hx; omega, by have := hlo x hx; have := F.KK.next; omega⟩) (by omega), ?_, ?_⟩
    · intro e; simp only [List.mem_append] at e
      rcases e with e | e | e
      · exact L.1 (by simp [e])
      · exact L.1 (by simp [e])
      · have := hlo _ e; omega
    · intro e; simp only [List.mem_append] at e
      rcases e with e | e | e
      · exact L.2 (by simp [e])
      · exact L.2 (by simp [e])
      · have := hlo _ e; omega
end
end Go.Ev

/- A drawn frame: its end, its head, the whole. -/
namespace Go.Ev
open Go Go.Proofs
set_option linter.unusedSimpArgs false
set_option linter.unusedVariables false

theorem tmod_b (a : Int) {b : Int} (hb : 0 < b) : -b < a.tmod b ∧ a.tmod b < b := by
  rcases Int.le_total 0 a with h | h
  · rw [Int.tmod_eq_emod_of_nonneg h]
    have := Int.emod_nonneg a (b := b) (by omega)
    have := Int.emod_lt_of_pos a hb
    omega
  · have e : a.tmod b = -((-a).tmod b) := by rw [Int.neg_tmod]; omega
    rw [e, Int.tmod_eq_emod_of_nonneg (by omega)]
    have := Int.emod_nonneg (-a) (b := b) (by omega)
    have := Int.emod_lt_of_pos (-a) hb
    omega
section
variable {q K : Nat} {v : AV} {bs : List Nat} {H0 h : AH} {ok : Bool} {u : Us} {τ : Tm}
set_option maxRecDepth 20000 in
theorem df_s (I : DfI q v bs K H0 ok u τ h) (m : Nat) (hm : 300 ≤ m) :
    ∃ τ' h', evAt Try.prog (ev Try.prog m) m 131 2047 τ h = evAt Try.prog (ev Try.prog m) m 131 4095 τ' h' ∧ DfI q v bs K H0 ok u τ' h' := by
  obtain ⟨p2, p, pu, k, a, b, c, fin, d, t, r, D, T, rs, bD, bT, bR, ⟨t0, t2, t3, t4⟩, P, F, L⟩ := I
  obtain ⟨f0, f1, f2, f3, f4, f5, f6, f7, f8⟩ := F.ld
  obtain ⟨s0, s1, s2, s3, s4, s5, s6, s7⟩ := F.sto
  have hL : ∀ h', lenA Try.prog 34 d h' = some (.int .i64 D.length) := fun h' => F.RD.lenA (P := Try.prog) (T := 34) (by simp) h'
  have lD := F.lD
  have ia := inK_in F.ia
  have ib := inK_in F.ib
  obtain ⟨X, hX⟩ : ∃ X : Int, X = 4611686018427387903 - (D.length : Int) := ⟨_, rfl⟩
  have wX : IntKind.i64.wrap (4611686018427387903 - (D.length : Int)) = X := by rw [hX]; exact wrap_i64 (by omega) (by omega)
  rw [at_M Try.func131 2047 (by decide) 11 (by decide) (by kernel_rfl) [4095]]
  by_cases k0 : k = 0
  · subst k0
    obtain ⟨R, hR⟩ : ∃ R : Int, R = a.tmod 40 := ⟨_, rfl⟩
    have hR' := hR.symm
    have hb : -40 < R ∧ R < 40 := by rw [hR]; exact tmod_b a (by omega)
    have w1 : IntKind.i64.wrap (1 + R) = 1 + R := wrap_i64 (by omega) (by omega)
    exact ⟨_, _, by simp [Try.f131, U, t3, f0, f1, hR', w1, s1]; rfl, p2, p, pu, 0, 1 + R, b, c, fin, d, t, r, D, T, rs, bD, bT, bR, ⟨by simp [t0], by simp [t2], by simp [t3], by simp [t4]⟩, P.st _, F.st F.ik (InK.i64 (by omega) (by omega)) F.ib F.ic, L⟩
  · have k0' : (k == 0) = false := by simpa using k0
    by_cases k1 : k = 18 ∨ k = 22
    · obtain ⟨R, hR⟩ : ∃ R : Int, R = a.tmod 1152921504606846977 := ⟨_, rfl⟩
      have hR' := hR.symm
      have hb : -1152921504606846977 < R ∧ R < 1152921504606846977 := by rw [hR]; exact tmod_b a (by omega)
      obtain ⟨R2, hR2⟩ : ∃ R : Int, R = b.tmod 2 := ⟨_, rfl⟩
      have hR2' := hR2.symm
      have hb2 : -2 < R2 ∧ R2 < 2 := by rw [hR2]; exact tmod_b b (by omega)
      have F1 := F.st (k' := k) (a' := R) (b' := b) (c' := c) (fin' := fin) F.ik (InK.i64 (by omega) (by omega)) F.ib F.ic
      obtain ⟨g0, g1, g2, g3, g4, g5, g6, g7, g8⟩ := F1.ld
      obtain ⟨u0, u1, u2, u3, u4, u5, u6, u7⟩ := F1.sto
      have P1 := P.st (.cells 72 false (frC k R b c fin d t r))
      generalize hY : h.set p (.cells 72 false (frC k R b c fin d t r)) = Y at *
      have s1' := s1 R
      rw [hY] at s1'
      rcases k1 with rfl | rfl
      · exact ⟨_, _, by simp [Try.f131, U, t3, f0, f1, hR', s1', g2, hR2', u2]; rfl, p2, p, pu, _, R, R2, c, fin, d, t, r, D, T, rs, bD, bT, bR, ⟨by simp [t0], by simp [t2], by simp [t3], by simp [t4]⟩, P1.st _, F1.st F.ik F1.ia (InK.i64 (by omega) (by omega)) F.ic, L⟩
      · exact ⟨_, _, by simp [Try.f131, U, t3, f0, f1, hR', s1', g2, hR2', u2]; rfl, p2, p, pu, _, R, R2, c, fin, d, t, r, D, T, rs, bD, bT, bR, ⟨by simp [t0], by simp [t2], by simp [t3], by simp [t4]⟩, P1.st _, F1.st F.ik F1.ia (InK.i64 (by omega) (by omega)) F.ic, L⟩
    · have k18 : (k == 18) = false := by simp; omega
      have k22 : (k == 22) = false := by simp; omega
      by_cases k6 : k = 6
      · subst k6
        obtain ⟨M, hM⟩ : ∃ M : Int, M = if X < a then X else a := ⟨_, rfl⟩
        have hM' := hM.symm
        have hb : InK .i64 M := by rw [hM]; split; exact InK.i64 (by omega) (by omega); exact F.ia
        exact ⟨_, _, by simp [Try.f131, U, t3, f0, f1, f5, hL, wX, mn2, foldA, hM', s1]; rfl, p2, p, pu, _, M, b, c, fin, d, t, r, D, T, rs, bD, bT, bR, ⟨by simp [t0], by simp [t2], by simp [t3], by simp [t4]⟩, P.st _, F.st F.ik hb F.ib F.ic, L⟩
      · have k6' : (k == 6) = false := by simpa using k6
        by_cases k8 : k = 8
        · subst k8
          obtain ⟨M, hM⟩ : ∃ M : Int, M = if X < b then X else b := ⟨_, rfl⟩
          have hM' := hM.symm
          have hb : InK .i64 M := by rw [hM]; split; exact InK.i64 (by omega) (by omega); exact F.ib
          exact ⟨_, _, by simp [Try.f131, U, t3, f0, f2, f5, hL, wX, mn2, foldA, hM', s2]; rfl, p2, p, pu, _, a, M, c, fin, d, t, r, D, T, rs, bD, bT, bR, ⟨by simp [t0], by simp [t2], by simp [t3], by simp [t4]⟩, P.st _, F.st F.ik F.ia hb F.ic, L⟩
        · have k8' : (k == 8) = false := by simpa using k8
          by_cases k24 : k = 24
          · subst k24
            obtain ⟨M, hM⟩ : ∃ M : Int, M = if b < a then b else a := ⟨_, rfl⟩
            have hM' := hM.symm
            have hb : InK .i64 M := by rw [hM]; split; exact F.ib; exact F.ia
            exact ⟨_, _, by simp [Try.f131, U, t3, f0, f1, f2, mn2, foldA, hM', s2]; rfl, p2, p, pu, _, a, M, c, fin, d, t, r, D, T, rs, bD, bT, bR, ⟨by simp [t0], by simp [t2], by simp [t3], by simp [t4]⟩, P.st _, F.st F.ik F.ia hb F.ic, L⟩
          · have k24' : (k == 24) = false := by simpa using k24
            exact ⟨_, _, by simp [Try.f131, U, t3, f0, k0, k0', k18, k22, k6, k6', k8, k8', k24, k24', show ¬ k = 18 by omega, show ¬ k = 22 by omega]; rfl, p2, p, pu, k, a, b, c, fin, d, t, r, D, T, rs, bD, bT, bR, ⟨by simp [t0], by simp [t2], by simp [t3], by simp [t4]⟩, P, F, L⟩
end
def kindsL : List Int := [0, 1, 2, 4, 5, 6, 7, 8, 8, 8, 16, 17, 18, 20, 21, 22, 24, 25, 26, 27, 28, 29, 30, 48]
theorem st72 {X : AH} {p : Nat} {k a b c k' a' b' c' : Int} {fin fin' : Bool} {d t r d' t' r' : AV} (g : X.get p = some (.cells 72 false (frC k a b c fin d t r))) (o1 : d'.one = true) (o2 : t'.one = true) (o3 : r'.one = true) : stVar Try.prog 72 p 0 (.agg (frC k' a' b' c' fin' d' t' r')) X = some (X.set p (.cells 72 false (frC k' a' b' c' fin' d' t' r'))) := by
  unfold frC at g ⊢
  simp [stVar, g, o1, o2, o3, spl]
set_option maxRecDepth 20000 in
theorem SX.frame {h : AH} {q : Nat} {v : AV} {bs : List Nat} {K : Nat} (X : SX h q v bs K) (hK : K ≤ 600000) (m : Nat) (hm : 20030 ≤ m) :
    ∃ (k a b c : Int) (fin : Bool) (d t r : AV) (D T : List Int) (rs : List (Int × Int)) (bD bT bR : List Nat) (h' : AH), ev Try.prog m 131 [.ptr q 0] h = some (.agg (frC k a b c fin d t r), h') ∧
      tT72.R true h' (frC k a b c fin d t r) (k, a, b, c, fin, D, T, rs) (bD ++ (bT ++ bR)) ∧ (bD ++ (bT ++ bR)).Nodup ∧ (∀ x ∈ bD ++ (bT ++ bR), h.next ≤ x) ∧ D.length ≤ 1600 ∧ T.length ≤ 20 ∧ rs.length ≤ 66 ∧ SX h' q v bs (K + 600) ∧ KoS [q] h h' := by
  obtain ⟨m, rfl⟩ : ∃ k, m = k + 1 := ⟨m - 1, by omega⟩
  have hq := X.lt
  have hbs := X.mem
  obtain ⟨Z1, hZ1⟩ : ∃ Z : AH, Z = h.push (.cells 72 false z72) := ⟨_, rfl⟩
  have k1 : Kp h Z1 := by rw [hZ1]; exact (Kp.refl h).push _
  have n1 : Z1.next = h.next + 1 := by rw [hZ1]; simp
  have g1 : Z1.get h.next = some (.cells 72 false z72) := by rw [hZ1]; simp
  obtain ⟨Z2, hZ2⟩ : ∃ Z : AH, Z = Z1.push (.cells 3 false (kindsL.map (.int .i64))) := ⟨_, rfl⟩
  have k2 : Kp Z1 Z2 := by rw [hZ2]; exact (Kp.refl Z1).push _
  have n2 : Z2.next = Z1.next + 1 := by rw [hZ2]; simp
  have g2 : Z2.get Z1.next = some (.cells 3 false (kindsL.map (.int .i64))) := by rw [hZ2]; simp
  obtain ⟨x, h3, e3, a3, X3, ks3, n3⟩ := ((X.kp k1).kp k2).next (by omega) 24 (by omega) (by omega) m (by omega)
  have g3 : h3.get Z1.next = some (.cells 3 false (kindsL.map (.int .i64))) := by rw [ks3.get _ (by omega) (by simp; omega)]; exact g2
  have gk := lk_get (l := kindsL) (k := x) (by simp [kindsL]; omega)
  have ik : InK .i64 (lkP kindsL x) := lkP_in (fun y hy => by simp only [kindsL, List.mem_cons, List.not_mem_nil, or_false] at hy; apply inK64 <;> omega) _
  generalize lkP kindsL x = k at *
  have ldk : ldVar Try.prog 3 Z1.next x h3 = some (.int .i64 k) := by simp [ldVar, g3, gk]
  have ix : idxA Try.prog 60 (.slice Z1.next 0 24) (.int .i64 x) = some (.ptr Z1.next x) := by simp [idxA]; omega
  obtain ⟨Y, hY⟩ : ∃ Y : AH, Y = h3.push (.cells 72 false (frC k 0 0 0 false .nilSlice .nilSlice .nilSlice)) := ⟨_, rfl⟩
  have kY : Kp h3 Y := by rw [hY]; exact (Kp.refl h3).push _
  have nY : Y.next = h3.next + 1 := by rw [hY]; simp
  have gY : Y.get h3.next = some (.cells 72 false (frC k 0 0 0 false .nilSlice .nilSlice .nilSlice)) := by rw [hY]; simp
  have stY : stVar Try.prog 72 h3.next 0 (.agg (frC k 0 0 0 false .nilSlice .nilSlice .nilSlice)) (h3.push (.cells 72 false (frC 0 0 0 0 false .nilSlice .nilSlice .nilSlice))) = some Y := by
    rw [st72 (X := h3.push (.cells 72 false (frC 0 0 0 0 false .nilSlice .nilSlice .nilSlice))) (k := 0) (a := 0) (b := 0) (c := 0) (fin := false) (d := .nilSlice) (t := .nilSlice) (r := .nilSlice) (by simp) rfl rfl rfl, push_set _ _ rfl, hY]
  have ldk2 : ldVar Try.prog 3 h3.next 0 Y = some (.int .i64 k) := by unfold frC at gY; simp [ldVar, gY]
  obtain ⟨h4, e4, k4⟩ := l05Kind_ev k Y m (by omega)
  have hB := usB k
  generalize hok : (usesL.lookup k).isSome = ok at *
  generalize hu : (usesL.lookup k).getD usN = u at *
  obtain ⟨W, hW⟩ : ∃ W : AH, W = h4.push (.cells 222 false (usCells ok u)) := ⟨_, rfl⟩
  have kW : Kp h4 W := by rw [hW]; exact (Kp.refl h4).push _
  have nW : W.next = h4.next + 1 := by rw [hW]; simp
  have gW : W.get h4.next = some (.cells 222 false (usCells ok u)) := by rw [hW]; simp
  have stW : stVar Try.prog 222 h4.next 0 (usC ok u) (h4.push (.cells 222 false (usCells false usN))) = some W := by
    rw [hW]; simp [usC, usCells, usN, stVar, spl, push_set]
  have k4n := k4.next
  have KYW : Kp Y W := k4.trans kW
  have KhY : KoS [q] h Y := koS1 (koS1 (k1.trans k2).koS1 ks3) kY.koS1
  have KhW : KoS [q] h W := koS1 KhY KYW.koS1
  have XW : SX W q v bs (K + 3) := (X3.kp kY).kp KYW
  have gWp : W.get h3.next = some (.cells 72 false (frC k 0 0 0 false .nilSlice .nilSlice .nilSlice)) := (KYW.get _ (by omega)).trans gY
  have gWz : W.get h.next = some (.cells 72 false z72) := by
    rw [KYW.get _ (by omega), kY.get _ (by omega), ks3.get _ (by omega) (by simp; omega), k2.get _ (by omega)]; exact g1
  have z0 : InK .i64 0 := InK.i64 (by omega) (by omega)
  have F : FrB q v bs (K + 3) h h3.next k 0 0 0 false .nilSlice .nilSlice .nilSlice [] [] [] [] [] [] W :=
    ⟨gWp, .inl ⟨rfl, rfl, rfl⟩, .inl ⟨rfl, rfl, rfl⟩, .inl ⟨rfl, rfl, rfl⟩, by simp, by simp, by simp, by omega, ik, z0, z0, z0, XW, KhW, hq, hbs, by simp, by simp, by simp⟩
  have hz1 := hZ1.symm
  have hz2 := hZ2.symm
  simp only [z72, frC] at hz1
  simp only [kindsL, List.map_cons, List.map_nil] at hz2
  simp only [frC] at stY
  simp only [usCells, usN] at stW
  have core : ∃ τ, ev Try.prog (m + 1) 131 [.ptr q 0] h = resM Try.prog [ResultVar.cell 2 72] (evAt Try.prog (ev Try.prog m) m 131 15 τ W) ∧ DfT τ q h.next h3.next h4.next := by
    refine ⟨?_, ?_⟩
    rotate_left
    rw [ev_M Try.func131 ok131 [15] m _ h (by simp [Try.f131])]
    refine ⟨by simp [Try.f131, U, tm0, hz1, hz2, e3, ix, ldk, stY, ldk2, e4, stW, fillA, zerosA, spl]; rfl, ⟨by simp, by simp, by simp, by simp⟩⟩
  obtain ⟨τ, e0, T0⟩ := core
  have I0 : DfI q v bs (K + 3) h ok u τ W := ⟨h.next, h3.next, h4.next, _, _, _, _, _, _, _, _, _, _, _, [], [], [], T0, ⟨gWz, gW, by omega, by omega, by omega, by omega, hq⟩, F, by simp, by simp⟩
  obtain ⟨τ1, w1, q1, I1⟩ := df_a I0 (by omega) m (by omega)
  obtain ⟨τ2, w2, q2, I2⟩ := df_b I1 (by omega) m (by omega)
  obtain ⟨τ3, w3, q3, I3⟩ := df_c I2 (by omega) m (by omega)
  obtain ⟨τ4, w4, q4, I4⟩ := df_fin I3 (by omega) m (by omega)
  obtain ⟨τ5, w5, q5, I5⟩ := df_d I4 hB (by omega) m (by omega)
  obtain ⟨τ6, w6, q6, I6⟩ := df_t I5 hB (by omega) m (by omega)
  obtain ⟨τ7, w7, q7, I7⟩ := df_r I6 (by omega) m (by omega)
  obtain ⟨τ8, w8, q8, I8⟩ := df_s I7 m (by omega)
  rw [e0, q1, q2, q3, q4, q5, q6, q7, q8]
  obtain ⟨p2, p, pu, k, a, b, c, fin, d, t, r, D, T, rs, bD, bT, bR, ⟨t0, t2, t3, t4⟩, P, F, L⟩ := I8
  obtain ⟨f0, f1, f2, f3, f4, f5, f6, f7, f8⟩ := F.ld
  have st := st72 (X := w8) P.gz F.RD.sl_one F.RT.sl_one F.RR.sl_one (k' := k) (a' := a) (b' := b) (c' := c) (fin' := fin)
  have ty := F.ty
  have ne : ∀ x ∈ bD ++ (bT ++ bR), x ≠ p2 := fun x hx e => L.1 (by rw [← e]; exact hx)
  refine ⟨k, a, b, c, fin, d, t, r, D, T, rs, bD, bT, bR, w8.set p2 (.cells 72 false (frC k a b c fin d t r)), ?_, ty.stay (by simp) fun x hx => AH.set_getN _ _ (ne x hx), F.nd, F.lo, F.lD, F.lT, F.lR, ?_, ?_⟩
  · rw [at_M Try.func131 4095 (by decide) 12 (by decide) (by kernel_rfl) []]
    have lz : ldVar Try.prog 72 p2 0 (w8.set p2 (.cells 72 false (frC k a b c fin d t r))) = some (.agg (frC k a b c fin d t r)) := by simp [ldVar, frC]
    simp [Try.f131, U, t2, t3, f8, st, lz]
  · have := P.l2
    exact (F.X.mono (by omega)).set_ne _ (by omega) fun e => by have := hbs _ e; omega
  · have := P.l2
    exact ⟨by have := F.KK.next; simpa using this, fun y hy hyq => by rw [AH.set_getN _ _ (by omega)]; exact F.KK.get y hy hyq⟩
end Go.Ev

/- A drawn frame with one odd field. -/
namespace Go.Ev
open Go Go.Proofs
set_option linter.unusedSimpArgs false
set_option linter.unusedVariables false

section
variable {q p K K' : Nat} {v : AV} {bs : List Nat} {H0 h h' : AH} {k a b c k' a' b' c' : Int} {fin fin' : Bool} {d t r d' t' r' : AV} {D T D' T' : List Int} {rs rs' : List (Int × Int)} {bD bT bR bD' bT' bR' : List Nat}
/-- its ranges turned in place -/
theorem FrB.rsSet (F : FrB q v bs K H0 p k a b c fin d t r D T rs bD bT bR h) (R' : (Ty.sl 94 tT94).R true h' [r] rs' bR) (kl : KoL bR h h') (hl : rs'.length ≤ 66) : FrB q v bs K H0 p k a b c fin d t r D T rs' bD bT bR h' := by
  have hnd := F.nd
  have hn := kl.next
  have lo := F.lo
  have bn := F.bn
  have qn := F.qn
  have d1 : ∀ x ∈ bD, x ∉ bR := fun x hx => by simp only [List.nodup_append, List.mem_append] at hnd; grind
  have d2 : ∀ x ∈ bT, x ∉ bR := fun x hx => by simp only [List.nodup_append, List.mem_append] at hnd; grind
  have hp : p ∉ bR := fun e => F.pn (by simp [e])
  have lR : ∀ x ∈ bR, H0.next ≤ x := fun x hx => lo x (by simp [hx])
  exact ⟨by rw [kl.get p F.ps.2 hp]; exact F.g, F.RD.koL kl d1, F.RT.koL kl d2, R', F.nd, F.lo, F.pn, ⟨F.ps.1, by rw [hn]; exact F.ps.2⟩, F.ik, F.ia, F.ib, F.ic,
    F.X.koS kl.koS (fun e => by have := lR q e; omega) fun x hx e => by have := lR x e; have := bn x hx; omega, F.KK.trans kl.koS fun x hx => .inr (lR x hx), F.qn, F.bn, F.lD, F.lT, hl⟩
end
structure OdS (q p p2 : Nat) (τ : Tm) : Prop where
  t0 : τ 0 = .ptr q 0
  t3 : τ 3 = .ptr p 0
  t4 : τ 4 = .ptr p2 0
structure OdZ (p p2 : Nat) (H0 : AH) (L : List Nat) (h : AH) : Prop where
  g : h.get p2 = some (.cells 72 false z72)
  ne : p2 ≠ p
  l2 : H0.next ≤ p2 ∧ p2 < h.next
  nL : p2 ∉ L
def OdI9 (q : Nat) (v : AV) (bs : List Nat) (K : Nat) (H0 : AH) (p p2 : Nat) (τ : Tm) (h : AH) : Prop :=
  ∃ (k a b c : Int) (fin : Bool) (d t r : AV) (D T : List Int) (rs : List (Int × Int)) (bD bT bR : List Nat), OdS q p p2 τ ∧ FrB q v bs K H0 p k a b c fin d t r D T rs bD bT bR h ∧ OdZ p p2 H0 (bD ++ (bT ++ bR)) h
theorem OdZ.go {q p p2 : Nat} {H0 h h' : AH} {L : List Nat} (Z : OdZ p p2 H0 L h) (k : KoS [q] h h') (hq : q < H0.next) : OdZ p p2 H0 L h' := by
  have := Z.l2; have := k.next
  exact ⟨by rw [k.get _ (by omega) (by simp; omega)]; exact Z.g, Z.ne, by omega, Z.nL⟩
theorem OdZ.st {p p2 : Nat} {H0 h : AH} {L L' : List Nat} (Z : OdZ p p2 H0 L h) (x : Blk) (hL : p2 ∉ L') : OdZ p p2 H0 L' (h.set p x) :=
  ⟨by rw [AH.set_getN _ _ Z.ne]; exact Z.g, Z.ne, by simpa using Z.l2, hL⟩
/-! the loop of case 9 -/
def Od9 (q : Nat) (v : AV) (bs : List Nat) (K : Nat) (H0 : AH) (p p2 N : Nat) (dd : Nat) (τ : Tm) (h : AH) : Prop :=
  ∃ (j : Nat) (k a b c : Int) (fin : Bool) (d t r : AV) (D T : List Int) (rs : List (Int × Int)) (bD bT bR : List Nat), j + dd = N ∧ τ 5 = .int .i64 dd ∧ rs.length = j ∧ OdS q p p2 τ ∧ FrB q v bs K H0 p k a b c fin d t r D T rs bD bT bR h ∧ OdZ p p2 H0 (bD ++ (bT ++ bR)) h
set_option maxRecDepth 20000 in
theorem od9Loop {q K p p2 N : Nat} {v : AV} {bs : List Nat} {H0 h0 : AH} (hN : N ≤ 66) (m : Nat) (hm : 300 ≤ m) (τ : Tm) (hI : Od9 q v bs K H0 p p2 N N τ h0) :
    ∃ e τ' H', evLoop Try.prog (ev Try.prog m) m (lp Try.prog 132 226492406) τ h0 = some (e, τ', H') ∧ e = .exit 1 ∧ Od9 q v bs K H0 p p2 N 0 τ' H' := by
  refine loop_rule (d := N) (Od9 q v bs K H0 p p2 N) (fun e τ' H' => e = .exit 1 ∧ Od9 q v bs K H0 p p2 N 0 τ' H') ?_ hI (by omega)
  rintro dd τ h ⟨j, k, a, b, c, fin, d, t, r, D, T, rs, bD, bT, bR, hj, t5, hl, ⟨t0, t3, t4⟩, F, Z⟩
  rw [lp_M Try.func132 226492406 (by decide) 28 (by decide) (by kernel_rfl) []]
  by_cases hd0 : dd = 0
  · subst hd0
    simp [Try.f132, U, t5]
    exact ⟨j, k, a, b, c, fin, d, t, r, D, T, rs, bD, bT, bR, hj, by simp [t5], hl, ⟨by simp [t0], by simp [t3], by simp [t4]⟩, F, Z⟩
  · obtain ⟨i, rfl⟩ : ∃ i, dd = i + 1 := ⟨dd - 1, by omega⟩
    obtain ⟨f0, f1, f2, f3, f4, f5, f6, f7, f8⟩ := F.ld
    obtain ⟨Q, hQ⟩ : ∃ Q : Int, Q = ((i + 1 : Nat) : Int) := ⟨_, rfl⟩
    rw [← hQ] at t5
    have hp := eq_true (show (0 : Int) < Q by omega)
    obtain ⟨A, hA⟩ : ∃ A : Int, A = 9000 - 3 * Q := ⟨_, rfl⟩
    have w1 : IntKind.i64.wrap (3 * Q) = 3 * Q := wrap_i64 (by omega) (by omega)
    have w2 : IntKind.i64.wrap (9000 - 3 * Q) = A := by rw [hA]; exact wrap_i64 (by omega) (by omega)
    have w3 : IntKind.i64.wrap (A + 1) = A + 1 := wrap_i64 (by omega) (by omega)
    have w4 : IntKind.i64.wrap (Q - 1) = (i : Int) := by rw [wrap_i64 (by omega) (by omega)]; omega
    have hnR : bR.Nodup := by have := F.nd; simp only [List.nodup_append] at this; grind
    obtain ⟨r2, Y, br2, e2, R2, nd2, bb2, ks2⟩ := ap94 F.RR hnR (a := A) (b := A + 1) (InK.i64 (by omega) (by omega)) (InK.i64 (by omega) (by omega)) (by omega)
    obtain ⟨W, hW⟩ : ∃ W : AH, W = h.push (.cells 94 false [.int .i64 A, .int .i64 (A + 1)]) := ⟨_, rfl⟩
    rw [← hW] at e2
    have hW' := hW.symm
    have nY := ks2.next
    have lR : ∀ x ∈ bR, H0.next ≤ x := fun x hx => F.lo x (by simp [hx])
    have hnd := F.nd
    have d1 : ∀ x ∈ bD, x ∉ bR := fun x hx => by simp only [List.nodup_append, List.mem_append] at hnd; grind
    have d2 : ∀ x ∈ bT, x ∉ bR := fun x hx => by simp only [List.nodup_append, List.mem_append] at hnd; grind
    have hpR : p ∉ bR := fun e => F.pn (by simp [e])
    have hp2R : p2 ∉ bR := fun e => Z.nL (by simp [e])
    have F1 : FrB q v bs K H0 p k a b c fin d t .nilSlice D T [] bD bT [] (Y.set p (.cells 72 false (frC k a b c fin d t .nilSlice))) := by
      have qn := F.qn; have bn := F.bn; have ps := F.ps
      refine ⟨by simp, (F.RD.koS ks2 d1).stay (by simp) fun x hx => AH.set_getN _ _ (fun e => F.pn (by rw [← e]; simp [hx])), (F.RT.koS ks2 d2).stay (by simp) fun x hx => AH.set_getN _ _ (fun e => F.pn (by rw [← e]; simp [hx])), .inl ⟨rfl, rfl, rfl⟩, ?_, ?_, ?_, ⟨ps.1, by simp; omega⟩, F.ik, F.ia, F.ib, F.ic, ?_, ?_, qn, bn, F.lD, F.lT, by simp⟩
      · simp only [List.nodup_append, List.mem_append] at hnd ⊢; grind
      · intro x hx; exact F.lo x (by simp at hx ⊢; rcases hx with h | h <;> simp [h])
      · intro e; exact F.pn (by simp at e ⊢; rcases e with h | h <;> simp [h])
      · exact (F.X.koS ks2 (fun e => by have := lR q e; omega) fun x hx e => by have := lR x e; have := bn x hx; omega).set_ne _ (by omega) (fun e => by have := bn p e; omega)
      · have kk := F.KK.trans ks2 fun x hx => .inr (lR x hx)
        exact ⟨by have := kk.next; simpa using this, fun x hx hxq => by rw [AH.set_getN _ _ (by omega)]; exact kk.get x hx hxq⟩
    have ps := F.ps
    have gY : Y.get p = some (.cells 72 false (frC k a b c fin d t r)) := by rw [ks2.get p ps.2 hpR]; exact F.g
    have stY : stVar Try.prog 70 p 7 r2 Y = some (Y.set p (.cells 72 false (frC k a b c fin d t r2))) := by
      have o1 := R2.sl_one
      unfold frC at gY ⊢
      simp [stVar, gY, cells_one o1, o1, spl]
    have mem2 : ∀ x ∈ br2, x ∈ bR ∨ h.next ≤ x := bb2
    have memD : ∀ x ∈ bD, x < h.next := fun x hx => F.RD.mem x hx
    have memT : ∀ x ∈ bT, x < h.next := fun x hx => F.RT.mem x hx
    have npx : ∀ x ∈ br2, x ≠ p := fun x hx e => by
      rcases bb2 x hx with h' | h'
      · exact hpR (by rw [← e]; exact h')
      · omega
    have R2' : (Ty.sl 94 tT94).R true (Y.set p (.cells 72 false (frC k a b c fin d t .nilSlice))) [r2] (rs ++ [(A, A + 1)]) br2 := R2.stay (by simp) fun x hx => AH.set_getN _ _ (npx x hx)
    have F2 := F1.stR R2' nd2 (fun x hx => ⟨fun e => by
        simp only [List.mem_append] at e
        rcases bb2 x hx with h' | h'
        · rcases e with e | e
          · exact d1 x e h'
          · exact d2 x e h'
        · rcases e with e | e
          · have := memD x e; omega
          · have := memT x e; omega, npx x hx, by
        rcases bb2 x hx with h' | h'
        · exact lR x h'
        · have := F.KK.next; omega⟩) (by simp; omega)
    rw [set_set] at F2
    have l2 := Z.l2
    simp [Try.f132, U, t3, t5, hp, f7, w1, w2, w3, w4, hW', e2, stY, fillA, zerosA, spl]
    refine ⟨i, by omega, j + 1, k, a, b, c, fin, d, t, r2, D, T, rs ++ [(A, A + 1)], bD, bT, br2, by omega, by simp, by simp [hl], ⟨by simp [t0], by simp [t3], by simp [t4]⟩, F2, ⟨by rw [AH.set_getN _ _ Z.ne, ks2.get _ l2.2 hp2R]; exact Z.g, Z.ne, ⟨l2.1, by simp; omega⟩, fun e => ?_⟩⟩
    simp only [List.mem_append] at e
    rcases e with e | e | e
    · exact Z.nL (by simp [e])
    · exact Z.nL (by simp [e])
    · rcases bb2 _ e with h' | h'
      · exact hp2R h'
      · omega
end Go.Ev

/- A drawn frame with one odd field: the whole; a drawn frame for the bytes. -/
namespace Go.Ev
open Go Go.Proofs
set_option linter.unusedSimpArgs false
set_option linter.unusedVariables false

/-- a frame made behind H0 -/
def FrO2 (q : Nat) (v : AV) (bs : List Nat) (K : Nat) (H0 : AH) (fr : List AV) (h : AH) : Prop :=
  ∃ (k a b c : Int) (fin : Bool) (d t r : AV) (D T : List Int) (rs : List (Int × Int)) (bD bT bR : List Nat), fr = frC k a b c fin d t r ∧
    (Ty.sl 5 (.int .u8)).R true h [d] D bD ∧ (Ty.sl 5 (.int .u8)).R true h [t] T bT ∧ (Ty.sl 94 tT94).R true h [r] rs bR ∧ InK .i64 k ∧ InK .i64 a ∧ InK .i64 b ∧ InK .i64 c ∧ (bD ++ (bT ++ bR)).Nodup ∧ (∀ x ∈ bD ++ (bT ++ bR), H0.next ≤ x) ∧ D.length ≤ 1600 ∧ T.length ≤ 20 ∧ rs.length ≤ 66 ∧ SX h q v bs K ∧ KoS [q] H0 h
theorem FrB.o2 {q p K : Nat} {v : AV} {bs : List Nat} {H0 h : AH} {k a b c : Int} {fin : Bool} {d t r : AV} {D T : List Int} {rs : List (Int × Int)} {bD bT bR : List Nat} (F : FrB q v bs K H0 p k a b c fin d t r D T rs bD bT bR h) : FrO2 q v bs K H0 (frC k a b c fin d t r) h :=
  ⟨k, a, b, c, fin, d, t, r, D, T, rs, bD, bT, bR, rfl, F.RD, F.RT, F.RR, F.ik, F.ia, F.ib, F.ic, F.nd, F.lo, F.lD, F.lT, F.lR, F.X, F.KK⟩
set_option maxRecDepth 20000 in
theorem od_end {q K p p2 : Nat} {v : AV} {bs : List Nat} {H0 h : AH} {τ : Tm} (I : OdI9 q v bs K H0 p p2 τ h) (m : Nat) (hm : 300 ≤ m) :
    ∃ fr h', resM Try.prog [ResultVar.cell 4 72] (evAt Try.prog (ev Try.prog m) m 132 7 τ h) = some (.agg fr, h') ∧ FrO2 q v bs K H0 fr h' := by
  obtain ⟨k, a, b, c, fin, d, t, r, D, T, rs, bD, bT, bR, ⟨t0, t3, t4⟩, F, Z⟩ := I
  obtain ⟨f0, f1, f2, f3, f4, f5, f6, f7, f8⟩ := F.ld
  have st := st72 (X := h) Z.g F.RD.sl_one F.RT.sl_one F.RR.sl_one (k' := k) (a' := a) (b' := b) (c' := c) (fin' := fin)
  have ne : ∀ x ∈ bD ++ (bT ++ bR), x ≠ p2 := fun x hx e => Z.nL (by rw [← e]; exact hx)
  have l2 := Z.l2
  have qn := F.qn; have bn := F.bn
  have lz : ldVar Try.prog 72 p2 0 (h.set p2 (.cells 72 false (frC k a b c fin d t r))) = some (.agg (frC k a b c fin d t r)) := by simp [ldVar, frC]
  rw [at_M Try.func132 7 (by decide) 3 (by decide) (by kernel_rfl) []]
  refine ⟨_, h.set p2 (.cells 72 false (frC k a b c fin d t r)), by simp [Try.f132, U, t3, t4, f8, st, lz], k, a, b, c, fin, d, t, r, D, T, rs, bD, bT, bR, rfl, F.RD.stay (by simp) fun x hx => AH.set_getN _ _ (ne x (by simp [hx])), F.RT.stay (by simp) fun x hx => AH.set_getN _ _ (ne x (by simp [hx])), F.RR.stay (by simp) fun x hx => AH.set_getN _ _ (ne x (by simp [hx])), F.ik, F.ia, F.ib, F.ic, F.nd, F.lo, F.lD, F.lT, F.lR, F.X.set_ne _ (by omega) fun e => by have := bn _ e; omega, ⟨by have := F.KK.next; simpa using this, fun y hy hyq => by rw [AH.set_getN _ _ (by omega)]; exact F.KK.get y hy hyq⟩⟩
def oddLens : List Int := [0, 1, 7, 8, 9, 64, 65, 200, 201, 1500, 1501]
set_option maxRecDepth 20000 in
theorem od_ev {q K : Nat} {v : AV} {bs : List Nat} {H0 h : AH} {fr : List AV} (I : FrO2 q v bs K H0 fr h) (qn : q < H0.next) (bn : ∀ x ∈ bs, x < H0.next) (hK : K ≤ 700000) (m : Nat) (hm : 20030 ≤ m) :
    ∃ fr' h', ev Try.prog m 132 [.ptr q 0, .agg fr] h = some (.agg fr', h') ∧ FrO2 q v bs (K + 2000) H0 fr' h' := by
  obtain ⟨m, rfl⟩ : ∃ k, m = k + 1 := ⟨m - 1, by omega⟩
  obtain ⟨k, a, b, c, fin, d, t, r, D, T, rs, bD, bT, bR, rfl, RD, RT, RR, ik, ia, ib, ic, nd, lo, lD, lT, lR, X, KK⟩ := I
  have KKn := KK.next
  obtain ⟨Z1, hZ1⟩ : ∃ Z : AH, Z = h.push (.cells 72 false (frC k a b c fin d t r)) := ⟨_, rfl⟩
  have k1 : Kp h Z1 := by rw [hZ1]; exact (Kp.refl h).push _
  have n1 : Z1.next = h.next + 1 := by rw [hZ1]; simp
  have g1 : Z1.get h.next = some (.cells 72 false (frC k a b c fin d t r)) := by rw [hZ1]; simp
  obtain ⟨Z2, hZ2⟩ : ∃ Z : AH, Z = Z1.push (.cells 72 false z72) := ⟨_, rfl⟩
  have k2 : Kp Z1 Z2 := by rw [hZ2]; exact (Kp.refl Z1).push _
  have n2 : Z2.next = Z1.next + 1 := by rw [hZ2]; simp
  have g2 : Z2.get Z1.next = some (.cells 72 false z72) := by rw [hZ2]; simp
  have k12 := k1.trans k2
  have mem : ∀ x ∈ bD ++ (bT ++ bR), x < h.next := fun x hx => by
    simp only [List.mem_append] at hx
    rcases hx with hx | hx | hx
    · exact RD.mem x hx
    · exact RT.mem x hx
    · exact RR.mem x hx
  have F0 : FrB q v bs K H0 h.next k a b c fin d t r D T rs bD bT bR Z2 :=
    ⟨(k2.get _ (by omega)).trans g1, RD.kp k12, RT.kp k12, RR.kp k12, nd, lo, fun e => by have := mem _ e; omega, by omega, ik, ia, ib, ic, X.kp k12, koS1 KK k12.koS1, qn, bn, lD, lT, lR⟩
  have Q0 : OdZ h.next Z1.next H0 (bD ++ (bT ++ bR)) Z2 := ⟨g2, by omega, by omega, fun e => by have := mem _ e; omega⟩
  obtain ⟨x, h3, e3, a3, X3, ks3, n3⟩ := F0.X.next (by omega) 12 (by omega) (by omega) m (by omega)
  have F := F0.go X3 ks3
  have Q := Q0.go ks3 qn
  clear F0 Q0
  obtain ⟨f0, f1, f2, f3, f4, f5, f6, f7, f8⟩ := F.ld
  obtain ⟨s0, s1, s2, s3, s4, s5, s6, s7⟩ := F.sto
  have ro := RD.sl_one; have rt := RT.sl_one; have rr := RR.sl_one
  have hz1 := hZ1.symm
  have hz2 := hZ2.symm
  have key : ∃ τ h', ev Try.prog (m + 1) 132 [.ptr q 0, .agg (frC k a b c fin d t r)] h = resM Try.prog [ResultVar.cell 4 72] (evAt Try.prog (ev Try.prog m) m 132 7 τ h') ∧ OdI9 q v bs (K + 2000) H0 h.next Z1.next τ h' := by
    have stay : ∀ (τ : Tm), OdS q h.next Z1.next τ → OdI9 q v bs (K + 2000) H0 h.next Z1.next τ h3 := fun τ TT =>
      ⟨k, a, b, c, fin, d, t, r, D, T, rs, bD, bT, bR, TT, F.go (X3.mono (by omega : K + 3 ≤ K + 2000)) (KoS.refl _ _), Q⟩
    simp only [z72, frC] at hz1 hz2
    rw [ev_M Try.func132 ok132 [7] m _ h (by simp [Try.f132])]
    by_cases c0 : x = 0
    · subst c0
      obtain ⟨y, h4, e4, a4, X4, k4, n4⟩ := F.X.next (by omega) 60 (by omega) (by omega) m (by omega)
      have F1 := F.go (X4.mono (by omega : K + 3 + 3 ≤ K + 2000)) k4
      have Q1 := Q.go k4 qn
      have st := F1.sto.1 ((y : Int) - 2)
      have w1 : IntKind.i64.wrap ((y : Int) - 2) = (y : Int) - 2 := wrap_i64 (by omega) (by omega)
      simp only [frC] at st
      refine ⟨_, _, by simp [Try.f132, U, tm0, frC, hz1, hz2, e3, ro, rt, rr, e4, w1, st]; rfl, (y : Int) - 2, a, b, c, fin, d, t, r, D, T, rs, bD, bT, bR, ⟨by simp, by simp, by simp⟩, F1.st (InK.i64 (by omega) (by omega)) F1.ia F1.ib F1.ic, Q1.st _ Q.nL⟩
    by_cases c1 : x = 1
    · subst c1
      obtain ⟨n, h4, e4, i4, X4, k4⟩ := F.X.number (by omega) m (by omega)
      have F1 := F.go (X4.mono (by omega : K + 3 + 9 ≤ K + 2000)) k4
      have Q1 := Q.go k4 qn
      have st := F1.sto.2.1 n
      simp only [frC] at st
      refine ⟨_, _, by simp [Try.f132, U, tm0, frC, hz1, hz2, e3, ro, rt, rr, e4, st]; rfl, k, n, b, c, fin, d, t, r, D, T, rs, bD, bT, bR, ⟨by simp, by simp, by simp⟩, F1.st F1.ik i4 F1.ib F1.ic, Q1.st _ Q.nL⟩
    by_cases c2 : x = 2
    · subst c2
      obtain ⟨n, h4, e4, i4, X4, k4⟩ := F.X.number (by omega) m (by omega)
      have F1 := F.go (X4.mono (by omega : K + 3 + 9 ≤ K + 2000)) k4
      have Q1 := Q.go k4 qn
      have st := F1.sto.2.2.1 n
      simp only [frC] at st
      refine ⟨_, _, by simp [Try.f132, U, tm0, frC, hz1, hz2, e3, ro, rt, rr, e4, st]; rfl, k, a, n, c, fin, d, t, r, D, T, rs, bD, bT, bR, ⟨by simp, by simp, by simp⟩, F1.st F1.ik F1.ia i4 F1.ic, Q1.st _ Q.nL⟩
    by_cases c3 : x = 3
    · subst c3
      obtain ⟨n, h4, e4, i4, X4, k4⟩ := F.X.number (by omega) m (by omega)
      have F1 := F.go (X4.mono (by omega : K + 3 + 9 ≤ K + 2000)) k4
      have Q1 := Q.go k4 qn
      have st := F1.sto.2.2.2.1 n
      simp only [frC] at st
      refine ⟨_, _, by simp [Try.f132, U, tm0, frC, hz1, hz2, e3, ro, rt, rr, e4, st]; rfl, k, a, b, n, fin, d, t, r, D, T, rs, bD, bT, bR, ⟨by simp, by simp, by simp⟩, F1.st F1.ik F1.ia F1.ib i4, Q1.st _ Q.nL⟩
    by_cases c4 : x = 4
    · subst c4
      have F1 := F.go (X3.mono (by omega : K + 3 ≤ K + 2000)) (KoS.refl _ _)
      have st := s4 (!fin)
      simp only [frC] at st
      refine ⟨_, _, by simp [Try.f132, U, tm0, frC, hz1, hz2, e3, ro, rt, rr, f4, st]; rfl, k, a, b, c, !fin, d, t, r, D, T, rs, bD, bT, bR, ⟨by simp, by simp, by simp⟩, F1.st F1.ik F1.ia F1.ib F1.ic, Q.st _ Q.nL⟩
    by_cases c5 : x = 5
    · subst c5
      obtain ⟨A1, hA⟩ : ∃ A : AH, A = h3.push (.cells 3 false (oddLens.map (.int .i64))) := ⟨_, rfl⟩
      have kA : Kp h3 A1 := by rw [hA]; exact (Kp.refl h3).push _
      have nA : A1.next = h3.next + 1 := by rw [hA]; simp
      have gA : A1.get h3.next = some (.cells 3 false (oddLens.map (.int .i64))) := by rw [hA]; simp
      obtain ⟨y, h4, e4, a4, X4, k4, n4⟩ := (X3.kp kA).next (by omega) 11 (by omega) (by omega) m (by omega)
      have g4 : h4.get h3.next = some (.cells 3 false (oddLens.map (.int .i64))) := by rw [k4.get _ (by omega) (by simp; omega)]; exact gA
      have gk := lk_get (l := oddLens) (k := y) (by simp [oddLens]; omega)
      have il : 0 ≤ lkP oddLens y ∧ lkP oddLens y ≤ 1501 := by
        unfold lkP
        cases e : oddLens[(y : Int).toNat]? with
        | none => simp
        | some z => have := List.mem_of_getElem? e; simp only [oddLens, List.mem_cons, List.not_mem_nil, or_false] at this; simp; omega
      generalize lkP oddLens y = N at *
      have ldk : ldVar Try.prog 3 h3.next y h4 = some (.int .i64 N) := by simp [ldVar, g4, gk]
      have ix : idxA Try.prog 60 (.slice h3.next 0 11) (.int .i64 y) = some (.ptr h3.next y) := by simp [idxA]; omega
      obtain ⟨l, nd_, h5, nb, e5, hl, hby, BB, hnb, X5, k5⟩ := X4.bytes (by omega) N (by omega) m (by omega)
      have kk : KoS [q] h3 h5 := koS1 (koS1 kA.koS1 k4) k5
      have F1 := F.go (X5.mono (by omega : K + 3 + 3 + N.toNat ≤ K + 2000)) kk
      have Q1 := Q.go kk qn
      have st := F1.sto.2.2.2.2.2.1 nd_ BB.bs.one
      have mem3 : ∀ x ∈ bD ++ (bT ++ bR), x < h3.next := fun x hx => by have := mem x hx; omega
      have l2 := Q.l2
      have hA' := hA.symm
      simp only [oddLens, List.map_cons, List.map_nil] at hA'
      simp only [frC] at st
      refine ⟨_, _, by simp [Try.f132, U, tm0, frC, hz1, hz2, e3, ro, rt, rr, hA', e4, ix, ldk, e5, st, zerosA, fillA, spl]; rfl, k, a, b, c, fin, nd_, t, r, l, T, rs, [nb], bT, bR, ⟨by simp, by simp, by simp⟩, F1.stD BB hby ⟨fun e => by have := mem3 nb (by simp only [List.mem_append] at e ⊢; exact .inr e); omega, by omega, by omega⟩ (by omega), Q1.st _ (fun e => by simp only [List.cons_append, List.nil_append, List.mem_cons] at e; rcases e with e | e; omega; exact Q.nL (by simp only [List.mem_append] at e ⊢; exact .inr e))⟩
    by_cases c6 : x = 6
    · subst c6
      obtain ⟨y, h4, e4, a4, X4, k4, n4⟩ := X3.next (by omega) 10 (by omega) (by omega) m (by omega)
      obtain ⟨l, nd_, h5, nb, e5, hl, hby, BB, hnb, X5, k5⟩ := X4.bytes (by omega) y (by omega) m (by omega)
      have kk : KoS [q] h3 h5 := koS1 k4 k5
      have F1 := F.go (X5.mono (by omega : K + 3 + 3 + ((y : Int)).toNat ≤ K + 2000)) kk
      have Q1 := Q.go kk qn
      have st := F1.sto.2.2.2.2.2.2.1 nd_ BB.bs.one
      have mem3 : ∀ x ∈ bD ++ (bT ++ bR), x < h3.next := fun x hx => by have := mem x hx; omega
      have l2 := Q.l2
      simp only [frC] at st
      refine ⟨_, _, by simp [Try.f132, U, tm0, frC, hz1, hz2, e3, ro, rt, rr, e4, e5, st]; rfl, k, a, b, c, fin, d, nd_, r, D, l, rs, bD, [nb], bR, ⟨by simp, by simp, by simp⟩, F1.stT BB hby ⟨fun e => by have := mem3 nb (by simp only [List.mem_append] at e ⊢; rcases e with e | e; exact .inl e; exact .inr (.inr e)); omega, by omega, by omega⟩ (by omega), Q1.st _ (fun e => by simp only [List.mem_append, List.mem_cons, List.not_mem_nil, or_false] at e; rcases e with e | e | e; exact Q.nL (by simp [e]); omega; exact Q.nL (by simp [e]))⟩
    by_cases c7 : x = 7
    · subst c7
      have L0 := RR.lenA (P := Try.prog) (T := 70) (by simp)
      have L0 : ∀ h', lenA Try.prog 70 r h' = some (.int .i64 rs.length) := L0
      by_cases ce : rs.length = 0
      · have cp : ((0:Int) < (rs.length : Int)) = False := eq_false (by omega)
        have cp' : (0 < rs.length) = False := eq_false (by omega)
        exact ⟨_, _, by simp [Try.f132, U, tm0, frC, hz1, hz2, e3, ro, rt, rr, f7, L0, cp, cp', ce]; rfl, stay _ ⟨by simp, by simp, by simp⟩⟩
      · have cp : ((0:Int) < (rs.length : Int)) = True := eq_true (by omega)
        have cp' : (0 < rs.length) = True := eq_true (by omega)
        have ce' : (rs = []) = False := eq_false (fun e => ce (by rw [e]; rfl))
        obtain ⟨y, h4, e4, a4, X4, k4, n4⟩ := X3.next (by omega) rs.length (by omega) (by omega) m (by omega)
        obtain ⟨n, h5, e5, i5, X5, k5⟩ := X4.number (by omega) m (by omega)
        have kk : KoS [q] h3 h5 := koS1 k4 k5
        have F4 := F.go X4 k4
        have F1 := F.go (X5.mono (by omega : K + 3 + 3 + 9 ≤ K + 2000)) kk
        have Q1 := Q.go kk qn
        have hnR : bR.Nodup := by simp only [List.nodup_append] at nd; grind
        obtain ⟨bb, o, A1, A2, u1, u2, u3, u4, u5, u6, u7, u8⟩ := stRg F1.RR hnR (k := y) (by omega) i5
        have f74 := F4.ld.2.2.2.2.2.2.2.1
        have f75 := F1.ld.2.2.2.2.2.2.2.1
        have l2 := Q1.l2
        have hkl := u6.next
        refine ⟨_, _, by simp [Try.f132, U, tm0, frC, hz1, hz2, e3, ro, rt, rr, f7, f74, f75, L0, cp, cp', ce', e4, e5, u1, u3, evHist, ObsOk, ObOk, List.getElem?_cons_zero]; rfl, k, a, b, c, fin, d, t, r, D, T, _, bD, bT, bR, ⟨by simp, by simp, by simp⟩, F1.rsSet u5 u6 (by simp; omega), ⟨?_, Q1.ne, ⟨l2.1, by rw [hkl]; exact l2.2⟩, Q1.nL⟩⟩
        rw [u6.get _ l2.2 (fun e => Q1.nL (by simp [e]))]; exact Q1.g
    by_cases c8 : x = 8
    · subst c8
      have L0 := RR.lenA (P := Try.prog) (T := 70) (by simp)
      have L0 : ∀ h', lenA Try.prog 70 r h' = some (.int .i64 rs.length) := L0
      by_cases ce : rs.length = 0
      · have cp : ((0:Int) < (rs.length : Int)) = False := eq_false (by omega)
        have cp' : (0 < rs.length) = False := eq_false (by omega)
        exact ⟨_, _, by simp [Try.f132, U, tm0, frC, hz1, hz2, e3, ro, rt, rr, f7, L0, cp, cp', ce]; rfl, stay _ ⟨by simp, by simp, by simp⟩⟩
      · have cp : ((0:Int) < (rs.length : Int)) = True := eq_true (by omega)
        have cp' : (0 < rs.length) = True := eq_true (by omega)
        have ce' : (rs = []) = False := eq_false (fun e => ce (by rw [e]; rfl))
        obtain ⟨y, h4, e4, a4, X4, k4, n4⟩ := X3.next (by omega) rs.length (by omega) (by omega) m (by omega)
        obtain ⟨n, h5, e5, i5, X5, k5⟩ := X4.number (by omega) m (by omega)
        have kk : KoS [q] h3 h5 := koS1 k4 k5
        have F4 := F.go X4 k4
        have F1 := F.go (X5.mono (by omega : K + 3 + 3 + 9 ≤ K + 2000)) kk
        have Q1 := Q.go kk qn
        have hnR : bR.Nodup := by simp only [List.nodup_append] at nd; grind
        obtain ⟨bb, o, A1, A2, u1, u2, u3, u4, u5, u6, u7, u8⟩ := stRg F1.RR hnR (k := y) (by omega) i5
        have f74 := F4.ld.2.2.2.2.2.2.2.1
        have f75 := F1.ld.2.2.2.2.2.2.2.1
        have l2 := Q1.l2
        have hkl := u8.next
        refine ⟨_, _, by simp [Try.f132, U, tm0, frC, hz1, hz2, e3, ro, rt, rr, f7, f74, f75, L0, cp, cp', ce', e4, e5, u1, u4, evHist, ObsOk, ObOk, List.getElem?_cons_zero]; rfl, k, a, b, c, fin, d, t, r, D, T, _, bD, bT, bR, ⟨by simp, by simp, by simp⟩, F1.rsSet u7 u8 (by simp; omega), ⟨?_, Q1.ne, ⟨l2.1, by rw [hkl]; exact l2.2⟩, Q1.nL⟩⟩
        rw [u8.get _ l2.2 (fun e => Q1.nL (by simp [e]))]; exact Q1.g
    by_cases c9 : x = 9
    · subst c9
      obtain ⟨A1, hA⟩ : ∃ A : AH, A = h3.push (.cells 94 false []) := ⟨_, rfl⟩
      have kA : Kp h3 A1 := by rw [hA]; exact (Kp.refl h3).push _
      have nA : A1.next = h3.next + 1 := by rw [hA]; simp
      have gA : A1.get h3.next = some (.cells 94 false []) := by rw [hA]; simp
      have FA := F.go (X3.kp kA) kA.koS1
      have QA := Q.go (kA.koS1 (q := q)) qn
      have stA := FA.sto.2.2.2.2.2.2.2 (.slice h3.next 0 0) rfl
      have mem3 : ∀ x ∈ bD ++ (bT ++ bR), x < h3.next := fun x hx => by have := mem x hx; omega
      have l2 := Q.l2
      have FB := FA.stR (empty94 (by omega) gA) (by simp) (fun x hx => by simp at hx; subst hx; exact ⟨fun e => by have := mem3 _ (by simp only [List.mem_append] at e ⊢; rcases e with e | e; exact .inl e; exact .inr (.inl e)); omega, by omega, by omega⟩) (by simp)
      have QB : OdZ h.next Z1.next H0 (bD ++ (bT ++ [h3.next])) (A1.set h.next (.cells 72 false (frC k a b c fin d t (.slice h3.next 0 0)))) := QA.st _ (fun e => by simp only [List.mem_append, List.mem_cons, List.not_mem_nil, or_false] at e; rcases e with e | e | e; exact Q.nL (by simp [e]); exact Q.nL (by simp [e]); omega)
      obtain ⟨B, hB⟩ : ∃ B : AH, B = A1.set h.next (.cells 72 false (frC k a b c fin d t (.slice h3.next 0 0))) := ⟨_, rfl⟩
      rw [← hB] at stA FB QB
      have hA' := hA.symm
      clear hA hB
      obtain ⟨y, h5, e5, a5, X5, k5, n5⟩ := FB.X.next (by omega) 2 (by omega) (by omega) m (by omega)
      have FC := FB.go X5 k5
      have QC := QB.go k5 qn
      have w1 : IntKind.i64.wrap (64 + (y : Int)) = ((64 + y : Nat) : Int) := by rw [wrap_i64 (by omega) (by omega)]; omega
      simp [Try.f132, U, tm0, frC, hz1, hz2, e3, ro, rt, rr, hA', stA, e5, w1, zerosA, fillA, spl]
      generalize hLo : evLoop _ _ _ _ _ _ = R
      obtain ⟨e, τ', H', rfl, rfl, j, k', a', b', c', fin', d', t', r', D', T', rs', bD', bT', bR', hj, t5, hlr, TT, FF, ZZ⟩ := loop_at hLo (od9Loop (N := 64 + y) (q := q) (v := v) (bs := bs) (K := K + 3 + 3) (H0 := H0) (p := h.next) (p2 := Z1.next) (by omega) m (by omega) _ ⟨0, k, a, b, c, fin, d, t, .slice h3.next 0 0, D, T, [], bD, bT, [h3.next], by omega, by simp, rfl, ⟨by simp, by simp, by simp⟩, FC, QC⟩)
      exact ⟨_, _, by simp, k', a', b', c', fin', d', t', r', D', T', rs', bD', bT', bR', TT, FF.go (FF.X.mono (by omega)) (KoS.refl _ _), ZZ⟩
    have d0 : ((x : Int) == 0) = false := by simp; omega
    have d1 : ((x : Int) == 1) = false := by simp; omega
    have d2 : ((x : Int) == 2) = false := by simp; omega
    have d3 : ((x : Int) == 3) = false := by simp; omega
    have d4 : ((x : Int) == 4) = false := by simp; omega
    have d5 : ((x : Int) == 5) = false := by simp; omega
    have d6 : ((x : Int) == 6) = false := by simp; omega
    have d7 : ((x : Int) == 7) = false := by simp; omega
    have d8 : ((x : Int) == 8) = false := by simp; omega
    have d9 : ((x : Int) == 9) = false := by simp; omega
    exact ⟨_, _, by simp [Try.f132, U, tm0, frC, hz1, hz2, e3, ro, rt, rr, d0, d1, d2, d3, d4, d5, d6, d7, d8, d9, c0, c1, c2, c3, c4, c5, c6, c7, c8, c9]; rfl, stay _ ⟨by simp, by simp, by simp⟩⟩
  obtain ⟨τ, h', e, I⟩ := key
  obtain ⟨fr', h'', e', J⟩ := od_end I m (by omega)
  exact ⟨fr', h'', by rw [e, e'], J⟩
set_option maxRecDepth 20000 in
/-- a frame drawn for its bytes -/
theorem drawFrame_ev {H : AH} {s : AV} {l : List Int} {bs : List Nat} (hs : (Ty.sl 5 (.int .u8)).R false H [s] l bs) (hl : l.length ≤ 1048576) (m : Nat) (hm : 20040 ≤ m) :
    ∃ (k a b c : Int) (fin : Bool) (d t r : AV) (D T : List Int) (rs : List (Int × Int)) (bD bT bR : List Nat) (H' : AH), ev Try.prog m 47 [s] H = some (.agg (frC k a b c fin d t r), H') ∧
      (Ty.sl 5 (.int .u8)).R true H' [d] D bD ∧ (Ty.sl 5 (.int .u8)).R true H' [t] T bT ∧ (Ty.sl 94 tT94).R true H' [r] rs bR ∧ InK .i64 k ∧ InK .i64 a ∧ InK .i64 b ∧ InK .i64 c ∧ (bD ++ (bT ++ bR)).Nodup ∧ (∀ x ∈ bD ++ (bT ++ bR), H.next ≤ x) ∧ D.length ≤ 1600 ∧ T.length ≤ 20 ∧ rs.length ≤ 66 ∧ Kp H H' := by
  obtain ⟨m, rfl⟩ : ∃ k, m = k + 1 := ⟨m - 1, by omega⟩
  have hv := hs.sl_one
  have hbs : ∀ b ∈ bs, b < H.next := fun b hb => hs.mem b hb
  obtain ⟨A, hA⟩ : ∃ A : AH, A = H.push (.cells 72 false z72) := ⟨_, rfl⟩
  have kA : Kp H A := by rw [hA]; exact (Kp.refl H).push _
  have nA : A.next = H.next + 1 := by rw [hA]; simp
  have gA : A.get H.next = some (.cells 72 false z72) := by rw [hA]; simp
  have hsrc := source_ev (hs.kp kA) hv hl m (by omega)
  have hI := source_I (hs.kp kA) hl
  obtain ⟨B, hB⟩ : ∃ B : AH, B = A.push (.cells 259 false (srcC s ⟨l, 0, l.length % 1000⟩)) := ⟨_, rfl⟩
  rw [← hB] at hsrc hI
  have kB : Kp A B := by rw [hB]; exact (Kp.refl A).push _
  have nB : B.next = A.next + 1 := by rw [hB]; simp
  have XB : SX B A.next s bs 0 := ⟨_, hI, Nat.le_refl _⟩
  obtain ⟨k, a, b, c, fin, d, t, r, D, T, rs, bD, bT, bR, h1, e1, ty, nd, lo, lD, lT, lR, X1, k1⟩ := XB.frame (by omega) m (by omega)
  obtain ⟨vd, vt, vr, bx, by_, bz, hc, hb, RD, RT, RR, ik, ia, ib, ic⟩ := o72 ty
  simp only [frC, List.cons.injEq, AV.int.injEq, AV.bool.injEq, true_and, and_true] at hc
  obtain ⟨rfl, rfl, rfl⟩ := hc
  rw [← hb] at nd lo
  clear hb
  have n1 := k1.next
  have mem : ∀ x ∈ bx ++ (by_ ++ bz), x < h1.next := fun x hx => by
    simp only [List.mem_append] at hx
    rcases hx with hx | hx | hx
    · exact RD.mem x hx
    · exact RT.mem x hx
    · exact RR.mem x hx
  obtain ⟨Y, hY⟩ : ∃ Y : AH, Y = h1.push (.cells 72 false (frC k a b c fin d t r)) := ⟨_, rfl⟩
  have kY : Kp h1 Y := by rw [hY]; exact (Kp.refl h1).push _
  have nY : Y.next = h1.next + 1 := by rw [hY]; simp
  have gY : Y.get h1.next = some (.cells 72 false (frC k a b c fin d t r)) := by rw [hY]; simp
  have stY : stVar Try.prog 72 h1.next 0 (.agg (frC k a b c fin d t r)) (h1.push (.cells 72 false (frC 0 0 0 0 false .nilSlice .nilSlice .nilSlice))) = some Y := by
    rw [st72 (X := h1.push (.cells 72 false (frC 0 0 0 0 false .nilSlice .nilSlice .nilSlice))) (k := 0) (a := 0) (b := 0) (c := 0) (fin := false) (d := .nilSlice) (t := .nilSlice) (r := .nilSlice) (by simp) RD.sl_one RT.sl_one RR.sl_one, push_set _ _ rfl, hY]
  have gYz : Y.get H.next = some (.cells 72 false z72) := by
    rw [kY.get _ (by omega), k1.get _ (by omega) (by simp; omega), kB.get _ (by omega)]; exact gA
  obtain ⟨cc, h2, e2, X2, k2, n2⟩ := (X1.kp kY).chance (by omega) 4 (by omega) (by omega) m (by omega)
  have gp2 : h2.get h1.next = some (.cells 72 false (frC k a b c fin d t r)) := by rw [k2.get _ (by omega) (by simp; omega)]; exact gY
  have gz2 : h2.get H.next = some (.cells 72 false z72) := by rw [k2.get _ (by omega) (by simp; omega)]; exact gYz
  have ldp : ldVar Try.prog 72 h1.next 0 h2 = some (.agg (frC k a b c fin d t r)) := by unfold frC at gp2 ⊢; simp [ldVar, gp2]
  have hA' := hA.symm
  simp only [z72, frC] at hA'
  have hnq : ∀ x ∈ bx ++ (by_ ++ bz), x ∉ [A.next] := fun x hx => by have := lo x hx; simp; omega
  -- what is known of a frame made behind B, stored into the result
  have fin_ : ∀ (h3 : AH) (fr : List AV) (K : Nat), FrO2 A.next s bs K B fr h3 → h3.get H.next = some (.cells 72 false z72) → H.next < h3.next → ∃ (k a b c : Int) (fin : Bool) (d t r : AV) (D T : List Int) (rs : List (Int × Int)) (bD bT bR : List Nat), fr = frC k a b c fin d t r ∧ stVar Try.prog 72 H.next 0 (.agg fr) h3 = some (h3.set H.next (.cells 72 false fr)) ∧
      ldVar Try.prog 72 H.next 0 (h3.set H.next (.cells 72 false fr)) = some (.agg (frC k a b c fin d t r)) ∧
      (Ty.sl 5 (.int .u8)).R true (h3.set H.next (.cells 72 false fr)) [d] D bD ∧ (Ty.sl 5 (.int .u8)).R true (h3.set H.next (.cells 72 false fr)) [t] T bT ∧ (Ty.sl 94 tT94).R true (h3.set H.next (.cells 72 false fr)) [r] rs bR ∧ InK .i64 k ∧ InK .i64 a ∧ InK .i64 b ∧ InK .i64 c ∧ (bD ++ (bT ++ bR)).Nodup ∧ (∀ x ∈ bD ++ (bT ++ bR), H.next ≤ x) ∧ D.length ≤ 1600 ∧ T.length ≤ 20 ∧ rs.length ≤ 66 ∧ Kp H (h3.set H.next (.cells 72 false fr)) := by
    rintro h3 fr K ⟨k, a, b, c, fin, d, t, r, D, T, rs, bD, bT, bR, rfl, RD, RT, RR, ik, ia, ib, ic, nd, lo, lD, lT, lR, X, KK⟩ gz hn
    have ne : ∀ x ∈ bD ++ (bT ++ bR), x ≠ H.next := fun x hx => by have := lo x hx; omega
    refine ⟨k, a, b, c, fin, d, t, r, D, T, rs, bD, bT, bR, rfl, st72 gz RD.sl_one RT.sl_one RR.sl_one, by simp [ldVar, frC], RD.stay (by simp) fun x hx => AH.set_getN _ _ (ne x (by simp [hx])), RT.stay (by simp) fun x hx => AH.set_getN _ _ (ne x (by simp [hx])), RR.stay (by simp) fun x hx => AH.set_getN _ _ (ne x (by simp [hx])), ik, ia, ib, ic, nd, fun x hx => by have := lo x hx; omega, lD, lT, lR, ⟨by have := KK.next; simp; omega, fun x hx => by rw [AH.set_getN _ _ (by omega), KK.get x (by omega) (by simp; omega), kB.get x (by omega)]; exact kA.get x hx⟩⟩
  have O2 : FrO2 A.next s bs (600 + 3) B (frC k a b c fin d t r) h2 := ⟨k, a, b, c, fin, d, t, r, D, T, rs, bx, by_, bz, rfl, (RD.kp kY).koS k2 fun x hx => hnq x (by simp [hx]), (RT.kp kY).koS k2 fun x hx => hnq x (by simp [hx]), (RR.kp kY).koS k2 fun x hx => hnq x (by simp [hx]), ik, ia, ib, ic, nd, lo, lD, lT, lR, X2.mono (by omega), koS1 (koS1 k1 kY.koS1) k2⟩
  cases cc with
  | false =>
    obtain ⟨k, a, b, c, fin, d, t, r, D, T, rs, bD, bT, bR, e, st, ld, rest⟩ := fin_ h2 _ _ O2 gz2 (by omega)
    refine ⟨k, a, b, c, fin, d, t, r, D, T, rs, bD, bT, bR, _, ?_, rest⟩
    rw [ev_M Try.func47 ok47 [] m _ H (by simp [Try.f47])]
    simp only [frC] at *
    simp [Try.f47, U, tm0, hA', hsrc, e1, stY, e2, ldp, st, ld]
  | true =>
    obtain ⟨fr', h4, e4, O4⟩ := od_ev O2 (by omega) (fun x hx => by have := hbs x hx; omega) (by omega) m (by omega)
    have K4 : KoS [A.next] B h4 := by obtain ⟨_, _, _, _, _, _, _, _, _, _, _, _, _, _, _, _, _, _, _, _, _, _, _, _, _, _, _, _, KK⟩ := O4; exact KK
    have gz4 : h4.get H.next = some (.cells 72 false z72) := by rw [K4.get _ (by omega) (by simp; omega), kB.get _ (by omega)]; exact gA
    obtain ⟨k', a', b', c', fin', d', t', r', D', T', rs', bD', bT', bR', e, st, ld, rest⟩ := fin_ h4 _ _ O4 gz4 (by have := K4.next; omega)
    refine ⟨k', a', b', c', fin', d', t', r', D', T', rs', bD', bT', bR', _, ?_, rest⟩
    rw [ev_M Try.func47 ok47 [] m _ H (by simp [Try.f47])]
    subst e
    simp only [frC] at *
    simp [Try.f47, U, tm0, hA', hsrc, e1, stY, e2, ldp, e4, st, ld]
end Go.Ev

/- The law FnFrames: its first loop's state, a drawn frame. -/
namespace Go.Ev
open Go Go.Proofs
set_option linter.unusedSimpArgs false
set_option linter.unusedVariables false

structure FfT (τ : Tm) (s lv av : AV) (i : Nat) : Prop where
  t0 : τ 0 = s
  t3 : τ 3 = lv
  t4 : τ 4 = av
  t5 : τ 5 = .int .i64 i
structure FfH (H0 h : AH) (L : List tT72.D) (lv av : AV) (bL : List Nat) (ab : Nat) : Prop where
  R : (Ty.sl 72 tT72).R true h [lv] L bL
  nd : bL.Nodup
  lo : ∀ x ∈ bL, H0.next ≤ x
  B : BO h av (flatL L) ab
  alo : H0.next ≤ ab
  an : ab ∉ bL
  K : Kp H0 h
theorem FfH.kp {H0 h h' : AH} {L : List tT72.D} {lv av : AV} {bL : List Nat} {ab : Nat} (F : FfH H0 h L lv av bL ab) (k : Kp h h') : FfH H0 h' L lv av bL ab :=
  ⟨F.R.kp k, F.nd, F.lo, F.B.kp k, F.alo, F.an, F.K.trans k⟩
structure FfF (h0 h : AH) (p : Nat) (k a b c : Int) (fin : Bool) (d t r : AV) (D T : List Int) (rs : List Rg) (bD bT bR : List Nat) : Prop where
  g : h.get p = some (.cells 72 false (frC k a b c fin d t r))
  pn : p < h.next
  p0 : h0.next ≤ p
  RD : (Ty.sl 5 (.int .u8)).R true h [d] D bD
  RT : (Ty.sl 5 (.int .u8)).R true h [t] T bT
  RR : (Ty.sl 94 tT94).R true h [r] rs bR
  nd : (bD ++ (bT ++ bR)).Nodup
  lo : ∀ x ∈ bD ++ (bT ++ bR), h0.next ≤ x
  ik : InK .i64 k
  ia : InK .i64 a
  ib : InK .i64 b
  ic : InK .i64 c
  lD : D.length ≤ 1600
  lT : T.length ≤ 20
  lR : rs.length ≤ 66
theorem FfF.kp {h0 h h' : AH} {p : Nat} {k a b c : Int} {fin : Bool} {d t r : AV} {D T : List Int} {rs : List Rg} {bD bT bR : List Nat} (F : FfF h0 h p k a b c fin d t r D T rs bD bT bR) (kk : Kp h h') : FfF h0 h' p k a b c fin d t r D T rs bD bT bR :=
  ⟨(kk.get p F.pn).trans F.g, by have := kk.next; have := F.pn; omega, F.p0, F.RD.kp kk, F.RT.kp kk, F.RR.kp kk, F.nd, F.lo, F.ik, F.ia, F.ib, F.ic, F.lD, F.lT, F.lR⟩
theorem FfF.ty {h0 h : AH} {p : Nat} {k a b c : Int} {fin : Bool} {d t r : AV} {D T : List Int} {rs : List Rg} {bD bT bR : List Nat} (F : FfF h0 h p k a b c fin d t r D T rs bD bT bR) : tT72.R true h (frC k a b c fin d t r) (k, a, b, c, fin, D, T, rs) (bD ++ (bT ++ bR)) := i72 F.RD F.RT F.RR F.ik F.ia F.ib F.ic
theorem FfF.bsD {h0 h : AH} {p : Nat} {k a b c : Int} {fin : Bool} {d t r : AV} {D T : List Int} {rs : List Rg} {bD bT bR : List Nat} (F : FfF h0 h p k a b c fin d t r D T rs bD bT bR) : Bs h d D ∧ By D ∧ Bs h t T ∧ By T := ⟨(tB_bs F.RD).1, (tB_bs F.RD).2, (tB_bs F.RT).1, (tB_bs F.RT).2⟩
set_option maxRecDepth 20000 in
/-- a frame is drawn -/
theorem ff_a {H0 h : AH} {s lv av : AV} {l : List Int} {b0 : List Nat} {i : Nat} (hd : (Ty.sl 5 (.int .u8)).R false H0 [s] l b0) (hl : l.length ≤ 1048576) (hi : i ≤ 100) (K : Kp H0 h) (m : Nat) (hm : 30000 ≤ m) (τ : Tm) (T : FfT τ s lv av i) :
    ∃ τ' h' p k a b c fin d t r D T' rs bD bT bR, evAt Try.prog (ev Try.prog m) m 9 4004 τ h = evAt Try.prog (ev Try.prog m) m 9 8009 τ' h' ∧ FfT τ' s lv av i ∧ τ' 6 = .ptr p 0 ∧ Kp h h' ∧ FfF h h' p k a b c fin d t r D T' rs bD bT bR := by
  obtain ⟨t0, t3, t4, t5⟩ := T
  have hdh := hd.kp K
  obtain ⟨hs, hby⟩ := tB_bs hdh
  have hL := hs.len
  obtain ⟨x, hx⟩ : ∃ x : Int, x = IntKind.u8.wrap (7 * (i : Int)) := ⟨_, rfl⟩
  have hxb : 0 ≤ x ∧ x < 256 := by rw [hx, IntKind.wrap_u8]; omega
  have w1 : IntKind.i64.wrap (7 * (i : Int)) = 7 * (i : Int) := wrap_i64 (by omega) (by omega)
  have cx : ∀ h', convA Try.prog 3 5 (.int .i64 (7 * (i : Int))) h' = some (.int .u8 x, h') := fun h' => (conv_int (ds := .int .i64) (k := .u8) (by simp) (by simp)).trans (by rw [hx])
  obtain ⟨A, hA⟩ : ∃ A : AH, A = h.push (.cells 5 false [.int .u8 x]) := ⟨_, rfl⟩
  have kA : Kp h A := by rw [hA]; exact (Kp.refl h).push _
  have nA : A.next = h.next + 1 := by rw [hA]; simp
  have BA : BO A (.slice h.next 0 1) [x] h.next := ⟨rfl, by omega, by rw [hA]; simp [u8L]⟩
  have hA' := hA.symm
  obtain ⟨M, hM⟩ : ∃ M : Nat, M = if 40 < l.length then 40 else l.length := ⟨_, rfl⟩
  have hMl : M ≤ l.length ∧ M ≤ 40 := by rw [hM]; split <;> omega
  have mn : (if (40 : Int) < (l.length : Int) then (40 : Int) else (l.length : Int)) = (M : Int) := by
    rw [hM]; split <;> split <;> omega
  obtain ⟨s', cu, bs0⟩ := (hs.kp kA).cut 0 M (by omega) (by rw [u8L_len]; omega) (lo := some none) (hi := some (some (.int .i64 (M : Int)))) (by simp) (by simp)
  have e1 : (List.take M (u8L l)).drop 0 = u8L (l.take M) := by simp [u8L]
  rw [e1] at bs0
  obtain ⟨v1, X1, b1, e2, B1, k1, c1⟩ := BA.appB bs0 (by simp; omega)
  have K1 : Kp h X1 := KoS.kp kA k1 (by simp)
  have hb1 : h.next ≤ b1 := by rcases c1 with h | h <;> omega
  have by1 : By ([x] ++ l.take M) := (By.one hxb).app (hby.take _)
  have R1 := (B1.R by1).weak
  obtain ⟨k, a, b, c, fin, d, t, r, D, T', rs, bD, bT, bR, Y, e3, RD, RT, RR, ik, ia, ib, ic, nd, lo, lD, lT, lR, KY⟩ := drawFrame_ev R1 (by simp; omega) m (by omega)
  have k1n := K1.next
  have KYn := KY.next
  obtain ⟨Z, hZ⟩ : ∃ Z : AH, Z = Y.push (.cells 72 false (frC k a b c fin d t r)) := ⟨_, rfl⟩
  have kZ : Kp Y Z := by rw [hZ]; exact (Kp.refl Y).push _
  have nZ : Z.next = Y.next + 1 := by rw [hZ]; simp
  have gZ : Z.get Y.next = some (.cells 72 false (frC k a b c fin d t r)) := by rw [hZ]; simp
  have stZ : stVar Try.prog 72 Y.next 0 (.agg (frC k a b c fin d t r)) (Y.push (.cells 72 false (frC 0 0 0 0 false .nilSlice .nilSlice .nilSlice))) = some Z := by
    rw [st72 (X := Y.push (.cells 72 false (frC 0 0 0 0 false .nilSlice .nilSlice .nilSlice))) (k := 0) (a := 0) (b := 0) (c := 0) (fin := false) (d := .nilSlice) (t := .nilSlice) (r := .nilSlice) (by simp) RD.sl_one RT.sl_one RR.sl_one, push_set _ _ rfl, hZ]
  have KK : Kp h Z := (K1.trans KY).trans kZ
  simp only [frC] at stZ e3
  obtain ⟨N, hN⟩ : ∃ N : Int, N = (l.length : Int) := ⟨_, rfl⟩
  rw [← hN] at mn hL
  rw [at_M Try.func9 4004 (by decide) 12 (by decide) (by kernel_rfl) [8009]]
  exact ⟨_, Z, Y.next, k, a, b, c, fin, d, t, r, D, T', rs, bD, bT, bR, by simp [Try.f9, U, t0, t5, w1, cx, hA', hL, mn2, foldA, mn, cu, e2, e3, stZ, zerosA, fillA, spl]; rfl, ⟨by simp [t0], by simp [t3], by simp [t4], by simp [t5]⟩, by simp, KK,
    ⟨gZ, by omega, by omega, RD.kp kZ, RT.kp kZ, RR.kp kZ, nd, fun y hy => by have := lo y hy; omega, ik, ia, ib, ic, lD, lT, lR⟩⟩
end Go.Ev

/- A frame's bytes by the reference: printed by a program of this session (gen_zo.py). -/
namespace Go.Ev
open Go Go.Proofs
set_option linter.unusedSimpArgs false
set_option linter.unusedVariables false

structure ZsT (τ : Tm) (p : Nat) (v : AV) (k : Int) : Prop where
  t1 : τ 1 = .ptr p 0
  t4 : τ 4 = v
  tk : τ 15 = .int .i64 k
/-- what is told at the switch -/
structure ZsB (Z C0 : AH) (p : Nat) (k a b c : Int) (fin : Bool) (d t r v0 : AV) (D T : List Int) (rs : List Rg) (bR : List Nat) : Prop where
  g : Z.get p = some (.cells 72 false (frC k a b c fin d t r))
  pn : p < Z.next
  hd : Bs Z d D
  ht : Bs Z t T
  hr : (Ty.sl 94 tT94).R true Z [r] rs bR
  lD : D.length ≤ 1600
  lT : T.length ≤ 20
  ha : inV a
  hb : inV b
  hc : inV c
  B0 : BX Z C0 v0 1
def ZsR (Z : AH) (m : Nat) (pl : Nat) (τ : Tm) (C0 : AH) : Prop := ∃ τ' H', evAt Try.prog (ev Try.prog m) m 49 pl τ C0 = some (.normal, τ', H') ∧ Kp Z H'
set_option maxRecDepth 20000 in
theorem zsS_122 {p : Nat} {v : AV} (k : Int) (h0 : ¬ (k = 0)) (m : Nat) (τ : Tm) (H : AH) (S : ZsT τ p v k) :
    ∃ τ', evAt Try.prog (ev Try.prog m) m 49 122 τ H = evAt Try.prog (ev Try.prog m) m 49 491 τ' H ∧ ZsT τ' p v k := by
  obtain ⟨t1, t4, tk⟩ := S
  rw [at_M Try.func49 122 (by decide) 7 (by decide) (by kernel_rfl) [491]]
  exact ⟨_, by simp [Try.f49, tk, beqF, h0]; rfl, by simp [t1], by simp [t4], by simp [tk]⟩
set_option maxRecDepth 20000 in
theorem zsS_491 {p : Nat} {v : AV} (k : Int) (h2 : ¬ (k = 2)) (m : Nat) (τ : Tm) (H : AH) (S : ZsT τ p v k) :
    ∃ τ', evAt Try.prog (ev Try.prog m) m 49 491 τ H = evAt Try.prog (ev Try.prog m) m 49 1967 τ' H ∧ ZsT τ' p v k := by
  obtain ⟨t1, t4, tk⟩ := S
  rw [at_M Try.func49 491 (by decide) 9 (by decide) (by kernel_rfl) [1967]]
  exact ⟨_, by simp [Try.f49, tk, beqF, h2]; rfl, by simp [t1], by simp [t4], by simp [tk]⟩
set_option maxRecDepth 20000 in
theorem zsS_1967 {p : Nat} {v : AV} (k : Int) (h4 : ¬ (k = 4)) (m : Nat) (τ : Tm) (H : AH) (S : ZsT τ p v k) :
    ∃ τ', evAt Try.prog (ev Try.prog m) m 49 1967 τ H = evAt Try.prog (ev Try.prog m) m 49 7871 τ' H ∧ ZsT τ' p v k := by
  obtain ⟨t1, t4, tk⟩ := S
  rw [at_M Try.func49 1967 (by decide) 11 (by decide) (by kernel_rfl) [7871]]
  exact ⟨_, by simp [Try.f49, tk, beqF, h4]; rfl, by simp [t1], by simp [t4], by simp [tk]⟩
set_option maxRecDepth 20000 in
theorem zsS_7871 {p : Nat} {v : AV} (k : Int) (h5 : ¬ (k = 5)) (h17 : ¬ (k = 17)) (h21 : ¬ (k = 21)) (m : Nat) (τ : Tm) (H : AH) (S : ZsT τ p v k) :
    ∃ τ', evAt Try.prog (ev Try.prog m) m 49 7871 τ H = evAt Try.prog (ev Try.prog m) m 49 31487 τ' H ∧ ZsT τ' p v k := by
  obtain ⟨t1, t4, tk⟩ := S
  rw [at_M Try.func49 7871 (by decide) 13 (by decide) (by kernel_rfl) [31487]]
  exact ⟨_, by simp [Try.f49, tk, beqF, h5, h17, h21]; rfl, by simp [t1], by simp [t4], by simp [tk]⟩
set_option maxRecDepth 20000 in
theorem zsS_31487 {p : Nat} {v : AV} (k : Int) (h18 : ¬ (k = 18)) (h22 : ¬ (k = 22)) (m : Nat) (τ : Tm) (H : AH) (S : ZsT τ p v k) :
    ∃ τ', evAt Try.prog (ev Try.prog m) m 49 31487 τ H = evAt Try.prog (ev Try.prog m) m 49 125951 τ' H ∧ ZsT τ' p v k := by
  obtain ⟨t1, t4, tk⟩ := S
  rw [at_M Try.func49 31487 (by decide) 15 (by decide) (by kernel_rfl) [125951]]
  exact ⟨_, by simp [Try.f49, tk, beqF, h18, h22]; rfl, by simp [t1], by simp [t4], by simp [tk]⟩
set_option maxRecDepth 20000 in
theorem zsS_125951 {p : Nat} {v : AV} (k : Int) (h16 : ¬ (k = 16)) (h20 : ¬ (k = 20)) (h25 : ¬ (k = 25)) (m : Nat) (τ : Tm) (H : AH) (S : ZsT τ p v k) :
    ∃ τ', evAt Try.prog (ev Try.prog m) m 49 125951 τ H = evAt Try.prog (ev Try.prog m) m 49 503807 τ' H ∧ ZsT τ' p v k := by
  obtain ⟨t1, t4, tk⟩ := S
  rw [at_M Try.func49 125951 (by decide) 17 (by decide) (by kernel_rfl) [503807]]
  exact ⟨_, by simp [Try.f49, tk, beqF, h16, h20, h25]; rfl, by simp [t1], by simp [t4], by simp [tk]⟩
set_option maxRecDepth 20000 in
theorem zsS_503807 {p : Nat} {v : AV} (k : Int) (h6 : ¬ (k = 6)) (h29 : ¬ (k = 29)) (m : Nat) (τ : Tm) (H : AH) (S : ZsT τ p v k) :
    ∃ τ', evAt Try.prog (ev Try.prog m) m 49 503807 τ H = evAt Try.prog (ev Try.prog m) m 49 2015231 τ' H ∧ ZsT τ' p v k := by
  obtain ⟨t1, t4, tk⟩ := S
  rw [at_M Try.func49 503807 (by decide) 19 (by decide) (by kernel_rfl) [2015231]]
  exact ⟨_, by simp [Try.f49, tk, beqF, h6, h29]; rfl, by simp [t1], by simp [t4], by simp [tk]⟩
set_option maxRecDepth 20000 in
theorem zsS_2015231 {p : Nat} {v : AV} (k : Int) (h7 : ¬ (k = 7)) (m : Nat) (τ : Tm) (H : AH) (S : ZsT τ p v k) :
    ∃ τ', evAt Try.prog (ev Try.prog m) m 49 2015231 τ H = evAt Try.prog (ev Try.prog m) m 49 8060927 τ' H ∧ ZsT τ' p v k := by
  obtain ⟨t1, t4, tk⟩ := S
  rw [at_M Try.func49 2015231 (by decide) 21 (by decide) (by kernel_rfl) [8060927]]
  exact ⟨_, by simp [Try.f49, tk, beqF, h7]; rfl, by simp [t1], by simp [t4], by simp [tk]⟩
set_option maxRecDepth 20000 in
theorem zsS_8060927 {p : Nat} {v : AV} (k : Int) (h8 : ¬ (k = 8)) (m : Nat) (τ : Tm) (H : AH) (S : ZsT τ p v k) :
    ∃ τ', evAt Try.prog (ev Try.prog m) m 49 8060927 τ H = evAt Try.prog (ev Try.prog m) m 49 32243711 τ' H ∧ ZsT τ' p v k := by
  obtain ⟨t1, t4, tk⟩ := S
  rw [at_M Try.func49 8060927 (by decide) 23 (by decide) (by kernel_rfl) [32243711]]
  exact ⟨_, by simp [Try.f49, tk, beqF, h8]; rfl, by simp [t1], by simp [t4], by simp [tk]⟩
set_option maxRecDepth 20000 in
theorem zsS_32243711 {p : Nat} {v : AV} (k : Int) (h24 : ¬ (k = 24)) (m : Nat) (τ : Tm) (H : AH) (S : ZsT τ p v k) :
    ∃ τ', evAt Try.prog (ev Try.prog m) m 49 32243711 τ H = evAt Try.prog (ev Try.prog m) m 49 128974847 τ' H ∧ ZsT τ' p v k := by
  obtain ⟨t1, t4, tk⟩ := S
  rw [at_M Try.func49 32243711 (by decide) 25 (by decide) (by kernel_rfl) [128974847]]
  exact ⟨_, by simp [Try.f49, tk, beqF, h24]; rfl, by simp [t1], by simp [t4], by simp [tk]⟩
set_option maxRecDepth 20000 in
theorem zsS_128974847 {p : Nat} {v : AV} (k : Int) (h26 : ¬ (k = 26)) (h27 : ¬ (k = 27)) (m : Nat) (τ : Tm) (H : AH) (S : ZsT τ p v k) :
    ∃ τ', evAt Try.prog (ev Try.prog m) m 49 128974847 τ H = evAt Try.prog (ev Try.prog m) m 49 515899391 τ' H ∧ ZsT τ' p v k := by
  obtain ⟨t1, t4, tk⟩ := S
  rw [at_M Try.func49 128974847 (by decide) 27 (by decide) (by kernel_rfl) [515899391]]
  exact ⟨_, by simp [Try.f49, tk, beqF, h26, h27]; rfl, by simp [t1], by simp [t4], by simp [tk]⟩
set_option maxRecDepth 20000 in
theorem zsS_515899391 {p : Nat} {v : AV} (k : Int) (h28 : ¬ (k = 28)) (m : Nat) (τ : Tm) (H : AH) (S : ZsT τ p v k) :
    ∃ τ', evAt Try.prog (ev Try.prog m) m 49 515899391 τ H = evAt Try.prog (ev Try.prog m) m 49 2063597567 τ' H ∧ ZsT τ' p v k := by
  obtain ⟨t1, t4, tk⟩ := S
  rw [at_M Try.func49 515899391 (by decide) 29 (by decide) (by kernel_rfl) [2063597567]]
  exact ⟨_, by simp [Try.f49, tk, beqF, h28]; rfl, by simp [t1], by simp [t4], by simp [tk]⟩
end Go.Ev

/- A frame's bytes by the reference: printed by a program of this session (gen_zo.py). -/
namespace Go.Ev
open Go Go.Proofs
set_option linter.unusedSimpArgs false
set_option linter.unusedVariables false

set_option maxRecDepth 20000 in
set_option maxHeartbeats 2000000 in
theorem zsK_1 {Z C0 : AH} {p : Nat} {a b c : Int} {fin : Bool} {d t r v0 : AV} {D T : List Int} {rs : List Rg} {bR : List Nat} (B : ZsB Z C0 p 1 a b c fin d t r v0 D T rs bR) (m : Nat) (hm : 320 ≤ m) (τ : Tm) (S : ZsT τ p v0 1) : ZsR Z m 2063597567 τ C0 := by
  obtain ⟨t1, t4, tk⟩ := S
  obtain ⟨g, pn, hd, ht, hr, lD, lT, ha, hb, hc, B0⟩ := B
  have K0 := B0.kp
  simp only [inV] at ha hb hc
  obtain ⟨f0_0, f0_1, f0_2, f0_3, f0_4, f0_5, f0_6, f0_7, f0_8⟩ := ld72 ((K0.get p pn).trans g)
  unfold ZsR
  rw [at_M Try.func49 2063597567 (by decide) 31 (by decide) (by kernel_rfl) []]
  exact ⟨_, _, by simp [Try.f49, U, t1, t4, tk, f0_1, f0_2, f0_3, f0_4, f0_5, f0_6, f0_0, evHist, ObsOk, ObOk, List.getElem?_cons_zero]; rfl, K0⟩
set_option maxRecDepth 20000 in
set_option maxHeartbeats 2000000 in
theorem zsK_30 {Z C0 : AH} {p : Nat} {a b c : Int} {fin : Bool} {d t r v0 : AV} {D T : List Int} {rs : List Rg} {bR : List Nat} (B : ZsB Z C0 p 30 a b c fin d t r v0 D T rs bR) (m : Nat) (hm : 320 ≤ m) (τ : Tm) (S : ZsT τ p v0 30) : ZsR Z m 2063597567 τ C0 := by
  obtain ⟨t1, t4, tk⟩ := S
  obtain ⟨g, pn, hd, ht, hr, lD, lT, ha, hb, hc, B0⟩ := B
  have K0 := B0.kp
  simp only [inV] at ha hb hc
  obtain ⟨f0_0, f0_1, f0_2, f0_3, f0_4, f0_5, f0_6, f0_7, f0_8⟩ := ld72 ((K0.get p pn).trans g)
  unfold ZsR
  rw [at_M Try.func49 2063597567 (by decide) 31 (by decide) (by kernel_rfl) []]
  exact ⟨_, _, by simp [Try.f49, U, t1, t4, tk, f0_1, f0_2, f0_3, f0_4, f0_5, f0_6, f0_0, evHist, ObsOk, ObOk, List.getElem?_cons_zero]; rfl, K0⟩
set_option maxRecDepth 20000 in
set_option maxHeartbeats 2000000 in
theorem zsK_4 {Z C0 : AH} {p : Nat} {a b c : Int} {fin : Bool} {d t r v0 : AV} {D T : List Int} {rs : List Rg} {bR : List Nat} (B : ZsB Z C0 p 4 a b c fin d t r v0 D T rs bR) (m : Nat) (hm : 320 ≤ m) (τ : Tm) (S : ZsT τ p v0 4) : ZsR Z m 1967 τ C0 := by
  obtain ⟨t1, t4, tk⟩ := S
  obtain ⟨g, pn, hd, ht, hr, lD, lT, ha, hb, hc, B0⟩ := B
  have K0 := B0.kp
  simp only [inV] at ha hb hc
  obtain ⟨f0_0, f0_1, f0_2, f0_3, f0_4, f0_5, f0_6, f0_7, f0_8⟩ := ld72 ((K0.get p pn).trans g)
  obtain ⟨v1, X1, e1, B1⟩ := B0.n (by omega) (x := a) ⟨ha.1, ha.2⟩ m (by omega)
  have K1 := B1.kp
  obtain ⟨f1_0, f1_1, f1_2, f1_3, f1_4, f1_5, f1_6, f1_7, f1_8⟩ := ld72 ((K1.get p pn).trans g)
  obtain ⟨v2, X2, e2, B2⟩ := B1.n (by omega) (x := b) ⟨hb.1, hb.2⟩ m (by omega)
  have K2 := B2.kp
  obtain ⟨f2_0, f2_1, f2_2, f2_3, f2_4, f2_5, f2_6, f2_7, f2_8⟩ := ld72 ((K2.get p pn).trans g)
  obtain ⟨v3, X3, e3, B3⟩ := B2.n (by omega) (x := c) ⟨hc.1, hc.2⟩ m (by omega)
  have K3 := B3.kp
  obtain ⟨f3_0, f3_1, f3_2, f3_3, f3_4, f3_5, f3_6, f3_7, f3_8⟩ := ld72 ((K3.get p pn).trans g)
  unfold ZsR
  rw [at_M Try.func49 1967 (by decide) 11 (by decide) (by kernel_rfl) []]
  exact ⟨_, _, by simp [Try.f49, U, t1, t4, tk, e1, e2, e3, f0_1, f0_2, f0_3, f0_4, f0_5, f0_6, f0_0, f1_1, f1_2, f1_3, f1_4, f1_5, f1_6, f1_0, f2_1, f2_2, f2_3, f2_4, f2_5, f2_6, f2_0, f3_1, f3_2, f3_3, f3_4, f3_5, f3_6, f3_0, evHist, ObsOk, ObOk, List.getElem?_cons_zero]; rfl, K3⟩
set_option maxRecDepth 20000 in
set_option maxHeartbeats 2000000 in
theorem zsK_5 {Z C0 : AH} {p : Nat} {a b c : Int} {fin : Bool} {d t r v0 : AV} {D T : List Int} {rs : List Rg} {bR : List Nat} (B : ZsB Z C0 p 5 a b c fin d t r v0 D T rs bR) (m : Nat) (hm : 320 ≤ m) (τ : Tm) (S : ZsT τ p v0 5) : ZsR Z m 7871 τ C0 := by
  obtain ⟨t1, t4, tk⟩ := S
  obtain ⟨g, pn, hd, ht, hr, lD, lT, ha, hb, hc, B0⟩ := B
  have K0 := B0.kp
  simp only [inV] at ha hb hc
  obtain ⟨f0_0, f0_1, f0_2, f0_3, f0_4, f0_5, f0_6, f0_7, f0_8⟩ := ld72 ((K0.get p pn).trans g)
  obtain ⟨v1, X1, e1, B1⟩ := B0.n (by omega) (x := a) ⟨ha.1, ha.2⟩ m (by omega)
  have K1 := B1.kp
  obtain ⟨f1_0, f1_1, f1_2, f1_3, f1_4, f1_5, f1_6, f1_7, f1_8⟩ := ld72 ((K1.get p pn).trans g)
  obtain ⟨v2, X2, e2, B2⟩ := B1.n (by omega) (x := b) ⟨hb.1, hb.2⟩ m (by omega)
  have K2 := B2.kp
  obtain ⟨f2_0, f2_1, f2_2, f2_3, f2_4, f2_5, f2_6, f2_7, f2_8⟩ := ld72 ((K2.get p pn).trans g)
  unfold ZsR
  rw [at_M Try.func49 7871 (by decide) 13 (by decide) (by kernel_rfl) []]
  exact ⟨_, _, by simp [Try.f49, U, t1, t4, tk, e1, e2, f0_1, f0_2, f0_3, f0_4, f0_5, f0_6, f0_0, f1_1, f1_2, f1_3, f1_4, f1_5, f1_6, f1_0, f2_1, f2_2, f2_3, f2_4, f2_5, f2_6, f2_0, evHist, ObsOk, ObOk, List.getElem?_cons_zero]; rfl, K2⟩
set_option maxRecDepth 20000 in
set_option maxHeartbeats 2000000 in
theorem zsK_17 {Z C0 : AH} {p : Nat} {a b c : Int} {fin : Bool} {d t r v0 : AV} {D T : List Int} {rs : List Rg} {bR : List Nat} (B : ZsB Z C0 p 17 a b c fin d t r v0 D T rs bR) (m : Nat) (hm : 320 ≤ m) (τ : Tm) (S : ZsT τ p v0 17) : ZsR Z m 7871 τ C0 := by
  obtain ⟨t1, t4, tk⟩ := S
  obtain ⟨g, pn, hd, ht, hr, lD, lT, ha, hb, hc, B0⟩ := B
  have K0 := B0.kp
  simp only [inV] at ha hb hc
  obtain ⟨f0_0, f0_1, f0_2, f0_3, f0_4, f0_5, f0_6, f0_7, f0_8⟩ := ld72 ((K0.get p pn).trans g)
  obtain ⟨v1, X1, e1, B1⟩ := B0.n (by omega) (x := a) ⟨ha.1, ha.2⟩ m (by omega)
  have K1 := B1.kp
  obtain ⟨f1_0, f1_1, f1_2, f1_3, f1_4, f1_5, f1_6, f1_7, f1_8⟩ := ld72 ((K1.get p pn).trans g)
  obtain ⟨v2, X2, e2, B2⟩ := B1.n (by omega) (x := b) ⟨hb.1, hb.2⟩ m (by omega)
  have K2 := B2.kp
  obtain ⟨f2_0, f2_1, f2_2, f2_3, f2_4, f2_5, f2_6, f2_7, f2_8⟩ := ld72 ((K2.get p pn).trans g)
  unfold ZsR
  rw [at_M Try.func49 7871 (by decide) 13 (by decide) (by kernel_rfl) []]
  exact ⟨_, _, by simp [Try.f49, U, t1, t4, tk, e1, e2, f0_1, f0_2, f0_3, f0_4, f0_5, f0_6, f0_0, f1_1, f1_2, f1_3, f1_4, f1_5, f1_6, f1_0, f2_1, f2_2, f2_3, f2_4, f2_5, f2_6, f2_0, evHist, ObsOk, ObOk, List.getElem?_cons_zero]; rfl, K2⟩
set_option maxRecDepth 20000 in
set_option maxHeartbeats 2000000 in
theorem zsK_21 {Z C0 : AH} {p : Nat} {a b c : Int} {fin : Bool} {d t r v0 : AV} {D T : List Int} {rs : List Rg} {bR : List Nat} (B : ZsB Z C0 p 21 a b c fin d t r v0 D T rs bR) (m : Nat) (hm : 320 ≤ m) (τ : Tm) (S : ZsT τ p v0 21) : ZsR Z m 7871 τ C0 := by
  obtain ⟨t1, t4, tk⟩ := S
  obtain ⟨g, pn, hd, ht, hr, lD, lT, ha, hb, hc, B0⟩ := B
  have K0 := B0.kp
  simp only [inV] at ha hb hc
  obtain ⟨f0_0, f0_1, f0_2, f0_3, f0_4, f0_5, f0_6, f0_7, f0_8⟩ := ld72 ((K0.get p pn).trans g)
  obtain ⟨v1, X1, e1, B1⟩ := B0.n (by omega) (x := a) ⟨ha.1, ha.2⟩ m (by omega)
  have K1 := B1.kp
  obtain ⟨f1_0, f1_1, f1_2, f1_3, f1_4, f1_5, f1_6, f1_7, f1_8⟩ := ld72 ((K1.get p pn).trans g)
  obtain ⟨v2, X2, e2, B2⟩ := B1.n (by omega) (x := b) ⟨hb.1, hb.2⟩ m (by omega)
  have K2 := B2.kp
  obtain ⟨f2_0, f2_1, f2_2, f2_3, f2_4, f2_5, f2_6, f2_7, f2_8⟩ := ld72 ((K2.get p pn).trans g)
  unfold ZsR
  rw [at_M Try.func49 7871 (by decide) 13 (by decide) (by kernel_rfl) []]
  exact ⟨_, _, by simp [Try.f49, U, t1, t4, tk, e1, e2, f0_1, f0_2, f0_3, f0_4, f0_5, f0_6, f0_0, f1_1, f1_2, f1_3, f1_4, f1_5, f1_6, f1_0, f2_1, f2_2, f2_3, f2_4, f2_5, f2_6, f2_0, evHist, ObsOk, ObOk, List.getElem?_cons_zero]; rfl, K2⟩
set_option maxRecDepth 20000 in
set_option maxHeartbeats 2000000 in
theorem zsK_16 {Z C0 : AH} {p : Nat} {a b c : Int} {fin : Bool} {d t r v0 : AV} {D T : List Int} {rs : List Rg} {bR : List Nat} (B : ZsB Z C0 p 16 a b c fin d t r v0 D T rs bR) (m : Nat) (hm : 320 ≤ m) (τ : Tm) (S : ZsT τ p v0 16) : ZsR Z m 125951 τ C0 := by
  obtain ⟨t1, t4, tk⟩ := S
  obtain ⟨g, pn, hd, ht, hr, lD, lT, ha, hb, hc, B0⟩ := B
  have K0 := B0.kp
  simp only [inV] at ha hb hc
  obtain ⟨f0_0, f0_1, f0_2, f0_3, f0_4, f0_5, f0_6, f0_7, f0_8⟩ := ld72 ((K0.get p pn).trans g)
  obtain ⟨v1, X1, e1, B1⟩ := B0.n (by omega) (x := a) ⟨ha.1, ha.2⟩ m (by omega)
  have K1 := B1.kp
  obtain ⟨f1_0, f1_1, f1_2, f1_3, f1_4, f1_5, f1_6, f1_7, f1_8⟩ := ld72 ((K1.get p pn).trans g)
  unfold ZsR
  rw [at_M Try.func49 125951 (by decide) 17 (by decide) (by kernel_rfl) []]
  exact ⟨_, _, by simp [Try.f49, U, t1, t4, tk, e1, f0_1, f0_2, f0_3, f0_4, f0_5, f0_6, f0_0, f1_1, f1_2, f1_3, f1_4, f1_5, f1_6, f1_0, evHist, ObsOk, ObOk, List.getElem?_cons_zero]; rfl, K1⟩
set_option maxRecDepth 20000 in
set_option maxHeartbeats 2000000 in
theorem zsK_20 {Z C0 : AH} {p : Nat} {a b c : Int} {fin : Bool} {d t r v0 : AV} {D T : List Int} {rs : List Rg} {bR : List Nat} (B : ZsB Z C0 p 20 a b c fin d t r v0 D T rs bR) (m : Nat) (hm : 320 ≤ m) (τ : Tm) (S : ZsT τ p v0 20) : ZsR Z m 125951 τ C0 := by
  obtain ⟨t1, t4, tk⟩ := S
  obtain ⟨g, pn, hd, ht, hr, lD, lT, ha, hb, hc, B0⟩ := B
  have K0 := B0.kp
  simp only [inV] at ha hb hc
  obtain ⟨f0_0, f0_1, f0_2, f0_3, f0_4, f0_5, f0_6, f0_7, f0_8⟩ := ld72 ((K0.get p pn).trans g)
  obtain ⟨v1, X1, e1, B1⟩ := B0.n (by omega) (x := a) ⟨ha.1, ha.2⟩ m (by omega)
  have K1 := B1.kp
  obtain ⟨f1_0, f1_1, f1_2, f1_3, f1_4, f1_5, f1_6, f1_7, f1_8⟩ := ld72 ((K1.get p pn).trans g)
  unfold ZsR
  rw [at_M Try.func49 125951 (by decide) 17 (by decide) (by kernel_rfl) []]
  exact ⟨_, _, by simp [Try.f49, U, t1, t4, tk, e1, f0_1, f0_2, f0_3, f0_4, f0_5, f0_6, f0_0, f1_1, f1_2, f1_3, f1_4, f1_5, f1_6, f1_0, evHist, ObsOk, ObOk, List.getElem?_cons_zero]; rfl, K1⟩
set_option maxRecDepth 20000 in
set_option maxHeartbeats 2000000 in
theorem zsK_25 {Z C0 : AH} {p : Nat} {a b c : Int} {fin : Bool} {d t r v0 : AV} {D T : List Int} {rs : List Rg} {bR : List Nat} (B : ZsB Z C0 p 25 a b c fin d t r v0 D T rs bR) (m : Nat) (hm : 320 ≤ m) (τ : Tm) (S : ZsT τ p v0 25) : ZsR Z m 125951 τ C0 := by
  obtain ⟨t1, t4, tk⟩ := S
  obtain ⟨g, pn, hd, ht, hr, lD, lT, ha, hb, hc, B0⟩ := B
  have K0 := B0.kp
  simp only [inV] at ha hb hc
  obtain ⟨f0_0, f0_1, f0_2, f0_3, f0_4, f0_5, f0_6, f0_7, f0_8⟩ := ld72 ((K0.get p pn).trans g)
  obtain ⟨v1, X1, e1, B1⟩ := B0.n (by omega) (x := a) ⟨ha.1, ha.2⟩ m (by omega)
  have K1 := B1.kp
  obtain ⟨f1_0, f1_1, f1_2, f1_3, f1_4, f1_5, f1_6, f1_7, f1_8⟩ := ld72 ((K1.get p pn).trans g)
  unfold ZsR
  rw [at_M Try.func49 125951 (by decide) 17 (by decide) (by kernel_rfl) []]
  exact ⟨_, _, by simp [Try.f49, U, t1, t4, tk, e1, f0_1, f0_2, f0_3, f0_4, f0_5, f0_6, f0_0, f1_1, f1_2, f1_3, f1_4, f1_5, f1_6, f1_0, evHist, ObsOk, ObOk, List.getElem?_cons_zero]; rfl, K1⟩
set_option maxRecDepth 20000 in
set_option maxHeartbeats 2000000 in
theorem zsK_6 {Z C0 : AH} {p : Nat} {a b c : Int} {fin : Bool} {d t r v0 : AV} {D T : List Int} {rs : List Rg} {bR : List Nat} (B : ZsB Z C0 p 6 a b c fin d t r v0 D T rs bR) (m : Nat) (hm : 320 ≤ m) (τ : Tm) (S : ZsT τ p v0 6) : ZsR Z m 503807 τ C0 := by
  obtain ⟨t1, t4, tk⟩ := S
  obtain ⟨g, pn, hd, ht, hr, lD, lT, ha, hb, hc, B0⟩ := B
  have K0 := B0.kp
  simp only [inV] at ha hb hc
  obtain ⟨f0_0, f0_1, f0_2, f0_3, f0_4, f0_5, f0_6, f0_7, f0_8⟩ := ld72 ((K0.get p pn).trans g)
  obtain ⟨v1, X1, e1, B1⟩ := B0.n (by omega) (x := a) ⟨ha.1, ha.2⟩ m (by omega)
  have K1 := B1.kp
  obtain ⟨f1_0, f1_1, f1_2, f1_3, f1_4, f1_5, f1_6, f1_7, f1_8⟩ := ld72 ((K1.get p pn).trans g)
  obtain ⟨v2, X2, e2, B2⟩ := B1.c (by omega) hd (by omega) m (by omega)
  have K2 := B2.kp
  obtain ⟨f2_0, f2_1, f2_2, f2_3, f2_4, f2_5, f2_6, f2_7, f2_8⟩ := ld72 ((K2.get p pn).trans g)
  unfold ZsR
  rw [at_M Try.func49 503807 (by decide) 19 (by decide) (by kernel_rfl) []]
  exact ⟨_, _, by simp [Try.f49, U, t1, t4, tk, e1, e2, f0_1, f0_2, f0_3, f0_4, f0_5, f0_6, f0_0, f1_1, f1_2, f1_3, f1_4, f1_5, f1_6, f1_0, f2_1, f2_2, f2_3, f2_4, f2_5, f2_6, f2_0, evHist, ObsOk, ObOk, List.getElem?_cons_zero]; rfl, K2⟩
set_option maxRecDepth 20000 in
set_option maxHeartbeats 2000000 in
theorem zsK_29 {Z C0 : AH} {p : Nat} {a b c : Int} {fin : Bool} {d t r v0 : AV} {D T : List Int} {rs : List Rg} {bR : List Nat} (B : ZsB Z C0 p 29 a b c fin d t r v0 D T rs bR) (m : Nat) (hm : 320 ≤ m) (τ : Tm) (S : ZsT τ p v0 29) : ZsR Z m 503807 τ C0 := by
  obtain ⟨t1, t4, tk⟩ := S
  obtain ⟨g, pn, hd, ht, hr, lD, lT, ha, hb, hc, B0⟩ := B
  have K0 := B0.kp
  simp only [inV] at ha hb hc
  obtain ⟨f0_0, f0_1, f0_2, f0_3, f0_4, f0_5, f0_6, f0_7, f0_8⟩ := ld72 ((K0.get p pn).trans g)
  obtain ⟨v1, X1, e1, B1⟩ := B0.n (by omega) (x := a) ⟨ha.1, ha.2⟩ m (by omega)
  have K1 := B1.kp
  obtain ⟨f1_0, f1_1, f1_2, f1_3, f1_4, f1_5, f1_6, f1_7, f1_8⟩ := ld72 ((K1.get p pn).trans g)
  obtain ⟨v2, X2, e2, B2⟩ := B1.c (by omega) hd (by omega) m (by omega)
  have K2 := B2.kp
  obtain ⟨f2_0, f2_1, f2_2, f2_3, f2_4, f2_5, f2_6, f2_7, f2_8⟩ := ld72 ((K2.get p pn).trans g)
  unfold ZsR
  rw [at_M Try.func49 503807 (by decide) 19 (by decide) (by kernel_rfl) []]
  exact ⟨_, _, by simp [Try.f49, U, t1, t4, tk, e1, e2, f0_1, f0_2, f0_3, f0_4, f0_5, f0_6, f0_0, f1_1, f1_2, f1_3, f1_4, f1_5, f1_6, f1_0, f2_1, f2_2, f2_3, f2_4, f2_5, f2_6, f2_0, evHist, ObsOk, ObOk, List.getElem?_cons_zero]; rfl, K2⟩
set_option maxRecDepth 20000 in
set_option maxHeartbeats 2000000 in
theorem zsK_7 {Z C0 : AH} {p : Nat} {a b c : Int} {fin : Bool} {d t r v0 : AV} {D T : List Int} {rs : List Rg} {bR : List Nat} (B : ZsB Z C0 p 7 a b c fin d t r v0 D T rs bR) (m : Nat) (hm : 320 ≤ m) (τ : Tm) (S : ZsT τ p v0 7) : ZsR Z m 2015231 τ C0 := by
  obtain ⟨t1, t4, tk⟩ := S
  obtain ⟨g, pn, hd, ht, hr, lD, lT, ha, hb, hc, B0⟩ := B
  have K0 := B0.kp
  simp only [inV] at ha hb hc
  obtain ⟨f0_0, f0_1, f0_2, f0_3, f0_4, f0_5, f0_6, f0_7, f0_8⟩ := ld72 ((K0.get p pn).trans g)
  obtain ⟨v1, X1, e1, B1⟩ := B0.c (by omega) hd (by omega) m (by omega)
  have K1 := B1.kp
  obtain ⟨f1_0, f1_1, f1_2, f1_3, f1_4, f1_5, f1_6, f1_7, f1_8⟩ := ld72 ((K1.get p pn).trans g)
  unfold ZsR
  rw [at_M Try.func49 2015231 (by decide) 21 (by decide) (by kernel_rfl) []]
  exact ⟨_, _, by simp [Try.f49, U, t1, t4, tk, e1, f0_1, f0_2, f0_3, f0_4, f0_5, f0_6, f0_0, f1_1, f1_2, f1_3, f1_4, f1_5, f1_6, f1_0, evHist, ObsOk, ObOk, List.getElem?_cons_zero]; rfl, K1⟩
set_option maxRecDepth 20000 in
set_option maxHeartbeats 2000000 in
theorem zsK_26 {Z C0 : AH} {p : Nat} {a b c : Int} {fin : Bool} {d t r v0 : AV} {D T : List Int} {rs : List Rg} {bR : List Nat} (B : ZsB Z C0 p 26 a b c fin d t r v0 D T rs bR) (m : Nat) (hm : 320 ≤ m) (τ : Tm) (S : ZsT τ p v0 26) : ZsR Z m 128974847 τ C0 := by
  obtain ⟨t1, t4, tk⟩ := S
  obtain ⟨g, pn, hd, ht, hr, lD, lT, ha, hb, hc, B0⟩ := B
  have K0 := B0.kp
  simp only [inV] at ha hb hc
  obtain ⟨f0_0, f0_1, f0_2, f0_3, f0_4, f0_5, f0_6, f0_7, f0_8⟩ := ld72 ((K0.get p pn).trans g)
  obtain ⟨v1, X1, e1, B1⟩ := B0.a (by omega) hd (by omega)
  have K1 := B1.kp
  obtain ⟨f1_0, f1_1, f1_2, f1_3, f1_4, f1_5, f1_6, f1_7, f1_8⟩ := ld72 ((K1.get p pn).trans g)
  unfold ZsR
  rw [at_M Try.func49 128974847 (by decide) 27 (by decide) (by kernel_rfl) []]
  exact ⟨_, _, by simp [Try.f49, U, t1, t4, tk, e1, f0_1, f0_2, f0_3, f0_4, f0_5, f0_6, f0_0, f1_1, f1_2, f1_3, f1_4, f1_5, f1_6, f1_0, evHist, ObsOk, ObOk, List.getElem?_cons_zero]; rfl, K1⟩
set_option maxRecDepth 20000 in
set_option maxHeartbeats 2000000 in
theorem zsK_27 {Z C0 : AH} {p : Nat} {a b c : Int} {fin : Bool} {d t r v0 : AV} {D T : List Int} {rs : List Rg} {bR : List Nat} (B : ZsB Z C0 p 27 a b c fin d t r v0 D T rs bR) (m : Nat) (hm : 320 ≤ m) (τ : Tm) (S : ZsT τ p v0 27) : ZsR Z m 128974847 τ C0 := by
  obtain ⟨t1, t4, tk⟩ := S
  obtain ⟨g, pn, hd, ht, hr, lD, lT, ha, hb, hc, B0⟩ := B
  have K0 := B0.kp
  simp only [inV] at ha hb hc
  obtain ⟨f0_0, f0_1, f0_2, f0_3, f0_4, f0_5, f0_6, f0_7, f0_8⟩ := ld72 ((K0.get p pn).trans g)
  obtain ⟨v1, X1, e1, B1⟩ := B0.a (by omega) hd (by omega)
  have K1 := B1.kp
  obtain ⟨f1_0, f1_1, f1_2, f1_3, f1_4, f1_5, f1_6, f1_7, f1_8⟩ := ld72 ((K1.get p pn).trans g)
  unfold ZsR
  rw [at_M Try.func49 128974847 (by decide) 27 (by decide) (by kernel_rfl) []]
  exact ⟨_, _, by simp [Try.f49, U, t1, t4, tk, e1, f0_1, f0_2, f0_3, f0_4, f0_5, f0_6, f0_0, f1_1, f1_2, f1_3, f1_4, f1_5, f1_6, f1_0, evHist, ObsOk, ObOk, List.getElem?_cons_zero]; rfl, K1⟩
set_option maxRecDepth 20000 in
set_option maxHeartbeats 2000000 in
theorem zsK_28 {Z C0 : AH} {p : Nat} {a b c : Int} {fin : Bool} {d t r v0 : AV} {D T : List Int} {rs : List Rg} {bR : List Nat} (B : ZsB Z C0 p 28 a b c fin d t r v0 D T rs bR) (m : Nat) (hm : 320 ≤ m) (τ : Tm) (S : ZsT τ p v0 28) : ZsR Z m 515899391 τ C0 := by
  obtain ⟨t1, t4, tk⟩ := S
  obtain ⟨g, pn, hd, ht, hr, lD, lT, ha, hb, hc, B0⟩ := B
  have K0 := B0.kp
  simp only [inV] at ha hb hc
  obtain ⟨f0_0, f0_1, f0_2, f0_3, f0_4, f0_5, f0_6, f0_7, f0_8⟩ := ld72 ((K0.get p pn).trans g)
  obtain ⟨v1, X1, e1, B1⟩ := B0.n (by omega) (x := a) ⟨ha.1, ha.2⟩ m (by omega)
  have K1 := B1.kp
  obtain ⟨f1_0, f1_1, f1_2, f1_3, f1_4, f1_5, f1_6, f1_7, f1_8⟩ := ld72 ((K1.get p pn).trans g)
  obtain ⟨v2, X2, e2, B2⟩ := B1.n (by omega) (x := b) ⟨hb.1, hb.2⟩ m (by omega)
  have K2 := B2.kp
  obtain ⟨f2_0, f2_1, f2_2, f2_3, f2_4, f2_5, f2_6, f2_7, f2_8⟩ := ld72 ((K2.get p pn).trans g)
  obtain ⟨v3, X3, e3, B3⟩ := B2.c (by omega) hd (by omega) m (by omega)
  have K3 := B3.kp
  obtain ⟨f3_0, f3_1, f3_2, f3_3, f3_4, f3_5, f3_6, f3_7, f3_8⟩ := ld72 ((K3.get p pn).trans g)
  unfold ZsR
  rw [at_M Try.func49 515899391 (by decide) 29 (by decide) (by kernel_rfl) []]
  exact ⟨_, _, by simp [Try.f49, U, t1, t4, tk, e1, e2, e3, f0_1, f0_2, f0_3, f0_4, f0_5, f0_6, f0_0, f1_1, f1_2, f1_3, f1_4, f1_5, f1_6, f1_0, f2_1, f2_2, f2_3, f2_4, f2_5, f2_6, f2_0, f3_1, f3_2, f3_3, f3_4, f3_5, f3_6, f3_0, evHist, ObsOk, ObOk, List.getElem?_cons_zero]; rfl, K3⟩
set_option maxRecDepth 20000 in
set_option maxHeartbeats 2000000 in
theorem zsK_48 {Z C0 : AH} {p : Nat} {a b c : Int} {fin : Bool} {d t r v0 : AV} {D T : List Int} {rs : List Rg} {bR : List Nat} (B : ZsB Z C0 p 48 a b c fin d t r v0 D T rs bR) (m : Nat) (hm : 320 ≤ m) (τ : Tm) (S : ZsT τ p v0 48) : ZsR Z m 2063597567 τ C0 := by
  obtain ⟨t1, t4, tk⟩ := S
  obtain ⟨g, pn, hd, ht, hr, lD, lT, ha, hb, hc, B0⟩ := B
  have K0 := B0.kp
  simp only [inV] at ha hb hc
  obtain ⟨f0_0, f0_1, f0_2, f0_3, f0_4, f0_5, f0_6, f0_7, f0_8⟩ := ld72 ((K0.get p pn).trans g)
  obtain ⟨C1, hC1⟩ : ∃ C : AH, C = C0.push (.cells 5 false [.int .u8 49]) := ⟨_, rfl⟩
  have B0 : BX Z C1 (.slice C0.next 0 1) 1 := by rw [hC1]; exact BX.new K0 49
  have K0' := B0.kp
  have hC1' := hC1.symm
  obtain ⟨g0_0, g0_1, g0_2, g0_3, g0_4, g0_5, g0_6, g0_7, g0_8⟩ := ld72 ((K0'.get p pn).trans g)
  obtain ⟨v1, X1, e1, B1⟩ := B0.c (by omega) hd (by omega) m (by omega)
  have K1 := B1.kp
  obtain ⟨f1_0, f1_1, f1_2, f1_3, f1_4, f1_5, f1_6, f1_7, f1_8⟩ := ld72 ((K1.get p pn).trans g)
  unfold ZsR
  rw [at_M Try.func49 2063597567 (by decide) 31 (by decide) (by kernel_rfl) []]
  exact ⟨_, _, by simp [Try.f49, U, t1, t4, tk, e1, f0_1, f0_2, f0_3, f0_4, f0_5, f0_6, f0_0, f1_1, f1_2, f1_3, f1_4, f1_5, f1_6, f1_0, hC1', zerosA, fillA, spl, g0_1, g0_2, g0_5, evHist, ObsOk, ObOk, List.getElem?_cons_zero]; rfl, K1⟩
set_option maxRecDepth 20000 in
set_option maxHeartbeats 2000000 in
theorem zsK_18 {Z C0 : AH} {p : Nat} {a b c : Int} {fin : Bool} {d t r v0 : AV} {D T : List Int} {rs : List Rg} {bR : List Nat} (B : ZsB Z C0 p 18 a b c fin d t r v0 D T rs bR) (hx : a ≤ 1152921504606846976 ∧ b ≤ 1) (m : Nat) (hm : 320 ≤ m) (τ : Tm) (S : ZsT τ p v0 18) : ZsR Z m 31487 τ C0 := by
  obtain ⟨t1, t4, tk⟩ := S
  obtain ⟨g, pn, hd, ht, hr, lD, lT, ha, hb, hc, B0⟩ := B
  have K0 := B0.kp
  simp only [inV] at ha hb hc
  obtain ⟨f0_0, f0_1, f0_2, f0_3, f0_4, f0_5, f0_6, f0_7, f0_8⟩ := ld72 ((K0.get p pn).trans g)
  have w1 : IntKind.i64.wrap (18 + b) = 18 + b := wrap_i64 (by omega) (by omega)
  have w2 : IntKind.u8.wrap (18 + b) = 18 + b := by rw [IntKind.wrap_u8]; omega
  have cx : ∀ h', convA Try.prog 3 5 (.int .i64 (18 + b)) h' = some (.int .u8 (18 + b), h') := fun h' => (conv_int (ds := .int .i64) (k := .u8) (by simp) (by simp)).trans (by rw [w2])
  obtain ⟨C1, hC1⟩ : ∃ C : AH, C = C0.push (.cells 5 false [.int .u8 (18 + b)]) := ⟨_, rfl⟩
  have B0 : BX Z C1 (.slice C0.next 0 1) 1 := by rw [hC1]; exact BX.new K0 (18 + b)
  have K0' := B0.kp
  have hC1' := hC1.symm
  obtain ⟨g0_0, g0_1, g0_2, g0_3, g0_4, g0_5, g0_6, g0_7, g0_8⟩ := ld72 ((K0'.get p pn).trans g)
  obtain ⟨v1, X1, e1, B1⟩ := B0.n (by omega) (x := a) ⟨ha.1, ha.2⟩ m (by omega)
  have K1 := B1.kp
  obtain ⟨f1_0, f1_1, f1_2, f1_3, f1_4, f1_5, f1_6, f1_7, f1_8⟩ := ld72 ((K1.get p pn).trans g)
  unfold ZsR
  rw [at_M Try.func49 31487 (by decide) 15 (by decide) (by kernel_rfl) []]
  exact ⟨_, _, by simp [Try.f49, U, t1, t4, tk, e1, f0_1, f0_2, f0_3, f0_4, f0_5, f0_6, f0_0, f1_1, f1_2, f1_3, f1_4, f1_5, f1_6, f1_0, hC1', zerosA, fillA, spl, g0_1, g0_2, g0_5, w1, cx, evHist, ObsOk, ObOk, List.getElem?_cons_zero]; rfl, K1⟩
set_option maxRecDepth 20000 in
set_option maxHeartbeats 2000000 in
theorem zsK_22 {Z C0 : AH} {p : Nat} {a b c : Int} {fin : Bool} {d t r v0 : AV} {D T : List Int} {rs : List Rg} {bR : List Nat} (B : ZsB Z C0 p 22 a b c fin d t r v0 D T rs bR) (hx : a ≤ 1152921504606846976 ∧ b ≤ 1) (m : Nat) (hm : 320 ≤ m) (τ : Tm) (S : ZsT τ p v0 22) : ZsR Z m 31487 τ C0 := by
  obtain ⟨t1, t4, tk⟩ := S
  obtain ⟨g, pn, hd, ht, hr, lD, lT, ha, hb, hc, B0⟩ := B
  have K0 := B0.kp
  simp only [inV] at ha hb hc
  obtain ⟨f0_0, f0_1, f0_2, f0_3, f0_4, f0_5, f0_6, f0_7, f0_8⟩ := ld72 ((K0.get p pn).trans g)
  have w1 : IntKind.i64.wrap (22 + b) = 22 + b := wrap_i64 (by omega) (by omega)
  have w2 : IntKind.u8.wrap (22 + b) = 22 + b := by rw [IntKind.wrap_u8]; omega
  have cx : ∀ h', convA Try.prog 3 5 (.int .i64 (22 + b)) h' = some (.int .u8 (22 + b), h') := fun h' => (conv_int (ds := .int .i64) (k := .u8) (by simp) (by simp)).trans (by rw [w2])
  obtain ⟨C1, hC1⟩ : ∃ C : AH, C = C0.push (.cells 5 false [.int .u8 (22 + b)]) := ⟨_, rfl⟩
  have B0 : BX Z C1 (.slice C0.next 0 1) 1 := by rw [hC1]; exact BX.new K0 (22 + b)
  have K0' := B0.kp
  have hC1' := hC1.symm
  obtain ⟨g0_0, g0_1, g0_2, g0_3, g0_4, g0_5, g0_6, g0_7, g0_8⟩ := ld72 ((K0'.get p pn).trans g)
  obtain ⟨v1, X1, e1, B1⟩ := B0.n (by omega) (x := a) ⟨ha.1, ha.2⟩ m (by omega)
  have K1 := B1.kp
  obtain ⟨f1_0, f1_1, f1_2, f1_3, f1_4, f1_5, f1_6, f1_7, f1_8⟩ := ld72 ((K1.get p pn).trans g)
  unfold ZsR
  rw [at_M Try.func49 31487 (by decide) 15 (by decide) (by kernel_rfl) []]
  exact ⟨_, _, by simp [Try.f49, U, t1, t4, tk, e1, f0_1, f0_2, f0_3, f0_4, f0_5, f0_6, f0_0, f1_1, f1_2, f1_3, f1_4, f1_5, f1_6, f1_0, hC1', zerosA, fillA, spl, g0_1, g0_2, g0_5, w1, cx, evHist, ObsOk, ObOk, List.getElem?_cons_zero]; rfl, K1⟩
end Go.Ev

/- A frame's bytes by the reference: the other kinds. -/
namespace Go.Ev
open Go Go.Proofs
set_option linter.unusedSimpArgs false
set_option linter.unusedVariables false

set_option maxRecDepth 20000 in
theorem zsK_0 {Z C0 : AH} {p : Nat} {a b c : Int} {fin : Bool} {d t r v0 : AV} {D T : List Int} {rs : List Rg} {bR : List Nat} (B : ZsB Z C0 p 0 a b c fin d t r v0 D T rs bR) (hx : 1 ≤ a ∧ a ≤ 1500) (m : Nat) (hm : 320 ≤ m) (τ : Tm) (S : ZsT τ p v0 0) :
    ∃ τ' H', evAt Try.prog (ev Try.prog m) m 49 122 τ C0 = some (.ret, τ', H') ∧ τ' 3 = .int .i64 0 ∧ Kp Z H' := by
  obtain ⟨t1, t4, tk⟩ := S
  obtain ⟨g, pn, hd, ht, hr, lD, lT, ha, hb, hc, B0⟩ := B
  have K0 := B0.kp
  obtain ⟨f0, f1, f2, f3, f4, f5, f6, f7, f8⟩ := ld72 ((K0.get p pn).trans g)
  obtain ⟨A, rfl⟩ : ∃ A : Nat, a = A := ⟨a.toNat, by omega⟩
  obtain ⟨N, hN⟩ : ∃ N : AH, N = C0.push (.cells 5 false (zerosA [.int .u8 0] A)) := ⟨_, rfl⟩
  have hA : (A : Int) ≤ 281474976710656 := by omega
  have hA2 : A ≤ 281474976710656 := by omega
  have hN' := hN.symm
  rw [at_M Try.func49 122 (by decide) 7 (by decide) (by kernel_rfl) []]
  exact ⟨_, N, by simp [Try.f49, U, t1, tk, f1, hA, hA2, hN']; rfl, by simp, by rw [hN]; exact K0.push _⟩
set_option maxRecDepth 20000 in
theorem zsK_2 {Z C0 : AH} {p : Nat} {a b c : Int} {fin : Bool} {d t r v0 : AV} {D T : List Int} {rs : List Rg} {bR : List Nat} (B : ZsB Z C0 p 2 a b c fin d t r v0 D T rs bR) (hL : rgOK rs) (h0 : 0 < rs.length) (m : Nat) (hm : 320 ≤ m) (τ : Tm) (S : ZsT τ p v0 2) : ZsR Z m 491 τ C0 := by
  obtain ⟨t1, t4, tk⟩ := S
  obtain ⟨g, pn, hd, ht, hr, lD, lT, ha, hb, hc, B0⟩ := B
  have K0 := B0.kp
  obtain ⟨f0, f1, f2, f3, f4, f5, f6, f7, f8⟩ := ld72 ((K0.get p pn).trans g)
  obtain ⟨v', H', b', l', e, _, _, K'⟩ := AckBytesS_ev (k := 2) (a := a) (b := b) (c := c) (fin := fin) hr K0 hd.one ht.one hL h0 ha m (by omega)
  unfold ZsR
  rw [at_M Try.func49 491 (by decide) 9 (by decide) (by kernel_rfl) []]
  exact ⟨_, _, by simp [Try.f49, U, t1, tk, f8, e]; rfl, K0.trans K'⟩
set_option maxRecDepth 20000 in
theorem zsK_8 {Z C0 : AH} {p : Nat} {a b c : Int} {fin : Bool} {d t r v0 : AV} {D T : List Int} {rs : List Rg} {bR : List Nat} (B : ZsB Z C0 p 8 a b c fin d t r v0 D T rs bR) (m : Nat) (hm : 320 ≤ m) (τ : Tm) (S : ZsT τ p v0 8) : ZsR Z m 8060927 τ C0 := by
  obtain ⟨t1, t4, tk⟩ := S
  obtain ⟨g, pn, hd, ht, hr, lD, lT, ha, hb, hc, B0⟩ := B
  have K0 := B0.kp
  simp only [inV] at ha hb
  obtain ⟨f0, f1, f2, f3, f4, f5, f6, f7, f8⟩ := ld72 ((K0.get p pn).trans g)
  have w11 : IntKind.i64.wrap 11 = 11 := by decide
  have w14 : IntKind.i64.wrap 14 = 14 := by decide
  have w15 : IntKind.i64.wrap 15 = 15 := by decide
  obtain ⟨M, hM⟩ : ∃ M : Int, M = if fin = true then 11 else 10 := ⟨_, rfl⟩
  have hMb : 10 ≤ M ∧ M ≤ 11 := by rw [hM]; split <;> omega
  obtain ⟨M2, hM2⟩ : ∃ M2 : Int, M2 = if b = 0 then M else M + 4 := ⟨_, rfl⟩
  have hM2b : 10 ≤ M2 ∧ M2 ≤ 15 := by rw [hM2]; split <;> omega
  have w1 : IntKind.i64.wrap (M + 4) = M + 4 := wrap_i64 (by omega) (by omega)
  have w2 : IntKind.u8.wrap M2 = M2 := by rw [IntKind.wrap_u8]; omega
  have cx : ∀ h', convA Try.prog 3 5 (.int .i64 M2) h' = some (.int .u8 M2, h') := fun h' => (conv_int (ds := .int .i64) (k := .u8) (by simp) (by simp)).trans (by rw [w2])
  obtain ⟨C1, hC1⟩ : ∃ C : AH, C = C0.push (.cells 5 false [.int .u8 M2]) := ⟨_, rfl⟩
  have B1 : BX Z C1 (.slice C0.next 0 1) 1 := by rw [hC1]; exact BX.new K0 M2
  have hC1' := hC1.symm
  obtain ⟨_, p1, p2, _, _, p5, _⟩ := ld72 ((B1.kp.get p pn).trans g)
  obtain ⟨v2, X2, e2, B2⟩ := B1.n (by omega) (x := a) ⟨ha.1, ha.2⟩ m (by omega)
  obtain ⟨_, q1, q2, _, _, q5, _⟩ := ld72 ((B2.kp.get p pn).trans g)
  unfold ZsR
  by_cases c0 : b = 0
  · have c0' : (b != 0) = false := by simpa using c0
    obtain ⟨v3, X3, e3, B3⟩ := B2.c (by omega) hd (by omega) m (by omega)
    rw [if_pos c0] at hM2
    rw [at_M Try.func49 8060927 (by decide) 23 (by decide) (by kernel_rfl) []]
    cases fin with
    | true =>
      rw [if_pos rfl] at hM
      rw [hM] at hM2
      rw [hM2] at cx hC1'
      exact ⟨_, _, by simp [Try.f49, U, t1, tk, f1, f2, f4, c0', c0, w11, w14, w15, cx, hC1', zerosA, fillA, spl, p1, e2, q5, e3]; rfl, B3.kp⟩
    | false =>
      rw [if_neg (by simp)] at hM
      rw [hM] at hM2
      rw [hM2] at cx hC1'
      exact ⟨_, _, by simp [Try.f49, U, t1, tk, f1, f2, f4, c0', c0, w11, w14, w15, cx, hC1', zerosA, fillA, spl, p1, e2, q5, e3]; rfl, B3.kp⟩
  · have c0' : (b != 0) = true := by simpa using c0
    obtain ⟨v3, X3, e3, B3⟩ := B2.n (by omega) (x := b) ⟨hb.1, hb.2⟩ m (by omega)
    obtain ⟨_, r1, r2, _, _, r5, _⟩ := ld72 ((B3.kp.get p pn).trans g)
    obtain ⟨v4, X4, e4, B4⟩ := B3.c (by omega) hd (by omega) m (by omega)
    rw [if_neg c0] at hM2
    rw [at_M Try.func49 8060927 (by decide) 23 (by decide) (by kernel_rfl) []]
    cases fin with
    | true =>
      rw [if_pos rfl] at hM
      rw [hM] at hM2
      simp at hM2
      rw [hM2] at cx hC1'
      exact ⟨_, _, by simp [Try.f49, U, t1, tk, f1, f2, f4, c0', c0, w11, w14, w15, cx, hC1', zerosA, fillA, spl, p1, p2, e2, q2, q5, e3, r5, e4, evHist, ObsOk, ObOk, List.getElem?_cons_zero]; rfl, B4.kp⟩
    | false =>
      rw [if_neg (by simp)] at hM
      rw [hM] at hM2
      simp at hM2
      rw [hM2] at cx hC1'
      exact ⟨_, _, by simp [Try.f49, U, t1, tk, f1, f2, f4, c0', c0, w11, w14, w15, cx, hC1', zerosA, fillA, spl, p1, p2, e2, q2, q5, e3, r5, e4, evHist, ObsOk, ObOk, List.getElem?_cons_zero]; rfl, B4.kp⟩
end Go.Ev

/- A frame's bytes by the reference: the kind 24, the whole function. -/
namespace Go.Ev
open Go Go.Proofs
set_option linter.unusedSimpArgs false
set_option linter.unusedVariables false

set_option maxRecDepth 20000 in
theorem zsK_24 {Z C0 : AH} {p : Nat} {a b c : Int} {fin : Bool} {d t r v0 : AV} {D T : List Int} {rs : List Rg} {bR : List Nat} (B : ZsB Z C0 p 24 a b c fin d t r v0 D T rs bR) (m : Nat) (hm : 320 ≤ m) (τ : Tm) (S : ZsT τ p v0 24) : ZsR Z m 32243711 τ C0 := by
  obtain ⟨t1, t4, tk⟩ := S
  obtain ⟨g, pn, hd, ht, hr, lD, lT, ha, hb, hc, B0⟩ := B
  have K0 := B0.kp
  simp only [inV] at ha hb
  have K0n := K0.next
  obtain ⟨Y, hY⟩ : ∃ Y : AH, Y = C0.res 1 := ⟨_, rfl⟩
  have nY : Y.next = C0.next + 1 := by rw [hY]; rfl
  have KY : Kp C0 Y := ⟨by omega, fun x hx => by rw [hY, res_get, if_neg (by omega)]⟩
  have hY' := hY.symm
  obtain ⟨l0, b0, BO0, hl0, hb0, _⟩ := B0
  have b0n := BO0.2.1
  obtain ⟨_, f1, f2, _, _, f5, f6, _⟩ := ld72 (((K0.trans KY).get p pn).trans g)
  obtain ⟨v1, X1, e1, l1, b1, BO1, k1, c1, hl1⟩ := l05N_ev (BO0.kp KY) (x := a) ⟨ha.1, ha.2⟩ (by omega) m (by omega)
  have K1 : Kp Z X1 := KoS.kp (K0.trans KY) k1 (by simp; exact hb0)
  have b1w : Z.next ≤ b1 ∧ b1 ≠ C0.next := by rcases c1 with h | h <;> omega
  obtain ⟨_, g1, g2, _, _, g5, g6, _⟩ := ld72 ((K1.get p pn).trans g)
  obtain ⟨v2, X2, e2, l2, b2, BO2, k2, c2, hl2⟩ := l05N_ev BO1 (x := b) ⟨hb.1, hb.2⟩ (by omega) m (by omega)
  have K2 : Kp Z X2 := KoS.kp K1 k2 (by simp; exact b1w.1)
  have k1n := k1.next
  have k2n := k2.next
  have b2w : Z.next ≤ b2 ∧ b2 ≠ C0.next := by rcases c2 with h | h <;> omega
  obtain ⟨_, h1, h2, _, _, h5, h6, _⟩ := ld72 ((K2.get p pn).trans g)
  have hL := hd.len
  obtain ⟨n, hn⟩ : ∃ n : Int, n = IntKind.u8.wrap (D.length : Int) := ⟨_, rfl⟩
  have cx : ∀ h', convA Try.prog 3 5 (.int .i64 (D.length : Int)) h' = some (.int .u8 n, h') := fun h' => (conv_int (ds := .int .i64) (k := .u8) (by simp) (by simp)).trans (by rw [hn])
  obtain ⟨G, hG⟩ : ∃ G : AH, G = X2.set C0.next (.cells 5 false [.int .u8 n]) := ⟨_, rfl⟩
  have nG : G.next = X2.next := by rw [hG]; simp
  have BG : BO G v2 l2 b2 := ⟨BO2.1, by rw [nG]; exact BO2.2.1, by rw [hG, AH.set_getN _ _ b2w.2]; exact BO2.2.2⟩
  have BsG : Bs G (.slice C0.next 0 1) [n] := Bs.mk' (l := [n]) (ro := false) (by rw [hG]; simp [u8L]) (by omega)
  have KG : Kp Z G := ⟨by have := K2.next; omega, fun x hx => by rw [hG, AH.set_getN _ _ (by omega)]; exact K2.get x hx⟩
  obtain ⟨v3, X3, b3, e3, BO3, k3, c3⟩ := BG.appB BsG (by simp; omega)
  have K3 : Kp Z X3 := KoS.kp KG k3 (by simp; exact b2w.1)
  have k3n := k3.next
  have b3w : Z.next ≤ b3 := by have := KG.next; rcases c3 with h | h <;> omega
  rw [hG] at e3
  obtain ⟨_, i1, i2, _, _, i5, i6, _⟩ := ld72 ((K3.get p pn).trans g)
  have B3 : BX Z X3 v3 100 := ⟨_, b3, BO3, by simp; omega, b3w, K3⟩
  obtain ⟨v4, X4, e4, B4⟩ := B3.a (by omega) hd (by omega)
  obtain ⟨_, j1, j2, _, _, j5, j6, _⟩ := ld72 ((B4.kp.get p pn).trans g)
  obtain ⟨v5, X5, e5, B5⟩ := B4.a (by omega) ht (by omega)
  unfold ZsR
  rw [at_M Try.func49 32243711 (by decide) 25 (by decide) (by kernel_rfl) []]
  exact ⟨_, _, by simp [Try.f49, U, t1, t4, tk, hY', f1, f2, f5, e1, g1, g2, g5, e2, h1, h2, h5, hL, cx, e3, i5, i6, e4, j5, j6, e5, zerosA, fillA, spl, evHist, ObsOk, ObOk, List.getElem?_cons_zero]; rfl, B5.kp⟩
theorem frOK_kind {k a b c : Int} {fin : Bool} {dl tl : Nat} {rs : List (Int × Int)} (h : frOK k a b c fin dl tl rs) : kindIn k := by
  apply Classical.byContradiction
  intro hk
  have := h.1.1
  rw [uses_not hk] at this
  simp at this
set_option maxRecDepth 20000 in
/-- all kinds -/
theorem zs_all {Z C0 : AH} {p : Nat} {k a b c : Int} {fin : Bool} {d t r v0 : AV} {D T : List Int} {rs : List Rg} {bR : List Nat} (B : ZsB Z C0 p k a b c fin d t r v0 D T rs bR) (ok : frOK k a b c fin D.length T.length rs) (m : Nat) (hm : 320 ≤ m) (τ : Tm) (S : ZsT τ p v0 k) :
    ∃ e τ' H', evAt Try.prog (ev Try.prog m) m 49 122 τ C0 = some (e, τ', H') ∧ (e = .normal ∨ (e = .ret ∧ τ' 3 = .int .i64 0)) ∧ Kp Z H' := by
  have hk := frOK_kind ok
  have hX := ok.2.2
  have fin_ : ∀ {pl : Nat} {τ1 : Tm}, evAt Try.prog (ev Try.prog m) m 49 122 τ C0 = evAt Try.prog (ev Try.prog m) m 49 pl τ1 C0 → ZsR Z m pl τ1 C0 → ∃ e τ' H', evAt Try.prog (ev Try.prog m) m 49 122 τ C0 = some (e, τ', H') ∧ (e = .normal ∨ (e = .ret ∧ τ' 3 = .int .i64 0)) ∧ Kp Z H' := by
    rintro pl τ1 e ⟨τ', H', e', K'⟩
    exact ⟨.normal, τ', H', e.trans e', .inl rfl, K'⟩
  by_cases k0 : k = 0
  · subst k0
    obtain ⟨τ', H', e, h3, K'⟩ := zsK_0 B (by simpa [frX] using hX) m hm τ S
    exact ⟨.ret, τ', H', e, .inr ⟨rfl, h3⟩, K'⟩
  obtain ⟨s1, q1, S⟩ := zsS_122 k k0 m τ C0 S
  by_cases k2 : k = 2
  · subst k2
    have hr := ok.2.1.2.2.2.1
    exact fin_ q1 (zsK_2 B ok.2.1.2.2.2.2 (by simpa [usesL] using hr) m hm s1 S)
  obtain ⟨s2, q2, S⟩ := zsS_491 k k2 m s1 C0 S
  replace q2 := q1.trans q2
  by_cases k4 : k = 4
  · subst k4; exact fin_ q2 (zsK_4 B m hm _ S)
  obtain ⟨s3, q3, S⟩ := zsS_1967 k k4 m _ C0 S
  replace q3 := q2.trans q3
  by_cases k5 : k = 5
  · subst k5; exact fin_ q3 (zsK_5 B m hm _ S)
  by_cases k17 : k = 17
  · subst k17; exact fin_ q3 (zsK_17 B m hm _ S)
  by_cases k21 : k = 21
  · subst k21; exact fin_ q3 (zsK_21 B m hm _ S)
  obtain ⟨s4, q4, S⟩ := zsS_7871 k k5 k17 k21 m _ C0 S
  replace q4 := q3.trans q4
  by_cases k18 : k = 18
  · subst k18; exact fin_ q4 (zsK_18 B (by simpa [frX] using hX) m hm _ S)
  by_cases k22 : k = 22
  · subst k22; exact fin_ q4 (zsK_22 B (by simpa [frX] using hX) m hm _ S)
  obtain ⟨s5, q5, S⟩ := zsS_31487 k k18 k22 m _ C0 S
  replace q5 := q4.trans q5
  by_cases k16 : k = 16
  · subst k16; exact fin_ q5 (zsK_16 B m hm _ S)
  by_cases k20 : k = 20
  · subst k20; exact fin_ q5 (zsK_20 B m hm _ S)
  by_cases k25 : k = 25
  · subst k25; exact fin_ q5 (zsK_25 B m hm _ S)
  obtain ⟨s6, q6, S⟩ := zsS_125951 k k16 k20 k25 m _ C0 S
  replace q6 := q5.trans q6
  by_cases k6 : k = 6
  · subst k6; exact fin_ q6 (zsK_6 B m hm _ S)
  by_cases k29 : k = 29
  · subst k29; exact fin_ q6 (zsK_29 B m hm _ S)
  obtain ⟨s7, q7, S⟩ := zsS_503807 k k6 k29 m _ C0 S
  replace q7 := q6.trans q7
  by_cases k7 : k = 7
  · subst k7; exact fin_ q7 (zsK_7 B m hm _ S)
  obtain ⟨s8, q8, S⟩ := zsS_2015231 k k7 m _ C0 S
  replace q8 := q7.trans q8
  by_cases k8 : k = 8
  · subst k8; exact fin_ q8 (zsK_8 B m hm _ S)
  obtain ⟨s9, q9, S⟩ := zsS_8060927 k k8 m _ C0 S
  replace q9 := q8.trans q9
  by_cases k24 : k = 24
  · subst k24; exact fin_ q9 (zsK_24 B m hm _ S)
  obtain ⟨sa, qa, S⟩ := zsS_32243711 k k24 m _ C0 S
  replace qa := q9.trans qa
  by_cases k26 : k = 26
  · subst k26; exact fin_ qa (zsK_26 B m hm _ S)
  by_cases k27 : k = 27
  · subst k27; exact fin_ qa (zsK_27 B m hm _ S)
  obtain ⟨sb, qb, S⟩ := zsS_128974847 k k26 k27 m _ C0 S
  replace qb := qa.trans qb
  by_cases k28 : k = 28
  · subst k28; exact fin_ qb (zsK_28 B m hm _ S)
  obtain ⟨sc, qc, S⟩ := zsS_515899391 k k28 m _ C0 S
  replace qc := qb.trans qc
  have : k = 1 ∨ k = 30 ∨ k = 48 := by unfold kindIn at hk; omega
  rcases this with rfl | rfl | rfl
  · exact fin_ qc (zsK_1 B m hm _ S)
  · exact fin_ qc (zsK_30 B m hm _ S)
  · exact fin_ qc (zsK_48 B m hm _ S)
set_option maxRecDepth 20000 in
theorem FrameBytesS_ev {rw : Bool} {Hb H : AH} {k a b c : Int} {fin : Bool} {d t r : AV} {D T : List Int} {rs : List Rg} {bR : List Nat} (hd : Bs Hb d D) (ht : Bs Hb t T) (hr : (Ty.sl 94 tT94).R true Hb [r] rs bR) (hK : Kp Hb H) (lD : D.length ≤ 1600) (lT : T.length ≤ 20) (lR : rs.length ≤ 66) (m : Nat) (hm : 330 ≤ m) :
    ∃ v' H', ev Try.prog m 49 [.agg (frC k a b c fin d t r)] H = some (.tuple [v', .int .i64 (if frOK k a b c fin D.length T.length rs then 0 else 1)], H') ∧ Kp H H' := by
  obtain ⟨m, rfl⟩ : ∃ k, m = k + 1 := ⟨m - 1, by omega⟩
  obtain ⟨Z, hZ⟩ : ∃ Z : AH, Z = H.push (.cells 72 false (frC k a b c fin d t r)) := ⟨_, rfl⟩
  have kZ : Kp H Z := by rw [hZ]; exact (Kp.refl H).push _
  have nZ : Z.next = H.next + 1 := by rw [hZ]; simp
  have gZ : Z.get H.next = some (.cells 72 false (frC k a b c fin d t r)) := by rw [hZ]; simp
  obtain ⟨H1, e1, K1⟩ := FrameOKS_ev (k := k) (a := a) (b := b) (c := c) (fin := fin) hr (hK.trans kZ) hd.len ht.len hd.one ht.one (by omega) (by omega) m (by omega)
  have K1n := K1.next
  have g1 := (K1.get H.next (by omega)).trans gZ
  obtain ⟨f0, _, _, _, _, _, _, _, f8⟩ := ld72 gZ
  obtain ⟨q0, _⟩ := ld72 g1
  have hZ' := hZ.symm
  have od := hd.one; have ot := ht.one; have or_ := hr.sl_one
  by_cases ok : frOK k a b c fin D.length T.length rs
  · rw [decide_eq_true ok] at e1
    rw [if_pos ok]
    have hk := frOK_kind ok
    have hkb : 0 ≤ k ∧ k ≤ 48 := by unfold kindIn at hk; omega
    have w2 : IntKind.u8.wrap k = k := by rw [IntKind.wrap_u8]; omega
    have cx : ∀ h', convA Try.prog 3 5 (.int .i64 k) h' = some (.int .u8 k, h') := fun h' => (conv_int (ds := .int .i64) (k := .u8) (by simp) (by simp)).trans (by rw [w2])
    obtain ⟨C0, hC⟩ : ∃ C : AH, C = H1.push (.cells 5 false [.int .u8 k]) := ⟨_, rfl⟩
    have B0 : BX H1 C0 (.slice H1.next 0 1) 1 := by rw [hC]; exact BX.new (Kp.refl H1) k
    have hC' := hC.symm
    obtain ⟨r0, _⟩ := ld72 ((B0.kp.get H.next (by omega)).trans g1)
    have KH1 := (hK.trans kZ).trans K1
    have key : ∀ τ : Tm, ZsT τ H.next (.slice H1.next 0 1) k → _ := fun τ S => zs_all (Z := H1) (C0 := C0) ⟨g1, by omega, hd.kp KH1, ht.kp KH1, hr.kp KH1, lD, lT, ok.1.2.1, ok.1.2.2.1, ok.1.2.2.2.1, B0⟩ ok m (by omega) τ S
    simp only [frC] at hZ' ⊢
    simp only [frC] at f8 e1
    rw [ev_M Try.func49 ok49 [122] m _ H (by simp [Try.f49])]
    simp [Try.f49, U, tm0, hZ', od, ot, or_, f8, e1, q0, cx, hC', r0, zerosA, fillA, spl]
    generalize hτ : upd _ 15 _ = τ1
    obtain ⟨e, τ', H', q, hq, K'⟩ := key τ1 ⟨by rw [← hτ]; simp, by rw [← hτ]; simp, by rw [← hτ]; simp⟩
    rw [q]
    rcases hq with rfl | ⟨rfl, h3⟩
    · exact ⟨_, H', by simp [Try.f49, U]; rfl, (kZ.trans K1).trans K'⟩
    · exact ⟨_, H', by simp [Try.f49, U, h3]; rfl, (kZ.trans K1).trans K'⟩
  · rw [decide_eq_false ok] at e1
    rw [if_neg ok]
    simp only [frC] at hZ' ⊢
    simp only [frC] at f8 e1
    refine ⟨.slice H1.next 0 0, H1.push (.cells 5 false []), ?_, (kZ.trans K1).push _⟩
    rw [ev_M Try.func49 ok49 [] m _ H (by simp [Try.f49])]
    simp [Try.f49, U, tm0, hZ', od, ot, or_, f8, e1, zerosA, fillA, spl]
end Go.Ev

/- The law FnFrames: a drawn frame's bytes; whether it is taken. -/
namespace Go.Ev
open Go Go.Proofs
set_option linter.unusedSimpArgs false
set_option linter.unusedVariables false

/-- the last frame's kind -/
theorem last72 {h : AH} {lv : AV} {L : List tT72.D} {bL : List Nat} (R : (Ty.sl 72 tT72).R true h [lv] L bL) {n : Nat} (hn : L.length = n + 1) : ∃ b o x, L.getLast? = some x ∧ idxA Try.prog 61 lv (.int .i64 n) = some (.ptr b o) ∧ b < h.next ∧ ∀ X, Kp h X → ldVar Try.prog 3 b o X = some (.int .i64 x.1) := by
  obtain ⟨b, o, ro, x1, c, x2, bk, u1, u2, u3, u4, u5, u6, u7, u8⟩ := Ty.R.at_ R (P := Try.prog) (T := 61) (by simp) (by simp [Ty.n]) (k := n) (by omega)
  have hx : L.getLast? = some (L[n]'(by omega)) := by rw [List.getLast?_eq_getElem?, show L.length - 1 = n by omega]; simp [show n < L.length by omega]
  generalize (L[n]'(by omega)) = x at *
  obtain ⟨k, a, bb, cc, f, D, T, rs⟩ := x
  obtain ⟨v5, v6, v7, b5, b6, b7, hc, _⟩ := o72 u5
  refine ⟨b, o, _, hx, u1, u2, fun X KX => ?_⟩
  exact ldf0 ((KX.get b u2).trans u3) u4 (by simp) (by rw [hc]; rfl)
set_option maxRecDepth 20000 in
theorem ff_b {H0 h0 h : AH} {s lv av : AV} {i p : Nat} {k a b c : Int} {fin : Bool} {d t r : AV} {D T : List Int} {rs : List Rg} {bD bT bR bL : List Nat} {L : List tT72.D} {ab : Nat}
    (F : FfF h0 h p k a b c fin d t r D T rs bD bT bR) (G : FfH H0 h L lv av bL ab) (hL : L.length ≤ 255) (hfl : (flatL L).length ≤ 65536) (m : Nat) (hm : 30000 ≤ m) (τ : Tm) (TT : FfT τ s lv av i) (t6 : τ 6 = .ptr p 0) :
    (∃ τ' h', evAt Try.prog (ev Try.prog m) m 9 8009 τ h = some (.exit 1, τ', h') ∧ FfT τ' s lv av i ∧ Kp h h') ∨
    (frOK k a b c fin D.length T.length rs ∧ (k = 0 → ∀ x, L.getLast? = some x → x.1 ≠ 0) ∧ (flatL L).length + (fyB4 k a b c fin D T rs).length ≤ 65536 ∧ ∃ τ' h' v, evAt Try.prog (ev Try.prog m) m 9 8009 τ h = evAt Try.prog (ev Try.prog m) m 9 128159 τ' h' ∧ FfT τ' s lv av i ∧ τ' 6 = .ptr p 0 ∧ τ' 7 = v ∧ Kp h h' ∧ BE h h' v (fyB4 k a b c fin D T rs)) := by
  obtain ⟨t0, t3, t4, t5⟩ := TT
  obtain ⟨hd, hbD, ht, hbT⟩ := F.bsD
  obtain ⟨v1, X1, e1, K1, B1⟩ := FrameBytesI_ev (k := k) (a := a) (b := b) (c := c) (fin := fin) hd ht F.RR (Kp.refl h) F.lD F.lT F.lR m (by omega)
  obtain ⟨v2, X2, e2, K2⟩ := FrameBytesS_ev (rw := true) (k := k) (a := a) (b := b) (c := c) (fin := fin) hd ht F.RR K1 F.lD F.lT F.lR m (by omega)
  obtain ⟨X3, e3, K3⟩ := FrameOKI_ev (k := k) (a := a) (b := b) (c := c) (fin := fin) F.RR (K1.trans K2) hd.len ht.len hd.one ht.one (by have := F.lD; omega) (by have := F.lR; omega) m (by omega)
  have K12 := K1.trans K2
  have K13 := K12.trans K3
  obtain ⟨_, _, _, _, _, _, _, _, l0⟩ := ld72 F.g
  obtain ⟨_, _, _, _, _, _, _, _, l1⟩ := ld72 ((K1.get p F.pn).trans F.g)
  obtain ⟨_, _, _, _, _, _, _, _, l2⟩ := ld72 ((K12.get p F.pn).trans F.g)
  obtain ⟨q0, _⟩ := ld72 ((K13.get p F.pn).trans F.g)
  have LL := G.R.lenA (P := Try.prog) (T := 61) (by simp)
  have LA := G.B.bs.len
  by_cases ok : frOK k a b c fin D.length T.length rs
  · have B1 := B1 ok
    rw [if_pos ok] at e1 e2
    rw [decide_eq_true ok] at e3
    have LV : ∀ h', lenA Try.prog 34 v1 h' = some (.int .i64 ((fyB4 k a b c fin D T rs).length : Int)) := by obtain ⟨bb, BO1, _⟩ := B1; exact BO1.bs.len
    have hv : (fyB4 k a b c fin D T rs).length ≤ 4000 := (fy_facts (d := (k, a, b, c, fin, D, T, rs)) ⟨ok, hbD, hbT⟩ F.lD F.lT).2.1
    obtain ⟨NA, hNA⟩ : ∃ N : Nat, N = (flatL L).length := ⟨_, rfl⟩
    obtain ⟨NV, hNV⟩ : ∃ N : Nat, N = (fyB4 k a b c fin D T rs).length := ⟨_, rfl⟩
    rw [← hNA] at LA
    rw [← hNV] at LV
    obtain ⟨S, hS⟩ : ∃ S : Int, S = (NA : Int) + NV := ⟨_, rfl⟩
    have wS : IntKind.i64.wrap ((NA : Int) + (NV : Int)) = S := by rw [wrap_i64 (by omega) (by omega), hS]
    rw [← hNA, ← hNV]
    -- the test whether two paddings touch
    have last : k = 0 → ∀ n, L.length = n + 1 → ∃ b o x, L.getLast? = some x ∧ idxA Try.prog 61 lv (.int .i64 n) = some (.ptr b o) ∧ ldVar Try.prog 3 b o X3 = some (.int .i64 x.1) := fun _ n hn => by
      obtain ⟨b, o, x, h1, h2, h3, h4⟩ := last72 G.R hn
      exact ⟨b, o, x, h1, h2, h4 X3 K13⟩
    by_cases touch : k = 0 ∧ ∃ x, L.getLast? = some x ∧ x.1 = 0
    · obtain ⟨rfl, x, hx, hx0⟩ := touch
      obtain ⟨n, hn⟩ : ∃ n, L.length = n + 1 := ⟨L.length - 1, by cases L with | nil => simp at hx | cons => simp⟩
      obtain ⟨bb, o, y, y1, y2, y3⟩ := last rfl n hn
      rw [hx] at y1
      simp only [Option.some.injEq] at y1
      subst y1
      rw [hx0] at y3
      rw [hn] at LL
      have p0 : ((0:Int) < ((n + 1 : Nat) : Int)) = True := eq_true (by omega)
      obtain ⟨NL, hNL⟩ : ∃ N : Int, N = ((n + 1 : Nat) : Int) := ⟨_, rfl⟩
      rw [← hNL] at p0 LL
      have wn : IntKind.i64.wrap (NL - 1) = (n : Int) := by rw [wrap_i64 (by omega) (by omega)]; omega
      left
      rw [at_M Try.func9 8009 (by decide) 13 (by decide) (by kernel_rfl) []]
      exact ⟨_, X3, by simp [Try.f9, U, t0, t3, t4, t5, t6, l0, e1, l1, e2, l2, e3, q0, LL, p0, wn, y2, y3]; rfl, ⟨by simp [t0], by simp [t3], by simp [t4], by simp [t5]⟩, K13⟩
    · have tch : k = 0 → ∀ x, L.getLast? = some x → x.1 ≠ 0 := fun h0 x hx e => touch ⟨h0, x, hx, e⟩
      by_cases big : 65536 < NA + NV
      · have bg : ((65536 : Int) < S) = True := eq_true (by omega)
        left
        rw [at_M Try.func9 8009 (by decide) 13 (by decide) (by kernel_rfl) []]
        by_cases k0 : k = 0
        · subst k0
          by_cases hn0 : L.length = 0
          · rw [hn0] at LL
            exact ⟨_, X3, by simp [Try.f9, U, t0, t3, t4, t5, t6, l0, e1, l1, e2, l2, e3, q0, LL, LA, LV, wS, bg]; rfl, ⟨by simp [t0], by simp [t3], by simp [t4], by simp [t5]⟩, K13⟩
          · obtain ⟨n, hn⟩ : ∃ n, L.length = n + 1 := ⟨L.length - 1, by omega⟩
            obtain ⟨bb, o, y, y1, y2, y3⟩ := last rfl n hn
            have y0 := tch rfl y y1
            have y0' : (y.1 == 0) = false := by simpa using y0
            rw [hn] at LL
            have p0 : ((0:Int) < ((n + 1 : Nat) : Int)) = True := eq_true (by omega)
            obtain ⟨NL, hNL⟩ : ∃ N : Int, N = ((n + 1 : Nat) : Int) := ⟨_, rfl⟩
            rw [← hNL] at p0 LL
            have wn : IntKind.i64.wrap (NL - 1) = (n : Int) := by rw [wrap_i64 (by omega) (by omega)]; omega
            exact ⟨_, X3, by simp [Try.f9, U, t0, t3, t4, t5, t6, l0, e1, l1, e2, l2, e3, q0, LL, p0, wn, y2, y3, y0, y0', LA, LV, wS, bg]; rfl, ⟨by simp [t0], by simp [t3], by simp [t4], by simp [t5]⟩, K13⟩
        · have k0' : (k == 0) = false := by simpa using k0
          exact ⟨_, X3, by simp [Try.f9, U, t0, t3, t4, t5, t6, l0, e1, l1, e2, l2, e3, q0, k0, k0', LA, LV, wS, bg]; rfl, ⟨by simp [t0], by simp [t3], by simp [t4], by simp [t5]⟩, K13⟩
      · have bg : ((65536 : Int) < S) = False := eq_false (by omega)
        refine .inr ⟨ok, tch, by omega, ?_⟩
        have B3 : BE h X3 v1 (fyB4 k a b c fin D T rs) := B1.move (K2.trans K3)
        rw [at_M Try.func9 8009 (by decide) 13 (by decide) (by kernel_rfl) [128159]]
        by_cases k0 : k = 0
        · subst k0
          by_cases hn0 : L.length = 0
          · rw [hn0] at LL
            exact ⟨_, X3, v1, by simp [Try.f9, U, t0, t3, t4, t5, t6, l0, e1, l1, e2, l2, e3, q0, LL, LA, LV, wS, bg]; rfl, ⟨by simp [t0], by simp [t3], by simp [t4], by simp [t5]⟩, by simp [t6], by simp, K13, B3⟩
          · obtain ⟨n, hn⟩ : ∃ n, L.length = n + 1 := ⟨L.length - 1, by omega⟩
            obtain ⟨bb, o, y, y1, y2, y3⟩ := last rfl n hn
            have y0 := tch rfl y y1
            have y0' : (y.1 == 0) = false := by simpa using y0
            rw [hn] at LL
            have p0 : ((0:Int) < ((n + 1 : Nat) : Int)) = True := eq_true (by omega)
            obtain ⟨NL, hNL⟩ : ∃ N : Int, N = ((n + 1 : Nat) : Int) := ⟨_, rfl⟩
            rw [← hNL] at p0 LL
            have wn : IntKind.i64.wrap (NL - 1) = (n : Int) := by rw [wrap_i64 (by omega) (by omega)]; omega
            exact ⟨_, X3, v1, by simp [Try.f9, U, t0, t3, t4, t5, t6, l0, e1, l1, e2, l2, e3, q0, LL, p0, wn, y2, y3, y0, y0', LA, LV, wS, bg]; rfl, ⟨by simp [t0], by simp [t3], by simp [t4], by simp [t5]⟩, by simp [t6], by simp, K13, B3⟩
        · have k0' : (k == 0) = false := by simpa using k0
          exact ⟨_, X3, v1, by simp [Try.f9, U, t0, t3, t4, t5, t6, l0, e1, l1, e2, l2, e3, q0, k0, k0', LA, LV, wS, bg]; rfl, ⟨by simp [t0], by simp [t3], by simp [t4], by simp [t5]⟩, by simp [t6], by simp, K13, B3⟩
  · rw [if_neg ok] at e1 e2
    rw [decide_eq_false ok] at e3
    left
    rw [at_M Try.func9 8009 (by decide) 13 (by decide) (by kernel_rfl) []]
    exact ⟨_, X3, by simp [Try.f9, U, t0, t3, t4, t5, t6, l0, e1, l1, e2, l2, e3]; rfl, ⟨by simp [t0], by simp [t3], by simp [t4], by simp [t5]⟩, K13⟩
end Go.Ev

/- The law FnFrames: a taken frame is read back and put behind the others. -/
namespace Go.Ev
open Go Go.Proofs
set_option linter.unusedSimpArgs false
set_option linter.unusedVariables false

theorem rfP_of {k a b c : Int} {fin : Bool} {D T : List Int} {rs : List Rg} (ok : frOK k a b c fin D.length T.length rs) (hl : (fyB4 k a b c fin D T rs).length ≤ 4000) :
    rfP ([9, 9] ++ fyB4 k a b c fin D T rs) 2 = (⟨k, a, b, c, fin, D, T, rs, true, 2 + (fyB4 k a b c fin D T rs).length, false⟩, ((2 + (fyB4 k a b c fin D T rs).length : Nat) : Int), 0) := by
  have h := fy_read ok (l := [9, 9] ++ fyB4 k a b c fin D T rs) (pre := [9, 9]) (post := []) (A := 2) (by simp) rfl (by simp)
  unfold rfP
  rw [if_neg (by simp; omega), if_neg (by simp; omega), show (2 : Int).toNat = 2 from rfl, h]
  simp
set_option maxRecDepth 20000 in
theorem ff_c {H0 h0 hb h : AH} {s lv av v : AV} {i p : Nat} {k a b c : Int} {fin : Bool} {d t r : AV} {D T : List Int} {rs : List Rg} {bD bT bR bL : List Nat} {L : List tT72.D} {ab : Nat}
    (F : FfF h0 hb p k a b c fin d t r D T rs bD bT bR) (G : FfH H0 hb L lv av bL ab) (hdis : (∀ x ∈ bL, x < h0.next) ∧ ab < h0.next ∧ H0.next ≤ h0.next) (K : Kp hb h) (B : BE hb h v (fyB4 k a b c fin D T rs)) (ok : frOK k a b c fin D.length T.length rs) (tch : k = 0 → ∀ x, L.getLast? = some x → x.1 ≠ 0) (hg : gdL L) (hfl : (flatL L).length + (fyB4 k a b c fin D T rs).length ≤ 65536) (hLl : L.length ≤ 200)
    (m : Nat) (hm : 30000 ≤ m) (τ : Tm) (TT : FfT τ s lv av i) (t6 : τ 6 = .ptr p 0) (t7 : τ 7 = v) :
    ∃ τ' h' lv' av' bL' ab', evAt Try.prog (ev Try.prog m) m 9 128159 τ h = some (.normal, τ', h') ∧ FfT τ' s lv' av' i ∧ FfH H0 h' (L ++ [(k, a, b, c, fin, D, T, rs)]) lv' av' bL' ab' ∧ gdL (L ++ [(k, a, b, c, fin, D, T, rs)]) ∧ (flatL (L ++ [(k, a, b, c, fin, D, T, rs)])).length ≤ 65536 := by
  obtain ⟨t0, t3, t4, t5⟩ := TT
  obtain ⟨hd, hbD, ht, hbT⟩ := F.bsD
  have hk := frOK_kindI ok
  have okE' : okE (k, a, b, c, fin, D, T, rs) := ⟨⟨ok, hbD, hbT⟩, F.lD, F.lT⟩
  obtain ⟨y1, y2, y3, y4⟩ := fy_facts okE'.tookD F.lD F.lT
  have hrf := rfP_of ok y2
  have y1 : By (fyB4 k a b c fin D T rs) := y1
  have y2 : (fyB4 k a b c fin D T rs).length ≤ 4000 := y2
  obtain ⟨bv, BV, hbv, KV⟩ := B
  -- the bytes behind two others
  obtain ⟨A, hA⟩ : ∃ A : AH, A = h.push (.cells 5 false [.int .u8 9, .int .u8 9]) := ⟨_, rfl⟩
  have kA : Kp h A := by rw [hA]; exact (Kp.refl h).push _
  have nA : A.next = h.next + 1 := by rw [hA]; simp
  have BA : BO A (.slice h.next 0 2) [9, 9] h.next := ⟨rfl, by omega, by rw [hA]; simp [u8L]⟩
  obtain ⟨v1, X1, b1, e1, B1, k1, c1⟩ := BA.appB (BV.bs.kp kA) (by simp; omega)
  have K1 : Kp h X1 := KoS.kp kA k1 (by simp)
  have by1 : By ([9, 9] ++ fyB4 k a b c fin D T rs) := By.app (fun x hx => by simp at hx; subst hx; omega) y1
  obtain ⟨fr, X2, b2, e2, K2, R2, nd2, lo2⟩ := readI_ev (x := 2) B1.bs by1 (Kp.refl X1) m (by omega)
  rw [hrf] at e2 R2
  simp only [fpD] at e2 R2
  obtain ⟨w5, w6, w7, c5, c6, c7, hfr, _, Q5, Q6, Q7, _⟩ := o72 R2
  have o5 := Q5.sl_one; have o6 := Q6.sl_one; have o7 := Q7.sl_one
  obtain ⟨X3, hX3⟩ : ∃ X : AH, X = X2.push (.cells 72 false fr) := ⟨_, rfl⟩
  have K3 : Kp X2 X3 := by rw [hX3]; exact (Kp.refl X2).push _
  have st3 : stVar Try.prog 72 X2.next 0 (.agg fr) (X2.push (.cells 72 false [.int .i64 0, .int .i64 0, .int .i64 0, .int .i64 0, .bool false, .nilSlice, .nilSlice, .nilSlice])) = some X3 := by
    rw [hX3, hfr]; simp [stVar, o5, o6, o7, spl, push_set]
  have l11 : ldVar Try.prog 72 X2.next 0 X3 = some (.agg fr) := by rw [hX3, hfr]; simp [ldVar]
  have Kh3 := (K1.trans K2).trans K3
  have Kb3 := K.trans Kh3
  have F3 := F.kp Kb3
  obtain ⟨p0, _, _, _, _, _, _, _, l3⟩ := ld72 F3.g
  obtain ⟨X4, e4, K4⟩ := sameFr_ev F3.ty (R2.kp K3) (by have := F.lR; simp; omega) m (by omega)
  have F4 := F3.kp K4
  obtain ⟨q0, _, _, _, _, _, _, _, l4⟩ := ld72 F4.g
  obtain ⟨X5, e5, K5⟩ := Fits_ev hk X4 m (by omega)
  have F5 := F4.kp K5
  obtain ⟨r0, _, _, _, _, _, _, _, l5⟩ := ld72 F5.g
  obtain ⟨X6, e6, K6⟩ := Asks_ev hk X5 m (by omega)
  have F6 := F5.kp K6
  obtain ⟨s0, _, _, _, _, _, _, _, l6⟩ := ld72 F6.g
  have Kb6 := ((Kb3.trans K4).trans K5).trans K6
  have G6 := G.kp Kb6
  have hmF : ∀ x ∈ bD ++ (bT ++ bR), x < hb.next := fun x hx => F.ty.mem x hx
  have ndx : (bL ++ (bD ++ (bT ++ bR))).Nodup := by
    rw [List.nodup_append]
    exact ⟨G.nd, F.nd, fun x hx y hy e => by have := hdis.1 x hx; have := F.lo y hy; omega⟩
  obtain ⟨lv', X7, bL', e7, R7, nd7, bb7, k7⟩ := ap72 G6.R F6.ty ndx (by omega)
  obtain ⟨W, hW⟩ : ∃ W : AH, W = X6.push (.cells 72 false (frC k a b c fin d t r)) := ⟨_, rfl⟩
  rw [← hW] at e7
  have hW' := hW.symm
  have n6 := Kb6.next
  have n7 := k7.next
  have hbvL : bv ∉ bL := fun e => by have := G.R.mem bv e; omega
  have KV6 : Kp h X6 := ((Kh3.trans K4).trans K5).trans K6
  have BV7 : BO X7 v (fyB4 k a b c fin D T rs) bv := ⟨BV.1, by have := BV.2.1; have := KV6.next; omega, by rw [k7.get bv (by have := BV.2.1; have := KV6.next; omega) hbvL, KV6.get bv BV.2.1]; exact BV.2.2⟩
  have BA7 : BO X7 av (flatL L) ab := ⟨G6.B.1, by have := G6.B.2.1; omega, by rw [k7.get ab G6.B.2.1 G.an]; exact G6.B.2.2⟩
  obtain ⟨av', X8, ab', e8, B8, k8, c8⟩ := BA7.appB BV7.bs (by omega)
  have habF : ∀ x ∈ bL', x ≠ ab := fun x hx e => by
    have hab := G.B.2.1
    rcases bb7 x hx with h' | h' | h'
    · exact G.an (by rw [← e]; exact h')
    · have := F.lo x h'; omega
    · omega
  have lo7 : ∀ x ∈ bL', H0.next ≤ x := fun x hx => by
    have := G.K.next
    rcases bb7 x hx with h' | h' | h'
    · exact G.lo x h'
    · have := F.lo x h'; omega
    · omega
  have hfin : FfH H0 X8 (L ++ [(k, a, b, c, fin, D, T, rs)]) lv' av' bL' ab' := by
    have m7 : ∀ x ∈ bL', x < X7.next := fun x hx => R7.mem x hx
    refine ⟨R7.koS k8 fun x hx => by simpa using habF x hx, nd7, lo7, by simpa [flatL, fyL] using B8, ?_, ?_, ?_⟩
    · have := G.alo; have := G.K.next; rcases c8 with h' | h' <;> omega
    · intro e
      rcases c8 with h' | h'
      · exact habF ab' e h'
      · have := m7 ab' e; omega
    · exact KoS.kp (KoS.kp (G.K.trans Kb6) k7 G.lo) k8 (by simp; exact G.alo)
  have LV : ∀ h', lenA Try.prog 34 v h' = some (.int .i64 ((fyB4 k a b c fin D T rs).length : Int)) := BV.bs.len
  have hA' := hA.symm
  have od := F.RD.sl_one; have ot := F.RT.sl_one; have or_ := F.RR.sl_one
  have hfl' : (flatL (L ++ [(k, a, b, c, fin, D, T, rs)])).length ≤ 65536 := by simp [flatL, fyL] at hfl ⊢; omega
  have hgd := gd_app hg okE' tch
  obtain ⟨NV, hNV⟩ : ∃ N : Nat, N = (fyB4 k a b c fin D T rs).length := ⟨_, rfl⟩
  rw [← hNV] at LV e2
  obtain ⟨S, hS⟩ : ∃ S : Int, S = ((2 + NV : Nat) : Int) := ⟨_, rfl⟩
  rw [← hS] at e2
  have wS : IntKind.i64.wrap (2 + (NV : Int)) = S := by rw [wrap_i64 (by omega) (by omega), hS]; omega
  clear hrf hfr
  simp only [frC] at l3 l4 l5 l6 hW'  e4
  have run : ∃ τ', evAt Try.prog (ev Try.prog m) m 9 128159 τ h = some (.normal, τ', X8) ∧ FfT τ' s lv' av' i := by
    rw [at_M Try.func9 128159 (by decide) 17 (by decide) (by kernel_rfl) []]
    by_cases k0 : k = 0
    · subst k0
      exact ⟨_, by simp [Try.f9, U, t3, t4, t6, t7, hA', e1, e2, st3, l11, l3, e4, p0, q0, r0, s0, e5, e6, askB, l6, hW', e7, e8, LV, wS, od, ot, or_, cells_one od, cells_one ot, cells_one or_, zerosA, fillA, spl, evHist, ObsOk, ObOk, List.getElem?_cons_zero]; rfl, ⟨by simp [t0], by simp, by simp, by simp [t5]⟩⟩
    · have d0 : (k != 0) = true := by simpa using k0
      by_cases k2 : k = 2
      · subst k2
        exact ⟨_, by simp [Try.f9, U, t3, t4, t6, t7, hA', e1, e2, st3, l11, l3, e4, p0, q0, r0, s0, e5, e6, askB, l6, hW', e7, e8, LV, wS, od, ot, or_, cells_one od, cells_one ot, cells_one or_, zerosA, fillA, spl, evHist, ObsOk, ObOk, List.getElem?_cons_zero]; rfl, ⟨by simp [t0], by simp, by simp, by simp [t5]⟩⟩
      · have d2 : (k != 2) = true := by simpa using k2
        by_cases k28 : k = 28
        · subst k28
          exact ⟨_, by simp [Try.f9, U, t3, t4, t6, t7, hA', e1, e2, st3, l11, l3, e4, p0, q0, r0, s0, e5, e6, askB, l6, hW', e7, e8, LV, wS, od, ot, or_, cells_one od, cells_one ot, cells_one or_, zerosA, fillA, spl, evHist, ObsOk, ObOk, List.getElem?_cons_zero]; rfl, ⟨by simp [t0], by simp, by simp, by simp [t5]⟩⟩
        · have d28 : (k != 28) = true := by simpa using k28
          by_cases k29 : k = 29
          · subst k29
            exact ⟨_, by simp [Try.f9, U, t3, t4, t6, t7, hA', e1, e2, st3, l11, l3, e4, p0, q0, r0, s0, e5, e6, askB, l6, hW', e7, e8, LV, wS, od, ot, or_, cells_one od, cells_one ot, cells_one or_, zerosA, fillA, spl, evHist, ObsOk, ObOk, List.getElem?_cons_zero]; rfl, ⟨by simp [t0], by simp, by simp, by simp [t5]⟩⟩
          · have d29 : (k != 29) = true := by simpa using k29
            have ha : askB k = true := by unfold askB; simp [k0, k2, k28, k29]
            rw [ha] at e6
            exact ⟨_, by simp [Try.f9, U, t3, t4, t6, t7, hA', e1, e2, st3, l11, l3, e4, p0, q0, r0, s0, e5, e6, d0, d2, d28, d29, k0, k2, k28, k29, l6, hW', e7, e8, LV, wS, od, ot, or_, cells_one od, cells_one ot, cells_one or_, zerosA, fillA, spl, evHist, ObsOk, ObOk, List.getElem?_cons_zero]; rfl, ⟨by simp [t0], by simp, by simp, by simp [t5]⟩⟩
  obtain ⟨τ', e, T'⟩ := run
  exact ⟨τ', X8, lv', av', bL', ab', e, T', hfin, hgd, hfl'⟩
end Go.Ev

/- The law FnFrames by the evaluator. -/
namespace Go.Ev
open Go Go.Proofs
set_option linter.unusedSimpArgs false
set_option linter.unusedVariables false

def FfL (s : AV) (N : Nat) (H0 : AH) (d : Nat) (τ : Tm) (h : AH) : Prop :=
  ∃ (i : Nat) (L : List tT72.D) (lv av : AV) (bL : List Nat) (ab : Nat), i + d = N ∧ FfT τ s lv av i ∧ FfH H0 h L lv av bL ab ∧ gdL L ∧ (flatL L).length ≤ 65536 ∧ L.length ≤ i
set_option maxRecDepth 20000 in
theorem ffLoop {H0 h0 : AH} {s : AV} {l : List Int} {b0 : List Nat} {N : Nat} (hd : (Ty.sl 5 (.int .u8)).R false H0 [s] l b0) (hl : l.length ≤ 1048576) (hN : N = 1 + l.length % 20) (m : Nat) (hm : 30000 ≤ m) (τ : Tm) (hI : FfL s N H0 N τ h0) :
    ∃ e τ' H', evLoop Try.prog (ev Try.prog m) m (lp Try.prog 9 250) τ h0 = some (e, τ', H') ∧ e = .exit 0 ∧ FfL s N H0 0 τ' H' := by
  refine loop_rule (d := N) (FfL s N H0) (fun e τ h => e = .exit 0 ∧ FfL s N H0 0 τ h) ?_ hI (by omega)
  rintro dd τ h ⟨i, L, lv, av, bL, ab, hi, ⟨t0, t3, t4, t5⟩, G, hg, hfl, hLi⟩
  have hLn := (tB_bs hd).1.len
  have e1 : ((l.length : Int)).tmod 20 = ((l.length % 20 : Nat) : Int) := by rw [Int.tmod_eq_emod_of_nonneg (by omega)]; omega
  obtain ⟨Q, hQ⟩ : ∃ Q : Int, Q = ((l.length % 20 : Nat) : Int) := ⟨_, rfl⟩
  obtain ⟨LL, hLL⟩ : ∃ x : Int, x = (l.length : Int) := ⟨_, rfl⟩
  rw [← hQ, ← hLL] at e1
  rw [← hLL] at hLn
  obtain ⟨NN, hNN⟩ : ∃ x : Int, x = (N : Int) := ⟨_, rfl⟩
  have w1 : IntKind.i64.wrap (1 + Q) = NN := by rw [wrap_i64 (by omega) (by omega)]; omega
  rw [lp_M Try.func9 250 (by decide) 8 (by decide) (by kernel_rfl) [4004]]
  by_cases hd0 : dd = 0
  · subst hd0
    have hc : ((i : Int) < NN) = False := eq_false (by omega)
    simp [Try.f9, U, t0, t5, hLn, e1, w1, hc]
    exact ⟨i, L, lv, av, bL, ab, hi, ⟨by simp [t0], by simp [t3], by simp [t4], by simp [t5]⟩, G, hg, hfl, hLi⟩
  · have hc : ((i : Int) < NN) = True := eq_true (by omega)
    have w2 : IntKind.i64.wrap ((i : Int) + 1) = (i : Int) + 1 := wrap_i64 (by omega) (by omega)
    simp [Try.f9, U, t0, t5, hLn, e1, w1, hc]
    generalize hτ : upd _ 27 _ = τ1
    have T1 : FfT τ1 s lv av i := ⟨by rw [← hτ]; simp [t0], by rw [← hτ]; simp [t3], by rw [← hτ]; simp [t4], by rw [← hτ]; simp [t5]⟩
    clear hτ
    obtain ⟨τ2, h2, p, k, a, b, c, fin, d, t, r, D, T', rs, bD, bT, bR, q2, T2, t6, K2, F2⟩ := ff_a hd hl (by omega) G.K m hm τ1 T1
    rw [q2]
    have G2 := G.kp K2
    rcases ff_b F2 G2 (by omega) hfl m hm τ2 T2 t6 with ⟨τ3, h3, q3, T3, K3⟩ | ⟨ok, tch, hsz, τ3, h3, v, q3, T3, s6, s7, K3, B3⟩
    · rw [q3]
      simp [Try.f9, U, T3.t5, w2]
      exact ⟨dd - 1, by omega, i + 1, L, lv, av, bL, ab, by omega, ⟨by simp [T3.t0], by simp [T3.t3], by simp [T3.t4], by simp⟩, G2.kp K3, hg, hfl, by omega⟩
    · rw [q3]
      have hmem : ∀ x ∈ bL, x < h.next := fun x hx => G.R.mem x hx
      obtain ⟨τ4, h4, lv', av', bL', ab', q4, T4, G4, hg4, hfl4⟩ := ff_c F2 G2 ⟨hmem, G.B.2.1, G.K.next⟩ K3 B3 ok tch hg hsz (by omega) m hm τ3 T3 s6 s7
      rw [q4]
      simp [Try.f9, U, T4.t5, w2]
      exact ⟨dd - 1, by omega, i + 1, _, lv', av', bL', ab', by omega, ⟨by simp [T4.t0], by simp [T4.t3], by simp [T4.t4], by simp⟩, G4, hg4, hfl4, by simp; omega⟩
/-! the second loop -/
theorem at72 {rw : Bool} {h : AH} {lv : AV} {L : List tT72.D} {bL : List Nat} (R : (Ty.sl 72 tT72).R rw h [lv] L bL) {n : Nat} (hn : n < L.length) : ∃ b o c bs, idxA Try.prog 61 lv (.int .i64 n) = some (.ptr b o) ∧ tT72.R rw h c L[n] bs ∧ ldVar Try.prog 72 b o h = some (.agg c) := by
  obtain ⟨b, o, ro, x1, c, x2, bk, u1, u2, u3, u4, u5, u6, u7, u8⟩ := Ty.R.at_ R (P := Try.prog) (T := 61) (by simp) (by simp [Ty.n]) (k := n) hn
  exact ⟨b, o, c, bk, u1, u5, ld_midA0 (n := 8) u3 u4 (by simp) (by simp) (by rw [u5.len]; rfl)⟩
theorem gd_lR : ∀ {L : List tT72.D}, gdL L → ∀ x ∈ L, x.2.2.2.2.2.2.2.length ≤ 1000
  | d :: l, h, x, hx => by
    rcases List.mem_cons.1 hx with rfl | hx
    · have := h.1.ok.2.1.2.2.2.2.1; omega
    · exact gd_lR h.2.2 x hx
def F2I (L : List tT72.D) (lv gv : AV) (H0 : AH) (d : Nat) (τ : Tm) (h : AH) : Prop := ∃ i : Nat, i + d = L.length ∧ τ 3 = lv ∧ τ 14 = gv ∧ τ 16 = .int .i64 i ∧ Kp H0 h
set_option maxRecDepth 20000 in
theorem law9 {H : AH} {s : AV} {l : List Int} {b0 : List Nat} (hd : (Ty.sl 5 (.int .u8)).R false H [s] l b0) (hs : (Ty.sl 5 (.int .u8)).sm l) (m : Nat) (hm : 4000000 ≤ m) :
    ∃ H', ev Try.prog m 9 [s] H = some (.bool true, H') := by
  obtain ⟨m, rfl⟩ : ∃ k, m = k + 1 := ⟨m - 1, by omega⟩
  have hL := (tB_bs hd).1.len
  by_cases hl : 1048576 < l.length
  · have hl' := eq_true (show 1048576 < (l.length : Int) by omega)
    rw [ev_M Try.func9 ok9 [] m _ H (by simp [Try.f9])]
    exact ⟨H, by simp [Try.f9, U, tm0, hL, hl', hl]⟩
  · have hl' := eq_false (show ¬ 1048576 < (l.length : Int) by omega)
    have hl2 := eq_false hl
    obtain ⟨A, hA⟩ : ∃ A : AH, A = H.push (.cells 72 false []) := ⟨_, rfl⟩
    have kA : Kp H A := by rw [hA]; exact (Kp.refl H).push _
    have nA : A.next = H.next + 1 := by rw [hA]; simp
    obtain ⟨B, hB⟩ : ∃ B : AH, B = A.push (.cells 5 false []) := ⟨_, rfl⟩
    have kB : Kp A B := by rw [hB]; exact (Kp.refl A).push _
    have nB : B.next = A.next + 1 := by rw [hB]; simp
    have G0 : FfH H B [] (.slice H.next 0 0) (.slice A.next 0 0) [H.next] A.next :=
      ⟨.inr ⟨H.next, 0, false, [], [], rfl, rfl, by omega, by rw [kB.get _ (by omega), hA]; simp, fun _ => ⟨rfl, rfl, by simp⟩, by simp, rfl, rfl⟩, by simp, by simp, ⟨by simp [flatL], by omega, by rw [hB]; simp [flatL, u8L]⟩, by omega, by simp; omega, kA.trans kB⟩
    have hA' := hA.symm
    have hB' := hB.symm
    rw [ev_M Try.func9 ok9 [63] m _ H (by simp [Try.f9])]
    simp [Try.f9, U, tm0, hL, hl', hl2, hA', hB', zerosA, fillA]
    generalize hLo : evLoop _ _ _ _ _ _ = R
    obtain ⟨e, τ', H', rfl, rfl, i, L, lv, av, bL, ab, hi, ⟨t0, t3, t4, t5⟩, G, hg, hfl, hLi⟩ := loop_at hLo (ffLoop (H0 := H) hd (by omega) rfl m (by omega) _ ⟨0, [], .slice H.next 0 0, .slice A.next 0 0, [H.next], A.next, by omega, ⟨by simp, by simp, by simp, by simp⟩, G0, trivial, by simp [flatL], by simp⟩)
    simp
    have hb : By (flatL L) := by
      have : ∀ (L : List tT72.D), gdL L → By (flatL L) := by
        intro L
        induction L with
        | nil => intro _ x hx; simp [flatL] at hx
        | cons d L ih =>
          intro h
          have := fy_facts h.1.tookD h.1.hD h.1.hT
          have e : flatL (d :: L) = fyL d ++ flatL L := by simp [flatL]
          rw [e]
          exact By.app this.1 (ih h.2.2)
      exact this L hg
    obtain ⟨v1, X1, b1, e1, B1, lb1, K1⟩ := copiedL_ev G.B (by omega) m (by omega)
    obtain ⟨gv, X2, b2, e2, R2, lo2, K2⟩ := ReadFrames_ev B1.bs (Kp.refl X1) hb hg hfl (by omega) m (by omega)
    have LL := G.R.lenA (P := Try.prog) (T := 61) (by simp)
    rw [at_M Try.func9 63 (by decide) 6 (by decide) (by kernel_rfl) []]
    by_cases hE : L = []
    · subst hE
      rw [if_pos rfl] at e2
      exact ⟨X2, by simp [Try.f9, U, t3, t4, e1, e2, LL]⟩
    · rw [if_neg hE] at e2
      have R2 := R2 hE
      have LG := R2.lenA (P := Try.prog) (T := 61) (by simp)
      obtain ⟨N, hN⟩ : ∃ N : Nat, N = L.length := ⟨_, rfl⟩
      have hN0 : N ≠ 0 := fun e => hE (List.length_eq_zero_iff.1 (by omega))
      rw [← hN] at LL LG
      have n0 : ((N : Int) == 0) = false := by simpa using hN0
      have n0' : (N = 0) = False := eq_false hN0
      have RL := G.R.kp (K1.trans K2)
      simp [Try.f9, U, t3, t4, e1, e2, LL, LG, n0, n0']
      generalize hLo2 : evLoop _ _ _ _ _ _ = R'
      obtain ⟨e, τ2, H2, rfl, rfl, _⟩ := loop_at hLo2 (loop_rule (d := L.length) (F2I L lv gv X2) (fun e τ h => e = .exit 2 ∧ True) (by
        rintro dd τ h ⟨i, hi, s3, s14, s16, KX⟩
        rw [lp_M Try.func9 4090 (by decide) 12 (by decide) (by kernel_rfl) []]
        by_cases hd0 : dd = 0
        · subst hd0
          have hc : ((i : Int) < (N : Int)) = False := eq_false (by omega)
          have hc2 : (i < N) = False := eq_false (by omega)
          simp [Try.f9, U, s14, s16, LG, hc, hc2]
        · have hc : ((i : Int) < (N : Int)) = True := eq_true (by omega)
          have hc2 : (i < N) = True := eq_true (by omega)
          obtain ⟨b1, o1, c1, k1, u1, u2, u3⟩ := at72 (R2.kp KX) (n := i) (by omega)
          obtain ⟨b2, o2, c2, k2, w1, w2, w3⟩ := at72 (RL.kp KX) (n := i) (by omega)
          obtain ⟨Y, e3, K3⟩ := sameFr_ev u2 w2 (gd_lR hg _ (List.getElem_mem _)) m (by omega)
          have wi : IntKind.i64.wrap ((i : Int) + 1) = (i : Int) + 1 := wrap_i64 (by omega) (by omega)
          simp [Try.f9, U, s3, s14, s16, LG, hc, hc2, u1, u3, w1, w3, e3, wi, evHist, ObsOk, ObOk, List.getElem?_cons_zero]
          exact ⟨dd - 1, by omega, i + 1, by omega, by simp [s3], by simp [s14], by simp, KX.trans K3⟩) ⟨0, by omega, by simp [t3], by simp, by simp, Kp.refl X2⟩ (by omega))
      exact ⟨H2, by simp [Try.f9]⟩
end Go.Ev
