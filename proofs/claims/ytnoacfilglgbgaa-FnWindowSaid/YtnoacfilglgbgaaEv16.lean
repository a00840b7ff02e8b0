/- Lemmas of an evaluator of the given code and of what the functions answer; no condition of its own. -/
import Derived.Test.YtnoacfilglgbgaaEv15
import Derived.WalkSmall
import Derived.Laws.Bits64b
/- Congestion: the product of two numbers of 64 bits, and its quotient, as the program has them of the library. -/
namespace Go.Ev
open Go Go.Proofs
set_option linter.unusedSimpArgs false
set_option linter.unusedVariables false

theorem wrap_u64 {n : Int} (h0 : 0 ≤ n) (h1 : n < 18446744073709551616) : IntKind.u64.wrap n = n := by
  have : IntKind.u64.wrap n = n % 18446744073709551616 := by simp [IntKind.wrap, IntKind.signed, IntKind.bits]
  rw [this]; omega
theorem wrap_u64m (n : Int) : IntKind.u64.wrap n = n % 18446744073709551616 := by simp [IntKind.wrap, IntKind.signed, IntKind.bits]
theorem and32 {x : Int} (h0 : 0 ≤ x) (h1 : x < 18446744073709551616) : bits .and .u64 x 4294967295 = x % 4294967296 := by
  have h := bits_and_u64_nat x.toNat 4294967295 (by omega) (by omega)
  have e1 : ((x.toNat : Nat) : Int) = x := by omega
  rw [e1] at h
  have e2 : x.toNat &&& 4294967295 = x.toNat % 4294967296 := Nat.and_two_pow_sub_one_eq_mod x.toNat 32
  rw [e2] at h
  rw [show ((4294967295 : Nat) : Int) = 4294967295 from rfl] at h
  rw [h]; omega
theorem mul_parts {a b c d : Int} (p q r s : Int) (hp : p = a * c) (hq : q = a * d) (hr : r = b * c) (hs : s = b * d) : (a + b * 4294967296) * (c + d * 4294967296) = p + (q + r) * 4294967296 + s * 18446744073709551616 := by
  subst hp hq hr hs
  have e1 : (a + b * 4294967296) * (c + d * 4294967296) = a * c + a * (d * 4294967296) + (b * 4294967296 * c + b * 4294967296 * (d * 4294967296)) := by rw [Int.add_mul, Int.mul_add, Int.mul_add]
  have e2 : a * (d * 4294967296) = a * d * 4294967296 := (Int.mul_assoc _ _ _).symm
  have e3 : b * 4294967296 * c = b * c * 4294967296 := by rw [Int.mul_assoc, Int.mul_comm 4294967296 c, ← Int.mul_assoc]
  have e4 : b * 4294967296 * (d * 4294967296) = b * d * 18446744073709551616 := by
    rw [Int.mul_assoc, Int.mul_comm 4294967296 (d * 4294967296), Int.mul_assoc, ← Int.mul_assoc]; rfl
  rw [e1, e2, e3, e4]; omega
theorem Mul64_ev {x y : Int} (hx : 0 ≤ x ∧ x < 1099511627776) (hy : 0 ≤ y ∧ y < 1099511627776) (H : AH) (m : Nat) (hm : 1 ≤ m) :
    ev Try.prog m 328 [.int .u64 x, .int .u64 y] H = some (.tuple [.int .u64 (x * y / 18446744073709551616), .int .u64 (x * y % 18446744073709551616)], H) := by
  obtain ⟨m, rfl⟩ : ∃ k, m = k + 1 := ⟨m - 1, by omega⟩
  rw [ev_eq Try.func328 ok328 m _ H (by simp [Try.f328])]
  obtain ⟨a, ha⟩ : ∃ a, a = x % 4294967296 := ⟨_, rfl⟩
  obtain ⟨b, hb⟩ : ∃ b, b = x / 4294967296 := ⟨_, rfl⟩
  obtain ⟨c, hc⟩ : ∃ c, c = y % 4294967296 := ⟨_, rfl⟩
  obtain ⟨d, hd⟩ : ∃ d, d = y / 4294967296 := ⟨_, rfl⟩
  have a1 := and32 hx.1 (by omega)
  have a2 := and32 hy.1 (by omega)
  have f1 : x.fdiv 4294967296 = b := by rw [Int.fdiv_eq_ediv_of_nonneg _ (by omega), hb]
  have f2 : y.fdiv 4294967296 = d := by rw [Int.fdiv_eq_ediv_of_nonneg _ (by omega), hd]
  rw [← ha] at a1
  rw [← hc] at a2
  obtain ⟨p, hp⟩ : ∃ p, p = a * c := ⟨_, rfl⟩
  obtain ⟨q, hq⟩ : ∃ q, q = a * d := ⟨_, rfl⟩
  obtain ⟨r, hr⟩ : ∃ r, r = b * c := ⟨_, rfl⟩
  obtain ⟨s, hs⟩ : ∃ s, s = b * d := ⟨_, rfl⟩
  have bp : 0 ≤ p ∧ p ≤ 18446744065119617025 := by
    rw [hp]; exact ⟨Int.mul_nonneg (by omega) (by omega), Int.mul_le_mul (c := 4294967295) (d := 4294967295) (by omega) (by omega) (by omega) (by omega)⟩
  have bq : 0 ≤ q ∧ q ≤ 1099511627520 := by
    rw [hq]; exact ⟨Int.mul_nonneg (by omega) (by omega), Int.mul_le_mul (c := 4294967295) (d := 256) (by omega) (by omega) (by omega) (by omega)⟩
  have br : 0 ≤ r ∧ r ≤ 1099511627520 := by
    rw [hr]; exact ⟨Int.mul_nonneg (by omega) (by omega), Int.mul_le_mul (c := 256) (d := 4294967295) (by omega) (by omega) (by omega) (by omega)⟩
  have bs : 0 ≤ s ∧ s ≤ 65536 := by
    rw [hs]; exact ⟨Int.mul_nonneg (by omega) (by omega), Int.mul_le_mul (c := 256) (d := 256) (by omega) (by omega) (by omega) (by omega)⟩
  have hxy : x * y = p + (q + r) * 4294967296 + s * 18446744073709551616 := by
    rw [← mul_parts p q r s hp hq hr hs]
    congr 1 <;> omega
  have wp : IntKind.u64.wrap (a * c) = p := by rw [← hp]; exact wrap_u64 bp.1 (by omega)
  have wr : IntKind.u64.wrap (b * c) = r := by rw [← hr]; exact wrap_u64 br.1 (by omega)
  have wq : IntKind.u64.wrap (a * d) = q := by rw [← hq]; exact wrap_u64 bq.1 (by omega)
  have ws : IntKind.u64.wrap (b * d) = s := by rw [← hs]; exact wrap_u64 bs.1 (by omega)
  obtain ⟨p1, hp1⟩ : ∃ z, z = p / 4294967296 := ⟨_, rfl⟩
  have f3 : p.fdiv 4294967296 = p1 := by rw [Int.fdiv_eq_ediv_of_nonneg _ (by omega), hp1]
  obtain ⟨t, ht⟩ : ∃ z, z = r + p1 := ⟨_, rfl⟩
  have wt : IntKind.u64.wrap (r + p1) = t := by rw [← ht]; exact wrap_u64 (by omega) (by omega)
  obtain ⟨t0, ht0⟩ : ∃ z, z = t % 4294967296 := ⟨_, rfl⟩
  have a3 := and32 (x := t) (by omega) (by omega)
  rw [← ht0] at a3
  obtain ⟨t1, ht1⟩ : ∃ z, z = t / 4294967296 := ⟨_, rfl⟩
  have f4 : t.fdiv 4294967296 = t1 := by rw [Int.fdiv_eq_ediv_of_nonneg _ (by omega), ht1]
  obtain ⟨v, hv⟩ : ∃ z, z = t0 + q := ⟨_, rfl⟩
  have wv : IntKind.u64.wrap (t0 + q) = v := by rw [← hv]; exact wrap_u64 (by omega) (by omega)
  obtain ⟨v1, hv1⟩ : ∃ z, z = v / 4294967296 := ⟨_, rfl⟩
  have f5 : v.fdiv 4294967296 = v1 := by rw [Int.fdiv_eq_ediv_of_nonneg _ (by omega), hv1]
  have w6 : IntKind.u64.wrap (s + t1) = s + t1 := wrap_u64 (by omega) (by omega)
  have w7 : IntKind.u64.wrap (s + t1 + v1) = s + t1 + v1 := wrap_u64 (by omega) (by omega)
  have w8 : IntKind.u64.wrap (x * y) = x * y % 18446744073709551616 := wrap_u64m _
  have hres : x * y / 18446744073709551616 = s + t1 + v1 := by rw [hxy]; omega
  rw [hres]
  have e32 : min 32 IntKind.u64.bits = 32 := by decide
  simp [Try.f328, e32, a1, a2, f1, f2, wp, wr, wq, ws, f3, wt, a3, f4, wv, f5, w6, w7, w8]
def tab8 : ByteArray := { data := (([0, 1, 2, 2, 3, 3, 3, 3, 4, 4, 4, 4, 4, 4, 4, 4, 5, 5, 5, 5, 5, 5, 5, 5, 5, 5, 5, 5, 5, 5, 5, 5, 6, 6, 6, 6, 6, 6, 6, 6, 6, 6, 6, 6, 6, 6, 6, 6, 6, 6, 6, 6, 6, 6, 6, 6, 6, 6, 6, 6, 6, 6, 6, 6].append [7, 7, 7, 7, 7, 7, 7, 7, 7, 7, 7, 7, 7, 7, 7, 7, 7, 7, 7, 7, 7, 7, 7, 7, 7, 7, 7, 7, 7, 7, 7, 7, 7, 7, 7, 7, 7, 7, 7, 7, 7, 7, 7, 7, 7, 7, 7, 7, 7, 7, 7, 7, 7, 7, 7, 7, 7, 7, 7, 7, 7, 7, 7, 7]).append ([8, 8, 8, 8, 8, 8, 8, 8, 8, 8, 8, 8, 8, 8, 8, 8, 8, 8, 8, 8, 8, 8, 8, 8, 8, 8, 8, 8, 8, 8, 8, 8, 8, 8, 8, 8, 8, 8, 8, 8, 8, 8, 8, 8, 8, 8, 8, 8, 8, 8, 8, 8, 8, 8, 8, 8, 8, 8, 8, 8, 8, 8, 8, 8].append [8, 8, 8, 8, 8, 8, 8, 8, 8, 8, 8, 8, 8, 8, 8, 8, 8, 8, 8, 8, 8, 8, 8, 8, 8, 8, 8, 8, 8, 8, 8, 8, 8, 8, 8, 8, 8, 8, 8, 8, 8, 8, 8, 8, 8, 8, 8, 8, 8, 8, 8, 8, 8, 8, 8, 8, 8, 8, 8, 8, 8, 8, 8, 8])).toArray }
theorem idx_tab : indexA Try.prog 9 (.str tab8) (.int .u8 15) = some (.int .u8 4) := by kernel_rfl
set_option maxRecDepth 50000 in
theorem len64_ev (H : AH) (m : Nat) (hm : 1 ≤ m) : ev Try.prog m 296 [.int .u64 1000000] H = some (.int .i64 20, H) := by
  obtain ⟨m, rfl⟩ : ∃ k, m = k + 1 := ⟨m - 1, by omega⟩
  rw [ev_eq Try.func296 ok296 m _ H (by simp [Try.f296])]
  have e16 : min 16 IntKind.u64.bits = 16 := by decide
  have cv : ∀ h, convA Try.prog 305 5 (.int .u64 15) h = some (.int .u8 15, h) := fun h => (conv_int (ds := .int .u64) (k := .u8) (by simp) (by simp)).trans (by rfl)
  have cv2 : ∀ h, convA Try.prog 5 3 (.int .u8 4) h = some (.int .i64 4, h) := fun h => (conv_int (ds := .int .u8) (k := .i64) (by simp) (by simp)).trans (by rfl)
  have w1 := wrap_i64 (n := 16) (by omega) (by omega)
  have w2 := wrap_i64 (n := 20) (by omega) (by omega)
  have f1 : (1000000 : Int).fdiv 65536 = 15 := by decide
  unfold evF Try.f296
  rw [show ({ data := (([0, 1, 2, 2, 3, 3, 3, 3, 4, 4, 4, 4, 4, 4, 4, 4, 5, 5, 5, 5, 5, 5, 5, 5, 5, 5, 5, 5, 5, 5, 5, 5, 6, 6, 6, 6, 6, 6, 6, 6, 6, 6, 6, 6, 6, 6, 6, 6, 6, 6, 6, 6, 6, 6, 6, 6, 6, 6, 6, 6, 6, 6, 6, 6].append [7, 7, 7, 7, 7, 7, 7, 7, 7, 7, 7, 7, 7, 7, 7, 7, 7, 7, 7, 7, 7, 7, 7, 7, 7, 7, 7, 7, 7, 7, 7, 7, 7, 7, 7, 7, 7, 7, 7, 7, 7, 7, 7, 7, 7, 7, 7, 7, 7, 7, 7, 7, 7, 7, 7, 7, 7, 7, 7, 7, 7, 7, 7, 7]).append ([8, 8, 8, 8, 8, 8, 8, 8, 8, 8, 8, 8, 8, 8, 8, 8, 8, 8, 8, 8, 8, 8, 8, 8, 8, 8, 8, 8, 8, 8, 8, 8, 8, 8, 8, 8, 8, 8, 8, 8, 8, 8, 8, 8, 8, 8, 8, 8, 8, 8, 8, 8, 8, 8, 8, 8, 8, 8, 8, 8, 8, 8, 8, 8].append [8, 8, 8, 8, 8, 8, 8, 8, 8, 8, 8, 8, 8, 8, 8, 8, 8, 8, 8, 8, 8, 8, 8, 8, 8, 8, 8, 8, 8, 8, 8, 8, 8, 8, 8, 8, 8, 8, 8, 8, 8, 8, 8, 8, 8, 8, 8, 8, 8, 8, 8, 8, 8, 8, 8, 8, 8, 8, 8, 8, 8, 8, 8, 8])).toArray } : ByteArray) = tab8 from rfl]
  simp [-indexA, idx_tab, e16, f1, cv, cv2, w1, w2]
theorem lz64_ev (H : AH) (m : Nat) (hm : 2 ≤ m) : ev Try.prog m 330 [.int .u64 1000000] H = some (.int .i64 44, H) := by
  obtain ⟨m, rfl⟩ : ∃ k, m = k + 1 := ⟨m - 1, by omega⟩
  rw [ev_eq Try.func330 ok330 m _ H (by simp [Try.f330])]
  have w1 := wrap_i64 (n := 44) (by omega) (by omega)
  simp [Try.f330, len64_ev H m (by omega), w1]
theorem or_addN (a b : Nat) (h : b < 17592186044416) : a * 17592186044416 ||| b = a * 17592186044416 + b := by
  have := Nat.two_pow_add_eq_or_of_lt (i := 44) (b := b) (by rw [show (2 : Nat) ^ 44 = 17592186044416 by decide]; exact h) a
  rw [show (2 : Nat) ^ 44 = 17592186044416 by decide, Nat.mul_comm] at this
  exact this.symm
theorem or_add {x y : Int} (hx : 0 ≤ x ∧ x < 1000000) (hy : 0 ≤ y ∧ y < 17592186044416) : bits .or .u64 (x * 17592186044416) y = x * 17592186044416 + y := by
  obtain ⟨a, rfl⟩ := Int.eq_ofNat_of_zero_le hx.1
  obtain ⟨b, rfl⟩ := Int.eq_ofNat_of_zero_le hy.1
  have h := bits_or_u64_nat (a * 17592186044416) b (by omega) (by omega)
  rw [or_addN a b (by omega), Int.natCast_add, Int.natCast_mul] at h
  exact h
theorem Div64_small {lo : Int} (hl : 0 ≤ lo ∧ lo < 18446744073709551616) (H : AH) (m : Nat) (hm : 1 ≤ m) : ∃ r, ev Try.prog m 329 [.int .u64 0, .int .u64 lo, .int .u64 1000000] H = some (.tuple [.int .u64 (lo / 1000000), r], H) := by
  obtain ⟨m, rfl⟩ : ∃ k, m = k + 1 := ⟨m - 1, by omega⟩
  have h1 : lo.tdiv 1000000 = lo / 1000000 := Int.tdiv_eq_ediv_of_nonneg hl.1
  have w1 := wrap_u64 (n := lo / 1000000) (by omega) (by omega)
  rw [ev_eq Try.func329 ok329 m _ H (by simp [Try.f329])]
  simp [Try.f329, h1, w1, evHist, ObsOk, ObOk]
set_option maxRecDepth 50000 in
set_option maxHeartbeats 2000000 in
theorem Div64_big {hi lo : Int} (hh : 1 ≤ hi ∧ hi < 1000000) (hl : 0 ≤ lo ∧ lo < 18446744073709551616) (H : AH) (m : Nat) (hm : 4 ≤ m) : ∃ q r, ev Try.prog m 329 [.int .u64 hi, .int .u64 lo, .int .u64 1000000] H = some (.tuple [.int .u64 q, r], H) ∧ 100000000 < q := by
  obtain ⟨m, rfl⟩ : ∃ k, m = k + 1 := ⟨m - 1, by omega⟩
  have hlz := lz64_ev H m (by omega)
  have e44 : min 44 IntKind.u64.bits = 44 := by decide
  have e32 : min 32 IntKind.u64.bits = 32 := by decide
  have e20 : min 20 IntKind.u64.bits = 20 := by decide
  have cv : ∀ h, convA Try.prog 3 180 (.int .i64 44) h = some (.int .u64 44, h) := fun h => (conv_int (ds := .int .i64) (k := .u64) (by simp) (by simp)).trans (by rfl)
  have c1 : ¬ (hi = 0) := by omega
  have c2 : ¬ (1000000 ≤ hi) := by omega
  have y1 : IntKind.u64.wrap 17592186044416000000 = 17592186044416000000 := by decide
  have y2 : (17592186044416000000 : Int).fdiv 4294967296 = 4096000000 := by decide
  have y3 : bits .and .u64 17592186044416000000 4294967295 = 0 := by rw [and32 (by omega) (by omega)]; decide
  have w1 : IntKind.u64.wrap (hi * 17592186044416) = hi * 17592186044416 := wrap_u64 (by omega) (by omega)
  have w2 : IntKind.u64.wrap 20 = 20 := by decide
  obtain ⟨l1, hl1⟩ : ∃ z, z = lo / 1048576 := ⟨_, rfl⟩
  have f1 : lo.fdiv 1048576 = l1 := by rw [Int.fdiv_eq_ediv_of_nonneg _ (by omega), hl1]
  have o1 := or_add (x := hi) (y := l1) (by omega) (by omega)
  obtain ⟨u, hu⟩ : ∃ z, z = hi * 17592186044416 + l1 := ⟨_, rfl⟩
  rw [← hu] at o1
  obtain ⟨n10, hn10⟩ : ∃ z, z = IntKind.u64.wrap (lo * 17592186044416) := ⟨_, rfl⟩
  have bn10 : 0 ≤ n10 ∧ n10 < 18446744073709551616 := by rw [hn10, wrap_u64m]; omega
  rw [eq_comm] at hn10
  obtain ⟨n1, hn1⟩ : ∃ z, z = n10 / 4294967296 := ⟨_, rfl⟩
  have f2 : n10.fdiv 4294967296 = n1 := by rw [Int.fdiv_eq_ediv_of_nonneg _ (by omega), hn1]
  obtain ⟨n0, hn0⟩ : ∃ z, z = n10 % 4294967296 := ⟨_, rfl⟩
  have a1 := and32 bn10.1 bn10.2
  rw [← hn0] at a1
  obtain ⟨q1, hq1⟩ : ∃ z, z = u / 4096000000 := ⟨_, rfl⟩
  have t1 : u.tdiv 4096000000 = q1 := by rw [Int.tdiv_eq_ediv_of_nonneg (by omega), hq1]
  have w3 : IntKind.u64.wrap q1 = q1 := wrap_u64 (by omega) (by omega)
  have w4 : IntKind.u64.wrap (q1 * 4096000000) = q1 * 4096000000 := wrap_u64 (by omega) (by omega)
  obtain ⟨rh, hrh⟩ : ∃ z, z = u - q1 * 4096000000 := ⟨_, rfl⟩
  have w5 : IntKind.u64.wrap (u - q1 * 4096000000) = rh := by rw [← hrh]; exact wrap_u64 (by omega) (by omega)
  have k1 : ¬ (4294967296 ≤ q1) := by omega
  have pos1 : ∀ x : Int, ¬ (IntKind.u64.wrap x < 0) := fun x => by rw [wrap_u64m]; omega
  have z0 : IntKind.u64.wrap 0 = 0 := by decide
  obtain ⟨u21, hu21⟩ : ∃ z, z = rh * 4294967296 + n1 := ⟨_, rfl⟩
  have w6 : IntKind.u64.wrap (IntKind.u64.wrap (IntKind.u64.wrap (u * 4294967296) + n1) - IntKind.u64.wrap (q1 * 17592186044416000000)) = u21 := by
    simp only [wrap_u64m]; omega
  obtain ⟨q0, hq0⟩ : ∃ z, z = u21 / 4096000000 := ⟨_, rfl⟩
  have t2 : u21.tdiv 4096000000 = q0 := by rw [Int.tdiv_eq_ediv_of_nonneg (by omega), hq0]
  have w7 : IntKind.u64.wrap q0 = q0 := wrap_u64 (by omega) (by omega)
  have k2 : ¬ (4294967296 ≤ q0) := by omega
  have w8 : IntKind.u64.wrap (q1 * 4294967296) = q1 * 4294967296 := wrap_u64 (by omega) (by omega)
  have w9 : IntKind.u64.wrap (q1 * 4294967296 + q0) = q1 * 4294967296 + q0 := wrap_u64 (by omega) (by omega)
  rw [ev_eq Try.func329 ok329 m _ H (by simp [Try.f329])]
  simp [Try.f329, hlz, e44, e32, e20, cv, c1, c2, y1, y2, y3, w1, w2, f1, o1, hn10, f2, a1, t1, w3, w4, w5]
  generalize hLo : evLoop _ _ _ _ _ _ = R
  have L1 : ∀ τ : Tm, τ 15 = .int .u64 q1 → τ 10 = .int .u64 0 → τ 16 = .int .u64 rh → τ 13 = .int .u64 n1 → τ 11 = .int .u64 u → τ 2 = .int .u64 17592186044416000000 → τ 9 = .int .u64 4096000000 → τ 14 = .int .u64 n0 → τ 8 = .int .u64 44 →
      ∃ e τ' H', evLoop Try.prog (ev Try.prog m) m (lp Try.prog 329 131068) τ H = some (e, τ', H') ∧ e = .exit 0 ∧ τ' 15 = .int .u64 q1 ∧ τ' 10 = .int .u64 0 ∧ τ' 13 = .int .u64 n1 ∧ τ' 11 = .int .u64 u ∧ τ' 2 = .int .u64 17592186044416000000 ∧ τ' 9 = .int .u64 4096000000 ∧ τ' 14 = .int .u64 n0 ∧ τ' 8 = .int .u64 44 ∧ H = H' := by
    intro τ t15 t10 t16 t13 t11 t2 t9 t14 t8
    refine loop_rule (d := 0) (fun d τ' h => τ' = τ ∧ h = H) (fun e τ' H' => e = .exit 0 ∧ τ' 15 = .int .u64 q1 ∧ τ' 10 = .int .u64 0 ∧ τ' 13 = .int .u64 n1 ∧ τ' 11 = .int .u64 u ∧ τ' 2 = .int .u64 17592186044416000000 ∧ τ' 9 = .int .u64 4096000000 ∧ τ' 14 = .int .u64 n0 ∧ τ' 8 = .int .u64 44 ∧ H = H') ?_ ⟨rfl, rfl⟩ (by omega)
    rintro d τ' h ⟨rfl, rfl⟩
    rewrite [lp329_131068]
    simp [Try.f329, t15, t10, t16, t13, t11, t2, t9, t14, t8, k1, z0, pos1]
  obtain ⟨e, τ', H', rfl, rfl, t15, t10, t13, t11, t2', t9, t14, t8, rfl⟩ := loop_at hLo (L1 _ (by simp) (by simp) (by simp) (by simp) (by simp) (by simp) (by simp) (by simp) (by simp))
  simp [t15, t10, t13, t11, t2', t9, t14, t8, w6, t2, w7]
  generalize hLo2 : evLoop _ _ _ _ _ _ = R2
  have L2 : ∀ τ : Tm, τ 15 = .int .u64 q1 → τ 10 = .int .u64 0 → τ 18 = .int .u64 q0 → τ 14 = .int .u64 n0 → τ 2 = .int .u64 17592186044416000000 → τ 8 = .int .u64 44 → (∃ r, τ 17 = .int .u64 r) → (∃ r, τ 16 = .int .u64 r) →
      ∃ e τ' H', evLoop Try.prog (ev Try.prog m) m (lp Try.prog 329 2097148) τ H = some (e, τ', H') ∧ e = .exit 2 ∧ τ' 15 = .int .u64 q1 ∧ τ' 18 = .int .u64 q0 ∧ τ' 14 = .int .u64 n0 ∧ τ' 2 = .int .u64 17592186044416000000 ∧ τ' 8 = .int .u64 44 ∧ (∃ r, τ' 17 = .int .u64 r) ∧ H = H' := by
    intro τ t15 t10 t18 t14 t2 t8 t17 t16
    refine loop_rule (d := 0) (fun d τ' h => τ' = τ ∧ h = H) (fun e τ' H' => e = .exit 2 ∧ τ' 15 = .int .u64 q1 ∧ τ' 18 = .int .u64 q0 ∧ τ' 14 = .int .u64 n0 ∧ τ' 2 = .int .u64 17592186044416000000 ∧ τ' 8 = .int .u64 44 ∧ (∃ r, τ' 17 = .int .u64 r) ∧ H = H') ?_ ⟨rfl, rfl⟩ (by omega)
    rintro d τ' h ⟨rfl, rfl⟩
    obtain ⟨r17, t17⟩ := t17
    obtain ⟨r16, t16⟩ := t16
    rewrite [lp329_2097148]
    simp [Try.f329, t15, t10, t18, t14, t2, t8, t16, t17, k2, z0, pos1]
  obtain ⟨e, τ2, H', rfl, rfl, u15, u18, u14, u2, u8, ⟨r17, u17⟩, rfl⟩ := loop_at hLo2 (L2 _ (by simp [t15]) (by simp [t10]) (by simp) (by simp [t14]) (by simp [t2']) (by simp [t8]) ⟨_, by simp; rfl⟩ ⟨_, by simp; rfl⟩)
  refine ⟨q1 * 4294967296 + q0, ?_⟩
  simp [u15, u18, u14, u2, u8, u17, w8, w9, e44]
  omega
end Go.Ev

/- Congestion: the program's model rule, what it reads. -/
namespace Go.Ev
open Go Go.Proofs
set_option linter.unusedSimpArgs false
set_option linter.unusedVariables false

def last8 (l : List Int) : List Int := l.drop (l.length - 8)
theorem last8_len (l : List Int) : (last8 l).length ≤ 8 := by simp [last8]; omega
theorem last8_snoc (l : List Int) (x : Int) : (if 8 < (last8 l ++ [x]).length then ∃ y, last8 l ++ [x] = y :: last8 (l ++ [x]) else last8 l ++ [x] = last8 (l ++ [x])) := by
  by_cases h : 8 ≤ l.length
  · have h1 : (last8 l ++ [x]).length = 9 := by simp [last8]; omega
    rw [h1, if_pos (by omega)]
    have hlt : l.length - 8 < l.length := by omega
    refine ⟨l[l.length - 8], ?_⟩
    unfold last8
    rw [List.drop_eq_getElem_cons hlt]
    simp only [List.length_append, List.length_singleton, List.cons_append]
    congr 1
    rw [show l.length + 1 - 8 = l.length - 8 + 1 by omega, List.drop_append_of_le_length (by omega)]
  · have h1 : (last8 l ++ [x]).length ≤ 8 := by simp [last8]; omega
    rw [if_neg (by omega)]
    unfold last8
    rw [show l.length - 8 = 0 by omega, List.drop_zero]
    simp only [List.length_append, List.length_singleton]
    rw [show l.length + 1 - 8 = 0 by omega, List.drop_zero]
theorem bwP_last (l : List Int) : bwP l = (last8 l).foldl mxI 0 := rfl
abbrev tA : Ty := .pair (.int .i64) (.int .i64)
def mdC (S : Cc) (va vs : AV) : List AV := [.int .i64 S.window, .int .i64 S.rate, .int .i64 S.state, va, vs, .int .i64 S.floor, .int .i64 S.best, .int .i64 S.count, .int .i64 S.phase, .int .i64 S.turn]
structure CcM (H : AH) (r : Nat) (S : Cc) (va vs : AV) (ba bs : List Nat) : Prop where
  get : H.get r = some (.cells 256 false (mdC S va vs))
  ra : (Ty.sl 359 tA).R true H [va] (S.times.zip S.bytes) ba
  rs : OwnI H vs (last8 S.samples) bs
  nd : (r :: (ba ++ bs)).Nodup
  lt : r < H.next
def ccR (r : Nat) (ba bs : List Nat) : List Nat := r :: (ba ++ bs)
theorem CcM.mem {H : AH} {r : Nat} {S : Cc} {va vs : AV} {ba bs : List Nat} (h : CcM H r S va vs ba bs) : ∀ b ∈ ccR r ba bs, b < H.next := by
  have m1 := h.ra.mem; have m2 := h.rs.mem; have m3 := h.lt
  intro b hb; simp only [ccR, List.mem_cons, List.mem_append] at hb; grind
theorem CcM.stay {H H' : AH} {r : Nat} {S : Cc} {va vs : AV} {ba bs : List Nat} (h : CcM H r S va vs ba bs) (hn : H.next ≤ H'.next) (hg : ∀ b ∈ ccR r ba bs, H'.get b = H.get b) : CcM H' r S va vs ba bs :=
  ⟨(hg r (by simp [ccR])).trans h.get, h.ra.stay hn fun b hb => hg b (by simp [ccR, hb]), h.rs.stay hn fun b hb => hg b (by simp [ccR, hb]), h.nd, Nat.lt_of_lt_of_le h.lt hn⟩
theorem CcM.step {H H' : AH} {r : Nat} {S S' : Cc} {va vs : AV} {ba bs : List Nat} (h : CcM H r S va vs ba bs) (hK : KoS [r] H H') (hg : H'.get r = some (.cells 256 false (mdC S' va vs)))
    (h1 : S'.samples = S.samples) (h2 : S'.times = S.times) (h3 : S'.bytes = S.bytes) : CcM H' r S' va vs ba bs := by
  have hn := h.nd
  rw [List.nodup_cons] at hn
  refine ⟨hg, ?_, ?_, h.nd, Nat.lt_of_lt_of_le h.lt hK.next⟩
  · rw [h2, h3]; exact h.ra.koS hK fun b hb hq => hn.1 (by rw [List.mem_singleton] at hq; rw [← hq]; simp [hb])
  · rw [h1]; exact h.rs.koS hK fun b hb hq => hn.1 (by rw [List.mem_singleton] at hq; rw [← hq]; simp [hb])
theorem tellsM_ev {H : AH} {r : Nat} {S : Cc} {va vs : AV} (hg : H.get r = some (.cells 256 false (mdC S va vs))) (m : Nat) (hm : 1 ≤ m) : ev Try.prog m 326 [.ptr r 0] H = some (.tuple [.int .i64 S.window, .int .i64 S.rate, .int .i64 S.state], H) := by
  obtain ⟨m, rfl⟩ : ∃ k, m = k + 1 := ⟨m - 1, by omega⟩
  simp only [mdC] at hg
  rw [ev_eq Try.func326 ok326 m _ H (by simp [Try.f326])]
  simp [Try.f326, ldVar, hg, evHist, ObsOk, ObOk, List.getElem?_cons_zero]
theorem lostM_ev (r : Nat) (op : CcOpP) (H : AH) (m : Nat) (hm : 1 ≤ m) : ev Try.prog m 325 [.ptr r 0, .agg (opC op)] H = some (U, H.push (.cells 40 false (opC op))) := by
  obtain ⟨m, rfl⟩ : ∃ k, m = k + 1 := ⟨m - 1, by omega⟩
  rw [ev_eq Try.func325 ok325 m _ H (by simp [Try.f325])]
  simp [Try.f325, opC, U]
theorem bwI_ev {H : AH} {r : Nat} {S : Cc} {va vs : AV} {ba bs : List Nat} (h : CcM H r S va vs ba bs) (m : Nat) (hm : 20 ≤ m) : ev Try.prog m 324 [.ptr r 0] H = some (.int .i64 (bwP S.samples), H) := by
  obtain ⟨m, rfl⟩ : ∃ k, m = k + 1 := ⟨m - 1, by omega⟩
  have hg := h.get
  simp only [mdC] at hg
  have hL := h.rs.len
  have h8 := last8_len S.samples
  rw [bwP_last]
  have hat := fun k hk => h.rs.at_ (k := k) hk
  generalize last8 S.samples = l at *
  rw [ev_eq Try.func324 ok324 m _ H (by simp [Try.f324])]
  simp [Try.f324, ldVar, hg, hL]
  generalize hLo : evLoop _ _ _ _ _ _ = R
  obtain ⟨e, τ', H1, rfl, rfl, t3, rfl⟩ := loop_at hLo (loop_rule (d := l.length)
    (fun d τ h => ∃ i : Nat, i + d = l.length ∧ τ 9 = vs ∧ τ 10 = .int .i64 l.length ∧ τ 11 = .int .i64 i ∧ τ 3 = .int .i64 ((l.take i).foldl mxI 0) ∧ H = h)
    (fun e τ h => e = .exit 0 ∧ τ 3 = .int .i64 (l.foldl mxI 0) ∧ H = h)
    (by
      rintro d τ h1 ⟨i, hi, t9, t10, t11, t3, rfl⟩
      rewrite [lp324_58]
      by_cases hd0 : d = 0
      · have hil : i = l.length := by omega
        rw [hil, List.take_length] at t3
        have c : (i : Int) = l.length := by omega
        simp [Try.f324, t9, t10, t11, t3, c]
      · have hlt : i < l.length := by omega
        obtain ⟨b, o, e, ro, xs, u1, u2, u3⟩ := hat i hlt
        have w1 := wrap_i64 (n := (i : Int) + 1) (by omega) (by omega)
        have hts : l.take (i + 1) = l.take i ++ [l[i]] := by rw [List.take_add_one, List.getElem?_eq_getElem hlt]; rfl
        simp [Try.f324, t9, t10, t11, t3, hlt, w1, ldVar, u1, u2, u3]
        refine ⟨d - 1, by omega, i + 1, by omega, ?_, ?_⟩
        · push_cast; rfl
        · rw [hts, List.foldl_append]; simp [mxI])
    ⟨0, by simp, by simp, by simp, by simp, by simp, rfl⟩ (by omega))
  simp [t3]
theorem prodI_ev {H : AH} {r : Nat} {S : Cc} {va vs : AV} {ba bs : List Nat} (h : CcM H r S va vs ba bs) (hs : ∀ x ∈ S.samples, 0 ≤ x ∧ x ≤ 1000000000000) (hf : 0 ≤ S.floor ∧ S.floor ≤ 1000000000000) (m : Nat) (hm : 30 ≤ m) :
    ev Try.prog m 327 [.ptr r 0] H = some (.int .i64 (prodP (bwP S.samples) S.floor), H) := by
  obtain ⟨m, rfl⟩ : ∃ k, m = k + 1 := ⟨m - 1, by omega⟩
  have hg := h.get
  simp only [mdC] at hg
  have hb := bwP_in hs
  have hbw := bwI_ev h m (by omega)
  generalize bwP S.samples = b at *
  have cv1 : ∀ h, convA Try.prog 3 305 (.int .i64 b) h = some (.int .u64 b, h) := fun h => (conv_int (ds := .int .i64) (k := .u64) (by simp) (by simp)).trans (by rw [wrap_u64 (by omega) (by omega)])
  have cv2 : ∀ h, convA Try.prog 3 305 (.int .i64 S.floor) h = some (.int .u64 S.floor, h) := fun h => (conv_int (ds := .int .i64) (k := .u64) (by simp) (by simp)).trans (by rw [wrap_u64 (by omega) (by omega)])
  have hM := Mul64_ev (x := b) (y := S.floor) (by omega) (by omega) H m (by omega)
  have hbf : 0 ≤ b * S.floor := Int.mul_nonneg hb.1 hf.1
  obtain ⟨P, hP⟩ : ∃ z, z = b * S.floor := ⟨_, rfl⟩
  rw [← hP] at hM hbf
  have hpp : prodP b S.floor = miI (P / 1000000) 100000000 := by rw [hP]; rfl
  rw [hpp]
  obtain ⟨hi, hhi⟩ : ∃ z, z = P / 18446744073709551616 := ⟨_, rfl⟩
  obtain ⟨lo, hlo⟩ : ∃ z, z = P % 18446744073709551616 := ⟨_, rfl⟩
  rw [← hhi, ← hlo] at hM
  rw [ev_eq Try.func327 ok327 m _ H (by simp [Try.f327])]
  by_cases c1 : 1000000 ≤ hi
  · have hr : miI (P / 1000000) 100000000 = 100000000 := by unfold miI; rw [if_pos (by omega)]
    rw [hr]
    simp [Try.f327, hbw, ldVar, hg, cv1, cv2, hM, c1, evHist, ObsOk, ObOk, List.getElem?_cons_zero]
  · by_cases c2 : hi = 0
    · obtain ⟨rr, hD⟩ := Div64_small (lo := lo) (by omega) H m (by omega)
      have hlP : lo = P := by omega
      rw [c2] at hM
      by_cases c3 : 100000000 < lo / 1000000
      · have hr : miI (P / 1000000) 100000000 = 100000000 := by unfold miI; rw [if_pos (by omega)]
        rw [hr]
        simp [Try.f327, hbw, ldVar, hg, cv1, cv2, hM, hD, c3, evHist, ObsOk, ObOk, List.getElem?_cons_zero]
      · have hr : miI (P / 1000000) 100000000 = lo / 1000000 := by unfold miI; rw [if_neg (by omega), hlP]
        have cv3 : ∀ h, convA Try.prog 305 3 (.int .u64 (lo / 1000000)) h = some (.int .i64 (lo / 1000000), h) := fun h => (conv_int (ds := .int .u64) (k := .i64) (by simp) (by simp)).trans (by rw [wrap_i64 (by omega) (by omega)])
        rw [hr]
        simp [Try.f327, hbw, ldVar, hg, cv1, cv2, hM, hD, c3, cv3, evHist, ObsOk, ObOk, List.getElem?_cons_zero]
    · obtain ⟨q, rr, hD, hq⟩ := Div64_big (hi := hi) (lo := lo) (by omega) (by omega) H m (by omega)
      have hr : miI (P / 1000000) 100000000 = 100000000 := by unfold miI; rw [if_pos (by omega)]
      rw [hr]
      simp [Try.f327, hbw, ldVar, hg, cv1, cv2, hM, c1, hD, hq, evHist, ObsOk, ObOk, List.getElem?_cons_zero]
end Go.Ev
