/- Lemmas of an evaluator of the given code and of what the functions answer; no condition of its own. -/
import Derived.Test.YtcblbbilllokkaaEv4
import Derived.Test.YtcblbbilllokkaaEv5
/- Numbers of bytes: unfixed, l01Value. -/
namespace Go.Ev
open Go Go.Proofs
set_option linter.unusedSimpArgs false
set_option linter.unusedVariables false

/-- the number of some bytes, the highest first -/
def valP (l : List Int) : Int := l.foldl (fun v x => v * 256 + x) 0
def By (l : List Int) : Prop := ∀ x ∈ l, 0 ≤ x ∧ x < 256
theorem valP_snoc (l : List Int) (x : Int) : valP (l ++ [x]) = valP l * 256 + x := by simp [valP]
theorem valF_lt : ∀ (l : List Int) (v : Int), By l → 0 ≤ v → 0 ≤ l.foldl (fun v x => v * 256 + x) v ∧ l.foldl (fun v x => v * 256 + x) v < (v + 1) * 256 ^ l.length
  | [], v, _, hv => by simp; omega
  | x :: l, v, h, hv => by
    have h2 := h x (by simp)
    have h1 := valF_lt l (v * 256 + x) (fun y hy => h y (by simp [hy])) (by omega)
    refine ⟨h1.1, Int.lt_of_lt_of_le h1.2 ?_⟩
    rw [List.length_cons, Int.pow_succ]
    have h3 : (0 : Int) ≤ 256 ^ l.length := Int.pow_nonneg (by decide)
    have h4 : (v * 256 + x + 1) * 256 ^ l.length ≤ ((v + 1) * 256) * 256 ^ l.length := Int.mul_le_mul_of_nonneg_right (by omega) h3
    have h5 : (v + 1) * (256 ^ l.length * 256) = ((v + 1) * 256) * 256 ^ l.length := by rw [Int.mul_comm (256 ^ l.length) 256, Int.mul_assoc]
    rw [h5]; exact h4
theorem valP_lt (l : List Int) (h : By l) : 0 ≤ valP l ∧ valP l < 256 ^ l.length := by
  have := valF_lt l 0 h (by omega)
  unfold valP
  simpa using this
theorem By.take {l : List Int} (h : By l) (k : Nat) : By (l.take k) := fun x hx => h x (List.mem_of_mem_take hx)
theorem By.drop {l : List Int} (h : By l) (k : Nat) : By (l.drop k) := fun x hx => h x (List.mem_of_mem_drop hx)
theorem By.at_ {l : List Int} (h : By l) (k : Nat) (hk : k < l.length) : 0 ≤ l[k] ∧ l[k] < 256 := h _ (List.getElem_mem hk)
theorem valP_take_lt {l : List Int} (h : By l) (k n : Nat) (hk : k ≤ n) : 0 ≤ valP (l.take k) ∧ valP (l.take k) < 256 ^ n := by
  have h1 := valP_lt _ (h.take k)
  refine ⟨h1.1, Int.lt_of_lt_of_le h1.2 ?_⟩
  have : (256 : Nat) ^ (l.take k).length ≤ 256 ^ n := Nat.pow_le_pow_right (by omega) (by simp; omega)
  have h3 := Int.ofNat_le.mpr this
  rw [Int.natCast_pow, Int.natCast_pow] at h3
  exact h3
theorem valP_take_succ {l : List Int} (k : Nat) (hk : k < l.length) : valP (l.take (k + 1)) = valP (l.take k) * 256 + l[k] := by
  rw [List.take_add_one, List.getElem?_eq_getElem hk]; exact valP_snoc _ _

theorem unfixed_ev {Hb H : AH} {s : AV} {l : List Int} (hs : Bs Hb s l) (hK : Kp Hb H) (hb : By l) (hl : l.length ≤ 8) (m : Nat) (hm : 10 ≤ m) :
    ev Try.prog m 72 [s] H = some (.int .i64 (IntKind.i64.wrap (valP l)), H) := by
  obtain ⟨m, rfl⟩ : ∃ k, m = k + 1 := ⟨m - 1, by omega⟩
  have hs := hs.kp hK
  rw [ev_eq Try.func72 ok72 m _ H (by simp [Try.f72])]
  simp [Try.f72, hs.len]
  generalize hL : evLoop _ _ _ _ _ _ = R
  obtain ⟨e, τ', H', rfl, rfl, rfl, g⟩ := loop_at hL (loop_rule (d := l.length) (fun d τ h => h = H ∧ ∃ k : Nat, k + d = l.length ∧ τ 6 = s ∧ τ 7 = .int .i64 l.length ∧ τ 8 = .int .i64 k ∧ τ 3 = .int .u64 (valP (l.take k))) (fun e τ h => e = .exit 0 ∧ h = H ∧ τ 3 = .int .u64 (valP l))
    (by
      rintro d τ h' ⟨rfl, k, hk, t6, t7, t8, t3⟩
      obtain ⟨b, o, a1, a2, a3⟩ := hs.at_
      by_cases hd : d = 0
      · subst hd
        have : k = l.length := by omega
        subst this
        rewrite [lp72_58]
        simp [Try.f72, t6, t7, t8, t3]
      · have hlt : k < l.length := by omega
        have hd0 : 1 ≤ d := by omega
        have hv := valP_take_lt hb k 7 (by omega)
        have hx := hb.at_ k hlt
        have w1 : IntKind.u64.wrap (valP (l.take k) * 256) = valP (l.take k) * 256 := by rw [IntKind.wrap_u64]; omega
        have w2 : IntKind.u64.wrap l[k] = l[k] := by rw [IntKind.wrap_u64]; omega
        have w3 := or_byte (u := valP (l.take k)) (x := l[k]) hv.1 (by simpa using hv.2) hx.1 hx.2
        rewrite [lp72_58]
        simp [Try.f72, t6, t7, t8, t3, hlt, a2 k hlt, a3 h' rfl k hlt, convA, IntKind.bits, w1, w2, w3, wrap_i64 (n := (k : Int) + 1) (by omega) (by omega)]
        exact ⟨d - 1, by omega, k + 1, by omega, by simp, by rw [valP_take_succ k hlt]⟩) ⟨rfl, 0, by simp, by simp, by simp, by simp, by simp [valP]⟩ (by omega))
  simp [g, convA]
theorem l01Value_ev {Hb H : AH} {s : AV} {l : List Int} (hs : Bs Hb s l) (hK : Kp Hb H) (hb : By l) (hl : l.length ≤ 4) (m : Nat) (hm : 10 ≤ m) :
    ev Try.prog m 79 [s] H = some (.int .i64 (valP l), H) := by
  obtain ⟨m, rfl⟩ : ∃ k, m = k + 1 := ⟨m - 1, by omega⟩
  have hs := hs.kp hK
  rw [ev_eq Try.func79 ok79 m _ H (by simp [Try.f79])]
  simp [Try.f79]
  generalize hL : evLoop _ _ _ _ _ _ = R
  obtain ⟨e, τ', H', rfl, rfl, rfl, g⟩ := loop_at hL (loop_rule (d := l.length) (fun d τ h => h = H ∧ ∃ k : Nat, k + d = l.length ∧ τ 0 = s ∧ τ 4 = .int .i64 k ∧ τ 3 = .int .i64 (valP (l.take k))) (fun e τ h => e = .exit 0 ∧ h = H ∧ τ 3 = .int .i64 (valP l))
    (by
      rintro d τ h' ⟨rfl, k, hk, t0, t4, t3⟩
      obtain ⟨b, o, a1, a2, a3⟩ := hs.at_
      by_cases hd : d = 0
      · subst hd
        have : k = l.length := by omega
        subst this
        rewrite [lp79_58]
        simp [Try.f79, t0, t4, t3, hs.len]
      · have hlt : k < l.length := by omega
        have hd0 : 1 ≤ d := by omega
        have hv := valP_take_lt hb k 3 (by omega)
        have hx := hb.at_ k hlt
        rewrite [lp79_58]
        simp [Try.f79, t0, t4, t3, hs.len, hlt, a2 k hlt, a3 h' rfl k hlt, convA, wrap_i64 (n := valP (l.take k) * 256) (by omega) (by omega), wrap_i64 (n := l[k]) (by omega) (by omega), wrap_i64 (n := valP (l.take k) * 256 + l[k]) (by omega) (by omega), wrap_i64 (n := (k : Int) + 1) (by omega) (by omega)]
        exact ⟨d - 1, by omega, k + 1, by omega, by simp, by rw [valP_take_succ k hlt]⟩) ⟨rfl, 0, by simp, by simp, by simp, by simp [valP]⟩ (by omega))
  simp [g]
end Go.Ev

/- Numbers with a length of their own: both GetVar. -/
namespace Go.Ev
open Go Go.Proofs
set_option linter.unusedSimpArgs false
set_option linter.unusedVariables false

def gvN (x : Int) : Nat := 2 ^ (x / 64).toNat
/-- value, end, code -/
def getVarP (l : List Int) (at_ : Nat) : Int × Int × Int :=
  if at_ = l.length then (0, 0, 2)
  else if (l.length : Int) - at_ < gvN (l.getD at_ 0) then (0, 0, 2)
  else (valP ((l.drop at_).take (gvN (l.getD at_ 0))) % 2 ^ (8 * gvN (l.getD at_ 0) - 2), at_ + gvN (l.getD at_ 0), 0)

theorem valF_eq : ∀ (l : List Int) (v : Int), l.foldl (fun v x => v * 256 + x) v = v * 256 ^ l.length + valP l
  | [], v => by simp [valP]
  | x :: l, v => by
    have h1 := valF_eq l (v * 256 + x)
    have h2 := valF_eq l x
    have h3 : valP (x :: l) = l.foldl (fun v x => v * 256 + x) x := by simp [valP]
    rw [h3, h2, List.foldl_cons, h1, List.length_cons, Int.pow_succ, Int.add_mul, Int.mul_comm (256 ^ l.length) 256, ← Int.mul_assoc]
    omega
theorem valP_cons (x : Int) (l : List Int) : valP (x :: l) = x * 256 ^ l.length + valP l := by
  have h3 : valP (x :: l) = l.foldl (fun v x => v * 256 + x) x := by simp [valP]
  rw [h3, valF_eq]

theorem GetVarI_ev {Hb H : AH} {s : AV} {l : List Int} (hs : Bs Hb s l) (hK : Kp Hb H) (hb : By l) (hl : l.length ≤ 65536) (a : Nat) (ha : a ≤ l.length) (m : Nat) (hm : 20 ≤ m) :
    ev Try.prog m 81 [s, .int .i64 a] H = some (.tuple [.int .i64 (getVarP l a).1, .int .i64 (getVarP l a).2.1, .int .i64 (getVarP l a).2.2], H) := by
  obtain ⟨m, rfl⟩ : ∃ k, m = k + 1 := ⟨m - 1, by omega⟩
  have hs := hs.kp hK
  have c1 := tooLong_ev hs H m (by omega)
  have n1 : ¬ (65536 < (l.length : Int)) := by omega
  have n2 : ¬ ((a : Int) < 0) := by omega
  have n3 : ¬ ((l.length : Int) < a) := by omega
  simp only [n1, decide_false] at c1
  rw [ev_eq Try.func81 ok81 m _ H (by simp [Try.f81])]
  by_cases he : a = l.length
  · subst he
    simp [Try.f81, hs.len, c1, getVarP]
  · have hlt : a < l.length := by omega
    have he' : ¬ ((a : Int) = l.length) := by omega
    have hx := hb.at_ a hlt
    have hD : l.getD a 0 = l[a] := by simp [List.getD_eq_getElem?_getD, hlt]
    obtain ⟨b, o, a1, a2, a3⟩ := hs.at_
    obtain ⟨Q, hQ⟩ : ∃ Q : Nat, l[a] / 64 = Q := ⟨(l[a] / 64).toNat, by omega⟩
    have hf : l[a].fdiv 64 = Q := by rw [Int.fdiv_eq_ediv_of_nonneg _ (by decide)]; exact hQ
    have hN : gvN l[a] = 2 ^ Q := by unfold gvN; rw [hQ]; rfl
    have w0 : IntKind.i64.wrap ((l.length : Int) - a) = l.length - a := wrap_i64 (by omega) (by omega)
    have main : ∀ (n : Nat) (N : Int), N = n → (n = 1 ∨ n = 2 ∨ n = 4 ∨ n = 8) → ¬ ((l.length : Int) - a < N) → ∃ s', cutA Try.prog 22 s (some (some (.int .i64 a))) (some (some (.int .i64 (a + N)))) H = some s' ∧ ev Try.prog m 72 [s'] H = some (.int .i64 (IntKind.i64.wrap (valP ((l.drop a).take n))), H) := by
      intro n N hN hn hle
      subst hN
      obtain ⟨s', k1, k2⟩ := hs.cut a (a + n) (by omega) (by rw [u8L_len]; omega) (lo := some (some (.int .i64 a))) (hi := some (some (.int .i64 (a + n)))) (by simp) (by simp)
      refine ⟨s', k1, ?_⟩
      have k3 : Bs H s' ((l.drop a).take n) := by
        have : (List.take (a + n) (u8L l)).drop a = u8L ((l.drop a).take n) := by
          simp [u8L, List.drop_take]
        rw [this] at k2; exact k2
      exact unfixed_ev k3 (Kp.refl H) ((hb.drop a).take n) (by simp; omega) m (by omega)
    have hQ4 : Q = 0 ∨ Q = 1 ∨ Q = 2 ∨ Q = 3 := by omega
    simp only [getVarP, hD, hN, he]
    rcases hQ4 with rfl | rfl | rfl | rfl
    · by_cases hle : (l.length : Int) - a < 1
      · simp [Try.f81, hs.len, c1, n2, n3, he', hlt, a2 a hlt, a3 H rfl a hlt, hf, IntKind.bits, w0, hle, wrap_i64 (n := 1) (by omega) (by omega)]
      · obtain ⟨s', k1, k2⟩ := main 1 1 rfl (by omega) hle
        have w1 : IntKind.i64.wrap ((a : Int) + 1) = a + 1 := wrap_i64 (by omega) (by omega)
        simp [Try.f81, hs.len, c1, n2, n3, he', hlt, a2 a hlt, a3 H rfl a hlt, hf, IntKind.bits, w0, hle, wrap_i64 (n := 1) (by omega) (by omega), evHist, ObsOk, ObOk, w1, k1, k2, wrap_i64 (n := 8) (by omega) (by omega), wrap_i64 (n := 6) (by omega) (by omega), wrap_i64 (n := 64) (by omega) (by omega), wrap_i64 (n := 63) (by omega) (by omega), and_m6]
    · by_cases hle : (l.length : Int) - a < 2
      · simp [Try.f81, hs.len, c1, n2, n3, he', hlt, a2 a hlt, a3 H rfl a hlt, hf, IntKind.bits, w0, hle, wrap_i64 (n := 2) (by omega) (by omega)]
      · obtain ⟨s', k1, k2⟩ := main 2 2 rfl (by omega) hle
        have w1 : IntKind.i64.wrap ((a : Int) + 2) = a + 2 := wrap_i64 (by omega) (by omega)
        simp [Try.f81, hs.len, c1, n2, n3, he', hlt, a2 a hlt, a3 H rfl a hlt, hf, IntKind.bits, w0, hle, wrap_i64 (n := 2) (by omega) (by omega), evHist, ObsOk, ObOk, w1, k1, k2, wrap_i64 (n := 16) (by omega) (by omega), wrap_i64 (n := 14) (by omega) (by omega), wrap_i64 (n := 16384) (by omega) (by omega), wrap_i64 (n := 16383) (by omega) (by omega), and_m14]
    · by_cases hle : (l.length : Int) - a < 4
      · simp [Try.f81, hs.len, c1, n2, n3, he', hlt, a2 a hlt, a3 H rfl a hlt, hf, IntKind.bits, w0, hle, wrap_i64 (n := 4) (by omega) (by omega)]
      · obtain ⟨s', k1, k2⟩ := main 4 4 rfl (by omega) hle
        have w1 : IntKind.i64.wrap ((a : Int) + 4) = a + 4 := wrap_i64 (by omega) (by omega)
        simp [Try.f81, hs.len, c1, n2, n3, he', hlt, a2 a hlt, a3 H rfl a hlt, hf, IntKind.bits, w0, hle, wrap_i64 (n := 4) (by omega) (by omega), evHist, ObsOk, ObOk, w1, k1, k2, wrap_i64 (n := 32) (by omega) (by omega), wrap_i64 (n := 30) (by omega) (by omega), wrap_i64 (n := 1073741824) (by omega) (by omega), wrap_i64 (n := 1073741823) (by omega) (by omega), and_m30]
    · by_cases hle : (l.length : Int) - a < 8
      · simp [Try.f81, hs.len, c1, n2, n3, he', hlt, a2 a hlt, a3 H rfl a hlt, hf, IntKind.bits, w0, hle, wrap_i64 (n := 8) (by omega) (by omega)]
      · obtain ⟨s', k1, k2⟩ := main 8 8 rfl (by omega) hle
        have w1 : IntKind.i64.wrap ((a : Int) + 8) = a + 8 := wrap_i64 (by omega) (by omega)
        simp [Try.f81, hs.len, c1, n2, n3, he', hlt, a2 a hlt, a3 H rfl a hlt, hf, IntKind.bits, w0, hle, wrap_i64 (n := 8) (by omega) (by omega), evHist, ObsOk, ObOk, w1, k1, k2, wrap_i64 (n := 64) (by omega) (by omega), wrap_i64 (n := 62) (by omega) (by omega), wrap_i64 (n := 4611686018427387904) (by omega) (by omega), wrap_i64 (n := 4611686018427387903) (by omega) (by omega), and_m62]
end Go.Ev

/- The specification's GetVar. -/
namespace Go.Ev
open Go Go.Proofs
set_option linter.unusedSimpArgs false
set_option linter.unusedVariables false

theorem gv_loop1 (Q : Nat) (hQ : Q ≤ 3) (call : CallF) (m : Nat) (hm : 10 ≤ m) (τ : Tm) (H : AH) (t8 : τ 8 = .int .i64 Q) (t7 : τ 7 = .int .i64 1) (s a : AV) (t0 : τ 0 = s) (t1 : τ 1 = a) :
    ∃ e τ' H', evLoop Try.prog call m (lp Try.prog 80 506) τ H = some (e, τ', H') ∧ e = .exit 0 ∧ H' = H ∧ τ' 7 = .int .i64 (2 ^ Q : Nat) ∧ τ' 0 = s ∧ τ' 1 = a := by
  refine loop_rule (d := Q) (fun d τ h => h = H ∧ d ≤ Q ∧ τ 8 = .int .i64 d ∧ τ 7 = .int .i64 (2 ^ (Q - d) : Nat) ∧ τ 0 = s ∧ τ 1 = a) (fun e τ h => e = .exit 0 ∧ h = H ∧ τ 7 = .int .i64 (2 ^ Q : Nat) ∧ τ 0 = s ∧ τ 1 = a)
    ?_ ⟨rfl, Nat.le_refl _, t8, by simp [t7], t0, t1⟩ (by omega)
  rintro d τ h' ⟨rfl, hd, t8, t7, t0, t1⟩
  by_cases h0 : d = 0
  · subst h0
    rewrite [lp80_506]
    simp [Try.f80, t7, t8, t0, t1]
  · have h1 : 0 < d := by omega
    have hp : ((2 ^ (Q - (d - 1)) : Nat) : Int) = 2 * (2 ^ (Q - d) : Nat) := by
      rw [show Q - (d - 1) = (Q - d) + 1 by omega, Nat.pow_succ]; omega
    have hb : (2 ^ (Q - d) : Nat) ≤ 8 := by
      have : 2 ^ (Q - d) ≤ 2 ^ 3 := Nat.pow_le_pow_right (by omega) (by omega)
      omega
    have w2 : IntKind.i64.wrap ((d : Int) - 1) = (d - 1 : Nat) := by rw [wrap_i64 (by omega) (by omega)]; omega
    generalize hX : (2 ^ (Q - d) : Nat) = X at *
    generalize hY : (2 ^ (Q - (d - 1)) : Nat) = Y at *
    have w1 : IntKind.i64.wrap (2 * (X : Int)) = (Y : Int) := by rw [hp, wrap_i64 (by omega) (by omega)]
    rewrite [lp80_506]
    simp [Try.f80, t7, t8, t0, t1, h1, w1, w2]
    exact ⟨d - 1, by omega, by omega, rfl, by rw [← hY]; simp⟩
theorem gv_loop2 {s : AV} {l : List Int} {H : AH} (hs : Bs H s l) (hb : By l) (hl : l.length ≤ 65536) (a : Nat) (n : Nat) (hn1 : 1 ≤ n) (hn : n ≤ 8) (ha : a + n ≤ l.length) (x : Int) (hx0 : 0 ≤ x) (hx1 : x < 64) (call : CallF) (m : Nat) (hm : 10 ≤ m) (τ : Tm)
    (t0 : τ 0 = s) (t1 : τ 1 = .int .i64 a) (t7 : τ 7 = .int .i64 n) (t9 : τ 9 = .int .i64 x) (t10 : τ 10 = .int .i64 1) :
    ∃ e τ' H', evLoop Try.prog call m (lp Try.prog 80 4090) τ H = some (e, τ', H') ∧ e = .exit 2 ∧ H' = H ∧ τ' 9 = .int .i64 (((l.drop (a + 1)).take (n - 1)).foldl (fun v x => v * 256 + x) x) ∧ τ' 1 = .int .i64 a ∧ τ' 7 = .int .i64 n := by
  refine loop_rule (d := n - 1) (fun d τ h => h = H ∧ ∃ k : Nat, k + d = n - 1 ∧ τ 0 = s ∧ τ 1 = .int .i64 a ∧ τ 7 = .int .i64 n ∧ τ 10 = .int .i64 (k + 1 : Nat) ∧ τ 9 = .int .i64 (((l.drop (a + 1)).take k).foldl (fun v x => v * 256 + x) x))
    (fun e τ h => e = .exit 2 ∧ h = H ∧ τ 9 = .int .i64 (((l.drop (a + 1)).take (n - 1)).foldl (fun v x => v * 256 + x) x) ∧ τ 1 = .int .i64 a ∧ τ 7 = .int .i64 n)
    ?_ ⟨rfl, 0, by omega, t0, t1, t7, by simp [t10], by simp [t9]⟩ (by omega)
  rintro d τ h' ⟨rfl, k, hk, t0, t1, t7, t10, t9⟩
  obtain ⟨b, o, a1, a2, a3⟩ := hs.at_
  by_cases h0 : d = 0
  · subst h0
    have hkn : k = n - 1 := by omega
    subst hkn
    rw [show n - 1 + 1 = n by omega] at t10
    rewrite [lp80_4090]
    simp [Try.f80, t7, t9, t0, t1, t10]
  · have hd0 : 1 ≤ d := by omega
    have hlt : a + (k + 1) < l.length := by omega
    have hv := valF_lt ((l.drop (a + 1)).take k) x ((hb.drop _).take _) hx0
    have hpk : (256 : Int) ^ ((l.drop (a + 1)).take k).length ≤ 256 ^ 6 := by
      have : (256 : Nat) ^ ((l.drop (a + 1)).take k).length ≤ 256 ^ 6 := Nat.pow_le_pow_right (by omega) (by simp; omega)
      have h3 := Int.ofNat_le.mpr this
      rw [Int.natCast_pow, Int.natCast_pow] at h3
      exact h3
    have hvb : ((l.drop (a + 1)).take k).foldl (fun v x => v * 256 + x) x < 64 * 256 ^ 6 := by
      refine Int.lt_of_lt_of_le hv.2 ?_
      refine Int.le_trans (Int.mul_le_mul_of_nonneg_left hpk (by omega)) ?_
      have : (x + 1) * 256 ^ 6 ≤ 64 * 256 ^ 6 := Int.mul_le_mul_of_nonneg_right (by omega) (by decide)
      exact this
    have hvb' : ((l.drop (a + 1)).take k).foldl (fun v x => v * 256 + x) x < 18014398509481984 := hvb
    have hg : ((l.drop (a + 1)).take (k + 1)).foldl (fun v x => v * 256 + x) x = ((l.drop (a + 1)).take k).foldl (fun v x => v * 256 + x) x * 256 + l[a + (k + 1)] := by
      rw [List.take_add_one, List.getElem?_drop, List.getElem?_eq_getElem (by omega)]
      simp only [Option.toList_some, List.foldl_append, List.foldl_cons, List.foldl_nil]
      congr 2; omega
    have hy := hb.at_ _ hlt
    generalize hV : ((l.drop (a + 1)).take k).foldl (fun v x => v * 256 + x) x = V at *
    have hc : ((k + 1 : Nat) : Int) < (n : Int) := by omega
    have w1 : IntKind.i64.wrap ((a : Int) + ((k + 1 : Nat) : Int)) = (a + (k + 1) : Nat) := by rw [wrap_i64 (by omega) (by omega)]; omega
    have w2 : IntKind.i64.wrap (V * 256) = V * 256 := wrap_i64 (by omega) (by omega)
    have w3 : IntKind.i64.wrap (l[a + (k + 1)]) = l[a + (k + 1)] := wrap_i64 (by omega) (by omega)
    have w4 : IntKind.i64.wrap (V * 256 + l[a + (k + 1)]) = V * 256 + l[a + (k + 1)] := wrap_i64 (by omega) (by omega)
    have w5 : IntKind.i64.wrap (((k + 1 : Nat) : Int) + 1) = (k + 1 + 1 : Nat) := by rw [wrap_i64 (by omega) (by omega)]; omega
    have i1 := a2 _ hlt
    have i2 := a3 h' rfl _ hlt
    generalize hX : (k + 1 : Nat) = X at *
    rw [Int.natCast_add] at i1 w1
    rewrite [lp80_4090]
    simp [Try.f80, t7, t9, t0, t1, t10, hc, w1, i1, i2, w2, w3, w4, w5, convA]
    exact ⟨d - 1, by omega, X, by omega, by omega, by rw [hg]⟩
theorem gv_val {l : List Int} (hb : By l) (a n : Nat) (hn : n = 1 ∨ n = 2 ∨ n = 4 ∨ n = 8) (ha : a + n ≤ l.length) (h : a < l.length) :
    ((l.drop (a + 1)).take (n - 1)).foldl (fun v x => v * 256 + x) (l[a] % 64) = valP ((l.drop a).take n) % 2 ^ (8 * n - 2) := by
  have h1 : (l.drop a).take n = l[a] :: (l.drop (a + 1)).take (n - 1) := by
    obtain ⟨k, rfl⟩ : ∃ k, n = k + 1 := ⟨n - 1, by omega⟩
    rw [List.drop_eq_getElem_cons h, List.take_succ_cons]
    rfl
  have hx := hb.at_ a h
  have hr := valP_lt _ ((hb.drop (a + 1)).take (n - 1))
  have hlen : ((l.drop (a + 1)).take (n - 1)).length = n - 1 := by simp; omega
  rw [h1, valP_cons, valF_eq]
  rw [hlen] at hr ⊢
  generalize valP ((l.drop (a + 1)).take (n - 1)) = V at *
  generalize l[a] = x at *
  rcases hn with rfl | rfl | rfl | rfl
  · simp at hr ⊢; omega
  · simp at hr ⊢; omega
  · simp at hr ⊢; omega
  · simp at hr ⊢; omega
theorem GetVarS_ev {Hb H : AH} {s : AV} {l : List Int} (hs : Bs Hb s l) (hK : Kp Hb H) (hb : By l) (hl : l.length ≤ 65536) (a : Nat) (ha : a ≤ l.length) (m : Nat) (hm : 20 ≤ m) :
    ev Try.prog m 80 [s, .int .i64 a] H = some (.tuple [.int .i64 (getVarP l a).1, .int .i64 (getVarP l a).2.1, .int .i64 (getVarP l a).2.2], H) := by
  obtain ⟨m, rfl⟩ : ∃ k, m = k + 1 := ⟨m - 1, by omega⟩
  have hs := hs.kp hK
  have n1 : ¬ (65536 < (l.length : Int)) := by omega
  have n3 : ¬ ((l.length : Int) < a) := by omega
  rw [ev_eq Try.func80 ok80 m _ H (by simp [Try.f80])]
  by_cases he : a = l.length
  · subst he
    simp [Try.f80, hs.len, n1, getVarP]
  · have hlt : a < l.length := by omega
    have he' : ¬ ((a : Int) = l.length) := by omega
    have hx := hb.at_ a hlt
    have hD : l.getD a 0 = l[a] := by simp [List.getD_eq_getElem?_getD, hlt]
    obtain ⟨b, o, a1, a2, a3⟩ := hs.at_
    obtain ⟨Q, hQ⟩ : ∃ Q : Nat, l[a] / 64 = Q := ⟨(l[a] / 64).toNat, by omega⟩
    have hQ3 : Q ≤ 3 := by omega
    have hf : IntKind.i64.wrap (l[a].tdiv 64) = Q := by rw [Int.tdiv_eq_ediv_of_nonneg hx.1, hQ, wrap_i64 (by omega) (by omega)]
    have hr : IntKind.i64.wrap (l[a].tmod 64) = l[a] % 64 := by rw [Int.tmod_eq_emod_of_nonneg hx.1, wrap_i64 (by omega) (by omega)]
    have hr' : l[a].tmod 64 = l[a] % 64 := by rw [Int.tmod_eq_emod_of_nonneg hx.1]
    have hw : IntKind.i64.wrap l[a] = l[a] := wrap_i64 (by omega) (by omega)
    have hN : gvN l[a] = 2 ^ Q := by unfold gvN; rw [hQ]; rfl
    have hN4 : 2 ^ Q = 1 ∨ 2 ^ Q = 2 ∨ 2 ^ Q = 4 ∨ 2 ^ Q = 8 := by
      have : Q = 0 ∨ Q = 1 ∨ Q = 2 ∨ Q = 3 := by omega
      rcases this with rfl | rfl | rfl | rfl <;> simp
    have w0 : IntKind.i64.wrap ((l.length : Int) - a) = l.length - a := wrap_i64 (by omega) (by omega)
    have hgv := getVarP
    simp [Try.f80, hs.len, n1, n3, he', hlt, a2 a hlt, a3 H rfl a hlt, hf, hw, convA]
    generalize hL : evLoop _ _ _ _ _ _ = R
    obtain ⟨e, τ', H', rfl, rfl, rfl, g7, g0, g1⟩ := loop_at hL (gv_loop1 Q hQ3 _ m (by omega) _ _ (by simp) (by simp) s (.int .i64 a) (by simp) (by simp))
    clear hL
    simp only [getVarP, hD, hN, he]
    generalize hn : 2 ^ Q = n at *
    by_cases hle : (l.length : Int) - a < n
    · simp [g7, g0, g1, hs.len, w0, hle]
    · simp [g7, g0, g1, hs.len, w0, hle, hlt, a2 a hlt, a3 H' rfl a hlt, hw, hr, hr']
      generalize hL : evLoop _ _ _ _ _ _ = R
      obtain ⟨e, τ'', H', rfl, rfl, rfl, k9, k1, k7⟩ := loop_at hL (gv_loop2 hs hb hl a n (by omega) (by omega) (by omega) (l[a] % 64) (by omega) (by omega) _ m (by omega) _ (by simp [g0]) (by simp [g1]) (by simp [g7]) (by simp) (by simp))
      clear hL
      have w3 : IntKind.i64.wrap ((a : Int) + n) = a + n := wrap_i64 (by omega) (by omega)
      simp [k9, k1, k7, w3]
      exact gv_val hb a n hN4 (by omega) hlt
end Go.Ev

/- The scanner's and the reader's steps. -/
namespace Go.Ev
open Go Go.Proofs
set_option linter.unusedSimpArgs false
set_option linter.unusedVariables false

/-- all that was there is as it was, but for q -/
structure Kx (q : Nat) (H H' : AH) : Prop where
  next : H.next ≤ H'.next
  get : ∀ b, b < H.next → b ≠ q → H'.get b = H.get b
theorem Kx.refl (q : Nat) (H : AH) : Kx q H H := ⟨Nat.le_refl _, fun _ _ _ => rfl⟩
theorem Kx.trans {q : Nat} {A B C : AH} (h : Kx q A B) (k : Kx q B C) : Kx q A C := ⟨Nat.le_trans h.next k.next, fun b hb hq => (k.get b (Nat.lt_of_lt_of_le hb h.next) hq).trans (h.get b hb hq)⟩
theorem Kx.of {q : Nat} {A B : AH} (h : Kp A B) : Kx q A B := ⟨h.next, fun b hb _ => h.get b hb⟩
theorem Kx.set {A B : AH} {q : Nat} (h : Kx q A B) (x : Blk) : Kx q A (B.set q x) := ⟨h.next, fun c hc hq => by
  rw [AH.set_get, if_neg hq]; exact h.get c hc hq⟩
theorem Kx.kp {A H H' : AH} {q : Nat} (h : Kp A H) (k : Kx q H H') (hq : A.next ≤ q) : Kp A H' :=
  ⟨Nat.le_trans h.next k.next, fun b hb => by rw [k.get b (Nat.lt_of_lt_of_le hb h.next) (by omega)]; exact h.get b hb⟩
theorem Ow.kx {lo hi q : Nat} {H H' : AH} {s : AV} {l : List Int} (h : Ow lo hi H s l) (hK : Kx q H H') (hd : q < lo ∨ hi ≤ q) : Ow lo hi H' s l := by
  rcases h with h | ⟨b, h1, h2, h3, h4, h5⟩
  · exact .inl h
  · exact .inr ⟨b, h1, h2, Nat.le_trans h3 hK.next, h4, by rw [hK.get b (by omega) (by omega)]; exact h5⟩

/-! the scanner -/
def scB (s : AV) (a : Nat) (c : Int) : Blk := .cells 83 false [s, .int .i64 a, .int .i64 c]
/-- the bytes, the place, the code -/
def takeI (l : List Int) (a : Nat) (c : Int) (n : Int) : List Int × Nat × Int :=
  if c ≠ 0 then ([], a, c) else if n < 0 ∨ (l.length : Int) - a < n then ([], a, 2) else ((l.drop a).take n.toNat, a + n.toNat, 0)
theorem fail_ev {H : AH} {q a : Nat} {s : AV} {c e : Int} (hq : H.get q = some (scB s a c)) (m : Nat) (hm : 1 ≤ m) :
    ev Try.prog m 70 [.ptr q 0, .int .i64 e] H = some (U, if c = 0 then H.set q (scB s a e) else H) := by
  obtain ⟨m, rfl⟩ : ∃ k, m = k + 1 := ⟨m - 1, by omega⟩
  unfold scB at *
  rw [ev_eq Try.func70 ok70 m _ H (by simp [Try.f70])]
  by_cases hc : c = 0
  · simp [Try.f70, ldVar, stVar, hq, hc, U]
  · simp [Try.f70, ldVar, stVar, hq, hc, U]
theorem cutBs {Hb : AH} {s : AV} {l : List Int} (hs : Bs Hb s l) (a n : Nat) (h : a + n ≤ l.length) {A N : Int} (hA : A = a) (hN : N = a + n) :
    ∃ s', (∀ H, Kp Hb H → cutA Try.prog 22 s (some (some (.int .i64 A))) (some (some (.int .i64 N))) H = some s') ∧ Bs Hb s' ((l.drop a).take n) := by
  subst hA; subst hN
  have h1 : (List.take (a + n) (u8L l)).drop a = u8L ((l.drop a).take n) := by simp [u8L, List.drop_take]
  obtain ⟨s', k1, k2⟩ := hs.cut a (a + n) (by omega) (by rw [u8L_len]; omega) (lo := some (some (.int .i64 a))) (hi := some (some (.int .i64 (a + n)))) (by simp) (by simp)
  rw [h1] at k2
  refine ⟨s', fun H hK => ?_, k2⟩
  rcases hs.lie with ⟨rfl, _⟩ | ⟨b, o, ro, xs, rfl, hn, hg, _⟩
  · rw [← k1]; simp [cutA]
  · rw [← k1]; simp only [cutA, tyU22, tyS5, hK.get b hn]
theorem take_ev {Hb H : AH} {q a : Nat} {s : AV} {l : List Int} {c : Int} (hs : Bs Hb s l) (hK : Kp Hb H) (hqb : Hb.next ≤ q) (hq : H.get q = some (scB s a c)) (ha : a ≤ l.length) (hl : l.length ≤ 65536) (n : Int) (hn0 : -281474976710 ≤ n) (m : Nat) (hm : 2 ≤ m) :
    ∃ r H', ev Try.prog m 71 [.ptr q 0, .int .i64 n] H = some (r, H') ∧ Kx q H H' ∧ H'.next = H.next ∧ Bs Hb r (takeI l a c n).1 ∧ H'.get q = some (scB s (takeI l a c n).2.1 (takeI l a c n).2.2) ∧ (takeI l a c n).2.1 ≤ l.length := by
  obtain ⟨m, rfl⟩ : ∃ k, m = k + 1 := ⟨m - 1, by omega⟩
  have hf := fail_ev (e := 2) hq m (by omega)
  have hs' := hs.kp hK
  have hq0 := hq
  unfold scB at hq
  rw [ev_eq Try.func71 ok71 m _ H (by simp [Try.f71])]
  by_cases hc : c = 0
  · subst hc
    have w0 : IntKind.i64.wrap ((l.length : Int) - a) = l.length - a := wrap_i64 (by omega) (by omega)
    by_cases h1 : n < 0
    · refine ⟨.nilSlice, H.set q (scB s a 2), ?_, (Kx.refl q H).set _, rfl, ?_⟩
      · simp [Try.f71, ldVar, hq, h1, hf]
      · simp [takeI, h1, ha, Bs.nil]
    · by_cases h2 : (l.length : Int) - a < n
      · refine ⟨.nilSlice, H.set q (scB s a 2), ?_, (Kx.refl q H).set _, rfl, ?_⟩
        · simp [Try.f71, ldVar, hq, h1, hf, hs'.len, w0, h2]
        · simp [takeI, h1, h2, ha, Bs.nil]
      · obtain ⟨N, rfl⟩ := Int.eq_ofNat_of_zero_le (by omega : 0 ≤ n)
        have w1 : IntKind.i64.wrap ((a : Int) + N) = a + N := wrap_i64 (by omega) (by omega)
        obtain ⟨s', k1, k2⟩ := cutBs hs a N (by omega) rfl rfl
        refine ⟨s', H.set q (scB s (a + N) 0), ?_, (Kx.refl q H).set _, rfl, ?_⟩
        · simp [Try.f71, ldVar, stVar, hq, h1, hs'.len, w0, h2, w1, k1 H hK, scB, evHist, ObsOk, ObOk, hs.one]
        · simp [takeI, h1, h2]
          exact ⟨k2, by omega⟩
  · refine ⟨.nilSlice, H, ?_, Kx.refl q H, rfl, ?_⟩
    · simp [Try.f71, ldVar, hq, hc]
    · simp [takeI, hc, ha, Bs.nil, hq0]

def octV : List Int → Int
  | [x] => x
  | _ => 0
def octetI (l : List Int) (a : Nat) (c : Int) : Int × Nat × Int := (octV (takeI l a c 1).1, (takeI l a c 1).2)
theorem takeI_by {l : List Int} (hb : By l) (a : Nat) (c n : Int) : By (takeI l a c n).1 := by
  unfold takeI; split
  · intro x hx; simp at hx
  · split
    · intro x hx; simp at hx
    · exact (hb.drop _).take _
theorem takeI_len (l : List Int) (a : Nat) (c n : Int) : (takeI l a c n).1.length ≤ n.toNat ∧ (takeI l a c n).1.length ≤ l.length := by
  unfold takeI; split
  · simp
  · split
    · simp
    · simp; omega
theorem octV_by {l : List Int} (hb : By l) : 0 ≤ octV l ∧ octV l < 256 := by
  unfold octV; split
  · exact hb _ (by simp)
  · omega
theorem octet_ev {Hb H : AH} {q a : Nat} {s : AV} {l : List Int} {c : Int} (hs : Bs Hb s l) (hb : By l) (hK : Kp Hb H) (hqb : Hb.next ≤ q) (hq : H.get q = some (scB s a c)) (ha : a ≤ l.length) (hl : l.length ≤ 65536) (m : Nat) (hm : 3 ≤ m) :
    ∃ H', ev Try.prog m 69 [.ptr q 0] H = some (.int .i64 (octetI l a c).1, H') ∧ Kx q H H' ∧ H'.next = H.next ∧ H'.get q = some (scB s (octetI l a c).2.1 (octetI l a c).2.2) ∧ (octetI l a c).2.1 ≤ l.length := by
  obtain ⟨m, rfl⟩ : ∃ k, m = k + 1 := ⟨m - 1, by omega⟩
  obtain ⟨r, H', k1, k2, k3, k4, k5, k6⟩ := take_ev hs hK hqb hq ha hl 1 (by omega) m (by omega)
  refine ⟨H', ?_, k2, k3, k5, k6⟩
  have hby := takeI_by hb a c 1
  have hln := (takeI_len l a c 1).1
  rw [ev_eq Try.func69 ok69 m _ H (by simp [Try.f69])]
  have k4' := k4.kp (k2.kp hK hqb)
  unfold octetI
  generalize (takeI l a c 1).1 = t at *
  obtain ⟨b, o, a1, a2, a3⟩ := k4'.at_
  match t, hln with
  | [], _ => simp [Try.f69, k1, k4'.len, octV]
  | [x], _ =>
    have i1 := a2 0 (by simp)
    have i2 := a3 H' rfl 0 (by simp)
    have hx := hby x (by simp)
    simp at i1 i2
    simp [Try.f69, k1, k4'.len, octV, i1, i2, convA, wrap_i64 (n := x) (by omega) (by omega)]
  | x :: y :: t, h => simp at h

def numberI (l : List Int) (a : Nat) (c : Int) : Int × Nat × Int :=
  if c ≠ 0 then (0, a, c) else if (getVarP l a).2.2 ≠ 0 then (0, a, (getVarP l a).2.2) else ((getVarP l a).1, (getVarP l a).2.1.toNat, 0)
theorem getVarP_end {l : List Int} {a : Nat} (h : (getVarP l a).2.2 = 0) : ∃ e : Nat, (getVarP l a).2.1 = e ∧ a ≤ e ∧ e ≤ l.length := by
  unfold getVarP at h ⊢
  by_cases h1 : a = l.length
  · simp [h1] at h
  · by_cases h2 : (l.length : Int) - a < gvN (l.getD a 0)
    · rw [if_neg h1, if_pos h2] at h; simp at h
    · rw [if_neg h1, if_neg h2]
      exact ⟨a + gvN (l.getD a 0), by simp, by omega, by omega⟩
theorem getVarP_code (l : List Int) (a : Nat) : (getVarP l a).2.2 = 0 ∨ (getVarP l a).2.2 = 2 := by
  unfold getVarP
  split
  · simp
  · split <;> simp
theorem number_ev {Hb H : AH} {q a : Nat} {s : AV} {l : List Int} {c : Int} (hs : Bs Hb s l) (hb : By l) (hK : Kp Hb H) (hqb : Hb.next ≤ q) (hq : H.get q = some (scB s a c)) (ha : a ≤ l.length) (hl : l.length ≤ 65536) (m : Nat) (hm : 21 ≤ m) :
    ∃ H', ev Try.prog m 74 [.ptr q 0] H = some (.int .i64 (numberI l a c).1, H') ∧ Kx q H H' ∧ H'.next = H.next ∧ H'.get q = some (scB s (numberI l a c).2.1 (numberI l a c).2.2) ∧ (numberI l a c).2.1 ≤ l.length := by
  obtain ⟨m, rfl⟩ : ∃ k, m = k + 1 := ⟨m - 1, by omega⟩
  rw [ev_eq Try.func74 ok74 m _ H (by simp [Try.f74])]
  have hq0 := hq
  unfold scB at hq
  have hg := GetVarI_ev hs hK hb hl a ha m (by omega)
  by_cases hc : c = 0
  · subst hc
    by_cases h2 : (getVarP l a).2.2 = 0
    · obtain ⟨e, h3, h4, h5⟩ := getVarP_end h2
      refine ⟨H.set q (scB s e 0), ?_, (Kx.refl q H).set _, rfl, ?_⟩
      · simp [Try.f74, ldVar, stVar, hq, hg, h2, h3, numberI, scB, hs.one]
      · simp [numberI, h2, h3, h5]
    · have hf := fail_ev (e := (getVarP l a).2.2) hq0 m (by omega)
      refine ⟨H.set q (scB s a (getVarP l a).2.2), ?_, (Kx.refl q H).set _, rfl, ?_⟩
      · simp [Try.f74, ldVar, stVar, hq, hg, h2, numberI, hf, hs.one]
      · simp [numberI, h2, ha]
  · refine ⟨H, ?_, Kx.refl q H, rfl, ?_⟩
    · simp [Try.f74, ldVar, hq, hc, numberI]
    · simp [numberI, hc, ha, hq0]

def cidI (l : List Int) (a : Nat) (c : Int) : List Int × Nat × Int :=
  takeI l (octetI l a c).2.1 (if 8 < (octetI l a c).1 ∧ (octetI l a c).2.2 = 0 then 3 else (octetI l a c).2.2) (octetI l a c).1
theorem cid_ev {Hb H : AH} {q a : Nat} {s : AV} {l : List Int} {c : Int} (hs : Bs Hb s l) (hb : By l) (hK : Kp Hb H) (hqb : Hb.next ≤ q) (hqn : q < H.next) (hq : H.get q = some (scB s a c)) (ha : a ≤ l.length) (hl : l.length ≤ 65536) (m : Nat) (hm : 4 ≤ m) :
    ∃ r H', ev Try.prog m 73 [.ptr q 0] H = some (r, H') ∧ Kx q H H' ∧ Ow H.next H'.next H' r (cidI l a c).1 ∧ H'.get q = some (scB s (cidI l a c).2.1 (cidI l a c).2.2) ∧ (cidI l a c).2.1 ≤ l.length := by
  obtain ⟨m, rfl⟩ : ∃ k, m = k + 1 := ⟨m - 1, by omega⟩
  obtain ⟨H1, k1, k2, k3, k5, k6⟩ := octet_ev hs hb hK hqb hq ha hl m (by omega)
  have hv : 0 ≤ (octetI l a c).1 ∧ (octetI l a c).1 < 256 := octV_by (takeI_by hb _ _ _)
  unfold cidI
  generalize hO : octetI l a c = O at *
  obtain ⟨n, a', c'⟩ := O
  simp only at *
  have hK1 := k2.kp hK hqb
  -- the code behind the test
  obtain ⟨H2, j1, j2, j3, j4⟩ : ∃ H2, (if 8 < n then ev Try.prog m 70 [.ptr q 0, .int .i64 3] H1 = some (U, H2) else H2 = H1) ∧ Kx q H1 H2 ∧ H2.next = H1.next ∧ H2.get q = some (scB s a' (if 8 < n ∧ c' = 0 then 3 else c')) := by
    by_cases h8 : 8 < n
    · refine ⟨_, by rw [if_pos h8]; exact fail_ev k5 m (by omega), ?_, ?_, ?_⟩
      · split
        · exact (Kx.refl q H1).set _
        · exact Kx.refl q H1
      · split <;> rfl
      · by_cases hc : c' = 0
        · simp [h8, hc]
        · simp [h8, hc, k5]
    · exact ⟨H1, by rw [if_neg h8], Kx.refl q H1, rfl, by simp [h8, k5]⟩
  obtain ⟨r, H3, i1, i2, i3, i4, i5, i6⟩ := take_ev hs (j2.kp hK1 hqb) hqb j4 k6 hl n (by omega) m (by omega)
  obtain ⟨r', H4, t1, t2, t3⟩ := copied_ev i4 (i2.kp (j2.kp hK1 hqb) hqb) (by have := (takeI_len l a' (if 8 < n ∧ c' = 0 then 3 else c') n).2; omega) m (by omega)
  have hn : H3.next = H.next := by omega
  refine ⟨r', H4, ?_, ((k2.trans j2).trans i2).trans (Kx.of t2), by rw [← hn]; exact t3, by rw [t2.get q (by omega)]; exact i5, i6⟩
  rw [ev_eq Try.func73 ok73 m _ H (by simp [Try.f73])]
  by_cases h8 : 8 < n
  · simp only [h8, if_true] at j1
    simp [Try.f73, k1, h8, j1, i1, t1]
  · simp only [h8, if_false] at j1
    subst j1
    simp [Try.f73, k1, h8, i1, t1]
end Go.Ev

/- Lists of versions. -/
namespace Go.Ev
open Go Go.Proofs
set_option linter.unusedSimpArgs false
set_option linter.unusedVariables false

def grp (l : List Int) (j : Nat) : Int := valP ((l.drop (4 * j)).take 4)
/-- at least one version and not too many, none of them 0 -/
def versP (l : List Int) : Bool := decide (l.length ≠ 0 ∧ l.length % 4 = 0 ∧ l.length ≤ 32 ∧ ∀ j, j < l.length / 4 → grp l j ≠ 0)
theorem grp_bound {l : List Int} (hb : By l) (j : Nat) : 0 ≤ grp l j ∧ grp l j < 4294967296 := by
  have h := valP_lt _ ((hb.drop (4 * j)).take 4)
  refine ⟨h.1, Int.lt_of_lt_of_le h.2 ?_⟩
  have : (256 : Nat) ^ ((l.drop (4 * j)).take 4).length ≤ 256 ^ 4 := Nat.pow_le_pow_right (by omega) (by simp; omega)
  have h3 := Int.ofNat_le.mpr this
  rw [Int.natCast_pow, Int.natCast_pow] at h3
  exact h3
/-- one whole number behind a list of them -/
theorem appInt {h : AH} {b n : Nat} {xs : List AV} {v : AV} (hb : h.get b = some (.cells 3 false xs)) (hx : xs.length = n) (hn : n ≤ 100000) (hbn : b < h.next) :
    appA Try.prog 43 43 (.slice b 0 n) (.slice h.next 0 1) (h.push (.cells 3 false [v])) = some (.slice (h.next + 1) 0 (n + 1), ((h.push (.cells 3 false [v])).kill b).push (.cells 3 false (xs ++ [v]))) := by
  have h1 : ¬ (b = h.next) := by omega
  subst hx
  have h2 : (xs.length + 1) * 8 ≤ 70368744177664 := by omega
  have h3 : xs.length + 1 ≤ 70368744177664 := by omega
  unfold appA
  simp [newsA, rowOf, h1, hb, h2, h3]
theorem versLoop {Hb H0 : AH} {s : AV} {l : List Int} (hs : Bs Hb s l) (hb : By l) (hK : Kp Hb H0) (G : Nat) (hG : l.length = 4 * G) (hG8 : G ≤ 8) (m : Nat) (hm : 20 ≤ m) (τ : Tm) (h : AH) (hK0 : Kp H0 h)
    (t0 : τ 0 = s) (t5 : τ 5 = .int .i64 0) (b : Nat) (t4 : τ 4 = .slice b 0 0) (hb0 : H0.next ≤ b) (hb1 : b < h.next) (hb2 : h.get b = some (.cells 3 false [])) :
    ∃ e τ' H', evLoop Try.prog (ev Try.prog m) m (lp Try.prog 60 122) τ h = some (e, τ', H') ∧ Kp H0 H' ∧
      ((e = .exit 0 ∧ (∀ j, j < G → grp l j ≠ 0)) ∨ (e = .ret ∧ τ' 2 = .nilSlice ∧ τ' 3 = .bool false ∧ ¬ (∀ j, j < G → grp l j ≠ 0))) := by
  refine loop_rule (d := G) (fun d τ h => Kp H0 h ∧ ∃ k, k + d = G ∧ τ 0 = s ∧ τ 5 = .int .i64 (4 * k : Nat) ∧ (∃ b xs, τ 4 = .slice b 0 k ∧ xs.length = k ∧ H0.next ≤ b ∧ b < h.next ∧ h.get b = some (.cells 3 false xs)) ∧ ∀ j, j < k → grp l j ≠ 0)
    (fun e τ h => Kp H0 h ∧ ((e = .exit 0 ∧ (∀ j, j < G → grp l j ≠ 0)) ∨ (e = .ret ∧ τ 2 = .nilSlice ∧ τ 3 = .bool false ∧ ¬ (∀ j, j < G → grp l j ≠ 0))))
    ?_ ⟨hK0, 0, by omega, t0, by simp [t5], ⟨b, [], t4, rfl, hb0, hb1, hb2⟩, by omega⟩ (by omega)
  rintro d τ h ⟨hk, k, hkd, t0, t5, ⟨b, xs, t4, hx, hb0, hb1, hb2⟩, hnz⟩
  have hs' := hs.kp (hK.trans hk)
  by_cases h0 : d = 0
  · subst h0
    have e1 : ((4 * k : Nat) : Int) = l.length := by omega
    rw [e1] at t5
    rewrite [lp60_122]
    simp [Try.f60, t0, t5, t4, hs'.len]
    exact ⟨hk, fun j hj => hnz j (by omega)⟩
  · have hd0 : 1 ≤ d := by omega
    have hlt : ((4 * k : Nat) : Int) < l.length := by omega
    have w1 : IntKind.i64.wrap (((4 * k : Nat) : Int) + 4) = (4 * k + 4 : Nat) := by rw [wrap_i64 (by omega) (by omega)]; omega
    obtain ⟨s', k1, k2⟩ := cutBs hs (4 * k) 4 (by omega) (A := ((4 * k : Nat) : Int)) (N := ((4 * k + 4 : Nat) : Int)) rfl (by omega)
    have hgb := grp_bound hb k
    have hu : ev Try.prog m 72 [s'] h = some (.int .i64 (grp l k), h) := by
      rw [unfixed_ev k2 (hK.trans hk) ((hb.drop _).take _) (by simp; omega) m (by omega)]
      rw [wrap_i64 (n := valP ((l.drop (4 * k)).take 4)) (by unfold grp at hgb; omega) (by unfold grp at hgb; omega)]; rfl
    have hcut := k1 h (hK.trans hk)
    have ha := appInt (v := .int .i64 (grp l k)) hb2 hx (by omega) hb1
    have hX : ∃ X, X = 4 * k := ⟨_, rfl⟩
    obtain ⟨X, hX⟩ := hX
    have hY : (4 * k + 4 : Nat) = X + 4 := by omega
    rw [hY] at w1 hcut
    rw [← hX] at t5 hlt w1 hcut
    push_cast at w1 hcut
    by_cases hg : grp l k = 0
    · rewrite [lp60_122]
      simp only [hg] at hu
      simp [Try.f60, t0, t5, t4, hs'.len, hlt, w1, hcut, hu]
      exact ⟨hk, k, by omega, hg⟩
    · rewrite [lp60_122]
      simp [Try.f60, t0, t5, t4, hs'.len, hlt, w1, hcut, hu, hg, ha, zerosA]
      refine ⟨d - 1, by omega, ((hk.push _).kill hb0).push _, k + 1, by omega, by omega, ⟨h.next + 1, ⟨rfl, rfl⟩, xs ++ [.int .i64 (grp l k)], by simp [hx], ?_, by simp, by simp⟩, ?_⟩
      · have := hk.next; omega
      · intro j hj
        by_cases hjk : j = k
        · subst hjk; exact hg
        · exact hnz j (by omega)
theorem versionsOf_ev {Hb H : AH} {s : AV} {l : List Int} (hs : Bs Hb s l) (hb : By l) (hK : Kp Hb H) (m : Nat) (hm : 21 ≤ m) :
    ∃ r H', ev Try.prog m 60 [s] H = some (.tuple [r, .bool (versP l)], H') ∧ Kp H H' := by
  obtain ⟨m, rfl⟩ : ∃ k, m = k + 1 := ⟨m - 1, by omega⟩
  have hs' := hs.kp hK
  rw [ev_eq Try.func60 ok60 m _ H (by simp [Try.f60])]
  by_cases h1 : l.length = 0
  · refine ⟨.nilSlice, H, ?_, Kp.refl H⟩
    have : l = [] := List.eq_nil_of_length_eq_zero h1
    subst this
    simp [Try.f60, hs'.len, versP]
  · have h1' : ¬ ((l.length : Int) = 0) := by omega
    have hne : ¬ (l = []) := fun h => h1 (by rw [h]; rfl)
    have hw : IntKind.i64.wrap ((l.length : Int).tmod 4) = (l.length % 4 : Nat) := by rw [Int.tmod_eq_emod_of_nonneg (by omega), wrap_i64 (by omega) (by omega)]; omega
    have hw' : (l.length : Int).tmod 4 = (l.length % 4 : Nat) := by rw [Int.tmod_eq_emod_of_nonneg (by omega)]; omega
    by_cases h2 : l.length % 4 = 0
    · by_cases h3 : l.length ≤ 32
      · have h3' : ¬ (32 < (l.length : Int)) := by omega
        have hG : l.length = 4 * (l.length / 4) := by omega
        simp [Try.f60, hs'.len, h1', hne, hw, hw', h2, h3']
        generalize hL : evLoop _ _ _ _ _ _ = R
        obtain ⟨e, τ', H', rfl, hK', ⟨rfl, g⟩ | ⟨rfl, g2, g3, g⟩⟩ := loop_at hL (versLoop hs hb hK (l.length / 4) hG (by omega) m (by omega) _ _ ((Kp.refl H).push _) (by simp) (by simp) H.next (by simp) (Nat.le_refl _) (by simp) (by simp))
        · have : versP l = true := by simp only [versP, decide_eq_true_eq]; exact ⟨h1, h2, h3, g⟩
          simp [this]
          exact ⟨_, _, ⟨rfl, rfl⟩, hK'⟩
        · have : versP l = false := by simp only [versP, decide_eq_false_iff_not]; intro hh; exact g hh.2.2.2
          simp [this, g2, g3]
          exact ⟨_, _, ⟨rfl, rfl⟩, hK'⟩
      · have : versP l = false := by simp only [versP, decide_eq_false_iff_not]; intro hh; exact h3 hh.2.2.1
        have h3' : 32 < (l.length : Int) := by omega
        refine ⟨.nilSlice, H, ?_, Kp.refl H⟩
        simp [Try.f60, hs'.len, h1', hne, hw, hw', h2, h3', this]
    · have : versP l = false := by simp only [versP, decide_eq_false_iff_not]; intro hh; exact h2 hh.2.1
      have h2' : ¬ (((l.length % 4 : Nat) : Int) = 0) := by omega
      refine ⟨.nilSlice, H, ?_, Kp.refl H⟩
      generalize (l.length % 4 : Nat) = X at *
      simp [Try.f60, hs'.len, h1', hne, hw, hw', h2, h2', this]
end Go.Ev

/- The program's peek. -/
namespace Go.Ev
open Go Go.Proofs
set_option linter.unusedSimpArgs false
set_option linter.unusedVariables false

def PkErr (H : AH) (s : AV) (cid : Int) (m : Nat) (c : Int) : Prop := ∃ f v d s' t n num H', ev Try.prog m 43 [s, .int .i64 cid] H = some (.tuple [hdr f v d s' t, .int .i64 n, .int .i64 num, .int .i64 c], H') ∧ Kp H H' ∧ d.one = true ∧ s'.one = true ∧ t.one = true
def PkOk (H : AH) (s : AV) (cid : Int) (m : Nat) (f v : Int) (D S T : List Int) (n : Int) : Prop := ∃ d s' t num H' a b, ev Try.prog m 43 [s, .int .i64 cid] H = some (.tuple [hdr f v d s' t, .int .i64 n, .int .i64 num, .int .i64 0], H') ∧ Kp H H' ∧
  H.next ≤ a ∧ a ≤ b ∧ b ≤ H'.next ∧ Ow H.next a H' d D ∧ Ow a b H' s' S ∧ Ow b H'.next H' t T
theorem cutDrop {Hb : AH} {s : AV} {l : List Int} (hs : Bs Hb s l) (a : Nat) (h : a ≤ l.length) :
    ∃ s', (∀ H, Kp Hb H → cutA Try.prog 22 s (some (some (.int .i64 a))) (some none) H = some s') ∧ Bs Hb s' (l.drop a) := by
  obtain ⟨s', k1, k2⟩ := hs.cut a l.length h (by rw [u8L_len]; omega) (lo := some (some (.int .i64 a))) (hi := some none) (by simp) (by simp [u8L_len])
  have h1 : (List.take l.length (u8L l)).drop a = u8L (l.drop a) := by rw [List.take_of_length_le (by rw [u8L_len]; omega)]; simp [u8L]
  rw [h1] at k2
  refine ⟨s', fun H hK => ?_, k2⟩
  rcases hs.lie with ⟨rfl, _⟩ | ⟨b, o, ro, xs, rfl, hn, hg, _⟩
  · rw [← k1]; simp [cutA]
  · rw [← k1]; simp only [cutA, tyU22, tyS5, hK.get b hn]
theorem cutTake {Hb : AH} {s : AV} {l : List Int} (hs : Bs Hb s l) (a : Nat) (h : a ≤ l.length) {A : Int} (hA : A = a) :
    ∃ s', (∀ H, Kp Hb H → cutA Try.prog 22 s (some none) (some (some (.int .i64 A))) H = some s') ∧ Bs Hb s' (l.take a) := by
  subst hA
  obtain ⟨s', k1, k2⟩ := hs.cut 0 a (by omega) (by rw [u8L_len]; omega) (lo := some none) (hi := some (some (.int .i64 a))) (by simp) (by simp)
  have h1 : (List.take a (u8L l)).drop 0 = u8L (l.take a) := by simp [u8L]
  rw [h1] at k2
  refine ⟨s', fun H hK => ?_, k2⟩
  rcases hs.lie with ⟨rfl, _⟩ | ⟨b, o, ro, xs, rfl, hn, hg, _⟩
  · rw [← k1]; simp [cutA]
  · rw [← k1]; simp only [cutA, tyU22, tyS5, hK.get b hn]
theorem takeI_st {l : List Int} {a : Nat} {c n : Int} (hc : c ≠ 0) : takeI l a c n = ([], a, c) := by simp [takeI, hc]
theorem octetI_st {l : List Int} {a : Nat} {c : Int} (hc : c ≠ 0) : octetI l a c = (0, a, c) := by simp [octetI, takeI_st hc, octV]
theorem cidI_st {l : List Int} {a : Nat} {c : Int} (hc : c ≠ 0) : cidI l a c = ([], a, c) := by simp [cidI, octetI_st hc, takeI_st hc]
theorem numberI_st {l : List Int} {a : Nat} {c : Int} (hc : c ≠ 0) : numberI l a c = (0, a, c) := by simp [numberI, hc]
/-- version and both ids: the steps from the first byte on -/
theorem ids_ev {Hb H : AH} {q a : Nat} {s : AV} {l : List Int} {c : Int} (hs : Bs Hb s l) (hb : By l) (hK : Kp Hb H) (hqb : Hb.next ≤ q) (hqn : q < H.next) (hq : H.get q = some (scB s a c)) (ha : a ≤ l.length) (hl : l.length ≤ 65536)
    (hh : Nat) (hhq : hh ≠ q) (hhn : hh < H.next) (hhb : Hb.next ≤ hh) (hg : H.get hh = some (.cells 32 false [.int .i64 0, .int .i64 0, .nilSlice, .nilSlice, .nilSlice, .int .i64 0, .int .i64 0, .int .i64 0])) (m : Nat) (hm : 20 ≤ m) :
    ∃ r0 H1 r1 H2 r2 H3 v, ev Try.prog m 71 [.ptr q 0, .int .i64 4] H = some (r0, H1) ∧ ev Try.prog m 72 [r0] H1 = some (.int .i64 v, H1) ∧ v = valP (takeI l a c 4).1 ∧
      ev Try.prog m 73 [.ptr q 0] H1 = some (r1, H2) ∧ H2.get hh = some (.cells 32 false [.int .i64 0, .int .i64 0, .nilSlice, .nilSlice, .nilSlice, .int .i64 0, .int .i64 0, .int .i64 0]) ∧ r1.one = true ∧
      ev Try.prog m 73 [.ptr q 0] (H2.set hh (.cells 32 false [.int .i64 0, .int .i64 0, r1, .nilSlice, .nilSlice, .int .i64 0, .int .i64 0, .int .i64 0])) = some (r2, H3) ∧
      H3.get hh = some (.cells 32 false [.int .i64 0, .int .i64 0, r1, .nilSlice, .nilSlice, .int .i64 0, .int .i64 0, .int .i64 0]) ∧ r2.one = true ∧
      (∀ b, b < H.next → b ≠ q → b ≠ hh → H3.get b = H.get b) ∧ H.next ≤ H2.next ∧ H2.next ≤ H3.next ∧ 
      Ow H.next H2.next H3 r1 (cidI l (takeI l a c 4).2.1 (takeI l a c 4).2.2).1 ∧
      Ow H2.next H3.next H3 r2 (cidI l (cidI l (takeI l a c 4).2.1 (takeI l a c 4).2.2).2.1 (cidI l (takeI l a c 4).2.1 (takeI l a c 4).2.2).2.2).1 ∧
      H3.get q = some (scB s (cidI l (cidI l (takeI l a c 4).2.1 (takeI l a c 4).2.2).2.1 (cidI l (takeI l a c 4).2.1 (takeI l a c 4).2.2).2.2).2.1 (cidI l (cidI l (takeI l a c 4).2.1 (takeI l a c 4).2.2).2.1 (cidI l (takeI l a c 4).2.1 (takeI l a c 4).2.2).2.2).2.2) ∧
      (cidI l (cidI l (takeI l a c 4).2.1 (takeI l a c 4).2.2).2.1 (cidI l (takeI l a c 4).2.1 (takeI l a c 4).2.2).2.2).2.1 ≤ l.length ∧ Kp Hb H3 := by
  obtain ⟨r0, H1, a1, a2, a3, a4, a5, a6⟩ := take_ev hs hK hqb hq ha hl 4 (by omega) m (by omega)
  have K1 := a2.kp hK hqb
  have hu := unfixed_ev a4 K1 (takeI_by hb _ _ _) (by have := (takeI_len l a c 4).1; omega) m (by omega)
  have hvb := valP_lt _ (takeI_by hb a c 4)
  have hv4 : valP (takeI l a c 4).1 < 4294967296 := by
    refine Int.lt_of_lt_of_le hvb.2 ?_
    have : (256 : Nat) ^ (takeI l a c 4).1.length ≤ 256 ^ 4 := Nat.pow_le_pow_right (by omega) (takeI_len l a c 4).1
    have h3 := Int.ofNat_le.mpr this
    rw [Int.natCast_pow, Int.natCast_pow] at h3
    exact h3
  rw [wrap_i64 (n := valP (takeI l a c 4).1) (by omega) (by omega)] at hu
  obtain ⟨r1, H2, b1, b2, b3, b4, b5⟩ := cid_ev hs hb K1 hqb (by omega) a5 a6 hl m (by omega)
  have K2 := b2.kp K1 hqb
  have hg1 : H1.get hh = H.get hh := a2.get hh hhn hhq
  have hg2 : H2.get hh = H.get hh := by rw [b2.get hh (by omega) hhq, hg1]
  have hn2 := b2.next
  let Hs := H2.set hh (.cells 32 false [.int .i64 0, .int .i64 0, r1, .nilSlice, .nilSlice, .int .i64 0, .int .i64 0, .int .i64 0])
  have K2' : Kp Hb Hs := K2.set hhb _
  have hqs : Hs.get q = H2.get q := by show (H2.set hh _).get q = _; rw [AH.set_get, if_neg (Ne.symm hhq)]
  obtain ⟨r2, H3, c1, c2, c3, c4, c5⟩ := cid_ev hs hb K2' hqb (show q < H2.next by omega) (hqs.trans b4) b5 hl m (by omega)
  have hn3 : H2.next ≤ H3.next := c2.next
  have hsh : Hs.get hh = some (.cells 32 false [.int .i64 0, .int .i64 0, r1, .nilSlice, .nilSlice, .int .i64 0, .int .i64 0, .int .i64 0]) := by show (H2.set hh _).get hh = _; rw [AH.set_get, if_pos rfl]
  refine ⟨r0, H1, r1, H2, r2, H3, _, a1, hu, rfl, b1, hg2.trans hg, b3.bs.one, c1, ?_, c3.bs.one, ?_, by omega, hn3, ?_, c3, c4, c5, c2.kp K2' hqb⟩
  · rw [c2.get hh (show hh < H2.next by omega) hhq]; exact hsh
  · intro b h1 h2 h3
    rw [c2.get b (show b < H2.next by omega) h2]
    show (H2.set hh _).get b = _
    rw [AH.set_get, if_neg h3, b2.get b (by omega) h2, a2.get b h1 h2]
  · rw [← a3]
    have : Ow H1.next H2.next Hs r1 (cidI l (takeI l a c 4).2.1 (takeI l a c 4).2.2).1 := by
      rcases b3 with h | ⟨b, g1, g2, g3, g4, g5⟩
      · exact .inl h
      · refine .inr ⟨b, g1, g2, g3, g4, ?_⟩
        show (H2.set hh _).get b = _
        rw [AH.set_get, if_neg (by omega)]; exact g5
    exact this.kx c2 (.inl (by omega))
/-- where the call stands behind the first byte: the answer's block, the scanner, the header -/
def zh : List AV := [.int .i64 0, .int .i64 0, .nilSlice, .nilSlice, .nilSlice, .int .i64 0, .int .i64 0, .int .i64 0]
theorem peekI_pro {H : AH} {s : AV} {l : List Int} (hs : Bs H s l) (hb : By l) (hl : l.length ≤ 65536) (m : Nat) (hm : 29 ≤ m) :
    ∃ H1, ev Try.prog m 69 [.ptr (H.next + 1) 0] ((H.push (.cells 32 false zh)).push (.cells 83 false [s, .int .i64 0, .int .i64 0])) = some (.int .i64 (octetI l 0 0).1, H1) ∧ H1.next = H.next + 2 ∧ Kp H H1 ∧ H1.get H.next = some (.cells 32 false zh) ∧
      H1.get (H.next + 1) = some (scB s (octetI l 0 0).2.1 (octetI l 0 0).2.2) ∧ (octetI l 0 0).2.1 ≤ l.length := by
  have K0 : Kp H ((H.push (.cells 32 false zh)).push (scB s 0 0)) := ((Kp.refl H).push _).push _
  obtain ⟨H1, k1, k2, k3, k4, k5⟩ := octet_ev hs hb K0 (q := H.next + 1) (a := 0) (c := 0) (by omega) (by simp) (by omega) hl m (by omega)
  refine ⟨H1, k1, by simpa using k3, k2.kp K0 (by omega), ?_, k4, k5⟩
  rw [k2.get _ (by simp; omega) (by omega)]; simp
theorem peekI_A {H : AH} {s : AV} {l : List Int} {cid : Int} (hs : Bs H s l) (hb : By l) (hl : l.length ≤ 65536) (m : Nat) (hm : 30 ≤ m)
    (hc : (octetI l 0 0).2.2 ≠ 0) : PkErr H s cid m (octetI l 0 0).2.2 := by
  obtain ⟨m, rfl⟩ : ∃ k, m = k + 1 := ⟨m - 1, by omega⟩
  obtain ⟨H1, k1, k2, k3, k4, k5, k6⟩ := peekI_pro hs hb hl m (by omega)
  generalize octetI l 0 0 = O at *
  obtain ⟨f, a, c⟩ := O
  simp only at *
  obtain ⟨r0, H2, r1, H3, r2, H4, v, a1, a2, a3, b1, b2, b3, c1, c2, c3, c4, c5, c6, c7, c8, c9, c10, c11⟩ := ids_ev (H := H1.push (.cells 32 false zh)) (q := H.next + 1) (a := a) (c := c) hs hb (k3.push _) (by omega) (by simp; omega) (by simp [k2, k5]) k6 hl (H.next + 2) (by omega) (by simp [k2]) (by omega) (by simp [k2, zh]) m (by omega)
  rw [takeI_st hc, cidI_st hc, cidI_st hc] at c9
  have hr := c4 H.next (by simp; omega) (by omega) (by omega)
  simp [k2, k4] at hr
  simp only [scB, zh] at *
  unfold PkErr
  rw [ev_eq Try.func43 ok43 m _ H (by simp [Try.f43])]
  simp [Try.f43, ldVar, stVar, hs.one, cells_one hs.one, k1, k2, k4, k5, a1, a2, b1, b2, b3, c1, c2, c3, c9, hr, cells_one b3, cells_one c3, evHist, ObsOk, ObOk, hc]
  exact ⟨_, _, _, _, _, _, _, _, ⟨⟨rfl, rfl, rfl⟩, rfl⟩, (c11.set (by omega) _).set (by omega) _, b3, c3, rfl⟩
theorem peekI_B {H : AH} {s : AV} {l : List Int} {cid : Int} (hs : Bs H s l) (hb : By l) (hl : l.length ≤ 65536) (m : Nat) (hm : 30 ≤ m)
    (hc : (octetI l 0 0).2.2 = 0) (h64 : (octetI l 0 0).1 < 64) : PkErr H s cid m 3 := by
  obtain ⟨m, rfl⟩ : ∃ k, m = k + 1 := ⟨m - 1, by omega⟩
  obtain ⟨H1, k1, k2, k3, k4, k5, k6⟩ := peekI_pro hs hb hl m (by omega)
  generalize octetI l 0 0 = O at *
  obtain ⟨f, a, c⟩ := O
  simp only at *
  subst hc
  have hf := fail_ev (H := H1.push (.cells 32 false zh)) (q := H.next + 1) (a := a) (s := s) (c := 0) (e := 3) (by simp [k2, k5]) m (by omega)
  obtain ⟨r0, H2, r1, H3, r2, H4, v, a1, a2, a3, b1, b2, b3, c1, c2, c3, c4, c5, c6, c7, c8, c9, c10, c11⟩ := ids_ev (H := (H1.push (.cells 32 false zh)).set (H.next + 1) (scB s a 3)) (q := H.next + 1) (a := a) (c := 3) hs hb ((k3.push _).set (by omega) _) (by omega) (by simp; omega) (by simp [k2, k5]) k6 hl (H.next + 2) (by omega) (by simp [k2]) (by omega) (by simp [k2, zh]) m (by omega)
  simp only [takeI_st (show (3 : Int) ≠ 0 by decide), cidI_st (show (3 : Int) ≠ 0 by decide)] at c9
  have hr := c4 H.next (by simp; omega) (by omega) (by omega)
  simp [k2, k4] at hr
  simp only [scB, zh] at *
  unfold PkErr
  rw [ev_eq Try.func43 ok43 m _ H (by simp [Try.f43])]
  simp [Try.f43, ldVar, stVar, hs.one, cells_one hs.one, k1, k2, k4, k5, a1, a2, b1, b2, b3, c1, c2, c3, c9, hr, cells_one b3, cells_one c3, evHist, ObsOk, ObOk, h64, hf]
  exact ⟨_, _, _, _, _, _, _, _, ⟨⟨rfl, rfl, rfl⟩, rfl⟩, (c11.set (by omega) _).set (by omega) _, b3, c3, rfl⟩
theorem peekI_D {H : AH} {s : AV} {l : List Int} {cid : Int} (hs : Bs H s l) (hb : By l) (hl : l.length ≤ 65536) (m : Nat) (hm : 30 ≤ m)
    {f : Int} {a : Nat} (hO : octetI l 0 0 = (f, a, 0)) (h128 : 128 ≤ f) {V : List Int} {a1 : Nat} {c1 : Int} (hV : takeI l a 0 4 = (V, a1, c1)) {D : List Int} {a2 : Nat} {c2 : Int} (hD : cidI l a1 c1 = (D, a2, c2))
    {S : List Int} {a3 : Nat} {c3 : Int} (hS : cidI l a2 c2 = (S, a3, c3)) (hc : c3 ≠ 0) : PkErr H s cid m c3 := by
  obtain ⟨m, rfl⟩ : ∃ k, m = k + 1 := ⟨m - 1, by omega⟩
  obtain ⟨H1, k1, k2, k3, k4, k5, k6⟩ := peekI_pro hs hb hl m (by omega)
  rw [hO] at k1 k5 k6
  simp only at k1 k5 k6
  obtain ⟨r0, H2, r1, H3, r2, H4, v, a1, a2, a3, b1, b2, b3, c1, c2, c3, c4, c5, c6, c7, c8, c9, c10, c11⟩ := ids_ev (H := H1.push (.cells 32 false zh)) (q := H.next + 1) (a := a) (c := 0) hs hb (k3.push _) (by omega) (by simp; omega) (by simp [k2, k5]) k6 hl (H.next + 2) (by omega) (by simp [k2]) (by omega) (by simp [k2, zh]) m (by omega)
  simp only [hV, hD, hS] at a3 c7 c8 c9 c10
  have hr := c4 H.next (by simp; omega) (by omega) (by omega)
  simp [k2, k4] at hr
  simp only [scB, zh] at *
  have n1 : ¬ (f < 64) := by omega
  have n2 : ¬ (f < 128) := by omega
  unfold PkErr
  rw [ev_eq Try.func43 ok43 m _ H (by simp [Try.f43])]
  simp [Try.f43, ldVar, stVar, hs.one, cells_one hs.one, k1, k2, k4, k5, a1, a2, b1, b2, b3, c1, c2, c3, c9, hr, cells_one b3, cells_one c3, evHist, ObsOk, ObOk, n1, n2, hc]
  exact ⟨_, _, _, _, _, _, _, _, ⟨⟨rfl, rfl, rfl⟩, rfl⟩, (c11.set (by omega) _).set (by omega) _, b3, c3, rfl⟩
end Go.Ev

/- The program's peek: a short header. -/
namespace Go.Ev
open Go Go.Proofs
set_option linter.unusedSimpArgs false
set_option linter.unusedVariables false

def PkRes (H : AH) (s : AV) (cid : Int) (m : Nat) (f v : Int) (D S T : List Int) (n c : Int) : Prop := ∃ d s' t num H' a b, ev Try.prog m 43 [s, .int .i64 cid] H = some (.tuple [hdr f v d s' t, .int .i64 n, .int .i64 num, .int .i64 c], H') ∧ Kp H H' ∧
  H.next ≤ a ∧ a ≤ b ∧ b ≤ H'.next ∧ Ow H.next a H' d D ∧ Ow a b H' s' S ∧ Ow b H'.next H' t T
theorem PkRes.err {H : AH} {s : AV} {cid : Int} {m : Nat} {f v : Int} {D S T : List Int} {n c : Int} (h : PkRes H s cid m f v D S T n c) : PkErr H s cid m c := by
  obtain ⟨d, s', t, num, H', a, b, h1, h2, h3, h4, h5, h6, h7, h8⟩ := h
  exact ⟨_, _, _, _, _, _, _, _, h1, h2, h6.bs.one, h7.bs.one, h8.bs.one⟩
theorem PkRes.ok {H : AH} {s : AV} {cid : Int} {m : Nat} {f v : Int} {D S T : List Int} {n : Int} (h : PkRes H s cid m f v D S T n 0) : PkOk H s cid m f v D S T n := h
theorem Ow.nil (lo hi : Nat) (H : AH) : Ow lo hi H .nilSlice [] := .inl ⟨rfl, rfl⟩
theorem Ow.set {lo hi b : Nat} {H : AH} {s : AV} {l : List Int} (h : Ow lo hi H s l) (x : Blk) (hd : b < lo ∨ hi ≤ b) : Ow lo hi (H.set b x) s l := by
  rcases h with h | ⟨b', h1, h2, h3, h4, h5⟩
  · exact .inl h
  · exact .inr ⟨b', h1, h2, h3, h4, by rw [AH.set_get, if_neg (by omega)]; exact h5⟩

theorem peekI_C {H : AH} {s : AV} {l : List Int} {cid : Int} (hs : Bs H s l) (hb : By l) (hl : l.length ≤ 65536) (hcid : 0 ≤ cid) (hcid8 : cid ≤ 8) (m : Nat) (hm : 30 ≤ m)
    {f : Int} {a : Nat} (hO : octetI l 0 0 = (f, a, 0)) (h64 : 64 ≤ f) (h128 : f < 128) {D : List Int} {a1 : Nat} {c1 : Int} (hD : takeI l a 0 cid = (D, a1, c1)) {T : List Int} {a2 : Nat} {c2 : Int} (hT : takeI l a1 c1 12 = (T, a2, c2)) :
    PkRes H s cid m 4 0 D [] [] l.length c2 := by
  obtain ⟨m, rfl⟩ : ∃ k, m = k + 1 := ⟨m - 1, by omega⟩
  obtain ⟨H1, k1, k2, k3, k4, k5, k6⟩ := peekI_pro hs hb hl m (by omega)
  rw [hO] at k1 k5 k6
  simp only at k1 k5 k6
  have K2 : Kp H (H1.push (.cells 32 false [.int .i64 4, .int .i64 0, .nilSlice, .nilSlice, .nilSlice, .int .i64 0, .int .i64 0, .int .i64 0])) := k3.push _
  obtain ⟨r1, H2, a1', a2', a3', a4', a5', a6'⟩ := take_ev (q := H.next + 1) (a := a) (c := 0) hs K2 (by omega) (by simp [k2, k5]) k6 hl cid (by omega) m (by omega)
  simp only [hD] at a4' a5' a6'
  simp only [AH.push_next, k2] at a3'
  have K3 := a2'.kp K2 (by omega)
  have hDl : D.length ≤ 65536 := by have := (takeI_len l a 0 cid).2; rw [hD] at this; simp only at this; omega
  obtain ⟨d, H3, b1, b2, b3⟩ := copied_ev a4' K3 (by omega) m (by omega)
  have K4 := K3.trans b2
  have g1 : H3.get (H.next + 2) = some (.cells 32 false [.int .i64 4, .int .i64 0, .nilSlice, .nilSlice, .nilSlice, .int .i64 0, .int .i64 0, .int .i64 0]) := by
    rw [b2.get _ (by omega), a2'.get _ (by simp [k2]) (by omega)]; simp [k2]
  have g2 : H3.get (H.next + 1) = some (scB s a1 c1) := by rw [b2.get _ (by omega)]; exact a5'
  have g3 : H3.get H.next = some (.cells 32 false zh) := by
    rw [b2.get _ (by omega), a2'.get _ (by simp [k2]; omega) (by omega)]; simp [k2, k4]
  have hn3 := b2.next
  have K5 : Kp H (H3.set (H.next + 2) (.cells 32 false [.int .i64 4, .int .i64 0, d, .nilSlice, .nilSlice, .int .i64 0, .int .i64 0, .int .i64 0])) := K4.set (by omega) _
  obtain ⟨r2, H4, c1', c2', c3', c4', c5', c6'⟩ := take_ev (q := H.next + 1) (a := a1) (c := c1) hs K5 (by omega) (by simp [g2]) a6' hl 12 (by omega) m (by omega)
  simp only [hT] at c5' c6'
  simp only [AH.set_next] at c3'
  have e1 : H4.get (H.next + 2) = some (.cells 32 false [.int .i64 4, .int .i64 0, d, .nilSlice, .nilSlice, .int .i64 0, .int .i64 0, .int .i64 0]) := by
    rw [c2'.get _ (by simp; omega) (by omega)]; simp
  have e2 : H4.get H.next = some (.cells 32 false zh) := by
    rw [c2'.get _ (by simp; omega) (by omega)]; simp [g3]
  have hdo := b3.bs.one
  have n1 : ¬ (f < 64) := by omega
  have K6 := c2'.kp K5 (by omega)
  have hO4 : Ow H2.next H3.next H4 d D := (b3.set (b := H.next + 2) _ (by omega)).kx c2' (by omega)
  simp only [scB, zh] at *
  unfold PkRes
  rw [ev_eq Try.func43 ok43 m _ H (by simp [Try.f43])]
  have hL : ∀ h, lenA Try.prog 22 s h = some (.int .i64 l.length) := hs.len
  simp [Try.f43, ldVar, stVar, hs.one, cells_one hs.one, k1, k2, k4, k5, evHist, ObsOk, ObOk, n1, h128, a1', b1, g1, g2, g3, c1', c5', e1, e2, hdo, cells_one hdo, hL]
  have hn4 := c2'.next
  simp only [AH.set_next] at hn4
  refine ⟨_, _, _, _, _, ⟨⟨rfl, rfl⟩, rfl⟩, (K6.set (by omega) _).set (by omega) _, H3.next, by omega, H3.next, Nat.le_refl _, by simp; omega, ?_, Ow.nil _ _ _, Ow.nil _ _ _⟩
  exact ((hO4.set _ (by omega)).set _ (by omega)).wide (by omega) (Nat.le_refl _) (by simp; omega)
end Go.Ev

/- The program's peek: its last steps. -/
namespace Go.Ev
open Go Go.Proofs
set_option linter.unusedSimpArgs false
set_option linter.unusedVariables false

theorem numberI_nn {l : List Int} (hb : By l) (a : Nat) (c : Int) : 0 ≤ (numberI l a c).1 := by
  unfold numberI
  split
  · simp
  · split
    · simp
    · simp only [getVarP]
      split
      · simp
      · split
        · simp
        · simp only
          exact Int.emod_nonneg _ (Int.pow_ne_zero (by decide))
/-- a failing, or not -/
theorem failIf {H : AH} {q a : Nat} {s : AV} {c : Int} (hq : H.get q = some (scB s a c)) (P0 : Prop) [Decidable P0] (m : Nat) (hm : 1 ≤ m) :
    ∃ H', (P0 → ev Try.prog m 70 [.ptr q 0, .int .i64 3] H = some (U, H')) ∧ (¬ P0 → H' = H) ∧ Kx q H H' ∧ H'.next = H.next ∧ H'.get q = some (scB s a (if P0 ∧ c = 0 then 3 else c)) := by
  by_cases h8 : P0
  · refine ⟨_, fun _ => fail_ev hq m hm, fun h => absurd h8 h, ?_, ?_, ?_⟩
    · split
      · exact (Kx.refl q H).set _
      · exact Kx.refl q H
    · split <;> rfl
    · by_cases hc : c = 0
      · simp [h8, hc]
      · simp [h8, hc, hq]
  · exact ⟨H, fun h => absurd h h8, fun _ => rfl, Kx.refl q H, rfl, by simp [h8, hq]⟩
/-- a number, a test, the bytes -/
theorem end_ev {Hb H : AH} {q a : Nat} {s : AV} {l : List Int} {c : Int} (hs : Bs Hb s l) (hb : By l) (hK : Kp Hb H) (hqb : Hb.next ≤ q) (hqn : q < H.next) (hq : H.get q = some (scB s a c)) (ha : a ≤ l.length) (hl : l.length ≤ 65536)
    (P0 : Prop) [Decidable P0] {n : Int} {a4 : Nat} {c4 : Int} (hN : numberI l a c = (n, a4, c4)) {T : List Int} {a6 : Nat} {c6 : Int} (hT : takeI l a4 (if P0 ∧ c4 = 0 then 3 else c4) n = (T, a6, c6)) (m : Nat) (hm : 22 ≤ m) :
    ∃ H1 H2 r H3, ev Try.prog m 74 [.ptr q 0] H = some (.int .i64 n, H1) ∧ H1.get q = some (scB s a4 c4) ∧ (P0 → ev Try.prog m 70 [.ptr q 0, .int .i64 3] H1 = some (U, H2)) ∧ (¬ P0 → H2 = H1) ∧ H2.get q = some (scB s a4 (if P0 ∧ c4 = 0 then 3 else c4)) ∧
      ev Try.prog m 71 [.ptr q 0, .int .i64 n] H2 = some (r, H3) ∧ Bs Hb r T ∧ H3.get q = some (scB s a6 c6) ∧ a6 ≤ l.length ∧ Kx q H H3 ∧ H3.next = H.next ∧ Kp Hb H3 ∧ (∀ b, b < H.next → b ≠ q → H1.get b = H.get b) ∧ (∀ b, b < H.next → b ≠ q → H2.get b = H.get b) := by
  obtain ⟨H1, k1, k2, k3, k4, k5⟩ := number_ev hs hb hK hqb hq ha hl m (by omega)
  have hnn := numberI_nn hb a c
  simp only [hN] at k1 k4 k5 hnn
  have K1 := k2.kp hK hqb
  obtain ⟨H2, j1, j2, j3, j4, j5⟩ := failIf k4 P0 m (by omega)
  have K2 := j3.kp K1 hqb
  obtain ⟨r, H3, i1, i2, i3, i4, i5, i6⟩ := take_ev hs K2 hqb j5 k5 hl n (by omega) m (by omega)
  simp only [hT] at i4 i5 i6
  exact ⟨H1, H2, r, H3, k1, k4, j1, j2, j5, i1, i4, i5, i6, (k2.trans j3).trans i2, by omega, i2.kp K2 hqb, k2.get, (k2.trans j3).get⟩
end Go.Ev

/- The program's peek: long headers. -/
namespace Go.Ev
open Go Go.Proofs
set_option linter.unusedSimpArgs false
set_option linter.unusedVariables false

theorem peekI_mid {H : AH} {s : AV} {l : List Int} (hs : Bs H s l) (hb : By l) (hl : l.length ≤ 65536) (m : Nat) (hm : 29 ≤ m)
    {f : Int} {a : Nat} (hO : octetI l 0 0 = (f, a, 0)) {V : List Int} {a1 : Nat} {c1 : Int} (hV : takeI l a 0 4 = (V, a1, c1)) {D : List Int} {a2 : Nat} {c2 : Int} (hD : cidI l a1 c1 = (D, a2, c2))
    {S : List Int} {a3 : Nat} (hS : cidI l a2 c2 = (S, a3, 0)) :
    ∃ H1 r0 H2 r1 H3 r2 H4, ev Try.prog m 69 [.ptr (H.next + 1) 0] ((H.push (.cells 32 false zh)).push (.cells 83 false [s, .int .i64 0, .int .i64 0])) = some (.int .i64 f, H1) ∧ H1.next = H.next + 2 ∧ H1.get H.next = some (.cells 32 false zh) ∧
      H1.get (H.next + 1) = some (scB s a 0) ∧ ev Try.prog m 71 [.ptr (H.next + 1) 0, .int .i64 4] (H1.push (.cells 32 false zh)) = some (r0, H2) ∧ ev Try.prog m 72 [r0] H2 = some (.int .i64 (valP V), H2) ∧
      ev Try.prog m 73 [.ptr (H.next + 1) 0] H2 = some (r1, H3) ∧ H3.get (H.next + 2) = some (.cells 32 false zh) ∧ r1.one = true ∧
      ev Try.prog m 73 [.ptr (H.next + 1) 0] (H3.set (H.next + 2) (.cells 32 false [.int .i64 0, .int .i64 0, r1, .nilSlice, .nilSlice, .int .i64 0, .int .i64 0, .int .i64 0])) = some (r2, H4) ∧ H4.get (H.next + 2) = some (.cells 32 false [.int .i64 0, .int .i64 0, r1, .nilSlice, .nilSlice, .int .i64 0, .int .i64 0, .int .i64 0]) ∧ r2.one = true ∧
      H4.get H.next = some (.cells 32 false zh) ∧ H4.get (H.next + 1) = some (scB s a3 0) ∧ a3 ≤ l.length ∧ Kp H H4 ∧ H.next + 3 ≤ H3.next ∧ H3.next ≤ H4.next ∧ Ow (H.next + 3) H3.next H4 r1 D ∧ Ow H3.next H4.next H4 r2 S := by
  obtain ⟨H1, k1, k2, k3, k4, k5, k6⟩ := peekI_pro hs hb hl m (by omega)
  rw [hO] at k1 k5 k6
  simp only at k1 k5 k6
  obtain ⟨r0, H2, r1, H3, r2, H4, v, a1, a2, a3, b1, b2, b3, c1, c2, c3, c4, c5, c6, c7, c8, c9, c10, c11⟩ := ids_ev (H := H1.push (.cells 32 false zh)) (q := H.next + 1) (a := a) (c := 0) hs hb (k3.push _) (by omega) (by simp; omega) (by simp [k2, k5]) k6 hl (H.next + 2) (by omega) (by simp [k2]) (by omega) (by simp [k2, zh]) m (by omega)
  simp only [hV, hD, hS] at a3 c7 c8 c9 c10
  have hr := c4 H.next (by simp; omega) (by omega) (by omega)
  simp [k2, k4] at hr
  subst a3
  simp only [AH.push_next, k2] at c5 c7
  exact ⟨H1, r0, H2, r1, H3, r2, H4, k1, k2, k4, k5, a1, a2, b1, b2, b3, c1, c2, c3, hr, c9, c10, c11, c5, c6, c7, c8⟩
theorem peekI_E1 {H : AH} {s : AV} {l : List Int} {cid : Int} (hs : Bs H s l) (hb : By l) (hl : l.length ≤ 65536) (m : Nat) (hm : 30 ≤ m)
    {f : Int} {a : Nat} (hO : octetI l 0 0 = (f, a, 0)) (h128 : 128 ≤ f) (h256 : f < 256) {V : List Int} {a1 : Nat} {c1 : Int} (hV : takeI l a 0 4 = (V, a1, c1)) {D : List Int} {a2 : Nat} {c2 : Int} (hD : cidI l a1 c1 = (D, a2, c2))
    {S : List Int} {a3 : Nat} (hS : cidI l a2 c2 = (S, a3, 0)) (h0 : valP V = 0) (hx : f = 128) (hv : versP (l.drop a3) = true) : PkRes H s cid m 5 0 D S [] l.length 0 := by
  obtain ⟨m, rfl⟩ : ∃ k, m = k + 1 := ⟨m - 1, by omega⟩
  obtain ⟨H1, r0, H2, r1, H3, r2, H4, k1, k2, k4, k5, j1, j2, b1, b2, b3, e1, e2, e3, hr, hq4, ha3, K4, n3, n4, hDo, hSo⟩ := peekI_mid hs hb hl m (by omega) hO hV hD hS
  obtain ⟨s5, x1, x2⟩ := cutDrop hs a3 ha3
  have hL : ∀ h, lenA Try.prog 22 s h = some (.int .i64 l.length) := hs.len
  have n1 : ¬ (f < 64) := by omega
  have n2 : ¬ (f < 128) := by omega
  have K5 : Kp H (H4.set (H.next + 2) (.cells 32 false [.int .i64 5, .int .i64 0, r1, r2, .nilSlice, .int .i64 0, .int .i64 0, .int .i64 0])) := K4.set (by omega) _
  have x3 := x1 _ (K4.set (b := H.next + 2) (by omega) (.cells 32 false [.int .i64 0, .int .i64 0, r1, r2, .nilSlice, .int .i64 0, .int .i64 0, .int .i64 0]))
  obtain ⟨w, H6, y1, y2⟩ := versionsOf_ev x2 (hb.drop a3) K5 m (by omega)
  have g1 : H6.get (H.next + 2) = some (.cells 32 false [.int .i64 5, .int .i64 0, r1, r2, .nilSlice, .int .i64 0, .int .i64 0, .int .i64 0]) := by rw [y2.get _ (by simp; omega)]; simp
  have g2 : H6.get H.next = some (.cells 32 false zh) := by rw [y2.get _ (by simp; omega)]; simp [hr]
  have hn6 := y2.next
  simp only [AH.set_next] at hn6
  rw [h0] at j2
  rw [hv] at y1
  simp only [scB, zh] at *
  unfold PkRes
  rw [ev_eq Try.func43 ok43 m _ H (by simp [Try.f43])]
  simp [Try.f43, ldVar, stVar, hs.one, cells_one hs.one, k1, k2, k4, k5, j1, j2, b1, b2, b3, cells_one b3, e1, e2, e3, cells_one e3, hr, hq4, hL, n1, n2, evHist, ObsOk, ObOk, x3, y1, g1, g2, hx]
  refine ⟨_, _, _, _, _, ⟨⟨rfl, rfl⟩, rfl⟩, (K5.trans y2).set (by omega) _, H3.next, by omega, H4.next, n4, by simp; omega, ?_, ?_, Ow.nil _ _ _⟩
  · exact ((((hDo.set _ (by omega)).kp y2).set _ (by omega)).wide (by omega) (Nat.le_refl _) (by simp; omega))
  · exact (((hSo.set _ (by omega)).kp y2).set _ (by omega))
theorem peekI_E2 {H : AH} {s : AV} {l : List Int} {cid : Int} (hs : Bs H s l) (hb : By l) (hl : l.length ≤ 65536) (m : Nat) (hm : 30 ≤ m)
    {f : Int} {a : Nat} (hO : octetI l 0 0 = (f, a, 0)) (h128 : 128 ≤ f) (h256 : f < 256) {V : List Int} {a1 : Nat} {c1 : Int} (hV : takeI l a 0 4 = (V, a1, c1)) {D : List Int} {a2 : Nat} {c2 : Int} (hD : cidI l a1 c1 = (D, a2, c2))
    {S : List Int} {a3 : Nat} (hS : cidI l a2 c2 = (S, a3, 0)) (h0 : valP V = 0) (hx : ¬ (f = 128)) : PkRes H s cid m 5 0 D S [] 0 3 := by
  obtain ⟨m, rfl⟩ : ∃ k, m = k + 1 := ⟨m - 1, by omega⟩
  obtain ⟨H1, r0, H2, r1, H3, r2, H4, k1, k2, k4, k5, j1, j2, b1, b2, b3, e1, e2, e3, hr, hq4, ha3, K4, n3, n4, hDo, hSo⟩ := peekI_mid hs hb hl m (by omega) hO hV hD hS
  obtain ⟨s5, x1, x2⟩ := cutDrop hs a3 ha3
  have hL : ∀ h, lenA Try.prog 22 s h = some (.int .i64 l.length) := hs.len
  have n1 : ¬ (f < 64) := by omega
  have n2 : ¬ (f < 128) := by omega
  have K5 : Kp H (H4.set (H.next + 2) (.cells 32 false [.int .i64 5, .int .i64 0, r1, r2, .nilSlice, .int .i64 0, .int .i64 0, .int .i64 0])) := K4.set (by omega) _
  have x3 := x1 _ (K4.set (b := H.next + 2) (by omega) (.cells 32 false [.int .i64 0, .int .i64 0, r1, r2, .nilSlice, .int .i64 0, .int .i64 0, .int .i64 0]))
  obtain ⟨w, H6, y1, y2⟩ := versionsOf_ev x2 (hb.drop a3) K5 m (by omega)
  have g1 : H6.get (H.next + 2) = some (.cells 32 false [.int .i64 5, .int .i64 0, r1, r2, .nilSlice, .int .i64 0, .int .i64 0, .int .i64 0]) := by rw [y2.get _ (by simp; omega)]; simp
  have g2 : H6.get H.next = some (.cells 32 false zh) := by rw [y2.get _ (by simp; omega)]; simp [hr]
  have hn6 := y2.next
  simp only [AH.set_next] at hn6
  rw [h0] at j2
  simp only [scB, zh] at *
  unfold PkRes
  rw [ev_eq Try.func43 ok43 m _ H (by simp [Try.f43])]
  simp [Try.f43, ldVar, stVar, hs.one, cells_one hs.one, k1, k2, k4, k5, j1, j2, b1, b2, b3, cells_one b3, e1, e2, e3, cells_one e3, hr, hq4, hL, n1, n2, evHist, ObsOk, ObOk, x3, y1, g1, g2, hx]
  refine ⟨_, _, _, _, _, ⟨⟨rfl, rfl⟩, rfl⟩, (K5.trans y2).set (by omega) _, H3.next, by omega, H4.next, n4, by simp; omega, ?_, ?_, Ow.nil _ _ _⟩
  · exact ((((hDo.set _ (by omega)).kp y2).set _ (by omega)).wide (by omega) (Nat.le_refl _) (by simp; omega))
  · exact (((hSo.set _ (by omega)).kp y2).set _ (by omega))
theorem peekI_E3 {H : AH} {s : AV} {l : List Int} {cid : Int} (hs : Bs H s l) (hb : By l) (hl : l.length ≤ 65536) (m : Nat) (hm : 30 ≤ m)
    {f : Int} {a : Nat} (hO : octetI l 0 0 = (f, a, 0)) (h128 : 128 ≤ f) (h256 : f < 256) {V : List Int} {a1 : Nat} {c1 : Int} (hV : takeI l a 0 4 = (V, a1, c1)) {D : List Int} {a2 : Nat} {c2 : Int} (hD : cidI l a1 c1 = (D, a2, c2))
    {S : List Int} {a3 : Nat} (hS : cidI l a2 c2 = (S, a3, 0)) (h0 : valP V = 0) (hx : f = 128) (hv : versP (l.drop a3) = false) : PkRes H s cid m 5 0 D S [] 0 3 := by
  obtain ⟨m, rfl⟩ : ∃ k, m = k + 1 := ⟨m - 1, by omega⟩
  obtain ⟨H1, r0, H2, r1, H3, r2, H4, k1, k2, k4, k5, j1, j2, b1, b2, b3, e1, e2, e3, hr, hq4, ha3, K4, n3, n4, hDo, hSo⟩ := peekI_mid hs hb hl m (by omega) hO hV hD hS
  obtain ⟨s5, x1, x2⟩ := cutDrop hs a3 ha3
  have hL : ∀ h, lenA Try.prog 22 s h = some (.int .i64 l.length) := hs.len
  have n1 : ¬ (f < 64) := by omega
  have n2 : ¬ (f < 128) := by omega
  have K5 : Kp H (H4.set (H.next + 2) (.cells 32 false [.int .i64 5, .int .i64 0, r1, r2, .nilSlice, .int .i64 0, .int .i64 0, .int .i64 0])) := K4.set (by omega) _
  have x3 := x1 _ (K4.set (b := H.next + 2) (by omega) (.cells 32 false [.int .i64 0, .int .i64 0, r1, r2, .nilSlice, .int .i64 0, .int .i64 0, .int .i64 0]))
  obtain ⟨w, H6, y1, y2⟩ := versionsOf_ev x2 (hb.drop a3) K5 m (by omega)
  have g1 : H6.get (H.next + 2) = some (.cells 32 false [.int .i64 5, .int .i64 0, r1, r2, .nilSlice, .int .i64 0, .int .i64 0, .int .i64 0]) := by rw [y2.get _ (by simp; omega)]; simp
  have g2 : H6.get H.next = some (.cells 32 false zh) := by rw [y2.get _ (by simp; omega)]; simp [hr]
  have hn6 := y2.next
  simp only [AH.set_next] at hn6
  rw [h0] at j2
  rw [hv] at y1
  simp only [scB, zh] at *
  unfold PkRes
  rw [ev_eq Try.func43 ok43 m _ H (by simp [Try.f43])]
  simp [Try.f43, ldVar, stVar, hs.one, cells_one hs.one, k1, k2, k4, k5, j1, j2, b1, b2, b3, cells_one b3, e1, e2, e3, cells_one e3, hr, hq4, hL, n1, n2, evHist, ObsOk, ObOk, x3, y1, g1, g2, hx]
  refine ⟨_, _, _, _, _, ⟨⟨rfl, rfl⟩, rfl⟩, (K5.trans y2).set (by omega) _, H3.next, by omega, H4.next, n4, by simp; omega, ?_, ?_, Ow.nil _ _ _⟩
  · exact ((((hDo.set _ (by omega)).kp y2).set _ (by omega)).wide (by omega) (Nat.le_refl _) (by simp; omega))
  · exact (((hSo.set _ (by omega)).kp y2).set _ (by omega))
end Go.Ev

/- The program's peek: long headers with a version. -/
namespace Go.Ev
open Go Go.Proofs
set_option linter.unusedSimpArgs false
set_option linter.unusedVariables false

theorem peekI_F1 {H : AH} {s : AV} {l : List Int} {cid : Int} (hs : Bs H s l) (hb : By l) (hl : l.length ≤ 65536) (m : Nat) (hm : 30 ≤ m)
    {f : Int} {a : Nat} (hO : octetI l 0 0 = (f, a, 0)) (h128 : 128 ≤ f) (h256 : f < 256) {V : List Int} {a1 : Nat} {c1 : Int} (hV : takeI l a 0 4 = (V, a1, c1)) {D : List Int} {a2 : Nat} {c2 : Int} (hD : cidI l a1 c1 = (D, a2, c2))
    {S : List Int} {a3 : Nat} (hS : cidI l a2 c2 = (S, a3, 0)) (hv0 : ¬ (valP V = 0)) (hx : f < 192) : PkRes H s cid m 0 (valP V) D S [] 0 3 := by
  obtain ⟨m, rfl⟩ : ∃ k, m = k + 1 := ⟨m - 1, by omega⟩
  obtain ⟨H1, r0, H2, r1, H3, r2, H4, k1, k2, k4, k5, j1, j2, b1, b2, b3, e1, e2, e3, hr, hq4, ha3, K4, n3, n4, hDo, hSo⟩ := peekI_mid hs hb hl m (by omega) hO hV hD hS
  obtain ⟨s5, x1, x2⟩ := cutDrop hs a3 ha3
  have hL : ∀ h, lenA Try.prog 22 s h = some (.int .i64 l.length) := hs.len
  have n1 : ¬ (f < 64) := by omega
  have n2 : ¬ (f < 128) := by omega
  have x3 := x1 _ (K4.set (b := H.next + 2) (by omega) (.cells 32 false [.int .i64 0, .int .i64 0, r1, r2, .nilSlice, .int .i64 0, .int .i64 0, .int .i64 0]))
  simp only [scB, zh] at *
  unfold PkRes
  rw [ev_eq Try.func43 ok43 m _ H (by simp [Try.f43])]
  simp [Try.f43, ldVar, stVar, hs.one, cells_one hs.one, k1, k2, k4, k5, j1, j2, b1, b2, b3, cells_one b3, e1, e2, e3, cells_one e3, hr, hq4, hL, n1, n2, evHist, ObsOk, ObOk, x3, hv0, hx]
  refine ⟨_, _, _, _, _, ⟨⟨rfl, rfl⟩, rfl⟩, (K4.set (by omega) _).set (by omega) _, H3.next, by omega, H4.next, n4, by simp <;> omega, ?_, ?_, Ow.nil _ _ _⟩
  · exact (((hDo.set _ (by omega)).set _ (by omega)).wide (by omega) (Nat.le_refl _) (by simp; omega))
  · exact ((hSo.set _ (by omega)).set _ (by omega))
theorem peekI_F2 {H : AH} {s : AV} {l : List Int} {cid : Int} (hs : Bs H s l) (hb : By l) (hl : l.length ≤ 65536) (m : Nat) (hm : 30 ≤ m)
    {f : Int} {a : Nat} (hO : octetI l 0 0 = (f, a, 0)) (h128 : 128 ≤ f) (h256 : f < 256) {V : List Int} {a1 : Nat} {c1 : Int} (hV : takeI l a 0 4 = (V, a1, c1)) {D : List Int} {a2 : Nat} {c2 : Int} (hD : cidI l a1 c1 = (D, a2, c2))
    {S : List Int} {a3 : Nat} (hS : cidI l a2 c2 = (S, a3, 0)) (hv0 : ¬ (valP V = 0)) (hx : 208 ≤ f) (hx2 : f < 224) : PkRes H s cid m 0 (valP V) D S [] 0 3 := by
  obtain ⟨m, rfl⟩ : ∃ k, m = k + 1 := ⟨m - 1, by omega⟩
  obtain ⟨H1, r0, H2, r1, H3, r2, H4, k1, k2, k4, k5, j1, j2, b1, b2, b3, e1, e2, e3, hr, hq4, ha3, K4, n3, n4, hDo, hSo⟩ := peekI_mid hs hb hl m (by omega) hO hV hD hS
  obtain ⟨s5, x1, x2⟩ := cutDrop hs a3 ha3
  have hL : ∀ h, lenA Try.prog 22 s h = some (.int .i64 l.length) := hs.len
  have n1 : ¬ (f < 64) := by omega
  have n2 : ¬ (f < 128) := by omega
  have wf : IntKind.i64.wrap (f - 192) = f - 192 := wrap_i64 (by omega) (by omega)
  have hk : (f - 192).tdiv 16 = 1 := by rw [Int.tdiv_eq_ediv_of_nonneg (by omega)]; omega
  have n3' : ¬ (f < 192) := by omega
  have wk : IntKind.i64.wrap 1 = 1 := wrap_i64 (by omega) (by omega)
  have x3 := x1 _ (K4.set (b := H.next + 2) (by omega) (.cells 32 false [.int .i64 0, .int .i64 0, r1, r2, .nilSlice, .int .i64 0, .int .i64 0, .int .i64 0]))
  simp only [scB, zh] at *
  unfold PkRes
  rw [ev_eq Try.func43 ok43 m _ H (by simp [Try.f43])]
  simp [Try.f43, ldVar, stVar, hs.one, cells_one hs.one, k1, k2, k4, k5, j1, j2, b1, b2, b3, cells_one b3, e1, e2, e3, cells_one e3, hr, hq4, hL, n1, n2, evHist, ObsOk, ObOk, x3, hv0, wf, hk, wk, n3']
  refine ⟨_, _, _, _, _, ⟨⟨rfl, rfl⟩, rfl⟩, (K4.set (by omega) _).set (by omega) _, H3.next, by omega, H4.next, n4, by simp <;> omega, ?_, ?_, Ow.nil _ _ _⟩
  · exact (((hDo.set _ (by omega)).set _ (by omega)).wide (by omega) (Nat.le_refl _) (by simp; omega))
  · exact ((hSo.set _ (by omega)).set _ (by omega))
theorem peekI_G1 {H : AH} {s : AV} {l : List Int} {cid : Int} (hs : Bs H s l) (hb : By l) (hl : l.length ≤ 65536) (m : Nat) (hm : 30 ≤ m)
    {f : Int} {a : Nat} (hO : octetI l 0 0 = (f, a, 0)) (h128 : 128 ≤ f) (h256 : f < 256) {V : List Int} {a1 : Nat} {c1 : Int} (hV : takeI l a 0 4 = (V, a1, c1)) {D : List Int} {a2 : Nat} {c2 : Int} (hD : cidI l a1 c1 = (D, a2, c2))
    {S : List Int} {a3 : Nat} (hS : cidI l a2 c2 = (S, a3, 0)) (hv0 : ¬ (valP V = 0)) (hx : 240 ≤ f) (hR : l.length - a3 < 9) : PkRes H s cid m 3 (valP V) D S [] 0 2 := by
  obtain ⟨m, rfl⟩ : ∃ k, m = k + 1 := ⟨m - 1, by omega⟩
  obtain ⟨H1, r0, H2, r1, H3, r2, H4, k1, k2, k4, k5, j1, j2, b1, b2, b3, e1, e2, e3, hr, hq4, ha3, K4, n3, n4, hDo, hSo⟩ := peekI_mid hs hb hl m (by omega) hO hV hD hS
  obtain ⟨s5, x1, x2⟩ := cutDrop hs a3 ha3
  have hL : ∀ h, lenA Try.prog 22 s h = some (.int .i64 l.length) := hs.len
  have n1 : ¬ (f < 64) := by omega
  have n2 : ¬ (f < 128) := by omega
  have wf : IntKind.i64.wrap (f - 192) = f - 192 := wrap_i64 (by omega) (by omega)
  have hk : (f - 192).tdiv 16 = 3 := by rw [Int.tdiv_eq_ediv_of_nonneg (by omega)]; omega
  have n3' : ¬ (f < 192) := by omega
  have wk : IntKind.i64.wrap 3 = 3 := wrap_i64 (by omega) (by omega)
  have x3 := x1 _ (K4.set (b := H.next + 2) (by omega) (.cells 32 false [.int .i64 0, .int .i64 0, r1, r2, .nilSlice, .int .i64 0, .int .i64 0, .int .i64 0]))
  have hLr : ∀ h, lenA Try.prog 22 s5 h = some (.int .i64 ((l.length - a3 : Nat) : Int)) := fun h => by rw [x2.len h, List.length_drop]
  have K5 : Kp H (H4.set (H.next + 2) (.cells 32 false [.int .i64 3, .int .i64 (valP V), r1, r2, .nilSlice, .int .i64 0, .int .i64 0, .int .i64 0])) := K4.set (by omega) _
  generalize hRR : l.length - a3 = R at *
  have c1' : ((R : Nat) : Int) < 9 := by omega
  simp only [scB, zh] at *
  unfold PkRes
  rw [ev_eq Try.func43 ok43 m _ H (by simp [Try.f43])]
  simp [Try.f43, ldVar, stVar, hs.one, cells_one hs.one, k1, k2, k4, k5, j1, j2, b1, b2, b3, cells_one b3, e1, e2, e3, cells_one e3, hr, hq4, hL, n1, n2, evHist, ObsOk, ObOk, x3, hv0, wf, hk, wk, n3', hLr, c1']
  refine ⟨_, _, _, _, _, ⟨⟨rfl, rfl⟩, rfl⟩, (K4.set (by omega) _).set (by omega) _, H3.next, by omega, H4.next, n4, by simp <;> omega, ?_, ?_, Ow.nil _ _ _⟩
  · exact (((hDo.set _ (by omega)).set _ (by omega)).wide (by omega) (Nat.le_refl _) (by simp; omega))
  · exact ((hSo.set _ (by omega)).set _ (by omega))
theorem peekI_G2 {H : AH} {s : AV} {l : List Int} {cid : Int} (hs : Bs H s l) (hb : By l) (hl : l.length ≤ 65536) (m : Nat) (hm : 30 ≤ m)
    {f : Int} {a : Nat} (hO : octetI l 0 0 = (f, a, 0)) (h128 : 128 ≤ f) (h256 : f < 256) {V : List Int} {a1 : Nat} {c1 : Int} (hV : takeI l a 0 4 = (V, a1, c1)) {D : List Int} {a2 : Nat} {c2 : Int} (hD : cidI l a1 c1 = (D, a2, c2))
    {S : List Int} {a3 : Nat} (hS : cidI l a2 c2 = (S, a3, 0)) (hv0 : ¬ (valP V = 0)) (hx : 240 ≤ f) (hR : 72 < l.length - a3) : PkRes H s cid m 3 (valP V) D S [] 0 3 := by
  obtain ⟨m, rfl⟩ : ∃ k, m = k + 1 := ⟨m - 1, by omega⟩
  obtain ⟨H1, r0, H2, r1, H3, r2, H4, k1, k2, k4, k5, j1, j2, b1, b2, b3, e1, e2, e3, hr, hq4, ha3, K4, n3, n4, hDo, hSo⟩ := peekI_mid hs hb hl m (by omega) hO hV hD hS
  obtain ⟨s5, x1, x2⟩ := cutDrop hs a3 ha3
  have hL : ∀ h, lenA Try.prog 22 s h = some (.int .i64 l.length) := hs.len
  have n1 : ¬ (f < 64) := by omega
  have n2 : ¬ (f < 128) := by omega
  have wf : IntKind.i64.wrap (f - 192) = f - 192 := wrap_i64 (by omega) (by omega)
  have hk : (f - 192).tdiv 16 = 3 := by rw [Int.tdiv_eq_ediv_of_nonneg (by omega)]; omega
  have n3' : ¬ (f < 192) := by omega
  have wk : IntKind.i64.wrap 3 = 3 := wrap_i64 (by omega) (by omega)
  have x3 := x1 _ (K4.set (b := H.next + 2) (by omega) (.cells 32 false [.int .i64 0, .int .i64 0, r1, r2, .nilSlice, .int .i64 0, .int .i64 0, .int .i64 0]))
  have hLr : ∀ h, lenA Try.prog 22 s5 h = some (.int .i64 ((l.length - a3 : Nat) : Int)) := fun h => by rw [x2.len h, List.length_drop]
  have K5 : Kp H (H4.set (H.next + 2) (.cells 32 false [.int .i64 3, .int .i64 (valP V), r1, r2, .nilSlice, .int .i64 0, .int .i64 0, .int .i64 0])) := K4.set (by omega) _
  generalize hRR : l.length - a3 = R at *
  have c1' : ¬ (((R : Nat) : Int) < 9) := by omega
  have c2' : 64 < ((R : Nat) : Int) - 8 := by omega
  have wR : IntKind.i64.wrap ((R : Nat) - 8 : Int) = (R : Nat) - 8 := wrap_i64 (by omega) (by omega)
  simp only [scB, zh] at *
  unfold PkRes
  rw [ev_eq Try.func43 ok43 m _ H (by simp [Try.f43])]
  simp [Try.f43, ldVar, stVar, hs.one, cells_one hs.one, k1, k2, k4, k5, j1, j2, b1, b2, b3, cells_one b3, e1, e2, e3, cells_one e3, hr, hq4, hL, n1, n2, evHist, ObsOk, ObOk, x3, hv0, wf, hk, wk, n3', hLr, c1', c2', wR]
  refine ⟨_, _, _, _, _, ⟨⟨rfl, rfl⟩, rfl⟩, (K4.set (by omega) _).set (by omega) _, H3.next, by omega, H4.next, n4, by simp <;> omega, ?_, ?_, Ow.nil _ _ _⟩
  · exact (((hDo.set _ (by omega)).set _ (by omega)).wide (by omega) (Nat.le_refl _) (by simp; omega))
  · exact ((hSo.set _ (by omega)).set _ (by omega))
theorem peekI_G3 {H : AH} {s : AV} {l : List Int} {cid : Int} (hs : Bs H s l) (hb : By l) (hl : l.length ≤ 65536) (m : Nat) (hm : 30 ≤ m)
    {f : Int} {a : Nat} (hO : octetI l 0 0 = (f, a, 0)) (h128 : 128 ≤ f) (h256 : f < 256) {V : List Int} {a1 : Nat} {c1 : Int} (hV : takeI l a 0 4 = (V, a1, c1)) {D : List Int} {a2 : Nat} {c2 : Int} (hD : cidI l a1 c1 = (D, a2, c2))
    {S : List Int} {a3 : Nat} (hS : cidI l a2 c2 = (S, a3, 0)) (hv0 : ¬ (valP V = 0)) (hx : 240 ≤ f) (hR : 9 ≤ l.length - a3) (hR2 : l.length - a3 ≤ 72) : PkRes H s cid m 3 (valP V) D S ((l.drop a3).take (l.length - a3 - 8)) l.length 0 := by
  obtain ⟨m, rfl⟩ : ∃ k, m = k + 1 := ⟨m - 1, by omega⟩
  obtain ⟨H1, r0, H2, r1, H3, r2, H4, k1, k2, k4, k5, j1, j2, b1, b2, b3, e1, e2, e3, hr, hq4, ha3, K4, n3, n4, hDo, hSo⟩ := peekI_mid hs hb hl m (by omega) hO hV hD hS
  obtain ⟨s5, x1, x2⟩ := cutDrop hs a3 ha3
  have hL : ∀ h, lenA Try.prog 22 s h = some (.int .i64 l.length) := hs.len
  have n1 : ¬ (f < 64) := by omega
  have n2 : ¬ (f < 128) := by omega
  have wf : IntKind.i64.wrap (f - 192) = f - 192 := wrap_i64 (by omega) (by omega)
  have hk : (f - 192).tdiv 16 = 3 := by rw [Int.tdiv_eq_ediv_of_nonneg (by omega)]; omega
  have n3' : ¬ (f < 192) := by omega
  have wk : IntKind.i64.wrap 3 = 3 := wrap_i64 (by omega) (by omega)
  have x3 := x1 _ (K4.set (b := H.next + 2) (by omega) (.cells 32 false [.int .i64 0, .int .i64 0, r1, r2, .nilSlice, .int .i64 0, .int .i64 0, .int .i64 0]))
  have hLr : ∀ h, lenA Try.prog 22 s5 h = some (.int .i64 ((l.length - a3 : Nat) : Int)) := fun h => by rw [x2.len h, List.length_drop]
  have K5 : Kp H (H4.set (H.next + 2) (.cells 32 false [.int .i64 3, .int .i64 (valP V), r1, r2, .nilSlice, .int .i64 0, .int .i64 0, .int .i64 0])) := K4.set (by omega) _
  obtain ⟨s6, z1, z2⟩ := cutTake x2 (l.length - a3 - 8) (by rw [List.length_drop]; omega) (A := ((l.length - a3 : Nat) : Int) - 8) (by omega)
  have z3 := z1 _ K5
  obtain ⟨w, H6, y1, y2, y3⟩ := copied_ev z2 K5 (by simp; omega) m (by omega)
  have g1 : H6.get (H.next + 2) = some (.cells 32 false [.int .i64 3, .int .i64 (valP V), r1, r2, .nilSlice, .int .i64 0, .int .i64 0, .int .i64 0]) := by rw [y2.get _ (by simp; omega)]; simp
  have g2 : H6.get H.next = some (.cells 32 false zh) := by rw [y2.get _ (by simp; omega)]; simp [hr]
  have hn6 := y2.next
  simp only [AH.set_next] at hn6 y3
  have hwo := y3.bs.one
  generalize hRR : l.length - a3 = R at *
  have c1' : ¬ (((R : Nat) : Int) < 9) := by omega
  have c2' : ¬ (64 < ((R : Nat) : Int) - 8) := by omega
  have wR : IntKind.i64.wrap ((R : Nat) - 8 : Int) = (R : Nat) - 8 := wrap_i64 (by omega) (by omega)
  simp only [scB, zh] at *
  unfold PkRes
  rw [ev_eq Try.func43 ok43 m _ H (by simp [Try.f43])]
  simp [Try.f43, ldVar, stVar, hs.one, cells_one hs.one, k1, k2, k4, k5, j1, j2, b1, b2, b3, cells_one b3, e1, e2, e3, cells_one e3, hr, hq4, hL, n1, n2, evHist, ObsOk, ObOk, x3, hv0, wf, hk, wk, n3', hLr, c1', c2', wR, z3, y1, g1, g2, hwo, cells_one hwo]
  refine ⟨_, _, _, _, _, ⟨⟨rfl, rfl⟩, rfl⟩, ((K5.trans y2).set (by omega) _).set (by omega) _, H3.next, by omega, H4.next, n4, by simp; omega, ?_, ?_, ?_⟩
  · exact (((((hDo.set _ (by omega)).kp y2).set _ (by omega)).set _ (by omega)).wide (by omega) (Nat.le_refl _) (by simp; omega))
  · exact (((hSo.set _ (by omega)).kp y2).set _ (by omega)).set _ (by omega)
  · exact (y3.set _ (by omega)).set _ (by omega)
end Go.Ev
