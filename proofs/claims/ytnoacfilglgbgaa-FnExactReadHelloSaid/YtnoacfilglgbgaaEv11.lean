/- Lemmas of an evaluator of the given code and of what the functions answer; no condition of its own. -/
import Derived.Test.YtnoacfilglgbgaaEv10
/- The readers of counted bytes and of the rest, both sides. -/
namespace Go.Ev
open Go Go.Proofs
set_option linter.unusedSimpArgs false
set_option linter.unusedVariables false

theorem numberI_nn (l : List Int) (a : Nat) (c : Int) : 0 ≤ (numberI l a c).1 := by
  unfold numberI
  split
  · simp
  · split
    · simp
    · exact getVarP_nn a
def countedI (l : List Int) (a : Nat) (c : Int) : List Int × Nat × Int := takeI l (numberI l a c).2.1 (numberI l a c).2.2 (numberI l a c).1
def restI (l : List Int) (a : Nat) (c : Int) : List Int × Nat × Int := takeI l a c ((l.length : Int) - a)
theorem counted_ev {Hb H : AH} {q a : Nat} {s : AV} {l : List Int} {c : Int} (hs : Bs Hb s l) (hb : By l) (hK : Kp Hb H) (hqb : Hb.next ≤ q) (hq : H.get q = some (scB s a c)) (ha : a ≤ l.length) (hl : l.length ≤ 65536) (m : Nat) (hm : 22 ≤ m) :
    ∃ r H', ev Try.prog m 166 [.ptr q 0] H = some (r, H') ∧ Kx q H H' ∧ H'.next = H.next ∧ Bs Hb r (countedI l a c).1 ∧ H'.get q = some (scB s (countedI l a c).2.1 (countedI l a c).2.2) ∧ (countedI l a c).2.1 ≤ l.length := by
  obtain ⟨m, rfl⟩ : ∃ k, m = k + 1 := ⟨m - 1, by omega⟩
  obtain ⟨H1, e1, k1, n1, g1, l1⟩ := number_ev hs hb hK hqb hq ha hl m (by omega)
  obtain ⟨r, H2, e2, k2, n2, b2, g2, l2⟩ := take_ev hs (k1.kp hK hqb) hqb g1 l1 hl (numberI l a c).1 (by have := numberI_nn l a c; omega) m (by omega)
  refine ⟨r, H2, ?_, k1.trans k2, by rw [n2, n1], b2, g2, l2⟩
  rw [ev_M Try.func166 ok166 [] m _ H (by simp [Try.f166])]
  simp [Try.f166, tm0, e1, e2]
theorem rest_ev {Hb H : AH} {q a : Nat} {s : AV} {l : List Int} {c : Int} (hs : Bs Hb s l) (hK : Kp Hb H) (hqb : Hb.next ≤ q) (hq : H.get q = some (scB s a c)) (ha : a ≤ l.length) (hl : l.length ≤ 65536) (m : Nat) (hm : 3 ≤ m) :
    ∃ r H', ev Try.prog m 167 [.ptr q 0] H = some (r, H') ∧ Kx q H H' ∧ H'.next = H.next ∧ Bs Hb r (restI l a c).1 ∧ H'.get q = some (scB s (restI l a c).2.1 (restI l a c).2.2) ∧ (restI l a c).2.1 ≤ l.length := by
  obtain ⟨m, rfl⟩ : ∃ k, m = k + 1 := ⟨m - 1, by omega⟩
  obtain ⟨r, H2, e2, k2, n2, b2, g2, l2⟩ := take_ev hs hK hqb hq ha hl ((l.length : Int) - a) (by omega) m (by omega)
  refine ⟨r, H2, ?_, k2, n2, b2, g2, l2⟩
  unfold scB at hq
  have w0 : IntKind.i64.wrap ((l.length : Int) - a) = l.length - a := wrap_i64 (n := (l.length : Int) - a) (by omega) (by omega)
  have hL := (hs.kp hK).len
  rw [ev_M Try.func167 ok167 [] m _ H (by simp [Try.f167])]
  simp [Try.f167, tm0, hq, ldVar, hL, w0, e2]
def countedS (l : List Int) (a : Nat) (sh : Bool) : List Int × Nat × Bool := takeS l (varS l a sh).2.1 (varS l a sh).2.2 (varS l a sh).1
def restS (l : List Int) (a : Nat) (sh : Bool) : List Int × Nat × Bool := takeS l a sh ((l.length : Int) - a)
theorem countedS_ev {Hb H : AH} {q a : Nat} {s : AV} {l : List Int} {sh : Bool} (hs : Bs Hb s l) (hb : By l) (hK : Kp Hb H) (hqb : Hb.next ≤ q) (hqn : q < H.next) (hq : H.get q = some (rdB s a sh)) (ha : a ≤ l.length) (hl : l.length ≤ 65536) (m : Nat) (hm : 22 ≤ m) :
    ∃ r H', ev Try.prog m 158 [.ptr q 0] H = some (r, H') ∧ Kx q H H' ∧ Ow H.next H'.next H' r (countedS l a sh).1 ∧ H'.get q = some (rdB s (countedS l a sh).2.1 (countedS l a sh).2.2) ∧ (countedS l a sh).2.1 ≤ l.length := by
  obtain ⟨m, rfl⟩ : ∃ k, m = k + 1 := ⟨m - 1, by omega⟩
  obtain ⟨H1, e1, k1, n1, g1, l1⟩ := var_ev hs hb hK hqb hqn hq ha hl m (by omega)
  have hv := varS_rng hb a sh
  obtain ⟨r, H2, e2, k2, b2, g2, l2⟩ := takeR_ev hs (k1.kp hK hqb) hqb (by omega) g1 l1 hl (varS l a sh).1 hv.1 hv.2 m (by omega)
  refine ⟨r, H2, ?_, k1.trans k2, by rw [← n1]; exact b2, g2, l2⟩
  rw [ev_M Try.func158 ok158 [] m _ H (by simp [Try.f158])]
  simp [Try.f158, tm0, e1, e2]
theorem restS_ev {Hb H : AH} {q a : Nat} {s : AV} {l : List Int} {sh : Bool} (hs : Bs Hb s l) (hK : Kp Hb H) (hqb : Hb.next ≤ q) (hqn : q < H.next) (hq : H.get q = some (rdB s a sh)) (ha : a ≤ l.length) (hl : l.length ≤ 65536) (m : Nat) (hm : 3 ≤ m) :
    ∃ r H', ev Try.prog m 159 [.ptr q 0] H = some (r, H') ∧ Kx q H H' ∧ Ow H.next H'.next H' r (restS l a sh).1 ∧ H'.get q = some (rdB s (restS l a sh).2.1 (restS l a sh).2.2) ∧ (restS l a sh).2.1 ≤ l.length := by
  obtain ⟨m, rfl⟩ : ∃ k, m = k + 1 := ⟨m - 1, by omega⟩
  obtain ⟨r, H2, e2, k2, b2, g2, l2⟩ := takeR_ev hs hK hqb hqn hq ha hl ((l.length : Int) - a) (by omega) (by omega) m (by omega)
  refine ⟨r, H2, ?_, k2, b2, g2, l2⟩
  unfold rdB at hq
  have w0 : IntKind.i64.wrap ((l.length : Int) - a) = l.length - a := wrap_i64 (n := (l.length : Int) - a) (by omega) (by omega)
  have hL := (hs.kp hK).len
  rw [ev_M Try.func159 ok159 [] m _ H (by simp [Try.f159])]
  simp [Try.f159, tm0, hq, ldVar, hL, w0, e2]
theorem counted49_ev {Hb H : AH} {q a : Nat} {s : AV} {l : List Int} {sh : Bool} (hs : Bs Hb s l) (hb : By l) (hK : Kp Hb H) (hqb : Hb.next ≤ q) (hqn : q < H.next) (hq : H.get q = some (rdB s a sh)) (ha : a ≤ l.length) (hl : l.length ≤ 65536) (x : Int) (m : Nat) (hm : 23 ≤ m) :
    ∃ r H', ev Try.prog m 218 [.ptr q 0, .int .i64 x] H = some (r, H') ∧ Kx q H H' ∧ Ow H.next H'.next H' r (if x = 49 then countedS l a sh else restS l a sh).1 ∧
      H'.get q = some (rdB s (if x = 49 then countedS l a sh else restS l a sh).2.1 (if x = 49 then countedS l a sh else restS l a sh).2.2) ∧ (if x = 49 then countedS l a sh else restS l a sh).2.1 ≤ l.length := by
  obtain ⟨m, rfl⟩ : ∃ k, m = k + 1 := ⟨m - 1, by omega⟩
  by_cases h : x = 49
  · subst h
    obtain ⟨r, H2, e2, k2, b2, g2, l2⟩ := countedS_ev hs hb hK hqb hqn hq ha hl m (by omega)
    refine ⟨r, H2, ?_, k2, by simpa using b2, by simpa using g2, by simpa using l2⟩
    rw [ev_M Try.func218 ok218 [] m _ H (by simp [Try.f218])]
    simp [Try.f218, tm0, e2]
  · obtain ⟨r, H2, e2, k2, b2, g2, l2⟩ := restS_ev hs hK hqb hqn hq ha hl m (by omega)
    have hx : (x == 49) = false := by simpa using h
    refine ⟨r, H2, ?_, k2, by simpa [h] using b2, by simpa [h] using g2, by simpa [h] using l2⟩
    rw [ev_M Try.func218 ok218 [] m _ H (by simp [Try.f218])]
    simp [Try.f218, tm0, hx, e2]
end Go.Ev

/- Both ways of a reader's state: a code, a mark. -/
namespace Go.Ev
open Go Go.Proofs
set_option linter.unusedSimpArgs false
set_option linter.unusedVariables false

def cd (sh : Bool) : Int := if sh then 2 else 0
@[simp] theorem cd_f : cd false = 0 := rfl
@[simp] theorem cd_t : cd true = 2 := rfl
theorem cd0 (sh : Bool) : cd sh = 0 ↔ sh = false := by cases sh <;> simp [cd]
theorem numberI_cd (l : List Int) (a : Nat) (sh : Bool) : numberI l a (cd sh) = ((varS l a sh).1, (varS l a sh).2.1, cd (varS l a sh).2.2) := by
  cases sh with
  | true => simp [numberI, varS]
  | false =>
    rcases getVarP_code l a with h | h <;> simp [numberI, varS, h]
theorem takeI_cd (l : List Int) (a : Nat) (sh : Bool) (n : Int) (hn : 0 ≤ n) : takeI l a (cd sh) n = ((takeS l a sh n).1, (takeS l a sh n).2.1, cd (takeS l a sh n).2.2) := by
  have h0 : ¬ (n < 0) := by omega
  cases sh with
  | true => simp [takeI, takeS]
  | false => by_cases h : (l.length : Int) - a < n <;> simp [takeI, takeS, h0, h]
theorem octetI_cd (l : List Int) (a : Nat) (sh : Bool) : octetI l a (cd sh) = (valP (takeS l a sh 1).1, (takeS l a sh 1).2.1, cd (takeS l a sh 1).2.2) := by
  unfold octetI
  rw [takeI_cd l a sh 1 (by omega)]
  have hl := (takeS_len l a sh 1).1
  generalize takeS l a sh 1 = R at *
  obtain ⟨t, a', s'⟩ := R
  simp only at *
  match t, hl with
  | [], _ => simp [octV, valP]
  | [x], _ => simp [octV, valP]
  | x :: y :: t, h => simp at h
theorem countedI_cd {l : List Int} (hb : By l) (a : Nat) (sh : Bool) : countedI l a (cd sh) = ((countedS l a sh).1, (countedS l a sh).2.1, cd (countedS l a sh).2.2) := by
  unfold countedI countedS
  rw [numberI_cd]
  exact takeI_cd l _ _ _ (varS_rng hb a sh).1
theorem restI_cd {l : List Int} {a : Nat} (ha : a ≤ l.length) (sh : Bool) : restI l a (cd sh) = ((restS l a sh).1, (restS l a sh).2.1, cd (restS l a sh).2.2) := by
  unfold restI restS
  exact takeI_cd l _ _ _ (by omega)
end Go.Ev

/- Parameters read, plain; the program's table of places. -/
namespace Go.Ev
open Go Go.Proofs
set_option linter.unusedSimpArgs false
set_option linter.unusedVariables false

structure Pm where
  F : List Int
  nm : Bool
  o : List Int
  t : List Int
  f : List Int
def Pm0 : Pm := ⟨pnL.map (·.2.2.2), false, [], [], []⟩
/-- a number's place -/
def knI (n : Int) : Option Nat := if n = 1 then some 0 else if n = 3 then some 1 else if n = 4 then some 2 else if n = 5 then some 3 else if n = 8 then some 4 else if n = 9 then some 5 else if n = 11 then some 6 else if n = 14 then some 7 else if n = 32 then some 8 else none
def putP (P : Pm) (n : Int) (v : List Int) : Pm × Bool :=
  match knI n with
  | some k => ({ P with F := P.F.set k (getVarP v 0).1 }, decide ((getVarP v 0).2.2 ≠ 0 ∨ (getVarP v 0).2.1 ≠ v.length))
  | none => if n = 0 then ({ P with o := v }, false) else if n = 2 then ({ P with t := v }, decide (v.length = 0)) else if n = 12 then ({ P with nm := true }, decide (0 < v.length)) else ({ P with f := v }, false)
def knP (n : Int) : Prop := (knI n).isSome = true ∨ n = 0 ∨ n = 2 ∨ n = 12 ∨ n = 15
instance (n : Int) : Decidable (knP n) := by unfold knP; infer_instance
/-- the entries from a place on -/
def prRun (l : List Int) : Nat → Nat → Pm → List Int → Pm × Int
  | 0, a, P, s => (P, 0)
  | d + 1, a, P, s =>
    let u := varS l a false
    let c := countedS l u.2.1 u.2.2
    if l.length ≤ a then (P, 0)
    else if c.2.2 = true then (P, 2)
    else if ¬ knP u.1 then prRun l d c.2.1 P s
    else if u.1 ∈ s ∨ (putP P u.1 c.1).2 = true then (P, 11)
    else prRun l d c.2.1 (putP P u.1 c.1).1 (s ++ [u.1])
/-- the table's map -/
def plA (p : Nat) : List (AV × AV) := [(.int .i64 1, .ptr p 0), (.int .i64 3, .ptr p 1), (.int .i64 4, .ptr p 2), (.int .i64 5, .ptr p 3), (.int .i64 8, .ptr p 4), (.int .i64 9, .ptr p 5), (.int .i64 11, .ptr p 6), (.int .i64 14, .ptr p 7), (.int .i64 32, .ptr p 8)]
theorem pl_new (p k : Nat) (hk : k < 9) : findA (.int .i64 (pnL[k]'hk).1) ((plA p).take k) 0 = some none := by
  rcases k with _ | _ | _ | _ | _ | _ | _ | _ | _ | k <;> first | rfl | omega
theorem pl_next (p k : Nat) (hk : k < 9) : (plA p).take k ++ [(.int .i64 (pnL[k]'hk).1, .ptr p k)] = (plA p).take (k + 1) := by
  rcases k with _ | _ | _ | _ | _ | _ | _ | _ | _ | k <;> first | rfl | omega
theorem pl_find (p k : Nat) (hk : k < 9) : ∃ j, findA (.int .i64 (pnL[k]'hk).1) ((plA p).take (k + 1)) 0 = some (some (j, .ptr p k)) := by
  rcases k with _ | _ | _ | _ | _ | _ | _ | _ | _ | k <;> first | exact ⟨_, rfl⟩ | omega
theorem find_plA (p : Nat) (n : Int) : (∃ k j, knI n = some k ∧ k < 9 ∧ findA (.int .i64 n) (plA p) 0 = some (some (j, .ptr p k))) ∨ (knI n = none ∧ findA (.int .i64 n) (plA p) 0 = some none) := by
  by_cases h1 : n = 1
  · subst h1; exact .inl ⟨0, 0, rfl, by omega, rfl⟩
  by_cases h2 : n = 3
  · subst h2; exact .inl ⟨1, 1, rfl, by omega, rfl⟩
  by_cases h3 : n = 4
  · subst h3; exact .inl ⟨2, 2, rfl, by omega, rfl⟩
  by_cases h4 : n = 5
  · subst h4; exact .inl ⟨3, 3, rfl, by omega, rfl⟩
  by_cases h5 : n = 8
  · subst h5; exact .inl ⟨4, 4, rfl, by omega, rfl⟩
  by_cases h6 : n = 9
  · subst h6; exact .inl ⟨5, 5, rfl, by omega, rfl⟩
  by_cases h7 : n = 11
  · subst h7; exact .inl ⟨6, 6, rfl, by omega, rfl⟩
  by_cases h8 : n = 14
  · subst h8; exact .inl ⟨7, 7, rfl, by omega, rfl⟩
  by_cases h9 : n = 32
  · subst h9; exact .inl ⟨8, 8, rfl, by omega, rfl⟩
  refine .inr ⟨by simp [knI, h1, h2, h3, h4, h5, h6, h7, h8, h9], ?_⟩
  have f : ∀ x : Int, n ≠ x → (n == x) = false := fun x h => by simpa using h
  simp [plA, findA, sameK, f _ h1, f _ h2, f _ h3, f _ h4, f _ h5, f _ h6, f _ h7, f _ h8, f _ h9]
theorem pm_set (F : List Int) (nm : Bool) (a b c : AV) (k : Nat) (hk : k < F.length) (v : Int) : (pmC F nm a b c).set k (.int .i64 v) = pmC (F.set k v) nm a b c := by
  unfold pmC
  rw [List.set_append_left _ _ (by simpa using hk), List.map_set]
/-! the first loop -/
structure PlT (τ : Tm) (r sv : AV) (p4 p6 p7 p25 k : Nat) : Prop where
  t0 : τ 0 = r
  t1 : τ 1 = sv
  t4 : τ 4 = .ptr p4 0
  t5 : τ 5 = .int .i64 0
  t6 : τ 6 = .ptr p6 0
  t7 : τ 7 = .map p7
  t25 : τ 25 = .slice p25 0 9
  t26 : τ 26 = .int .i64 9
  t27 : τ 27 = .int .i64 k
def PlL (r sv : AV) (p4 p6 p7 p25 : Nat) (H1 : AH) (d : Nat) (τ : Tm) (h : AH) : Prop :=
  ∃ (k : Nat) (F : List Int), k + d = 9 ∧ PlT τ r sv p4 p6 p7 p25 k ∧ F.length = 9 ∧ (∀ j (hj : j < 9) (hj' : j < F.length), j < k → F[j] = (pnL[j]'hj).2.2.2) ∧ h.get p6 = some (.cells 120 false (pmC F false .nilSlice .nilSlice .nilSlice)) ∧ h.get p7 = some (.map ((plA p6).take k)) ∧ H1.next ≤ h.next ∧ ∀ b, b < H1.next → b ≠ p6 → b ≠ p7 → h.get b = H1.get b
set_option maxRecDepth 20000 in
theorem plLoop {r sv : AV} {p4 p6 p7 p25 : Nat} {H1 : AH} (g25 : H1.get p25 = some (.cells 236 false pnC)) (n25 : p25 < H1.next) (n6 : p6 < H1.next) (n7 : p7 < H1.next) (h1 : p25 ≠ p6) (h2 : p25 ≠ p7) (h3 : p6 ≠ p7) (m : Nat) (hm : 20 ≤ m) (τ : Tm) (h0 : AH) (hI : PlL r sv p4 p6 p7 p25 H1 9 τ h0) :
    ∃ e τ' H', evLoop Try.prog (ev Try.prog m) m (lp Try.prog 86 250) τ h0 = some (e, τ', H') ∧ e = .exit 0 ∧ PlL r sv p4 p6 p7 p25 H1 0 τ' H' := by
  refine loop_rule (d := 9) (PlL r sv p4 p6 p7 p25 H1) (fun e τ h => e = .exit 0 ∧ PlL r sv p4 p6 p7 p25 H1 0 τ h) ?_ hI (by omega)
  rintro d τ h ⟨k, F, hk, ⟨t0, t1, t4, t5, t6, t7, t25, t26, t27⟩, hF, hms, g6, g7, hn, hb⟩
  rw [lp_M Try.func86 250 (by decide) 8 (by decide) (by kernel_rfl) []]
  by_cases hd0 : d = 0
  · subst hd0
    have hkl := eq_false (show ¬ ((k : Int) < 9) by omega)
    have hkl' := eq_false (show ¬ (k < 9) by omega)
    simp [Try.f86, t26, t27, hkl, hkl']
    exact ⟨k, F, hk, ⟨by simp [t0], by simp [t1], by simp [t4], by simp [t5], by simp [t6], by simp [t7], by simp [t25], by simp [t26], by simp [t27]⟩, hF, hms, g6, g7, hn, hb⟩
  · have hk9 : k < 9 := by omega
    have hkl := eq_true (show ((k : Int) < 9) by omega)
    have hkl' := eq_true hk9
    have gh := (hb p25 n25 h1 h2).trans g25
    have a1 : ¬ (p25 = h.next) := by omega
    have a2 : ¬ (p6 = h.next) := by omega
    have a3 : ¬ (p7 = h.next) := by omega
    have a4 : ¬ (h.next = p7) := by omega
    have a5 : ¬ (h.next = p6) := by omega
    have h3' : ¬ (p7 = p6) := fun e => h3 e.symm
    have ix : idxA Try.prog 232 (.slice p25 0 9) (.int .i64 k) = some (.ptr p25 (k * 5)) := by simp [idxA]; omega
    have l5 : ldVar Try.prog 236 p25 (k * 5) h = some (.agg (pnE k (pnL[k]'hk9))) := by
      have hl : k * 5 + 5 ≤ pnC.length := by
        have : pnC.length = 45 := by rfl
        omega
      simp [ldVar, gh, hl, pn_at k hk9]
    have cl := fun X => pnF_ev k hk9 p6 X m (by omega)
    have hF9 : k < F.length := by omega
    have fn := pl_new p6 k hk9
    have fx := pl_next p6 k hk9
    obtain ⟨jx, ff⟩ := pl_find p6 k hk9
    have hms' : (pnL[k]'hk9).2.2.2 = (pnL[k]'hk9).2.2.2 := rfl
    generalize hx : pnL[k]'hk9 = x at *
    obtain ⟨x1, x2, x3, x4⟩ := x
    simp only at fn fx ff
    have w1 : IntKind.i64.wrap ((k : Int) + 1) = ((k + 1 : Nat) : Int) := by rw [wrap_i64 (n := (k : Int) + 1) (by omega) (by omega)]; omega
    simp only [pnE] at l5
    let A : AH := h.push (.cells 236 false [.int .i64 x1, .func (247 + k) [] [], .int .i64 x2, .int .i64 x3, .int .i64 x4])
    have hA : h.push (.cells 236 false [.int .i64 x1, .func (247 + k) [] [], .int .i64 x2, .int .i64 x3, .int .i64 x4]) = A := rfl
    have stZ : stVar Try.prog 236 h.next 0 (.agg [.int .i64 x1, .func (247 + k) [] [], .int .i64 x2, .int .i64 x3, .int .i64 x4]) (h.push (.cells 236 false [.int .i64 0, .nilFunc, .int .i64 0, .int .i64 0, .int .i64 0])) = some A := by simp [stVar, spl, A]
    have f0 : ldVar Try.prog 3 h.next 0 A = some (.int .i64 x1) := by simp [A, ldVar]
    have f1 : ldVar Try.prog 234 h.next 1 A = some (.func (247 + k) [] []) := by simp [A, ldVar]
    have gA7 : A.get p7 = some (.map ((plA p6).take k)) := by simp [A, a3, g7]
    have gA6 : A.get p6 = some (.cells 120 false (pmC F false .nilSlice .nilSlice .nilSlice)) := by simp [A, a2, g6]
    have gA9 : A.get h.next = some (.cells 236 false [.int .i64 x1, .func (247 + k) [] [], .int .i64 x2, .int .i64 x3, .int .i64 x4]) := by simp [A]
    have nA : A.next = h.next + 1 := by simp [A]
    have rA : ∀ b, b < h.next → A.get b = h.get b := fun b hb => by simp only [A]; rw [AH.push_get, if_neg (by omega)]
    clear_value A
    let B : AH := A.set p7 (.map ((plA p6).take (k + 1)))
    have up : updA Try.prog 242 (.map p7) (.int .i64 x1) (.ptr p6 k) A = some B := by
      simp [updA, mapT, keyOk, gA7, mapPut, fn, fx, B]
    have gB7 : B.get p7 = some (.map ((plA p6).take (k + 1))) := by simp [B]
    have gB6 : B.get p6 = some (.cells 120 false (pmC F false .nilSlice .nilSlice .nilSlice)) := by simp only [B]; rw [AH.set_getN _ _ h3]; exact gA6
    have gB9 : B.get h.next = some (.cells 236 false [.int .i64 x1, .func (247 + k) [] [], .int .i64 x2, .int .i64 x3, .int .i64 x4]) := by simp only [B]; rw [AH.set_getN _ _ a4]; exact gA9
    have nB : B.next = A.next := rfl
    have rB : ∀ b, b ≠ p7 → B.get b = A.get b := fun b hb => AH.set_getN _ _ hb
    clear_value B
    have lk : lookA Try.prog 242 (.map p7) (.int .i64 x1) B false = some (.ptr p6 k) := by simp [lookA, mapT, keyOk, gB7, ff]
    have f0' : ldVar Try.prog 3 h.next 0 B = some (.int .i64 x1) := by simp [ldVar, gB9]
    have f4' : ldVar Try.prog 3 h.next 4 B = some (.int .i64 x4) := by simp [ldVar, gB9]
    have hl13 := (pmC_rest F hF false .nilSlice .nilSlice .nilSlice).2.2.2.2
    have st : stVar Try.prog 3 p6 k (.int .i64 x4) B = some (B.set p6 (.cells 120 false (pmC (F.set k x4) false .nilSlice .nilSlice .nilSlice))) := by
      have : k + 1 ≤ (pmC F false .nilSlice .nilSlice .nilSlice).length := by omega
      simp [stVar, gB6, this, spl, pm_set F false .nilSlice .nilSlice .nilSlice k hF9 x4]
    have up' := up
    simp [Try.f86, t0, t1, t4, t5, t6, t7, t25, t26, t27, hkl, hkl', ix, l5, stZ, f0, f1, cl, up, lk, f0', f4', st, w1, evHist, ObsOk, ObOk, List.getElem?_cons_zero]
    refine ⟨d - 1, by omega, k + 1, F.set k x4, by omega, ⟨by simp [t0], by simp [t1], by simp [t4], by simp [t5], by simp [t6], by simp [t7], by simp [t25], by simp [t26], by simp⟩, by simpa using hF, fun j hj hj' hjk => ?_, by simp, ?_, ?_, fun b hb' e6 e7 => ?_⟩
    · by_cases e : j = k
      · subst e; rw [hx]; simp
      · rw [List.getElem_set_ne (fun h => e h.symm)]
        exact hms j hj (by omega) (by omega)
    · rw [AH.set_getN _ _ h3']; exact gB7
    · simp; omega
    · rw [AH.set_getN _ _ e6, rB b e7, rA b (by omega)]; exact hb b hb' e6 e7
end Go.Ev

/- Parameters read by the program: an entry put. -/
namespace Go.Ev
open Go Go.Proofs
set_option linter.unusedSimpArgs false
set_option linter.unusedVariables false

theorem pm_set9 {F : List Int} (hF : F.length = 9) (nm x : Bool) (a b c : AV) : (pmC F nm a b c).set 9 (.bool x) = pmC F x a b c := by
  unfold pmC; rw [List.set_append_right _ _ (by simp [hF])]; simp [hF]
theorem pm_set10 {F : List Int} (hF : F.length = 9) (nm : Bool) (a b c x : AV) : (pmC F nm a b c).set 10 x = pmC F nm x b c := by
  unfold pmC; rw [List.set_append_right _ _ (by simp [hF])]; simp [hF]
theorem pm_set11 {F : List Int} (hF : F.length = 9) (nm : Bool) (a b c x : AV) : (pmC F nm a b c).set 11 x = pmC F nm a x c := by
  unfold pmC; rw [List.set_append_right _ _ (by simp [hF])]; simp [hF]
theorem pm_set12 {F : List Int} (hF : F.length = 9) (nm : Bool) (a b c x : AV) : (pmC F nm a b c).set 12 x = pmC F nm a b x := by
  unfold pmC; rw [List.set_append_right _ _ (by simp [hF])]; simp [hF]
structure PrP (P : Pm) (vo vt vf : AV) (bo bt bf : List Nat) (p6 lo : Nat) (h : AH) : Prop where
  g6 : h.get p6 = some (.cells 120 false (pmC P.F P.nm vo vt vf))
  hF : P.F.length = 9
  iF : ∀ x ∈ P.F, InK .i64 x
  Ro : (Ty.sl 5 (.int .u8)).R true h [vo] P.o bo
  Rt : (Ty.sl 5 (.int .u8)).R true h [vt] P.t bt
  Rf : (Ty.sl 5 (.int .u8)).R true h [vf] P.f bf
  nd : (bo ++ (bt ++ bf)).Nodup
  lo : ∀ b ∈ bo ++ (bt ++ bf), lo ≤ b
  np : p6 ∉ bo ++ (bt ++ bf)
  n6 : p6 < h.next
theorem PrP.stay {P : Pm} {vo vt vf : AV} {bo bt bf : List Nat} {p6 lo : Nat} {h h' : AH} (X : PrP P vo vt vf bo bt bf p6 lo h) (hn : h.next ≤ h'.next) (h6 : h'.get p6 = h.get p6) (hb : ∀ b ∈ bo ++ (bt ++ bf), h'.get b = h.get b) : PrP P vo vt vf bo bt bf p6 lo h' :=
  ⟨h6.trans X.g6, X.hF, X.iF, X.Ro.stay hn fun b hx => hb b (by simp [hx]), X.Rt.stay hn fun b hx => hb b (by simp [hx]), X.Rf.stay hn fun b hx => hb b (by simp [hx]), X.nd, X.lo, X.np, by have := X.n6; omega⟩
theorem PrP.mem {P : Pm} {vo vt vf : AV} {bo bt bf : List Nat} {p6 lo : Nat} {h : AH} (X : PrP P vo vt vf bo bt bf p6 lo h) : ∀ b ∈ bo ++ (bt ++ bf), b < h.next := by
  intro b hb
  rcases List.mem_append.1 hb with hb | hb
  · exact X.Ro.mem b hb
  · rcases List.mem_append.1 hb with hb | hb
    · exact X.Rt.mem b hb
    · exact X.Rf.mem b hb
structure RpT (τ : Tm) (r sv : AV) (p4 p6 p7 p10 q : Nat) : Prop where
  t0 : τ 0 = r
  t1 : τ 1 = sv
  t4 : τ 4 = .ptr p4 0
  t6 : τ 6 = .ptr p6 0
  t7 : τ 7 = .map p7
  t10 : τ 10 = .map p10
  t11 : τ 11 = .ptr q 0
set_option maxRecDepth 20000 in
theorem rpPut {r sv : AV} {p4 p6 p7 p10 q : Nat} {P : Pm} {vo vt vf : AV} {bo bt bf : List Nat} {lo : Nat} {h : AH} (X : PrP P vo vt vf bo bt bf p6 lo h) (hlo : lo ≤ h.next) {v : AV} {val : List Int} (hs : Bs h v val) (hby : By val) (hl : val.length ≤ 65536) (n : Int) (hk : knP n) (w : Bool) (m : Nat) (hm : 30 ≤ m) (τ : Tm) (T : RpT τ r sv p4 p6 p7 p10 q)
    (t12 : τ 12 = .int .i64 n) (t13 : τ 13 = v) (t14 : ∀ k, knI n = some k → τ 14 = .ptr p6 k) (t15 : τ 15 = .bool (knI n).isSome) (t16 : τ 16 = .bool w) :
    ∃ τ' h' vo' vt' vf' bo' bt' bf', evAt Try.prog (ev Try.prog m) m 86 2085630 τ h = some (.normal, τ', h') ∧ RpT τ' r sv p4 p6 p7 p10 q ∧ τ' 16 = .bool (w || (putP P n val).2) ∧ PrP (putP P n val).1 vo' vt' vf' bo' bt' bf' p6 lo h' ∧ h.next ≤ h'.next ∧ ∀ b, b < h.next → b ≠ p6 → h'.get b = h.get b := by
  have T0 := T
  obtain ⟨t0, t1, t4, t6, t7, t10, t11⟩ := T
  have hL := hs.len
  obtain ⟨g6, hF, iF, Ro, Rt, Rf, nd, hlo', np, n6⟩ := X
  obtain ⟨r9, r10, r11, r12, rl⟩ := pmC_rest P.F hF P.nm vo vt vf
  have X0 : PrP P vo vt vf bo bt bf p6 lo h := ⟨g6, hF, iF, Ro, Rt, Rf, nd, hlo', np, n6⟩
  have hm' := X0.mem
  rw [at_M Try.func86 2085630 (by decide) 21 (by decide) (by kernel_rfl) []]
  cases hkn : knI n with
  | some k =>
    have hk9 : k < 9 := by
      unfold knI at hkn
      repeat' split at hkn
      all_goals simp at hkn
      all_goals omega
    have t14 := t14 k hkn
    rw [hkn] at t15
    simp only [Option.isSome_some] at t15
    have gv := GetVarI_ev hs (Kp.refl h) hby hl 0 (by omega) m (by omega)
    have hst : stVar Try.prog 3 p6 k (.int .i64 (getVarP val 0).1) h = some (h.set p6 (.cells 120 false (pmC (P.F.set k (getVarP val 0).1) P.nm vo vt vf))) := by
      have : k + 1 ≤ (pmC P.F P.nm vo vt vf).length := by omega
      simp [stVar, g6, this, spl, pm_set P.F P.nm vo vt vf k (by omega)]
    have hp : putP P n val = ({ P with F := P.F.set k (getVarP val 0).1 }, decide ((getVarP val 0).2.2 ≠ 0 ∨ (getVarP val 0).2.1 ≠ val.length)) := by unfold putP; rw [hkn]
    have hi := getVarP_nn (l := val) 0
    have hi2 := getVarP_lt hby 0
    rw [hp]
    simp only
    generalize getVarP val 0 = G at *
    obtain ⟨g1, g2, g3⟩ := G
    simp only at *
    have fin : ∀ (τ' : Tm), PrP { P with F := P.F.set k g1 } vo vt vf bo bt bf p6 lo (h.set p6 (.cells 120 false (pmC (P.F.set k g1) P.nm vo vt vf))) := fun _ =>
      ⟨by simp, by simpa using hF, fun x hx => by
        rcases List.mem_or_eq_of_mem_set hx with hx | rfl
        · exact iF x hx
        · exact InK.i64 (by omega) (by omega), Ro.stay (by simp) fun b hb => AH.set_getN _ _ (fun e => np (by rw [← e]; simp [hb])), Rt.stay (by simp) fun b hb => AH.set_getN _ _ (fun e => np (by rw [← e]; simp [hb])), Rf.stay (by simp) fun b hb => AH.set_getN _ _ (fun e => np (by rw [← e]; simp [hb])), nd, hlo', np, by simpa using n6⟩
    have gv' : ev Try.prog m 187 [v, .int .i64 0] h = some (.tuple [.int .i64 g1, .int .i64 g2, .int .i64 g3], h) := gv
    cases w with
    | true =>
      exact ⟨_, _, vo, vt, vf, bo, bt, bf, by simp [Try.f86, U, t12, t13, t14, t15, t16, gv', hst, hL]; rfl, ⟨by simp [t0], by simp [t1], by simp [t4], by simp [t6], by simp [t7], by simp [t10], by simp [t11]⟩, by simp, fin τ, by simp, fun b hb hne => AH.set_getN _ _ hne⟩
    | false =>
      by_cases c1 : g3 = 0
      · subst c1
        by_cases c2 : g2 = val.length
        · have hd : decide ((0 : Int) ≠ 0 ∨ g2 ≠ (val.length : Int)) = false := by simp [c2]
          exact ⟨_, h.set p6 (.cells 120 false (pmC (P.F.set k g1) P.nm vo vt vf)), vo, vt, vf, bo, bt, bf, by simp [Try.f86, U, t12, t13, t14, t15, t16, gv', hst, hL, c2]; rfl, ⟨by simp [t0], by simp [t1], by simp [t4], by simp [t6], by simp [t7], by simp [t10], by simp [t11]⟩, by rw [hd]; simp, fin τ, by simp, fun b hb hne => AH.set_getN _ _ hne⟩
        · have d2 : (g2 == (val.length : Int)) = false := by simpa using c2
          have d2' : (g2 != (val.length : Int)) = true := by simpa using c2
          have hd : decide ((0 : Int) ≠ 0 ∨ g2 ≠ (val.length : Int)) = true := by simp [c2]
          exact ⟨_, h.set p6 (.cells 120 false (pmC (P.F.set k g1) P.nm vo vt vf)), vo, vt, vf, bo, bt, bf, by simp [Try.f86, U, t12, t13, t14, t15, t16, gv', hst, hL, d2, d2']; rfl, ⟨by simp [t0], by simp [t1], by simp [t4], by simp [t6], by simp [t7], by simp [t10], by simp [t11]⟩, by rw [hd]; simp, fin τ, by simp, fun b hb hne => AH.set_getN _ _ hne⟩
      · have d1 : (g3 == 0) = false := by simpa using c1
        have d1' : (g3 != 0) = true := by simpa using c1
        have hd : decide (g3 ≠ 0 ∨ g2 ≠ (val.length : Int)) = true := by simp [c1]
        exact ⟨_, h.set p6 (.cells 120 false (pmC (P.F.set k g1) P.nm vo vt vf)), vo, vt, vf, bo, bt, bf, by simp [Try.f86, U, t12, t13, t14, t15, t16, gv', hst, hL, d1, d1']; rfl, ⟨by simp [t0], by simp [t1], by simp [t4], by simp [t6], by simp [t7], by simp [t10], by simp [t11]⟩, by rw [hd]; simp, fin τ, by simp, fun b hb hne => AH.set_getN _ _ hne⟩
  | none =>
    rw [hkn] at t15
    simp only [Option.isSome_none] at t15
    obtain ⟨v1, H1, e1, k1, o1⟩ := copied_ev hs (Kp.refl h) (by omega) m (by omega)
    obtain ⟨bn, Rn, ndn, bnr⟩ := ow_tB o1 hby
    have ov := Rn.sl_one
    have hk1n := k1.next
    have gh1 := (k1.get p6 n6).trans g6
    have Ro1 := Ro.kp k1
    have Rt1 := Rt.kp k1
    have Rf1 := Rf.kp k1
    have mo : ∀ b ∈ bo, b < h.next := fun b hb => Ro.mem b hb
    have mt : ∀ b ∈ bt, b < h.next := fun b hb => Rt.mem b hb
    have mf : ∀ b ∈ bf, b < h.next := fun b hb => Rf.mem b hb
    have npn : p6 ∉ bn := fun hx => by have := bnr _ hx; omega
    have no : p6 ∉ bo := fun hx => np (by simp [hx])
    have nt : p6 ∉ bt := fun hx => np (by simp [hx])
    have nf : p6 ∉ bf := fun hx => np (by simp [hx])
    have keep : ∀ (t : Ty) (c : List AV) (d : t.D) (bs : List Nat) (y : Blk), t.R true H1 c d bs → p6 ∉ bs → t.R true (H1.set p6 y) c d bs := fun t c d bs y hR hp => hR.stay (by simp) fun b hb => AH.set_getN _ _ (fun e => hp (by rw [← e]; exact hb))
    have nd0 := nd
    simp only [List.nodup_append, List.mem_append] at nd
    have lo1 : ∀ b ∈ bo, lo ≤ b := fun b hb => hlo' b (by simp [hb])
    have lo2 : ∀ b ∈ bt, lo ≤ b := fun b hb => hlo' b (by simp [hb])
    have lo3 : ∀ b ∈ bf, lo ≤ b := fun b hb => hlo' b (by simp [hb])
    have s10 : stVar Try.prog 34 p6 10 v1 H1 = some (H1.set p6 (.cells 120 false (pmC P.F P.nm v1 vt vf))) := by simp [stVar, gh1, rl, spl, ov, cells_one ov, pm_set10 hF]
    have s11 : stVar Try.prog 34 p6 11 v1 H1 = some (H1.set p6 (.cells 120 false (pmC P.F P.nm vo v1 vf))) := by simp [stVar, gh1, rl, spl, ov, cells_one ov, pm_set11 hF]
    have s12 : stVar Try.prog 34 p6 12 v1 H1 = some (H1.set p6 (.cells 120 false (pmC P.F P.nm vo vt v1))) := by simp [stVar, gh1, rl, spl, ov, cells_one ov, pm_set12 hF]
    have s9 : stVar Try.prog 4 p6 9 (.bool true) h = some (h.set p6 (.cells 120 false (pmC P.F true vo vt vf))) := by simp [stVar, g6, rl, spl, pm_set9 hF]
    have rest : ∀ (y : Blk) b, b < h.next → b ≠ p6 → (H1.set p6 y).get b = h.get b := fun y b hb hne => by rw [AH.set_getN _ _ hne]; exact k1.get b hb
    rcases hk with hk | rfl | rfl | rfl | rfl
    · rw [hkn] at hk; simp at hk
    · have hp : putP P 0 val = ({ P with o := val }, false) := by unfold putP; rw [hkn]; simp
      rw [hp]
      refine ⟨_, H1.set p6 (.cells 120 false (pmC P.F P.nm v1 vt vf)), v1, vt, vf, bn, bt, bf, by simp [Try.f86, U, t12, t13, t6, t15, t16, e1, s10]; rfl, ⟨by simp [t0], by simp [t1], by simp [t4], by simp [t6], by simp [t7], by simp [t10], by simp [t11]⟩, by simp [t16], ⟨by simp, hF, iF, keep _ _ _ _ _ Rn npn, keep _ _ _ _ _ Rt1 nt, keep _ _ _ _ _ Rf1 nf, ?_, ?_, ?_, by simp; omega⟩, by simpa using hk1n, rest _⟩
      · simp only [List.nodup_append, List.mem_append]
        exact ⟨ndn, nd.2.1, fun a ha b hb e => by have := bnr a ha; rcases hb with hb | hb; have := mt b hb; omega; have := mf b hb; omega⟩
      · intro b hb; simp only [List.mem_append] at hb; rcases hb with hb | hb | hb; have := bnr b hb; omega; exact lo2 b hb; exact lo3 b hb
      · intro hb; simp only [List.mem_append] at hb; rcases hb with hb | hb | hb; exact npn hb; exact nt hb; exact nf hb
    · have hp : putP P 2 val = ({ P with t := val }, decide (val.length = 0)) := by unfold putP; rw [hkn]; simp
      rw [hp]
      have main : ∃ τ', evM Try.prog (ev Try.prog m) m 86 [] 2085630 (sub (Try.f86.body.getD .skip) 200 2085630) τ h = some (.normal, τ', H1.set p6 (.cells 120 false (pmC P.F P.nm vo v1 vf))) ∧ RpT τ' r sv p4 p6 p7 p10 q ∧ τ' 16 = .bool (w || decide (val.length = 0)) := by
        cases w with
        | true => exact ⟨_, by simp [Try.f86, U, t12, t13, t6, t15, t16, e1, s11, hL]; rfl, ⟨by simp [t0], by simp [t1], by simp [t4], by simp [t6], by simp [t7], by simp [t10], by simp [t11]⟩, by simp⟩
        | false =>
          by_cases c : val.length = 0
          · exact ⟨_, by simp [Try.f86, U, t12, t13, t6, t15, t16, e1, s11, hL, c]; rfl, ⟨by simp [t0], by simp [t1], by simp [t4], by simp [t6], by simp [t7], by simp [t10], by simp [t11]⟩, by simp [c]⟩
          · have c' : ((val.length : Int) == 0) = false := by simp; exact fun e => c (by rw [e]; rfl)
            exact ⟨_, by simp [Try.f86, U, t12, t13, t6, t15, t16, e1, s11, hL, c']; rfl, ⟨by simp [t0], by simp [t1], by simp [t4], by simp [t6], by simp [t7], by simp [t10], by simp [t11]⟩, by simp [c]⟩
      obtain ⟨τ', f1, f2, f3⟩ := main
      refine ⟨τ', H1.set p6 (.cells 120 false (pmC P.F P.nm vo v1 vf)), vo, v1, vf, bo, bn, bf, f1, f2, f3, ⟨by simp, hF, iF, keep _ _ _ _ _ Ro1 no, keep _ _ _ _ _ Rn npn, keep _ _ _ _ _ Rf1 nf, ?_, ?_, ?_, by simp; omega⟩, by simpa using hk1n, rest _⟩
      · simp only [List.nodup_append, List.mem_append]
        exact ⟨nd.1, ⟨ndn, nd.2.1.2.1, fun a ha b hb e => by have := bnr a ha; have := mf b hb; omega⟩, fun a ha b hb e => by rcases hb with hb | hb; have := bnr b hb; have := mo a ha; omega; exact nd.2.2 a ha b (.inr hb) e⟩
      · intro b hb; simp only [List.mem_append] at hb; rcases hb with hb | hb | hb; exact lo1 b hb; have := bnr b hb; omega; exact lo3 b hb
      · intro hb; simp only [List.mem_append] at hb; rcases hb with hb | hb | hb; exact no hb; exact npn hb; exact nf hb
    · have hp : putP P 12 val = ({ P with nm := true }, decide (0 < val.length)) := by unfold putP; rw [hkn]; simp
      rw [hp]
      have main : ∃ τ', evM Try.prog (ev Try.prog m) m 86 [] 2085630 (sub (Try.f86.body.getD .skip) 200 2085630) τ h = some (.normal, τ', h.set p6 (.cells 120 false (pmC P.F true vo vt vf))) ∧ RpT τ' r sv p4 p6 p7 p10 q ∧ τ' 16 = .bool (w || decide (0 < val.length)) := by
        cases w with
        | true => exact ⟨_, by simp [Try.f86, U, t12, t13, t6, t15, t16, s9, hL]; rfl, ⟨by simp [t0], by simp [t1], by simp [t4], by simp [t6], by simp [t7], by simp [t10], by simp [t11]⟩, by simp⟩
        | false =>
          by_cases c : 0 < val.length
          · have c1 := eq_true (show (0 : Int) < val.length by omega)
            have c2 := eq_true c
            exact ⟨_, by simp [Try.f86, U, t12, t13, t6, t15, t16, s9, hL, c1, c2]; rfl, ⟨by simp [t0], by simp [t1], by simp [t4], by simp [t6], by simp [t7], by simp [t10], by simp [t11]⟩, by simp [c]⟩
          · have c1 := eq_false (show ¬ (0 : Int) < val.length by omega)
            have c2 := eq_false c
            exact ⟨_, by simp [Try.f86, U, t12, t13, t6, t15, t16, s9, hL, c1, c2]; rfl, ⟨by simp [t0], by simp [t1], by simp [t4], by simp [t6], by simp [t7], by simp [t10], by simp [t11]⟩, by simp [c]⟩
      obtain ⟨τ', f1, f2, f3⟩ := main
      refine ⟨τ', h.set p6 (.cells 120 false (pmC P.F true vo vt vf)), vo, vt, vf, bo, bt, bf, f1, f2, f3, ⟨by simp, hF, iF, ?_, ?_, ?_, nd0, hlo', np, by simpa using n6⟩, by simp, fun b hb hne => AH.set_getN _ _ hne⟩
      · exact Ro.stay (by simp) fun b hb => AH.set_getN _ _ (fun e => no (by rw [← e]; exact hb))
      · exact Rt.stay (by simp) fun b hb => AH.set_getN _ _ (fun e => nt (by rw [← e]; exact hb))
      · exact Rf.stay (by simp) fun b hb => AH.set_getN _ _ (fun e => nf (by rw [← e]; exact hb))
    · have hp : putP P 15 val = ({ P with f := val }, false) := by unfold putP; rw [hkn]; simp
      rw [hp]
      refine ⟨_, H1.set p6 (.cells 120 false (pmC P.F P.nm vo vt v1)), vo, vt, v1, bo, bt, bn, by simp [Try.f86, U, t12, t13, t6, t15, t16, e1, s12]; rfl, ⟨by simp [t0], by simp [t1], by simp [t4], by simp [t6], by simp [t7], by simp [t10], by simp [t11]⟩, by simp [t16], ⟨by simp, hF, iF, keep _ _ _ _ _ Ro1 no, keep _ _ _ _ _ Rt1 nt, keep _ _ _ _ _ Rn npn, ?_, ?_, ?_, by simp; omega⟩, by simpa using hk1n, rest _⟩
      · simp only [List.nodup_append, List.mem_append]
        exact ⟨nd.1, ⟨nd.2.1.1, ndn, fun a ha b hb e => by have := bnr b hb; have := mt a ha; omega⟩, fun a ha b hb e => by rcases hb with hb | hb; exact nd.2.2 a ha b (.inl hb) e; have := bnr b hb; have := mo a ha; omega⟩
      · intro b hb; simp only [List.mem_append] at hb; rcases hb with hb | hb | hb; exact lo1 b hb; exact lo2 b hb; have := bnr b hb; omega
      · intro hb; simp only [List.mem_append] at hb; rcases hb with hb | hb | hb; exact no hb; exact nt hb; exact npn hb
end Go.Ev

/- Parameters read by the program: a round. -/
namespace Go.Ev
open Go Go.Proofs
set_option linter.unusedSimpArgs false
set_option linter.unusedVariables false

def zPm : List AV := pmC [0, 0, 0, 0, 0, 0, 0, 0, 0] false .nilSlice .nilSlice .nilSlice
structure RpH (l : List Int) (r : AV) (p4 p6 p7 p10 q : Nat) (a : Nat) (s : List Int) (P : Pm) (vo vt vf : AV) (bo bt bf : List Nat) (Hb : AH) (lo : Nat) (h : AH) : Prop where
  sc : h.get q = some (scB r a 0)
  la : a ≤ l.length
  X : PrP P vo vt vf bo bt bf p6 lo h
  g10 : h.get p10 = some (.map (seenI s))
  g7 : h.get p7 = some (.map (plA p6))
  g4 : h.get p4 = some (.cells 120 false zPm)
  K : Kp Hb h
  ln : lo ≤ h.next
structure RpN (p4 p6 p7 p10 q : Nat) (Hb : AH) (lo : Nat) : Prop where
  b4 : Hb.next ≤ p4 ∧ p4 < lo
  b6 : Hb.next ≤ p6 ∧ p6 < lo
  b7 : Hb.next ≤ p7 ∧ p7 < lo
  b10 : Hb.next ≤ p10 ∧ p10 < lo
  bq : Hb.next ≤ q ∧ q < lo
  n46 : p4 ≠ p6
  n47 : p4 ≠ p7
  n410 : p4 ≠ p10
  n4q : p4 ≠ q
  n67 : p6 ≠ p7
  n610 : p6 ≠ p10
  n6q : p6 ≠ q
  n710 : p7 ≠ p10
  n7q : p7 ≠ q
  n10q : p10 ≠ q
theorem zPm_eq : zPm = [.int .i64 0, .int .i64 0, .int .i64 0, .int .i64 0, .int .i64 0, .int .i64 0, .int .i64 0, .int .i64 0, .int .i64 0, .bool false, .nilSlice, .nilSlice, .nilSlice] := rfl
set_option maxRecDepth 20000 in
theorem rpStep {l : List Int} {r sv : AV} {p4 p6 p7 p10 q : Nat} {a : Nat} {s : List Int} {P : Pm} {vo vt vf : AV} {bo bt bf : List Nat} {Hb : AH} {lo : Nat} {h : AH} (hs : Bs Hb r l) (hby : By l) (hl : l.length ≤ 65536) (N : RpN p4 p6 p7 p10 q Hb lo) (I : RpH l r p4 p6 p7 p10 q a s P vo vt vf bo bt bf Hb lo h)
    (m : Nat) (hm : 40 ≤ m) (τ : Tm) (T : RpT τ r sv p4 p6 p7 p10 q) :
    ∃ e τ' h', evAt Try.prog (ev Try.prog m) m 86 8146 τ h = some (e, τ', h') ∧
      ((e = .ret ∧ h'.get p4 = some (.cells 120 false zPm) ∧ Kp Hb h' ∧ τ' 4 = .ptr p4 0 ∧ ∃ cdv : Int, τ' 5 = .int .i64 cdv ∧
          ((cdv = 2 ∧ (countedS l (varS l a false).2.1 (varS l a false).2.2).2.2 = true) ∨
           (cdv = 11 ∧ (countedS l (varS l a false).2.1 (varS l a false).2.2).2.2 = false ∧ knP (varS l a false).1 ∧ ((varS l a false).1 ∈ s ∨ (putP P (varS l a false).1 (countedS l (varS l a false).2.1 (varS l a false).2.2).1).2 = true)))) ∨
       ((e = .normal ∨ e = .exit 3) ∧ (countedS l (varS l a false).2.1 (varS l a false).2.2).2.2 = false ∧ RpT τ' r sv p4 p6 p7 p10 q ∧
          ((¬ knP (varS l a false).1 ∧ RpH l r p4 p6 p7 p10 q (countedS l (varS l a false).2.1 (varS l a false).2.2).2.1 s P vo vt vf bo bt bf Hb lo h') ∨
           (knP (varS l a false).1 ∧ ¬ ((varS l a false).1 ∈ s ∨ (putP P (varS l a false).1 (countedS l (varS l a false).2.1 (varS l a false).2.2).1).2 = true) ∧
            ∃ vo' vt' vf' bo' bt' bf', RpH l r p4 p6 p7 p10 q (countedS l (varS l a false).2.1 (varS l a false).2.2).2.1 (s ++ [(varS l a false).1]) (putP P (varS l a false).1 (countedS l (varS l a false).2.1 (varS l a false).2.2).1).1 vo' vt' vf' bo' bt' bf' Hb lo h')))) := by
  obtain ⟨t0, t1, t4, t6, t7, t10, t11⟩ := T
  obtain ⟨sc, la, X, g10, g7, g4, K, ln⟩ := I
  obtain ⟨H1, a1, a2, a3, a4, a5⟩ := number_ev (c := 0) hs hby K N.bq.1 sc la hl m (by omega)
  have e1 := numberI_cd l a false
  simp only [cd_f] at e1
  rw [e1] at a1 a4 a5
  simp only at a1 a4 a5
  have hu1 := varS_rng hby a false
  have K1 : Kp Hb H1 := a2.kp K N.bq.1
  obtain ⟨v, H2, b1, b2, b3, b4, b5, b6⟩ := counted_ev hs hby K1 N.bq.1 a4 a5 hl m (by omega)
  rw [countedI_cd hby] at b4 b5 b6
  simp only at b4 b5 b6
  have K2 : Kp Hb H2 := b2.kp K1 N.bq.1
  generalize hu : varS l a false = u at *
  obtain ⟨n, a1', sh1⟩ := u
  simp only at *
  have hcb : By (countedS l a1' sh1).1 := takeS_by hby _ _ _
  have hcl : (countedS l a1' sh1).1.length ≤ 65536 := Nat.le_trans (takeS_len l _ _ _).2 hl
  generalize hc : countedS l a1' sh1 = c at *
  obtain ⟨val, a2', sh2⟩ := c
  simp only at *
  have n2 : H2.next = h.next := by omega
  have k2 := a2.trans b2
  have r2 : ∀ b, b < lo → b ≠ q → H2.get b = h.get b := fun b hb hne => k2.get b (by omega) hne
  have X2 : PrP P vo vt vf bo bt bf p6 lo H2 := X.stay (by omega) (r2 p6 N.b6.2 N.n6q) fun b hb => k2.get b (by have := X.mem b hb; omega) (fun e => by have := X.lo b hb; have := N.bq.2; omega)
  have f4 := (r2 p4 N.b4.2 N.n4q).trans g4
  have f7 := (r2 p7 N.b7.2 N.n7q).trans g7
  have f10 := (r2 p10 N.b10.2 N.n10q).trans g10
  have hsc : H2.get q = some (.cells 188 false [r, .int .i64 a2', .int .i64 (cd sh2)]) := b5
  rw [at_M Try.func86 8146 (by decide) 13 (by decide) (by kernel_rfl) [65175]]
  cases sh2 with
  | true =>
    simp only [cd_t] at hsc
    have lc : ldVar Try.prog 3 q 2 H2 = some (.int .i64 2) := by simp [ldVar, hsc]
    have st : stVar Try.prog 120 p4 0 (.agg zPm) H2 = some (H2.set p4 (.cells 120 false zPm)) := by rw [zPm_eq] at f4 ⊢; simp [stVar, f4, spl]
    have lc' : ldVar Try.prog 3 q 2 (H2.set p4 (.cells 120 false zPm)) = some (.int .i64 2) := by unfold ldVar; rw [AH.set_getN _ _ (fun e => N.n4q e.symm), hsc]; simp
    rw [zPm_eq] at st lc'
    refine ⟨.ret, _, H2.set p4 (.cells 120 false zPm), by simp [Try.f86, t11, a1, b1, lc, lc', st, t4, fillA, evHist, ObsOk, ObOk, List.getElem?_cons_zero]; exact ⟨rfl, rfl⟩, .inl ⟨rfl, by simp, ?_, by simp [t4], 2, by simp, .inl ⟨rfl, rfl⟩⟩⟩
    exact ⟨by simpa using K2.next, fun b hb => by rw [AH.set_getN _ _ (by have := N.b4.1; omega)]; exact K2.get b hb⟩
  | false =>
    simp only [cd_f] at hsc
    have lc : ldVar Try.prog 3 q 2 H2 = some (.int .i64 0) := by simp [ldVar, hsc]
    simp [Try.f86, t11, a1, b1, lc]
    generalize hτ : upd _ 64 _ = τ1
    have T1 : RpT τ1 r sv p4 p6 p7 p10 q := by rw [← hτ]; exact ⟨by simp [t0], by simp [t1], by simp [t4], by simp [t6], by simp [t7], by simp [t10], by simp [t11]⟩
    have s12 : τ1 12 = .int .i64 n := by rw [← hτ]; simp
    have s13 : τ1 13 = v := by rw [← hτ]; simp
    clear hτ t0 t1 t4 t6 t7 t10 t11
    have hn0 : 0 ≤ n ∧ n ≤ 4611686018427387904 := hu1
    have Hq2 : H2.get q = some (scB r a2' 0) := hsc
    rw [at_M Try.func86 65175 (by decide) 16 (by decide) (by kernel_rfl) [260703]]
    obtain ⟨t0, t1, t4, t6, t7, t10, t11⟩ := T1
    have core : ∃ τ2, (knP n ∧ evM Try.prog (ev Try.prog m) m 86 [260703] 65175 (sub (Try.f86.body.getD .skip) 200 65175) τ1 H2 = evAt Try.prog (ev Try.prog m) m 86 260703 τ2 H2 ∨ ¬ knP n ∧ evM Try.prog (ev Try.prog m) m 86 [260703] 65175 (sub (Try.f86.body.getD .skip) 200 65175) τ1 H2 = some (.exit 3, τ2, H2)) ∧
        RpT τ2 r sv p4 p6 p7 p10 q ∧ τ2 12 = .int .i64 n ∧ τ2 13 = v ∧ (∀ k, knI n = some k → τ2 14 = .ptr p6 k) ∧ τ2 15 = .bool (knI n).isSome := by
      rcases find_plA p6 n with ⟨k, j, h1, h2, h3⟩ | ⟨h1, h3⟩
      · have lk : lookA Try.prog 242 (.map p7) (.int .i64 n) H2 true = some (.tuple [.ptr p6 k, .bool true]) := by simp [lookA, mapT, keyOk, f7, h3]
        have kn : knP n := .inl (by rw [h1]; rfl)
        exact ⟨_, .inl ⟨kn, by simp [Try.f86, U, t7, s12, lk]; rfl⟩, ⟨by simp [t0], by simp [t1], by simp [t4], by simp [t6], by simp [t7], by simp [t10], by simp [t11]⟩, by simp [s12], by simp [s13], fun k' hk' => by rw [h1] at hk'; cases hk'; simp, by rw [h1]; simp⟩
      · have lk : lookA Try.prog 242 (.map p7) (.int .i64 n) H2 true = some (.tuple [.nilPtr, .bool false]) := by simp [lookA, mapT, keyOk, f7, h3]
        have ii : (knI n).isSome = false := by rw [h1]; rfl
        by_cases c0 : n = 0
        · subst c0
          exact ⟨_, .inl ⟨.inr (.inl rfl), by simp [Try.f86, U, t7, s12, lk]; rfl⟩, ⟨by simp [t0], by simp [t1], by simp [t4], by simp [t6], by simp [t7], by simp [t10], by simp [t11]⟩, by simp [s12], by simp [s13], fun k' hk' => (by rw [h1] at hk'; cases hk'), by rw [ii]; simp⟩
        by_cases c2 : n = 2
        · subst c2
          exact ⟨_, .inl ⟨.inr (.inr (.inl rfl)), by simp [Try.f86, U, t7, s12, lk]; rfl⟩, ⟨by simp [t0], by simp [t1], by simp [t4], by simp [t6], by simp [t7], by simp [t10], by simp [t11]⟩, by simp [s12], by simp [s13], fun k' hk' => (by rw [h1] at hk'; cases hk'), by rw [ii]; simp⟩
        by_cases c12 : n = 12
        · subst c12
          exact ⟨_, .inl ⟨.inr (.inr (.inr (.inl rfl))), by simp [Try.f86, U, t7, s12, lk]; rfl⟩, ⟨by simp [t0], by simp [t1], by simp [t4], by simp [t6], by simp [t7], by simp [t10], by simp [t11]⟩, by simp [s12], by simp [s13], fun k' hk' => (by rw [h1] at hk'; cases hk'), by rw [ii]; simp⟩
        by_cases c15 : n = 15
        · subst c15
          exact ⟨_, .inl ⟨.inr (.inr (.inr (.inr rfl))), by simp [Try.f86, U, t7, s12, lk]; rfl⟩, ⟨by simp [t0], by simp [t1], by simp [t4], by simp [t6], by simp [t7], by simp [t10], by simp [t11]⟩, by simp [s12], by simp [s13], fun k' hk' => (by rw [h1] at hk'; cases hk'), by rw [ii]; simp⟩
        have nk : ¬ knP n := by
          rintro (h | h | h | h | h)
          · rw [ii] at h; simp at h
          · exact c0 h
          · exact c2 h
          · exact c12 h
          · exact c15 h
        have f : ∀ x : Int, n ≠ x → (n != x) = true := fun x h => by simpa using h
        exact ⟨_, .inr ⟨nk, by simp [Try.f86, U, t7, s12, lk, f _ c0, f _ c2, f _ c12, f _ c15]; rfl⟩, ⟨by simp [t0], by simp [t1], by simp [t4], by simp [t6], by simp [t7], by simp [t10], by simp [t11]⟩, by simp [s12], by simp [s13], fun k' hk' => (by rw [h1] at hk'; cases hk'), by rw [ii]; simp⟩
    obtain ⟨τ2, hkn, T2, w12, w13, w14, w15⟩ := core
    rcases hkn with ⟨kn, e2⟩ | ⟨nk, e2⟩
    · obtain ⟨t0, t1, t4, t6, t7, t10, t11⟩ := T2
      have lk := look_seen f10 n
      have bs2 : Bs H2 v val := b4.kp K2
      obtain ⟨H3, up, g3, n3, r3⟩ : ∃ H3, updA Try.prog 243 (.map p10) (.int .i64 n) (.bool true) H2 = some H3 ∧ (n ∉ s → H3.get p10 = some (.map (seenI (s ++ [n])))) ∧ H3.next = H2.next ∧ ∀ b, b ≠ p10 → H3.get b = H2.get b := by
        rcases find_seen n s 0 with ⟨h1, h2⟩ | ⟨h1, jj, h2⟩
        · exact ⟨_, put_seen f10 h1, fun _ => by simp, rfl, fun b hb => AH.set_getN _ _ hb⟩
        · exact ⟨H2.set p10 (.map ((seenI s).set jj (.int .i64 n, .bool true))), by simp [updA, mapT, keyOk, f10, mapPut, h2], fun hh => absurd h1 hh, rfl, fun b hb => AH.set_getN _ _ hb⟩
      have X3 : PrP P vo vt vf bo bt bf p6 lo H3 := X2.stay (by omega) (r3 p6 N.n610) fun b hb => r3 b (fun e => by have := X2.lo b hb; have := N.b10.2; omega)
      have K3 : Kp Hb H3 := ⟨by have := K2.next; omega, fun b hb => by rw [r3 b (by have := N.b10.1; omega)]; exact K2.get b hb⟩
      have bs3 : Bs H3 v val := by
        refine ⟨bs2.ty, bs2.sz, bs2.ag, ?_⟩
        rcases bs2.lie with h | ⟨b, o, ro, xs, y1, y2, y3, y4⟩
        · exact .inl h
        · refine .inr ⟨b, o, ro, xs, y1, by omega, ?_, y4⟩
          by_cases e : b = p10
          · rw [e, f10] at y3; cases y3
          · rw [r3 b e]; exact y3
      rw [e2, at_M Try.func86 260703 (by decide) 18 (by decide) (by kernel_rfl) [2085630]]
      simp [Try.f86, t7, t10, w12, lk, up]
      generalize hτ : upd _ 98 _ = τ3
      have T3 : RpT τ3 r sv p4 p6 p7 p10 q := by rw [← hτ]; exact ⟨by simp [t0], by simp [t1], by simp [t4], by simp [t6], by simp [t7], by simp [t10], by simp [t11]⟩
      have z12 : τ3 12 = .int .i64 n := by rw [← hτ]; simp [w12]
      have z13 : τ3 13 = v := by rw [← hτ]; simp [w13]
      have z14 : ∀ k, knI n = some k → τ3 14 = .ptr p6 k := fun k hk => by rw [← hτ]; simp [w14 k hk]
      have z15 : τ3 15 = .bool (knI n).isSome := by rw [← hτ]; simp [w15]
      have z16 : τ3 16 = .bool (decide (n ∈ s)) := by rw [← hτ]; simp
      clear hτ
      obtain ⟨τ4, H4, vo', vt', vf', bo', bt', bf', q1, T4, u16, X4, q4, q5⟩ := rpPut X3 (by omega) bs3 hcb hcl n kn (decide (n ∈ s)) m (by omega) τ3 T3 z12 z13 z14 z15 z16
      rw [q1]
      have K4 : Kp Hb H4 := ⟨by have := K3.next; omega, fun b hb => by rw [q5 b (by have := K3.next; omega) (by have := N.b6.1; omega)]; exact K3.get b hb⟩
      have k4 : H4.get p4 = some (.cells 120 false zPm) := by rw [q5 p4 (by have := N.b4.2; omega) N.n46, r3 p4 N.n410]; exact f4
      by_cases hw : n ∈ s ∨ (putP P n val).2 = true
      · have hwb : (decide (n ∈ s) || (putP P n val).2) = true := by rcases hw with h | h <;> simp [h]
        rw [hwb] at u16
        have st : stVar Try.prog 120 p4 0 (.agg zPm) H4 = some (H4.set p4 (.cells 120 false zPm)) := by rw [zPm_eq] at k4 ⊢; simp [stVar, k4, spl]
        rw [zPm_eq] at st
        have t4' := T4.t4
        refine ⟨.ret, _, H4.set p4 (.cells 120 false zPm), by simp [Try.f86, u16, t4', st, fillA]; exact ⟨rfl, rfl⟩, .inl ⟨rfl, by simp, ?_, by simp [t4'], 11, by simp, rfl, kn, by simpa using hw⟩⟩
        exact ⟨by simpa using K4.next, fun b hb => by rw [AH.set_getN _ _ (by have := N.b4.1; omega)]; exact K4.get b hb⟩
      · have hwb : (decide (n ∈ s) || (putP P n val).2) = false := by
          rw [not_or] at hw
          simp [hw.1, hw.2]
        rw [hwb] at u16
        rw [not_or] at hw
        refine ⟨.normal, _, H4, by simp [Try.f86, u16]; rfl, .inr ⟨.inl rfl, ⟨by simp [T4.t0], by simp [T4.t1], by simp [T4.t4], by simp [T4.t6], by simp [T4.t7], by simp [T4.t10], by simp [T4.t11]⟩, .inr ⟨kn, by simpa using hw, vo', vt', vf', bo', bt', bf', ?_, b6, X4, ?_, ?_, k4, K4, by omega⟩⟩⟩
        · rw [q5 q (by have := N.bq.2; omega) (fun e => N.n6q e.symm), r3 q (fun e => N.n10q e.symm)]; exact Hq2
        · rw [q5 p10 (by have := N.b10.2; omega) (fun e => N.n610 e.symm)]; exact g3 hw.1
        · rw [q5 p7 (by have := N.b7.2; omega) (fun e => N.n67 e.symm), r3 p7 N.n710]; exact f7
    · refine ⟨_, τ2, H2, e2, .inr ⟨.inr rfl, T2, .inl ⟨nk, Hq2, b6, X2, f10, f7, f4, K2, by omega⟩⟩⟩
end Go.Ev

/- Parameters read by the program, whole. -/
namespace Go.Ev
open Go Go.Proofs
set_option linter.unusedSimpArgs false
set_option linter.unusedVariables false

theorem varS_adv {l : List Int} {a : Nat} (h : (varS l a false).2.2 = false) : a + 1 ≤ (varS l a false).2.1 := by
  unfold varS at h ⊢
  rw [if_neg (by simp)] at h ⊢
  by_cases c : (getVarP l a).2.2 = 0
  · rw [if_neg (by simp [c])]
    simp only
    unfold getVarP at c ⊢
    by_cases h1 : a = l.length
    · rw [if_pos h1] at c; simp at c
    · rw [if_neg h1] at c ⊢
      by_cases h2 : (l.length : Int) - a < gvN (l.getD a 0)
      · rw [if_pos h2] at c; simp at c
      · rw [if_neg h2]
        simp only
        have : 1 ≤ gvN (l.getD a 0) := Nat.one_le_two_pow
        omega
  · rw [if_pos c] at h; simp at h
theorem takeS_adv {l : List Int} {a : Nat} {sh : Bool} {n : Int} (h : (takeS l a sh n).2.2 = false) : sh = false ∧ a ≤ (takeS l a sh n).2.1 := by
  unfold takeS at h ⊢
  by_cases c : sh = true ∨ (l.length : Int) - a < n
  · rw [if_pos c] at h; simp at h
  · rw [if_neg c]
    exact ⟨by cases sh; rfl; exact absurd (.inl rfl) c, by simp only; omega⟩
theorem varS_sh {l : List Int} {a : Nat} {sh : Bool} (h : (varS l a sh).2.2 = false) : sh = false := by
  cases sh
  · rfl
  · simp [varS] at h
theorem entry_adv {l : List Int} {a : Nat} (h : (countedS l (varS l a false).2.1 (varS l a false).2.2).2.2 = false) : a + 1 ≤ (countedS l (varS l a false).2.1 (varS l a false).2.2).2.1 := by
  unfold countedS at h ⊢
  obtain ⟨h1, h2⟩ := takeS_adv h
  have h3 := varS_sh h1
  rw [h3] at h1 h2 ⊢
  have h4 := varS_adv h1
  have h5 := varS_adv h3
  omega
def RpL (l : List Int) (r sv : AV) (p4 p6 p7 p10 q : Nat) (Hb : AH) (lo : Nat) (d : Nat) (τ : Tm) (h : AH) : Prop :=
  ∃ (a : Nat) (s : List Int) (P : Pm) (vo vt vf : AV) (bo bt bf : List Nat), RpT τ r sv p4 p6 p7 p10 q ∧ RpH l r p4 p6 p7 p10 q a s P vo vt vf bo bt bf Hb lo h ∧ l.length ≤ a + d ∧ prRun l l.length 0 Pm0 [] = prRun l d a P s
set_option maxRecDepth 20000 in
theorem rpLoop {l : List Int} {r sv : AV} {p4 p6 p7 p10 q : Nat} {Hb h0 : AH} {lo : Nat} (hs : Bs Hb r l) (hby : By l) (hl : l.length ≤ 65536) (N : RpN p4 p6 p7 p10 q Hb lo) (m : Nat) (hm : 70000 ≤ m) (τ : Tm) (hI : RpL l r sv p4 p6 p7 p10 q Hb lo l.length τ h0) :
    ∃ e τ' H', evLoop Try.prog (ev Try.prog m) m (lp Try.prog 86 1018) τ h0 = some (e, τ', H') ∧
      ((e = .exit 2 ∧ (prRun l l.length 0 Pm0 []).2 = 0 ∧ ∃ (a : Nat) (s : List Int) (vo vt vf : AV) (bo bt bf : List Nat), RpT τ' r sv p4 p6 p7 p10 q ∧ RpH l r p4 p6 p7 p10 q a s (prRun l l.length 0 Pm0 []).1 vo vt vf bo bt bf Hb lo H') ∨
       (e = .ret ∧ H'.get p4 = some (.cells 120 false zPm) ∧ Kp Hb H' ∧ τ' 4 = .ptr p4 0 ∧ (prRun l l.length 0 Pm0 []).2 ≠ 0 ∧ τ' 5 = .int .i64 (prRun l l.length 0 Pm0 []).2)) := by
  refine loop_rule (d := l.length) (RpL l r sv p4 p6 p7 p10 q Hb lo) (fun e τ h => (e = .exit 2 ∧ (prRun l l.length 0 Pm0 []).2 = 0 ∧ ∃ (a : Nat) (s : List Int) (vo vt vf : AV) (bo bt bf : List Nat), RpT τ r sv p4 p6 p7 p10 q ∧ RpH l r p4 p6 p7 p10 q a s (prRun l l.length 0 Pm0 []).1 vo vt vf bo bt bf Hb lo h) ∨
       (e = .ret ∧ h.get p4 = some (.cells 120 false zPm) ∧ Kp Hb h ∧ τ 4 = .ptr p4 0 ∧ (prRun l l.length 0 Pm0 []).2 ≠ 0 ∧ τ 5 = .int .i64 (prRun l l.length 0 Pm0 []).2)) ?_ hI (by omega)
  rintro d τ h ⟨a, s, P, vo, vt, vf, bo, bt, bf, T, I, hd, hrun⟩
  have hL := hs.len
  have hsc : h.get q = some (.cells 188 false [r, .int .i64 a, .int .i64 0]) := I.sc
  have la : ldVar Try.prog 3 q 1 h = some (.int .i64 a) := by simp [ldVar, hsc]
  have T0 := T
  obtain ⟨t0, t1, t4, t6, t7, t10, t11⟩ := T
  rw [lp_M Try.func86 1018 (by decide) 10 (by decide) (by kernel_rfl) [8146]]
  by_cases c : a < l.length
  · have c1 := eq_true (show (a : Int) < l.length by omega)
    have c2 := eq_true c
    obtain ⟨d, rfl⟩ : ∃ j, d = j + 1 := ⟨d - 1, by omega⟩
    simp [Try.f86, t0, t11, la, hL, c1, c2]
    generalize hτ : upd _ 55 _ = τ1
    have T1 : RpT τ1 r sv p4 p6 p7 p10 q := by rw [← hτ]; exact ⟨by simp [t0], by simp [t1], by simp [t4], by simp [t6], by simp [t7], by simp [t10], by simp [t11]⟩
    clear hτ
    obtain ⟨e, τ', h', e1, g⟩ := rpStep hs hby hl N I m (by omega) τ1 T1
    rw [e1]
    simp only [prRun] at hrun
    rw [if_neg (by omega)] at hrun
    rcases g with ⟨rfl, g4, gK, gt, cdv, g5, g⟩ | ⟨he, g1, T', g⟩
    · simp
      refine ⟨g4, gK, gt, ?_⟩
      rcases g with ⟨rfl, g⟩ | ⟨rfl, g2, g3, g6⟩
      · rw [if_pos g] at hrun
        rw [hrun]; exact ⟨by simp, g5⟩
      · rw [if_neg (by simp [g2]), if_neg (by simpa using g3), if_pos g6] at hrun
        rw [hrun]; exact ⟨by simp, g5⟩
    · have adv := entry_adv g1
      rw [if_neg (by simp [g1])] at hrun
      have fin : ∃ d', d' < d + 1 ∧ RpL l r sv p4 p6 p7 p10 q Hb lo d' τ' h' := by
        rcases g with ⟨nk, I'⟩ | ⟨kn, nw, vo', vt', vf', bo', bt', bf', I'⟩
        · rw [if_pos nk] at hrun
          exact ⟨d, by omega, _, s, P, vo, vt, vf, bo, bt, bf, T', I', by omega, hrun⟩
        · rw [if_neg (by simpa using kn), if_neg nw] at hrun
          exact ⟨d, by omega, _, _, _, vo', vt', vf', bo', bt', bf', T', I', by omega, hrun⟩
      rcases he with rfl | rfl
      · simpa using fin
      · simpa using fin
  · have c1 := eq_false (show ¬ ((a : Int) < l.length) by omega)
    have c2 := eq_false c
    have hz : prRun l d a P s = (P, 0) := by
      cases d with
      | zero => rfl
      | succ d => simp only [prRun]; rw [if_pos (by omega)]
    rw [hz] at hrun
    simp [Try.f86, t0, t11, la, hL, c1, c2]
    rw [hrun]
    exact ⟨rfl, ⟨by simp [t0], by simp [t1], by simp [t4], by simp [t6], by simp [t7], by simp [t10], by simp [t11]⟩, a, s, vo, vt, vf, bo, bt, bf, I⟩
end Go.Ev

/- Parameters read by the program: the whole function. -/
namespace Go.Ev
open Go Go.Proofs
set_option linter.unusedSimpArgs false
set_option linter.unusedVariables false

theorem ld120 {X : AH} {p : Nat} {ro : Bool} {cs : List AV} (g : X.get p = some (.cells 120 ro cs)) (hl : cs.length = 13) : ldVar Try.prog 120 p 0 X = some (.agg cs) := by
  have : cs.take 13 = cs := List.take_of_length_le (by omega)
  simp [ldVar, g, hl, this]
theorem st120 {X : AH} {p : Nat} {c0 cs : List AV} (g : X.get p = some (.cells 120 false c0)) (h0 : c0.length = 13) (hl : cs.length = 13) (h1 : cs.all AV.one = true) : stVar Try.prog 120 p 0 (.agg cs) X = some (X.set p (.cells 120 false cs)) := by
  have := spl_mid cs [] c0 [] (by omega)
  simp only [List.nil_append, List.append_nil, List.length_nil] at this
  simp only [List.all_eq_true] at h1
  simp [stVar, g, h0, hl, this, List.all_eq_true]
  exact h1
def pmZ : Pm := ⟨[0, 0, 0, 0, 0, 0, 0, 0, 0], false, [], [], []⟩
noncomputable def rdP (l : List Int) (sv : Bool) : Pm × Int :=
  if (prRun l l.length 0 Pm0 []).2 ≠ 0 then (pmZ, (prRun l l.length 0 Pm0 []).2)
  else if prmOK (prRun l l.length 0 Pm0 []).1.F (prRun l l.length 0 Pm0 []).1.o.length (prRun l l.length 0 Pm0 []).1.t.length (prRun l l.length 0 Pm0 []).1.f.length sv then ((prRun l l.length 0 Pm0 []).1, 0) else (pmZ, 11)
structure PmR (P : Pm) (vo vt vf : AV) (bo bt bf : List Nat) (lo : Nat) (h : AH) : Prop where
  hF : P.F.length = 9
  iF : ∀ x ∈ P.F, InK .i64 x
  Ro : (Ty.sl 5 (.int .u8)).R true h [vo] P.o bo
  Rt : (Ty.sl 5 (.int .u8)).R true h [vt] P.t bt
  Rf : (Ty.sl 5 (.int .u8)).R true h [vf] P.f bf
  nd : (bo ++ (bt ++ bf)).Nodup
  lo : ∀ b ∈ bo ++ (bt ++ bf), lo ≤ b
theorem pmZ_R (lo : Nat) (h : AH) : PmR pmZ .nilSlice .nilSlice .nilSlice [] [] [] lo h :=
  ⟨rfl, fun x hx => by simp [pmZ] at hx; subst hx; exact InK.i64 (by omega) (by omega), .inl ⟨rfl, rfl, rfl⟩, .inl ⟨rfl, rfl, rfl⟩, .inl ⟨rfl, rfl, rfl⟩, by simp, by simp⟩
theorem zPm_len : zPm.length = 13 := rfl
theorem zPm_one : zPm.all AV.one = true := rfl
set_option maxRecDepth 20000 in
set_option maxHeartbeats 1000000 in
theorem ReadParamsI_ev {H : AH} {r : AV} {l : List Int} (hs : Bs H r l) (hby : By l) (hl : l.length ≤ 65536) (sv : Bool) (m : Nat) (hm : 70020 ≤ m) :
    ∃ vo vt vf H' bo bt bf, ev Try.prog m 86 [r, .bool sv] H = some (.tuple [.agg (pmC (rdP l sv).1.F (rdP l sv).1.nm vo vt vf), .int .i64 (rdP l sv).2], H') ∧ PmR (rdP l sv).1 vo vt vf bo bt bf H.next H' ∧ Kp H H' := by
  obtain ⟨m, rfl⟩ : ∃ k, m = k + 1 := ⟨m - 1, by omega⟩
  obtain ⟨Z1, hZ1⟩ : ∃ Z : AH, Z = H.push (.cells 120 false zPm) := ⟨_, rfl⟩
  have n1 : Z1.next = H.next + 1 := by rw [hZ1]; simp
  have g1 : Z1.get H.next = some (.cells 120 false zPm) := by rw [hZ1]; simp
  have k1 : Kp H Z1 := by rw [hZ1]; exact (Kp.refl H).push _
  have tl := tooLong_ev hs Z1 m (by omega)
  have tl' : decide (65536 < (l.length : Int)) = false := by simp; omega
  rw [tl'] at tl
  obtain ⟨Z2, hZ2⟩ : ∃ Z : AH, Z = Z1.push (.cells 120 false zPm) := ⟨_, rfl⟩
  have n2 : Z2.next = Z1.next + 1 := by rw [hZ2]; simp
  have g2 : Z2.get Z1.next = some (.cells 120 false zPm) := by rw [hZ2]; simp
  have k2 : Kp Z1 Z2 := by rw [hZ2]; exact (Kp.refl Z1).push _
  obtain ⟨Z3, hZ3⟩ : ∃ Z : AH, Z = Z2.push (.map []) := ⟨_, rfl⟩
  have n3 : Z3.next = Z2.next + 1 := by rw [hZ3]; simp
  have g3 : Z3.get Z2.next = some (.map []) := by rw [hZ3]; simp
  have k3 : Kp Z2 Z3 := by rw [hZ3]; exact (Kp.refl Z2).push _
  obtain ⟨Z4, hZ4⟩ : ∃ Z : AH, Z = Z3.push (.cells 236 false pnC) := ⟨_, rfl⟩
  have n4 : Z4.next = Z3.next + 1 := by rw [hZ4]; simp
  have g4 : Z4.get Z3.next = some (.cells 236 false pnC) := by rw [hZ4]; simp
  have k4 : Kp Z3 Z4 := by rw [hZ4]; exact (Kp.refl Z3).push _
  have pn := paramNumbers_ev Z3 m (by omega)
  rw [← hZ4] at pn
  have lB : ∀ h, lenA Try.prog 232 (.slice Z3.next 0 9) h = some (.int .i64 9) := fun h => by simp [lenA]
  have z1' := hZ1.symm
  have z2' := hZ2.symm
  have z3' := hZ3.symm
  rw [zPm_eq] at z1' z2'
  have x2 : Z4.get Z1.next = some (.cells 120 false (pmC [0, 0, 0, 0, 0, 0, 0, 0, 0] false .nilSlice .nilSlice .nilSlice)) := ((k3.trans k4).get _ (by omega)).trans g2
  have x3 : Z4.get Z2.next = some (.map ((plA Z1.next).take 0)) := (k4.get _ (by omega)).trans g3
  have st2 : stVar Try.prog 120 Z1.next 0 (.agg zPm) Z2 = some Z2 := by
    rw [st120 g2 zPm_len zPm_len zPm_one, hZ2, push_set _ _ rfl]
  rw [zPm_eq] at st2
  rw [ev_M Try.func86 ok86 [63] m _ H (by simp [Try.f86])]
  simp [Try.f86, tm0, z1', tl, z2', z3', pn, lB, fillA, st2]
  generalize hLo : evLoop _ _ _ _ _ _ = R
  obtain ⟨e, τ1, h1, rfl, rfl, k, F, hk, T1, hF, hms, y6, y7, hn1, hb1⟩ := loop_at hLo (plLoop (r := r) (sv := .bool sv) (p4 := H.next) (p6 := Z1.next) (p7 := Z2.next) (p25 := Z3.next) g4 (by omega) (by omega) (by omega) (by omega) (by omega) (by omega) m (by omega) _ Z4 ⟨0, [0, 0, 0, 0, 0, 0, 0, 0, 0], by omega, ⟨by simp, by simp, by simp, by simp, by simp, by simp, by simp, by simp, by simp⟩, rfl, fun j hj hj' h => by omega, x2, x3, by omega, fun b _ _ _ => rfl⟩)
  obtain rfl : k = 9 := by omega
  have hFm : F = Pm0.F := by
    refine List.ext_getElem (by rw [hF]; rfl) fun j h1 h2 => ?_
    have := hms j (by omega) h1 (by omega)
    rw [this]; simp [Pm0]
    try rfl
  subst hFm
  have y7' : h1.get Z2.next = some (.map (plA Z1.next)) := y7
  obtain ⟨t0, t1, t4, t5, t6, t7, _, _, _⟩ := T1
  have y4 : h1.get H.next = some (.cells 120 false zPm) := by rw [hb1 _ (by omega) (by omega) (by omega), ((k2.trans k3).trans k4).get _ (by omega)]; exact g1
  have kh : Kp H h1 := ⟨by omega, fun b hb => by rw [hb1 b (by omega) (by omega) (by omega)]; exact (((k1.trans k2).trans k3).trans k4).get b hb⟩
  obtain ⟨Y1, hY1⟩ : ∃ Z : AH, Z = h1.push (.map []) := ⟨_, rfl⟩
  have m1 : Y1.next = h1.next + 1 := by rw [hY1]; simp
  have j1 : Y1.get h1.next = some (.map []) := by rw [hY1]; simp
  have q1 : Kp h1 Y1 := by rw [hY1]; exact (Kp.refl h1).push _
  obtain ⟨Y2, hY2⟩ : ∃ Z : AH, Z = Y1.push (.cells 188 false [r, .int .i64 0, .int .i64 0]) := ⟨_, rfl⟩
  have m2 : Y2.next = Y1.next + 1 := by rw [hY2]; simp
  have j2 : Y2.get Y1.next = some (scB r 0 0) := by rw [hY2]; simp [scB]
  have q2 : Kp Y1 Y2 := by rw [hY2]; exact (Kp.refl Y1).push _
  have q12 := q1.trans q2
  have w1' := hY1.symm
  have w2' := hY2.symm
  have hro := hs.one
  have N : RpN H.next Z1.next Z2.next h1.next Y1.next H Y2.next := by constructor <;> omega
  have I0 : RpH l r H.next Z1.next Z2.next h1.next Y1.next 0 [] Pm0 .nilSlice .nilSlice .nilSlice [] [] [] H Y2.next Y2 :=
    ⟨j2, by omega, ⟨(q12.get _ (by omega)).trans y6, rfl, fun x hx => by simp [Pm0, pnL] at hx; exact InK.i64 (by omega) (by omega), .inl ⟨rfl, rfl, rfl⟩, .inl ⟨rfl, rfl, rfl⟩, .inl ⟨rfl, rfl, rfl⟩, by simp, by simp, by simp, by omega⟩, (q2.get _ (by omega)).trans j1, (q12.get _ (by omega)).trans y7', (q12.get _ (by omega)).trans y4, kh.trans q12, by omega⟩
  simp
  rw [at_M Try.func86 63 (by decide) 6 (by decide) (by kernel_rfl) [255]]
  simp [Try.f86, t0, w1', w2', hro, cells_one hro, spl, fillA]
  generalize hLo : evLoop _ _ _ _ _ _ = R
  obtain ⟨e, τ2, h2, rfl, g⟩ := loop_at hLo (rpLoop (sv := .bool sv) hs hby hl N m (by omega) _ ⟨0, [], Pm0, .nilSlice, .nilSlice, .nilSlice, [], [], [], ⟨by simp [t0], by simp [t1], by simp [t4], by simp [t6], by simp [t7], by simp, by simp [m1]⟩, I0, by omega, rfl⟩)
  rcases g with ⟨rfl, hz, a, s, vo, vt, vf, bo, bt, bf, T2, I2⟩ | ⟨rfl, y4', ky, u4, hnz, y5⟩
  · simp
    obtain ⟨u0, u1, u4, u6, u7, u10, u11⟩ := T2
    obtain ⟨c1, c2, X, c3, c4, c5, c6, c7⟩ := I2
    have LO := X.Ro.lenA (P := Try.prog) (T := 34) (by simp)
    have LT := X.Rt.lenA (P := Try.prog) (T := 34) (by simp)
    have LF := X.Rf.lenA (P := Try.prog) (T := 34) (by simp)
    have oo := X.Ro.sl_one
    have ot := X.Rt.sl_one
    have of_ := X.Rf.sl_one
    obtain ⟨H3, d1, d2⟩ := ParamsOKI_ev (nm := (prRun l l.length 0 Pm0 []).1.nm) X.hF LO LT LF oo ot of_ sv h2 m (by omega)
    have e : rdP l sv = if prmOK (prRun l l.length 0 Pm0 []).1.F (prRun l l.length 0 Pm0 []).1.o.length (prRun l l.length 0 Pm0 []).1.t.length (prRun l l.length 0 Pm0 []).1.f.length sv then ((prRun l l.length 0 Pm0 []).1, 0) else (pmZ, 11) := by
      unfold rdP; rw [if_neg (by simp [hz])]
    rw [e]
    generalize (prRun l l.length 0 Pm0 []).1 = P at *
    have len := (pmC_rest P.F X.hF P.nm vo vt vf).2.2.2.2
    have one := pmC_one (F := P.F) (nm := P.nm) oo ot of_
    have l6 := ld120 X.g6 len
    have n6 := X.n6
    have g6' := (d2.get Z1.next n6).trans X.g6
    have l6' := ld120 g6' len
    have n4' : H.next < h2.next := by have := c6.next; omega
    have g4' := (d2.get H.next n4').trans c5
    have hxl := X.lo
    have s4 := st120 g4' zPm_len len one
    have s4z := st120 g4' zPm_len zPm_len zPm_one
    have d2n := d2.next
    have fin : ∀ y : Blk, Kp H (H3.set H.next y) := fun y => ⟨by simp; omega, fun b hb => by rw [AH.set_getN _ _ (by omega), d2.get b (by omega)]; exact c6.get b hb⟩
    rw [at_M Try.func86 255 (by decide) 8 (by decide) (by kernel_rfl) []]
    by_cases ok : prmOK P.F P.o.length P.t.length P.f.length sv
    · rw [if_pos ok]
      rw [decide_eq_true ok] at d1
      have lr := ld120 (X := H3.set H.next (.cells 120 false (pmC P.F P.nm vo vt vf))) (p := H.next) (AH.set_getS _ _ _) len
      refine ⟨vo, vt, vf, H3.set H.next (.cells 120 false (pmC P.F P.nm vo vt vf)), by simp [Try.f86, u1, u4, u6, l6, d1, l6', s4, lr], ⟨bo, bt, bf, ⟨X.hF, X.iF, ?_, ?_, ?_, X.nd, fun b hb => by have := X.lo b hb; omega⟩⟩, fin _⟩
      · exact (X.Ro.kp d2).stay (by simp) fun b hb => AH.set_getN _ _ (by have := hxl b (by simp [hb]); omega)
      · exact (X.Rt.kp d2).stay (by simp) fun b hb => AH.set_getN _ _ (by have := hxl b (by simp [hb]); omega)
      · exact (X.Rf.kp d2).stay (by simp) fun b hb => AH.set_getN _ _ (by have := hxl b (by simp [hb]); omega)
    · rw [if_neg ok]
      rw [decide_eq_false ok] at d1
      have lr := ld120 (X := H3.set H.next (.cells 120 false zPm)) (p := H.next) (AH.set_getS _ _ _) zPm_len
      rw [zPm_eq] at s4z lr
      refine ⟨.nilSlice, .nilSlice, .nilSlice, H3.set H.next (.cells 120 false zPm), ?_, ⟨[], [], [], pmZ_R _ _⟩, fin _⟩
      simp [Try.f86, u1, u4, u6, l6, d1, s4z, lr, fillA]
      simp [pmZ, pmC, zPm_eq]
  · have e : rdP l sv = (pmZ, (prRun l l.length 0 Pm0 []).2) := by unfold rdP; rw [if_pos hnz]
    rw [e]
    have lr := ld120 y4' zPm_len
    rw [zPm_eq] at lr
    refine ⟨.nilSlice, .nilSlice, .nilSlice, h2, ?_, ⟨[], [], [], pmZ_R _ _⟩, ky⟩
    simp [u4, y5, lr]
    simp [pmZ, pmC]
end Go.Ev

/- Parameters in the reference: whether they can be. -/
namespace Go.Ev
open Go Go.Proofs
set_option linter.unusedSimpArgs false
set_option linter.unusedVariables false

theorem time_ev (v : Int) (H : AH) (m : Nat) (hm : 1 ≤ m) : ev Try.prog m 192 [.int .i64 v] H = some (.bool (decide (0 ≤ v ∧ v ≤ 1000000000000)), H) := by
  obtain ⟨m, rfl⟩ : ∃ k, m = k + 1 := ⟨m - 1, by omega⟩
  rw [ev_M Try.func192 ok192 [] m _ H (by simp [Try.f192])]
  by_cases h0 : 0 ≤ v
  · by_cases h1 : v ≤ 1000000000000 <;> simp [Try.f192, tm0, h0, h1]
  · simp [Try.f192, tm0, h0]
theorem known_ev (n : Int) (h0 : 0 ≤ n) (H : AH) (m : Nat) (hm : 1 ≤ m) : ev Try.prog m 236 [.int .i64 n] H = some (.bool (decide (knP n)), H) := by
  obtain ⟨m, rfl⟩ : ∃ k, m = k + 1 := ⟨m - 1, by omega⟩
  have key : knP n ↔ (n ≤ 5 ∨ n = 8 ∨ n = 9 ∨ n = 11 ∨ n = 12 ∨ n = 14 ∨ n = 15 ∨ n = 32) := by
    unfold knP knI
    constructor
    · intro h
      rcases h with h | h
      · repeat' split at h
        all_goals first | omega | (simp at h)
      · omega
    · intro h
      by_cases h1 : n = 0
      · exact .inr (.inl h1)
      by_cases h2 : n = 2
      · exact .inr (.inr (.inl h2))
      by_cases h3 : n = 12
      · exact .inr (.inr (.inr (.inl h3)))
      by_cases h4 : n = 15
      · exact .inr (.inr (.inr (.inr h4)))
      refine .inl ?_
      have : n = 1 ∨ n = 3 ∨ n = 4 ∨ n = 5 ∨ n = 8 ∨ n = 9 ∨ n = 11 ∨ n = 14 ∨ n = 32 := by omega
      rcases this with rfl | rfl | rfl | rfl | rfl | rfl | rfl | rfl | rfl <;> rfl
  rw [ev_M Try.func236 ok236 [] m _ H (by simp [Try.f236])]
  have f : ∀ x : Int, n ≠ x → (n == x) = false := fun x h => by simpa using h
  by_cases c5 : n ≤ 5
  · have : knP n := key.2 (.inl c5)
    simp [Try.f236, U, tm0, h0, c5, this]
  by_cases d1 : n = 8
  · subst d1; simp [Try.f236, U, tm0, show knP 8 from key.2 (by omega)]
  by_cases d2 : n = 9
  · subst d2; simp [Try.f236, U, tm0, show knP 9 from key.2 (by omega)]
  by_cases d3 : n = 11
  · subst d3; simp [Try.f236, U, tm0, show knP 11 from key.2 (by omega)]
  by_cases d4 : n = 12
  · subst d4; simp [Try.f236, U, tm0, show knP 12 from key.2 (by omega)]
  by_cases d5 : n = 14
  · subst d5; simp [Try.f236, U, tm0, show knP 14 from key.2 (by omega)]
  by_cases d6 : n = 15
  · subst d6; simp [Try.f236, U, tm0, show knP 15 from key.2 (by omega)]
  by_cases d7 : n = 32
  · subst d7; simp [Try.f236, U, tm0, show knP 32 from key.2 (by omega)]
  have nk : ¬ knP n := fun h => by have := key.1 h; omega
  simp [Try.f236, U, tm0, h0, c5, f _ d1, f _ d2, f _ d3, f _ d4, f _ d5, f _ d6, f _ d7, nk]
end Go.Ev

/- Parameters in the reference: whether they can be, whole. -/
namespace Go.Ev
open Go Go.Proofs
set_option linter.unusedSimpArgs false
set_option linter.unusedVariables false

section
variable {f0 f1 f2 f3 f4 f5 f6 f7 f8 : Int} {p : Nat} {h : AH} {m : Nat} {call : CallF} {τ : Tm}
set_option maxRecDepth 20000 in
theorem psW (l2 : ldVar Try.prog 3 p 2 h = some (.int .i64 f2)) (l3 : ldVar Try.prog 3 p 3 h = some (.int .i64 f3)) (t2 : τ 2 = .ptr p 0)  :
    ∃ τ', evAt Try.prog call m 183 7 τ h = evAt Try.prog call m 183 15 τ' h ∧ τ' 2 = .ptr p 0 ∧ τ' 5 = .bool (decide (1 ≤ f2 ∧ f2 ≤ 16384 ∧ 1 ≤ f3 ∧ f3 ≤ 16384)) := by
  rw [at_M Try.func183 7 (by decide) 3 (by decide) (by kernel_rfl) [15]]
  by_cases c0 : 1 ≤ f2
  · have d0 := eq_true c0
    by_cases c1 : f2 ≤ 16384
    · have d1 := eq_true c1
      by_cases c2 : 1 ≤ f3
      · have d2 := eq_true c2
        by_cases c3 : f3 ≤ 16384
        · have d3 := eq_true c3
          exact ⟨_, by simp [Try.f183, U, t2, l2, l3, d0, d1, d2, d3]; rfl, by simp [t2], by simp [d0, d1, d2, d3]⟩
        · have d3 := eq_false c3
          exact ⟨_, by simp [Try.f183, U, t2, l2, l3, d0, d1, d2, d3]; rfl, by simp [t2], by simp [d0, d1, d2, d3]⟩
      · have d2 := eq_false c2
        exact ⟨_, by simp [Try.f183, U, t2, l2, l3, d0, d1, d2]; rfl, by simp [t2], by simp [d0, d1, d2]⟩
    · have d1 := eq_false c1
      exact ⟨_, by simp [Try.f183, U, t2, l2, l3, d0, d1]; rfl, by simp [t2], by simp [d0, d1]⟩
  · have d0 := eq_false c0
    exact ⟨_, by simp [Try.f183, U, t2, l2, l3, d0]; rfl, by simp [t2], by simp [d0]⟩
set_option maxRecDepth 20000 in
theorem psS (l4 : ldVar Try.prog 3 p 4 h = some (.int .i64 f4)) (l5 : ldVar Try.prog 3 p 5 h = some (.int .i64 f5)) (t2 : τ 2 = .ptr p 0) {k5 : AV} (u5 : τ 5 = k5) :
    ∃ τ', evAt Try.prog call m 183 15 τ h = evAt Try.prog call m 183 31 τ' h ∧ τ' 2 = .ptr p 0 ∧ τ' 6 = .bool (decide (0 ≤ f4 ∧ f4 ≤ 64 ∧ 0 ≤ f5 ∧ f5 ≤ 64)) ∧ τ' 5 = k5 := by
  rw [at_M Try.func183 15 (by decide) 4 (by decide) (by kernel_rfl) [31]]
  by_cases c0 : 0 ≤ f4
  · have d0 := eq_true c0
    by_cases c1 : f4 ≤ 64
    · have d1 := eq_true c1
      by_cases c2 : 0 ≤ f5
      · have d2 := eq_true c2
        by_cases c3 : f5 ≤ 64
        · have d3 := eq_true c3
          exact ⟨_, by simp [Try.f183, U, t2, l4, l5, d0, d1, d2, d3]; rfl, by simp [t2], by simp [d0, d1, d2, d3], by simp [u5]⟩
        · have d3 := eq_false c3
          exact ⟨_, by simp [Try.f183, U, t2, l4, l5, d0, d1, d2, d3]; rfl, by simp [t2], by simp [d0, d1, d2, d3], by simp [u5]⟩
      · have d2 := eq_false c2
        exact ⟨_, by simp [Try.f183, U, t2, l4, l5, d0, d1, d2]; rfl, by simp [t2], by simp [d0, d1, d2], by simp [u5]⟩
    · have d1 := eq_false c1
      exact ⟨_, by simp [Try.f183, U, t2, l4, l5, d0, d1]; rfl, by simp [t2], by simp [d0, d1], by simp [u5]⟩
  · have d0 := eq_false c0
    exact ⟨_, by simp [Try.f183, U, t2, l4, l5, d0]; rfl, by simp [t2], by simp [d0], by simp [u5]⟩
set_option maxRecDepth 20000 in
theorem psZ (l1 : ldVar Try.prog 3 p 1 h = some (.int .i64 f1)) (l8 : ldVar Try.prog 3 p 8 h = some (.int .i64 f8)) (t2 : τ 2 = .ptr p 0) {k5 : AV} (u5 : τ 5 = k5) {k6 : AV} (u6 : τ 6 = k6) :
    ∃ τ', evAt Try.prog call m 183 31 τ h = evAt Try.prog call m 183 63 τ' h ∧ τ' 2 = .ptr p 0 ∧ τ' 7 = .bool (decide (1200 ≤ f1 ∧ f1 ≤ 2000 ∧ 0 ≤ f8 ∧ f8 ≤ 1500)) ∧ τ' 5 = k5 ∧ τ' 6 = k6 := by
  rw [at_M Try.func183 31 (by decide) 5 (by decide) (by kernel_rfl) [63]]
  by_cases c0 : 1200 ≤ f1
  · have d0 := eq_true c0
    by_cases c1 : f1 ≤ 2000
    · have d1 := eq_true c1
      by_cases c2 : 0 ≤ f8
      · have d2 := eq_true c2
        by_cases c3 : f8 ≤ 1500
        · have d3 := eq_true c3
          exact ⟨_, by simp [Try.f183, U, t2, l1, l8, d0, d1, d2, d3]; rfl, by simp [t2], by simp [d0, d1, d2, d3], by simp [u5], by simp [u6]⟩
        · have d3 := eq_false c3
          exact ⟨_, by simp [Try.f183, U, t2, l1, l8, d0, d1, d2, d3]; rfl, by simp [t2], by simp [d0, d1, d2, d3], by simp [u5], by simp [u6]⟩
      · have d2 := eq_false c2
        exact ⟨_, by simp [Try.f183, U, t2, l1, l8, d0, d1, d2]; rfl, by simp [t2], by simp [d0, d1, d2], by simp [u5], by simp [u6]⟩
    · have d1 := eq_false c1
      exact ⟨_, by simp [Try.f183, U, t2, l1, l8, d0, d1]; rfl, by simp [t2], by simp [d0, d1], by simp [u5], by simp [u6]⟩
  · have d0 := eq_false c0
    exact ⟨_, by simp [Try.f183, U, t2, l1, l8, d0]; rfl, by simp [t2], by simp [d0], by simp [u5], by simp [u6]⟩
set_option maxRecDepth 20000 in
theorem psL {b5 b6 b7 : Bool} (l0 : ldVar Try.prog 3 p 0 h = some (.int .i64 f0)) (l6 : ldVar Try.prog 3 p 6 h = some (.int .i64 f6)) (l7 : ldVar Try.prog 3 p 7 h = some (.int .i64 f7)) (t2 : τ 2 = .ptr p 0) (u5 : τ 5 = .bool b5) (u6 : τ 6 = .bool b6) (u7 : τ 7 = .bool b7) (hc : call 192 [.int .i64 f0] h = some (.bool (decide (0 ≤ f0 ∧ f0 ≤ 1000000000000)), h)) :
    ∃ τ', evAt Try.prog call m 183 63 τ h = some (.ret, τ', h) ∧ τ' 4 = .bool (decide ((b5 = true ∧ b6 = true ∧ b7 = true) ∧ (0 ≤ f0 ∧ f0 ≤ 1000000000000) ∧ 0 ≤ f6 ∧ f6 ≤ 1000000 ∧ 2 ≤ f7 ∧ f7 ≤ 16)) := by
  rw [at_M Try.func183 63 (by decide) 6 (by decide) (by kernel_rfl) []]
  cases b5
  · exact ⟨_, by simp [Try.f183, U, t2, u5, u6, u7, l0, l6, l7]; rfl, by simp⟩
  cases b6
  · exact ⟨_, by simp [Try.f183, U, t2, u5, u6, u7, l0, l6, l7]; rfl, by simp⟩
  cases b7
  · exact ⟨_, by simp [Try.f183, U, t2, u5, u6, u7, l0, l6, l7]; rfl, by simp⟩
  by_cases c0 : 0 ≤ f0
  · have d0 := eq_true c0
    by_cases c1 : f0 ≤ 1000000000000
    · have d1 := eq_true c1
      by_cases c2 : 0 ≤ f6
      · have d2 := eq_true c2
        by_cases c3 : f6 ≤ 1000000
        · have d3 := eq_true c3
          by_cases c4 : 2 ≤ f7
          · have d4 := eq_true c4
            by_cases c5 : f7 ≤ 16
            · have d5 := eq_true c5
              exact ⟨_, by simp [Try.f183, U, t2, u5, u6, u7, l0, l6, l7, hc, d0, d1, d2, d3, d4, d5]; rfl, by simp [d0, d1, d2, d3, d4, d5]⟩
            · have d5 := eq_false c5
              exact ⟨_, by simp [Try.f183, U, t2, u5, u6, u7, l0, l6, l7, hc, d0, d1, d2, d3, d4, d5]; rfl, by simp [d0, d1, d2, d3, d4, d5]⟩
          · have d4 := eq_false c4
            exact ⟨_, by simp [Try.f183, U, t2, u5, u6, u7, l0, l6, l7, hc, d0, d1, d2, d3, d4]; rfl, by simp [d0, d1, d2, d3, d4]⟩
        · have d3 := eq_false c3
          exact ⟨_, by simp [Try.f183, U, t2, u5, u6, u7, l0, l6, l7, hc, d0, d1, d2, d3]; rfl, by simp [d0, d1, d2, d3]⟩
      · have d2 := eq_false c2
        exact ⟨_, by simp [Try.f183, U, t2, u5, u6, u7, l0, l6, l7, hc, d0, d1, d2]; rfl, by simp [d0, d1, d2]⟩
    · have d1 := eq_false c1
      exact ⟨_, by simp [Try.f183, U, t2, u5, u6, u7, l0, l6, l7, hc, d0, d1]; rfl, by simp [d0, d1]⟩
  · have d0 := eq_false c0
    exact ⟨_, by simp [Try.f183, U, t2, u5, u6, u7, l0, l6, l7, hc, d0]; rfl, by simp [d0]⟩
end
end Go.Ev

/- Parameters in the reference: whether they can be, joined. -/
namespace Go.Ev
open Go Go.Proofs
set_option linter.unusedSimpArgs false
set_option linter.unusedVariables false

theorem nine {F : List Int} (h : F.length = 9) : ∃ f0 f1 f2 f3 f4 f5 f6 f7 f8, F = [f0, f1, f2, f3, f4, f5, f6, f7, f8] := by
  match F, h with
  | [f0, f1, f2, f3, f4, f5, f6, f7, f8], _ => exact ⟨f0, f1, f2, f3, f4, f5, f6, f7, f8, rfl⟩
def prB (o t f : Nat) (sv : Bool) : Prop := (sv = false ∧ (0 < o ∨ 0 < t)) ∨ 8 < o ∨ 8 < f ∨ (t ≠ 0 ∧ t ≠ 8)
theorem prm_iff (f0 f1 f2 f3 f4 f5 f6 f7 f8 : Int) (o t f : Nat) (sv : Bool) : prmOK [f0, f1, f2, f3, f4, f5, f6, f7, f8] o t f sv ↔ ¬ prB o t f sv ∧ ((1 ≤ f2 ∧ f2 ≤ 16384 ∧ 1 ≤ f3 ∧ f3 ≤ 16384) ∧ (0 ≤ f4 ∧ f4 ≤ 64 ∧ 0 ≤ f5 ∧ f5 ≤ 64) ∧ (1200 ≤ f1 ∧ f1 ≤ 2000 ∧ 0 ≤ f8 ∧ f8 ≤ 1500)) ∧ (0 ≤ f0 ∧ f0 ≤ 1000000000000) ∧ 0 ≤ f6 ∧ f6 ≤ 1000000 ∧ 2 ≤ f7 ∧ f7 ≤ 16 := by
  unfold prmOK prB
  constructor
  · rintro ⟨h1, h2, h3⟩
    have g0 := h1 0 (by omega) (by simp); have g1 := h1 1 (by omega) (by simp); have g2 := h1 2 (by omega) (by simp); have g3 := h1 3 (by omega) (by simp); have g4 := h1 4 (by omega) (by simp)
    have g5 := h1 5 (by omega) (by simp); have g6 := h1 6 (by omega) (by simp); have g7 := h1 7 (by omega) (by simp); have g8 := h1 8 (by omega) (by simp)
    simp [pnL] at g0 g1 g2 g3 g4 g5 g6 g7 g8
    refine ⟨?_, ⟨⟨g2.1, g2.2, g3.1, g3.2⟩, ⟨g4.1, g4.2, g5.1, g5.2⟩, ⟨g1.1, g1.2, g8.1, g8.2⟩⟩, g0, g6.1, g6.2, g7.1, g7.2⟩
    rintro (⟨h, h'⟩ | h | h | h)
    · rcases h3 with h3 | h3
      · rw [h3] at h; simp at h
      · omega
    · omega
    · omega
    · omega
  · rintro ⟨h, ⟨⟨a1, a2, a3, a4⟩, ⟨b1, b2, b3, b4⟩, ⟨c1, c2, c3, c4⟩⟩, ⟨d1, d2⟩, e1, e2, e3, e4⟩
    rw [not_or, not_or, not_or] at h
    obtain ⟨q1, q2, q3, q4⟩ := h
    refine ⟨?_, ⟨by omega, by omega, by omega⟩, ?_⟩
    · intro k hk hk'
      rcases k with _ | _ | _ | _ | _ | _ | _ | _ | _ | k
      all_goals first | omega | (simp [pnL]; omega)
    · cases sv
      · exact .inr ⟨by false_or_by_contra; exact q1 ⟨rfl, .inl (by omega)⟩, by false_or_by_contra; exact q1 ⟨rfl, .inr (by omega)⟩⟩
      · exact .inl rfl
noncomputable instance (o t f : Nat) (sv : Bool) : Decidable (prB o t f sv) := Classical.propDecidable _
set_option maxRecDepth 20000 in
theorem ParamsOKS_ev {F : List Int} (hF : F.length = 9) {nm : Bool} {a b c : AV} {la lb lc : Nat} (ha : ∀ h, lenA Try.prog 34 a h = some (.int .i64 la)) (hb : ∀ h, lenA Try.prog 34 b h = some (.int .i64 lb)) (hc : ∀ h, lenA Try.prog 34 c h = some (.int .i64 lc)) (oa : a.one = true) (ob : b.one = true) (oc : c.one = true) (sv : Bool) (H : AH) (m : Nat) (hm : 30 ≤ m) :
    ∃ H', ev Try.prog m 183 [.agg (pmC F nm a b c), .bool sv] H = some (.bool (decide (prmOK F la lb lc sv)), H') ∧ Kp H H' := by
  obtain ⟨m, rfl⟩ : ∃ k, m = k + 1 := ⟨m - 1, by omega⟩
  have hone := pmC_one (F := F) (nm := nm) oa ob oc
  let A : AH := H.push (.cells 120 false (pmC F nm a b c))
  have hA : H.push (.cells 120 false (pmC F nm a b c)) = A := rfl
  have KA : Kp H A := (Kp.refl H).push _
  have nA : A.next = H.next + 1 := by simp [A]
  have gA : A.get H.next = some (.cells 120 false (pmC F nm a b c)) := by simp [A]
  clear_value A
  obtain ⟨r9, r10, r11, r12, rl⟩ := pmC_rest F hF nm a b c
  have l10 : ldVar Try.prog 34 H.next 10 A = some a := by unfold ldVar; rw [gA]; simp [r10]
  have l11 : ldVar Try.prog 34 H.next 11 A = some b := by unfold ldVar; rw [gA]; simp [r11]
  have l12 : ldVar Try.prog 34 H.next 12 A = some c := by unfold ldVar; rw [gA]; simp [r12]
  have ln : ∀ k (hk : k < 9), ldVar Try.prog 3 H.next k A = some (.int .i64 (F[k]'(by omega))) := fun k hk => by unfold ldVar; rw [gA]; simp [pmC_num F hF nm a b c k hk]
  have head : (prB la lb lc sv ∧ ev Try.prog (m + 1) 183 [.agg (pmC F nm a b c), .bool sv] H = some (.bool false, A)) ∨ (¬ prB la lb lc sv ∧ ∃ τ, ev Try.prog (m + 1) 183 [.agg (pmC F nm a b c), .bool sv] H = resM Try.prog [ResultVar.tmp 4] (evAt Try.prog (ev Try.prog m) m 183 7 τ A) ∧ τ 2 = .ptr H.next 0) := by
    rw [ev_M Try.func183 ok183 [7] m _ H (by simp [Try.f183])]
    cases sv with
    | true =>
      by_cases c4 : 8 < la
      · have d4 := eq_true (show ((8 : Int) < la) by omega)
        have e4 := eq_true (show (8 < la) by omega)
        refine .inl ⟨.inr (.inl c4), ?_⟩
        simp [Try.f183, U, tm0, hone, hA, l10, l11, l12, ha, hb, hc, d4, e4]
      have d4 := eq_false (show ¬ ((8 : Int) < la) by omega)
      have e4 := eq_false (show ¬ (8 < la) by omega)
      by_cases c5 : 8 < lc
      · have d5 := eq_true (show ((8 : Int) < lc) by omega)
        have e5 := eq_true (show (8 < lc) by omega)
        refine .inl ⟨.inr (.inr (.inl c5)), ?_⟩
        simp [Try.f183, U, tm0, hone, hA, l10, l11, l12, ha, hb, hc, d4, e4, d5, e5]
      have d5 := eq_false (show ¬ ((8 : Int) < lc) by omega)
      have e5 := eq_false (show ¬ (8 < lc) by omega)
      by_cases c6 : lb = 0
      · subst c6
        refine .inr ⟨by unfold prB; simp; omega, ?_⟩
        exact ⟨_, by simp [Try.f183, U, tm0, hone, hA, l10, l11, l12, ha, hb, hc, d4, e4, d5, e5]; rfl, by simp⟩
      have d6 := eq_false (show ¬ ((lb : Int) = 0) by omega)
      have e6 := eq_false (show ¬ (lb = 0) by omega)
      have b6 : ((lb : Int) != 0) = true := by simp [e6]
      by_cases c7 : lb = 8
      · subst c7
        refine .inr ⟨by unfold prB; simp; omega, ?_⟩
        exact ⟨_, by simp [Try.f183, U, tm0, hone, hA, l10, l11, l12, ha, hb, hc, d4, e4, d5, e5]; rfl, by simp⟩
      have d7 := eq_false (show ¬ ((lb : Int) = 8) by omega)
      have e7 := eq_false (show ¬ (lb = 8) by omega)
      have b7 : ((lb : Int) != 8) = true := by simp; omega
      refine .inl ⟨.inr (.inr (.inr ⟨c6, c7⟩)), ?_⟩
      simp [Try.f183, U, tm0, hone, hA, l10, l11, l12, ha, hb, hc, d4, e4, d5, e5, b6, b7]
    | false =>
      by_cases c2 : 0 < la
      · have d2 := eq_true (show ((0 : Int) < la) by omega)
        have e2 := eq_true (show (0 < la) by omega)
        refine .inl ⟨.inl ⟨rfl, .inl c2⟩, ?_⟩
        simp [Try.f183, U, tm0, hone, hA, l10, l11, l12, ha, hb, hc, d2, e2]
      obtain rfl : la = 0 := by omega
      by_cases c3 : 0 < lb
      · have d3 := eq_true (show ((0 : Int) < lb) by omega)
        have e3 := eq_true (show (0 < lb) by omega)
        refine .inl ⟨.inl ⟨rfl, .inr c3⟩, ?_⟩
        simp [Try.f183, U, tm0, hone, hA, l10, l11, l12, ha, hb, hc, d3, e3]
      obtain rfl : lb = 0 := by omega
      by_cases c5 : 8 < lc
      · have d5 := eq_true (show ((8 : Int) < lc) by omega)
        have e5 := eq_true (show (8 < lc) by omega)
        refine .inl ⟨.inr (.inr (.inl c5)), ?_⟩
        simp [Try.f183, U, tm0, hone, hA, l10, l11, l12, ha, hb, hc, d5, e5]
      have d5 := eq_false (show ¬ ((8 : Int) < lc) by omega)
      have e5 := eq_false (show ¬ (8 < lc) by omega)
      refine .inr ⟨by unfold prB; simp; omega, ?_⟩
      exact ⟨_, by simp [Try.f183, U, tm0, hone, hA, l10, l11, l12, ha, hb, hc, d5, e5]; rfl, by simp⟩
  obtain ⟨f0, f1, f2, f3, f4, f5, f6, f7, f8, rfl⟩ := nine hF
  rcases head with ⟨hp, he⟩ | ⟨hp, τ, he, t2⟩
  · rw [he]
    refine ⟨A, ?_, KA⟩
    have := mt (prm_iff f0 f1 f2 f3 f4 f5 f6 f7 f8 la lb lc sv).1 (fun h => h.1 hp)
    simp [this]
  · obtain ⟨τ1, q1, t21, v51⟩ := psW (h := A) (m := m) (call := ev Try.prog m) (by simpa using ln 2 (by omega)) (by simpa using ln 3 (by omega)) t2
    obtain ⟨τ2, q2, t22, v62, v52⟩ := psS (h := A) (m := m) (call := ev Try.prog m) (by simpa using ln 4 (by omega)) (by simpa using ln 5 (by omega)) t21 v51
    obtain ⟨τ3, q3, t23, v73, v53, v63⟩ := psZ (h := A) (m := m) (call := ev Try.prog m) (by simpa using ln 1 (by omega)) (by simpa using ln 8 (by omega)) t22 v52 v62
    obtain ⟨τ4, q4, v44⟩ := psL (h := A) (m := m) (call := ev Try.prog m) (by simpa using ln 0 (by omega)) (by simpa using ln 6 (by omega)) (by simpa using ln 7 (by omega)) t23 v53 v63 v73 (time_ev f0 A m (by omega))
    rw [he, q1, q2, q3, q4]
    refine ⟨A, ?_, KA⟩
    simp only [prm_iff]
    simp [resM, v44, hp]
end Go.Ev

/- Parameters in the reference: an entry put. -/
namespace Go.Ev
open Go Go.Proofs
set_option linter.unusedSimpArgs false
set_option linter.unusedVariables false

set_option maxRecDepth 20000 in
theorem lpN {p6 k : Nat} {n v : Int} {h h' : AH} {m : Nat} {call : CallF} {τ : Tm} (hk : knI n = some k) (t0 : τ 0 = .ptr p6 0) (t1 : τ 1 = .int .i64 n) (t7 : τ 7 = .int .i64 v) (st : stVar Try.prog 3 p6 k (.int .i64 v) h = some h') :
    ∃ τ', evAt Try.prog call m 237 31 τ h = some (.ret, τ', h') ∧ τ' 6 = .bool true := by
  have f : ∀ x : Int, n ≠ x → (n == x) = false := fun x h => by simpa using h
  rw [at_M Try.func237 31 (by decide) 5 (by decide) (by kernel_rfl) []]
  by_cases c1 : n = 1
  · subst c1
    obtain rfl : k = 0 := by simpa [knI] using hk.symm
    exact ⟨_, by simp [Try.f237, U, t0, t1, t7, st]; rfl, by simp⟩
  by_cases c3 : n = 3
  · subst c3
    obtain rfl : k = 1 := by simpa [knI] using hk.symm
    exact ⟨_, by simp [Try.f237, U, t0, t1, t7, st]; rfl, by simp⟩
  by_cases c4 : n = 4
  · subst c4
    obtain rfl : k = 2 := by simpa [knI] using hk.symm
    exact ⟨_, by simp [Try.f237, U, t0, t1, t7, st]; rfl, by simp⟩
  by_cases c5 : n = 5
  · subst c5
    obtain rfl : k = 3 := by simpa [knI] using hk.symm
    exact ⟨_, by simp [Try.f237, U, t0, t1, t7, st]; rfl, by simp⟩
  by_cases c8 : n = 8
  · subst c8
    obtain rfl : k = 4 := by simpa [knI] using hk.symm
    exact ⟨_, by simp [Try.f237, U, t0, t1, t7, st]; rfl, by simp⟩
  by_cases c9 : n = 9
  · subst c9
    obtain rfl : k = 5 := by simpa [knI] using hk.symm
    exact ⟨_, by simp [Try.f237, U, t0, t1, t7, st]; rfl, by simp⟩
  by_cases c11 : n = 11
  · subst c11
    obtain rfl : k = 6 := by simpa [knI] using hk.symm
    exact ⟨_, by simp [Try.f237, U, t0, t1, t7, st]; rfl, by simp⟩
  by_cases c14 : n = 14
  · subst c14
    obtain rfl : k = 7 := by simpa [knI] using hk.symm
    exact ⟨_, by simp [Try.f237, U, t0, t1, t7, st]; rfl, by simp⟩
  obtain rfl : k = 8 := by
    simp [knI, c1, c3, c4, c5, c8, c9, c11, c14] at hk
    exact hk.2.symm
  exact ⟨_, by simp [Try.f237, U, t0, t1, t7, st, f _ c1, f _ c3, f _ c4, f _ c5, f _ c8, f _ c9, f _ c11, f _ c14]; rfl, by simp⟩
set_option maxRecDepth 20000 in
theorem l12Put_ev {P : Pm} {vo vt vf : AV} {bo bt bf bn : List Nat} {p6 lo : Nat} {h : AH} (X : PrP P vo vt vf bo bt bf p6 lo h) {v : AV} {val : List Int} (Rn : (Ty.sl 5 (.int .u8)).R true h [v] val bn) (ndn : bn.Nodup) (lon : ∀ b ∈ bn, lo ≤ b) (dn : ∀ b ∈ bn, b ∉ bo ++ (bt ++ bf)) (npn : p6 ∉ bn) (hs : Bs h v val) (hby : By val) (hl : val.length ≤ 65536) (n : Int) (hk : knP n) (m : Nat) (hm : 30 ≤ m) :
    ∃ h', ev Try.prog m 237 [.ptr p6 0, .int .i64 n, v] h = some (.bool (!(putP P n val).2), h') ∧ h'.next = h.next ∧ (∀ b, b ≠ p6 → h'.get b = h.get b) ∧ ((putP P n val).2 = false → ∃ vo' vt' vf' bo' bt' bf', PrP (putP P n val).1 vo' vt' vf' bo' bt' bf' p6 lo h') := by
  obtain ⟨m, rfl⟩ : ∃ k, m = k + 1 := ⟨m - 1, by omega⟩
  have hL := hs.len
  have hm' := X.mem
  obtain ⟨g6, hF, iF, Ro, Rt, Rf, nd, hlo', np, n6⟩ := X
  obtain ⟨r9, r10, r11, r12, rl⟩ := pmC_rest P.F hF P.nm vo vt vf
  have ov := Rn.sl_one
  have no : p6 ∉ bo := fun hx => np (by simp [hx])
  have nt : p6 ∉ bt := fun hx => np (by simp [hx])
  have nf : p6 ∉ bf := fun hx => np (by simp [hx])
  have dn1 : ∀ b ∈ bn, b ∉ bo := fun b hb hx => dn b hb (by simp [hx])
  have dn2 : ∀ b ∈ bn, b ∉ bt := fun b hb hx => dn b hb (by simp [hx])
  have dn3 : ∀ b ∈ bn, b ∉ bf := fun b hb hx => dn b hb (by simp [hx])
  have lo1 : ∀ b ∈ bo, lo ≤ b := fun b hb => hlo' b (by simp [hb])
  have lo2 : ∀ b ∈ bt, lo ≤ b := fun b hb => hlo' b (by simp [hb])
  have lo3 : ∀ b ∈ bf, lo ≤ b := fun b hb => hlo' b (by simp [hb])
  have keep : ∀ (t : Ty) (c : List AV) (d : t.D) (bs : List Nat) (y : Blk), t.R true h c d bs → p6 ∉ bs → t.R true (h.set p6 y) c d bs := fun t c d bs y hR hp => hR.stay (by simp) fun b hb => AH.set_getN _ _ (fun e => hp (by rw [← e]; exact hb))
  have nd0 := nd
  simp only [List.nodup_append, List.mem_append] at nd
  have s10 : stVar Try.prog 34 p6 10 v h = some (h.set p6 (.cells 120 false (pmC P.F P.nm v vt vf))) := by simp [stVar, g6, rl, spl, ov, cells_one ov, pm_set10 hF]
  have s11 : stVar Try.prog 34 p6 11 v h = some (h.set p6 (.cells 120 false (pmC P.F P.nm vo v vf))) := by simp [stVar, g6, rl, spl, ov, cells_one ov, pm_set11 hF]
  have s12 : stVar Try.prog 34 p6 12 v h = some (h.set p6 (.cells 120 false (pmC P.F P.nm vo vt v))) := by simp [stVar, g6, rl, spl, ov, cells_one ov, pm_set12 hF]
  have s9 : stVar Try.prog 4 p6 9 (.bool true) h = some (h.set p6 (.cells 120 false (pmC P.F true vo vt vf))) := by simp [stVar, g6, rl, spl, pm_set9 hF]
  have rest : ∀ (y : Blk) b, b ≠ p6 → (h.set p6 y).get b = h.get b := fun y b hne => AH.set_getN _ _ hne
  rw [ev_M Try.func237 ok237 [7] m _ h (by simp [Try.f237])]
  cases hkn : knI n with
  | some k =>
    have f : ∀ x : Int, n ≠ x → (n == x) = false := fun x h => by simpa using h
    have nn : n ≠ 0 ∧ n ≠ 2 ∧ n ≠ 12 ∧ n ≠ 15 := by
      refine ⟨?_, ?_, ?_, ?_⟩ <;> (rintro rfl; simp [knI] at hkn)
    obtain ⟨w1, w2, w3, w4⟩ := nn
    have hk9 : k < 9 := by
      unfold knI at hkn
      repeat' split at hkn
      all_goals simp at hkn
      all_goals omega
    have hst : stVar Try.prog 3 p6 k (.int .i64 (getVarP val 0).1) h = some (h.set p6 (.cells 120 false (pmC (P.F.set k (getVarP val 0).1) P.nm vo vt vf))) := by
      have : k + 1 ≤ (pmC P.F P.nm vo vt vf).length := by omega
      simp [stVar, g6, this, spl, pm_set P.F P.nm vo vt vf k (by omega)]
    have hp : putP P n val = ({ P with F := P.F.set k (getVarP val 0).1 }, decide ((getVarP val 0).2.2 ≠ 0 ∨ (getVarP val 0).2.1 ≠ val.length)) := by unfold putP; rw [hkn]
    have gv := GetVarS_ev hs (Kp.refl h) hby hl 0 (by omega) m (by omega)
    have hi := getVarP_nn (l := val) 0
    have hi2 := getVarP_lt hby 0
    rw [hp]
    simp only
    generalize getVarP val 0 = G at *
    obtain ⟨g1, g2, g3⟩ := G
    simp only at *
    have gv' : ev Try.prog m 271 [v, .int .i64 0] h = some (.tuple [.int .i64 g1, .int .i64 g2, .int .i64 g3], h) := gv
    simp [Try.f237, U, tm0, f _ w1, f _ w2, f _ w3, f _ w4]
    generalize hτ : upd _ 34 _ = τ1
    have t0 : τ1 0 = .ptr p6 0 := by rw [← hτ]; simp
    have t1 : τ1 1 = .int .i64 n := by rw [← hτ]; simp
    have t2 : τ1 2 = v := by rw [← hτ]; simp
    clear hτ
    rw [at_M Try.func237 7 (by decide) 3 (by decide) (by kernel_rfl) [31]]
    by_cases c1 : g3 = 0
    · subst c1
      by_cases c2 : g2 = val.length
      · subst c2
        have hd : decide ((0 : Int) ≠ 0 ∨ (val.length : Int) ≠ (val.length : Int)) = false := by simp
        simp [Try.f237, U, t0, t1, t2, gv', hL]
        generalize hτ : upd _ 53 _ = τ2
        obtain ⟨τ3, e3, t6⟩ := lpN (call := ev Try.prog m) (m := m) (τ := τ2) (v := g1) hkn (by rw [← hτ]; simp [t0]) (by rw [← hτ]; simp [t1]) (by rw [← hτ]; simp) hst
        rw [e3]
        refine ⟨_, by simp [t6]; rfl, by simp, rest _, vo, vt, vf, bo, bt, bf, by simp, by simpa using hF, fun x hx => by
          rcases List.mem_or_eq_of_mem_set hx with hx | rfl
          · exact iF x hx
          · exact InK.i64 (by omega) (by omega), keep _ _ _ _ _ Ro no, keep _ _ _ _ _ Rt nt, keep _ _ _ _ _ Rf nf, nd0, hlo', np, by simpa using n6⟩
      · have d2 : (g2 == (val.length : Int)) = false := by simpa using c2
        have d2' : (g2 != (val.length : Int)) = true := by simpa using c2
        refine ⟨h, ?_, rfl, fun _ _ => rfl, ?_⟩
        · simp [Try.f237, U, t0, t1, t2, gv', hL, d2, d2', c2]
        · simp [c2]
    · have d1 : (g3 == 0) = false := by simpa using c1
      have d1' : (g3 != 0) = true := by simpa using c1
      refine ⟨h, ?_, rfl, fun _ _ => rfl, ?_⟩
      · simp [Try.f237, U, t0, t1, t2, gv', hL, d1, d1', c1]
      · simp [c1]
  | none =>
    rcases hk with hk | rfl | rfl | rfl | rfl
    · rw [hkn] at hk; simp at hk
    · have hp : putP P 0 val = ({ P with o := val }, false) := by unfold putP; rw [hkn]; simp
      rw [hp]
      refine ⟨h.set p6 (.cells 120 false (pmC P.F P.nm v vt vf)), by simp [Try.f237, U, tm0, s10], by simp, rest _, fun _ => ⟨v, vt, vf, bn, bt, bf, by simp, hF, iF, keep _ _ _ _ _ Rn npn, keep _ _ _ _ _ Rt nt, keep _ _ _ _ _ Rf nf, ?_, ?_, ?_, by simpa using n6⟩⟩
      · simp only [List.nodup_append, List.mem_append]
        exact ⟨ndn, nd.2.1, fun a ha b hb e => by subst e; rcases hb with hb | hb; exact dn2 _ ha hb; exact dn3 _ ha hb⟩
      · intro b hb; simp only [List.mem_append] at hb; rcases hb with hb | hb | hb; exact lon b hb; exact lo2 b hb; exact lo3 b hb
      · intro hb; simp only [List.mem_append] at hb; rcases hb with hb | hb | hb; exact npn hb; exact nt hb; exact nf hb
    · have hp : putP P 2 val = ({ P with t := val }, decide (val.length = 0)) := by unfold putP; rw [hkn]; simp
      rw [hp]
      refine ⟨h.set p6 (.cells 120 false (pmC P.F P.nm vo v vf)), ?_, by simp, rest _, fun _ => ⟨vo, v, vf, bo, bn, bf, by simp, hF, iF, keep _ _ _ _ _ Ro no, keep _ _ _ _ _ Rn npn, keep _ _ _ _ _ Rf nf, ?_, ?_, ?_, by simpa using n6⟩⟩
      · by_cases c : 0 < val.length
        · have c1 := eq_true (show (0 : Int) < val.length by omega)
          have c2 := eq_true c
          have c3 := eq_false (show ¬ val.length = 0 by omega)
          simp only [c3]
          simp [Try.f237, U, tm0, s11, hL, c1, c2]
        · have c1 := eq_false (show ¬ (0 : Int) < val.length by omega)
          have c2 := eq_false c
          have c3 := eq_true (show val.length = 0 by omega)
          simp only [c3]
          simp [Try.f237, U, tm0, s11, hL, c1, c2]
      · simp only [List.nodup_append, List.mem_append]
        exact ⟨nd.1, ⟨ndn, nd.2.1.2.1, fun a ha b hb e => by subst e; exact dn3 _ ha hb⟩, fun a ha b hb e => by subst e; rcases hb with hb | hb; exact dn1 _ hb ha; exact nd.2.2 _ ha _ (.inr hb) rfl⟩
      · intro b hb; simp only [List.mem_append] at hb; rcases hb with hb | hb | hb; exact lo1 b hb; exact lon b hb; exact lo3 b hb
      · intro hb; simp only [List.mem_append] at hb; rcases hb with hb | hb | hb; exact no hb; exact npn hb; exact nf hb
    · have hp : putP P 12 val = ({ P with nm := true }, decide (0 < val.length)) := by unfold putP; rw [hkn]; simp
      rw [hp]
      refine ⟨h.set p6 (.cells 120 false (pmC P.F true vo vt vf)), ?_, by simp, rest _, fun _ => ⟨vo, vt, vf, bo, bt, bf, by simp, hF, iF, keep _ _ _ _ _ Ro no, keep _ _ _ _ _ Rt nt, keep _ _ _ _ _ Rf nf, nd0, hlo', np, by simpa using n6⟩⟩
      by_cases c : val.length = 0
      · have c3 := eq_false (show ¬ 0 < val.length by omega)
        simp only [c3]
        simp [Try.f237, U, tm0, s9, hL, c]
      · have c' : ((val.length : Int) == 0) = false := by simp; exact fun e => c (by rw [e]; rfl)
        have c3 := eq_true (show 0 < val.length by omega)
        simp only [c3]
        simp [Try.f237, U, tm0, s9, hL, c']
    · have hp : putP P 15 val = ({ P with f := val }, false) := by unfold putP; rw [hkn]; simp
      rw [hp]
      refine ⟨h.set p6 (.cells 120 false (pmC P.F P.nm vo vt v)), by simp [Try.f237, U, tm0, s12], by simp, rest _, fun _ => ⟨vo, vt, v, bo, bt, bn, by simp, hF, iF, keep _ _ _ _ _ Ro no, keep _ _ _ _ _ Rt nt, keep _ _ _ _ _ Rn npn, ?_, ?_, ?_, by simpa using n6⟩⟩
      · simp only [List.nodup_append, List.mem_append]
        exact ⟨nd.1, ⟨nd.2.1.1, ndn, fun a ha b hb e => by subst e; exact dn2 _ hb ha⟩, fun a ha b hb e => by subst e; rcases hb with hb | hb; exact nd.2.2 _ ha _ (.inl hb) rfl; exact dn1 _ hb ha⟩
      · intro b hb; simp only [List.mem_append] at hb; rcases hb with hb | hb | hb; exact lo1 b hb; exact lo2 b hb; exact lon b hb
      · intro hb; simp only [List.mem_append] at hb; rcases hb with hb | hb | hb; exact no hb; exact nt hb; exact npn hb
end Go.Ev

/- Parameters read by the reference: a round. -/
namespace Go.Ev
open Go Go.Proofs
set_option linter.unusedSimpArgs false
set_option linter.unusedVariables false

def row (s : List Int) : List AV := (List.range 33).map fun (j : Nat) => AV.bool (decide ((j : Int) ∈ s))
theorem row_len (s : List Int) : (row s).length = 33 := by simp [row]
theorem row_at (s : List Int) (k : Nat) (hk : k < 33) : (row s)[k]? = some (.bool (decide ((k : Int) ∈ s))) := by simp [row, hk]
theorem row_set (s : List Int) (k : Nat) (hk : k < 33) : (row s).set k (.bool true) = row (s ++ [(k : Int)]) := by
  refine List.ext_getElem (by simp [row]) fun j h1 h2 => ?_
  have hj : j < 33 := by simpa [row] using h2
  rw [List.getElem_set]
  by_cases e : k = j
  · subst e; simp [row]
  · have e' : ¬ ((j : Int) = (k : Int)) := by omega
    simp [row, e, e']
theorem row_nil : row [] = zerosA [.bool false] 33 := by simp [row]; rfl
theorem knP_lt {n : Int} (h : knP n) : 0 ≤ n ∧ n < 33 := by
  unfold knP knI at h
  rcases h with h | h
  · repeat' split at h
    all_goals first | omega | (simp at h)
  · omega
structure SpT (τ : Tm) (r sv : AV) (p4 p6 p7 q : Nat) : Prop where
  t0 : τ 0 = r
  t1 : τ 1 = sv
  t4 : τ 4 = .ptr p4 0
  t6 : τ 6 = .ptr p6 0
  t7 : τ 7 = .slice p7 0 33
  t8 : τ 8 = .ptr q 0
structure SpH (l : List Int) (r : AV) (p4 p6 p7 q : Nat) (a : Nat) (s : List Int) (P : Pm) (vo vt vf : AV) (bo bt bf : List Nat) (Hb : AH) (lo : Nat) (h : AH) : Prop where
  sc : h.get q = some (rdB r a false)
  la : a ≤ l.length
  X : PrP P vo vt vf bo bt bf p6 lo h
  g7 : h.get p7 = some (.cells 4 false (row s))
  g4 : h.get p4 = some (.cells 120 false zPm)
  K : Kp Hb h
  ln : lo ≤ h.next
structure SpN (p4 p6 p7 q : Nat) (Hb : AH) (lo : Nat) : Prop where
  b4 : Hb.next ≤ p4 ∧ p4 < lo
  b6 : Hb.next ≤ p6 ∧ p6 < lo
  b7 : Hb.next ≤ p7 ∧ p7 < lo
  bq : Hb.next ≤ q ∧ q < lo
  n46 : p4 ≠ p6
  n47 : p4 ≠ p7
  n4q : p4 ≠ q
  n67 : p6 ≠ p7
  n6q : p6 ≠ q
  n7q : p7 ≠ q
set_option maxRecDepth 20000 in
theorem spStep {l : List Int} {r sv : AV} {p4 p6 p7 q : Nat} {a : Nat} {s : List Int} {P : Pm} {vo vt vf : AV} {bo bt bf : List Nat} {Hb : AH} {lo : Nat} {h : AH} (hs : Bs Hb r l) (hby : By l) (hl : l.length ≤ 65536) (N : SpN p4 p6 p7 q Hb lo) (I : SpH l r p4 p6 p7 q a s P vo vt vf bo bt bf Hb lo h)
    (m : Nat) (hm : 40 ≤ m) (τ : Tm) (T : SpT τ r sv p4 p6 p7 q) :
    ∃ e τ' h', evAt Try.prog (ev Try.prog m) m 160 2018 τ h = some (e, τ', h') ∧
      ((e = .ret ∧ h'.get p4 = some (.cells 120 false zPm) ∧ Kp Hb h' ∧ τ' 4 = .ptr p4 0 ∧ ∃ cdv : Int, τ' 5 = .int .i64 cdv ∧
          ((cdv = 2 ∧ (countedS l (varS l a false).2.1 (varS l a false).2.2).2.2 = true) ∨
           (cdv = 11 ∧ (countedS l (varS l a false).2.1 (varS l a false).2.2).2.2 = false ∧ knP (varS l a false).1 ∧ ((varS l a false).1 ∈ s ∨ (putP P (varS l a false).1 (countedS l (varS l a false).2.1 (varS l a false).2.2).1).2 = true)))) ∨
       ((e = .normal ∨ e = .exit 1) ∧ (countedS l (varS l a false).2.1 (varS l a false).2.2).2.2 = false ∧ SpT τ' r sv p4 p6 p7 q ∧
          ((¬ knP (varS l a false).1 ∧ SpH l r p4 p6 p7 q (countedS l (varS l a false).2.1 (varS l a false).2.2).2.1 s P vo vt vf bo bt bf Hb lo h') ∨
           (knP (varS l a false).1 ∧ ¬ ((varS l a false).1 ∈ s ∨ (putP P (varS l a false).1 (countedS l (varS l a false).2.1 (varS l a false).2.2).1).2 = true) ∧
            ∃ vo' vt' vf' bo' bt' bf', SpH l r p4 p6 p7 q (countedS l (varS l a false).2.1 (varS l a false).2.2).2.1 (s ++ [(varS l a false).1]) (putP P (varS l a false).1 (countedS l (varS l a false).2.1 (varS l a false).2.2).1).1 vo' vt' vf' bo' bt' bf' Hb lo h')))) := by
  obtain ⟨t0, t1, t4, t6, t7, t8⟩ := T
  obtain ⟨sc, la, X, g7, g4, K, ln⟩ := I
  obtain ⟨H1, a1, a2, a3, a4, a5⟩ := var_ev hs hby K N.bq.1 (by have := N.bq.2; omega) sc la hl m (by omega)
  have hu1 := varS_rng hby a false
  have K1 : Kp Hb H1 := a2.kp K N.bq.1
  obtain ⟨v, H2, b1, b2, b4, b5, b6⟩ := countedS_ev hs hby K1 N.bq.1 (by have := N.bq.2; omega) a4 a5 hl m (by omega)
  have K2 : Kp Hb H2 := b2.kp K1 N.bq.1
  generalize hu : varS l a false = u at *
  obtain ⟨n, a1', sh1⟩ := u
  simp only at *
  have hcb : By (countedS l a1' sh1).1 := takeS_by hby _ _ _
  have hcl : (countedS l a1' sh1).1.length ≤ 65536 := Nat.le_trans (takeS_len l _ _ _).2 hl
  generalize hc : countedS l a1' sh1 = c at *
  obtain ⟨val, a2', sh2⟩ := c
  simp only at *
  have n2 : h.next ≤ H2.next := by have := b2.next; omega
  have k2 := a2.trans b2
  have r2 : ∀ b, b < lo → b ≠ q → H2.get b = h.get b := fun b hb hne => k2.get b (by omega) hne
  have X2 : PrP P vo vt vf bo bt bf p6 lo H2 := X.stay (by omega) (r2 p6 N.b6.2 N.n6q) fun b hb => k2.get b (by have := X.mem b hb; omega) (fun e => by have := X.lo b hb; have := N.bq.2; omega)
  have f4 := (r2 p4 N.b4.2 N.n4q).trans g4
  have f7 := (r2 p7 N.b7.2 N.n7q).trans g7
  have st4 : ∀ X : AH, X.get p4 = some (.cells 120 false zPm) → stVar Try.prog 120 p4 0 (.agg zPm) X = some (X.set p4 (.cells 120 false zPm)) := fun X g => st120 g zPm_len zPm_len zPm_one
  rw [zPm_eq] at st4
  rw [← zPm_eq] at st4
  have hsc : H2.get q = some (.cells 183 false [r, .int .i64 a2', .bool sh2]) := b5
  rw [at_M Try.func160 2018 (by decide) 11 (by decide) (by kernel_rfl) [16151]]
  cases sh2 with
  | true =>
    have lc : ldVar Try.prog 4 q 2 H2 = some (.bool true) := by simp [ldVar, hsc]
    have st := st4 H2 f4
    rw [zPm_eq] at st
    refine ⟨.ret, _, H2.set p4 (.cells 120 false zPm), by simp [Try.f160, t8, a1, b1, lc, st, t4, fillA, zPm_eq, evHist, ObsOk, ObOk, List.getElem?_cons_zero]; rfl, .inl ⟨rfl, by simp, ?_, by simp [t4], 2, by simp, .inl ⟨rfl, rfl⟩⟩⟩
    exact ⟨by simpa using K2.next, fun b hb => by rw [AH.set_getN _ _ (by have := N.b4.1; omega)]; exact K2.get b hb⟩
  | false =>
    have lc : ldVar Try.prog 4 q 2 H2 = some (.bool false) := by simp [ldVar, hsc]
    simp [Try.f160, t8, a1, b1, lc]
    generalize hτ : upd _ 34 _ = τ1
    have T1 : SpT τ1 r sv p4 p6 p7 q := by rw [← hτ]; exact ⟨by simp [t0], by simp [t1], by simp [t4], by simp [t6], by simp [t7], by simp [t8]⟩
    have s9 : τ1 9 = .int .i64 n := by rw [← hτ]; simp
    have s10 : τ1 10 = v := by rw [← hτ]; simp
    clear hτ t0 t1 t4 t6 t7 t8
    have hn0 : 0 ≤ n ∧ n ≤ 4611686018427387904 := hu1
    have Hq2 : H2.get q = some (rdB r a2' false) := hsc
    obtain ⟨t0, t1, t4, t6, t7, t8⟩ := T1
    have kv := known_ev n hn0.1 H2 m (by omega)
    rw [at_M Try.func160 16151 (by decide) 14 (by decide) (by kernel_rfl) [32303]]
    by_cases kn : knP n
    · rw [decide_eq_true kn] at kv
      obtain ⟨k, rfl, hk⟩ : ∃ k : Nat, n = (k : Int) ∧ k < 33 := ⟨n.toNat, by have := knP_lt kn; omega, by have := knP_lt kn; omega⟩
      simp [Try.f160, s9, kv]
      generalize hτ : upd _ 38 _ = τ2
      have T2 : SpT τ2 r sv p4 p6 p7 q := by rw [← hτ]; exact ⟨by simp [t0], by simp [t1], by simp [t4], by simp [t6], by simp [t7], by simp [t8]⟩
      have w9 : τ2 9 = .int .i64 k := by rw [← hτ]; simp [s9]
      have w10 : τ2 10 = v := by rw [← hτ]; simp [s10]
      clear hτ t0 t1 t4 t6 t7 t8
      obtain ⟨t0, t1, t4, t6, t7, t8⟩ := T2
      have ix : idxA Try.prog 88 (.slice p7 0 33) (.int .i64 k) = some (.ptr p7 k) := by simp [idxA]; omega
      have lr : ldVar Try.prog 4 p7 k H2 = some (.bool (decide ((k : Int) ∈ s))) := by
        have := row_len s
        simp [ldVar, f7, row_at s k hk]; try omega
      rw [at_M Try.func160 32303 (by decide) 15 (by decide) (by kernel_rfl) []]
      by_cases hin : (k : Int) ∈ s
      · rw [decide_eq_true hin] at lr
        have st := st4 H2 f4
        rw [zPm_eq] at st
        refine ⟨.ret, _, H2.set p4 (.cells 120 false zPm), by simp [Try.f160, U, t7, w9, ix, lr, st, t4, fillA, zPm_eq, evHist, ObsOk, ObOk, List.getElem?_cons_zero]; rfl, .inl ⟨rfl, by simp, ?_, by simp [t4], 11, by simp, ⟨rfl, kn, .inl hin⟩⟩⟩
        exact ⟨by simpa using K2.next, fun b hb => by rw [AH.set_getN _ _ (by have := N.b4.1; omega)]; exact K2.get b hb⟩
      · rw [decide_eq_false hin] at lr
        obtain ⟨bn, Rn, ndn, bnr⟩ := ow_tB b4 hcb
        obtain ⟨H3, c1, c2, c3, c4⟩ := l12Put_ev X2 Rn ndn (fun b hb => by have := bnr b hb; omega) (fun b hb hx => by have := bnr b hb; have := X.mem b hx; omega) (fun hx => by have := bnr _ hx; have := X.n6; omega) b4.bs hcb hcl k kn m (by omega)
        have K3 : Kp Hb H3 := ⟨by have := K2.next; omega, fun b hb => by rw [c3 b (by have := N.b6.1; omega)]; exact K2.get b hb⟩
        have f43 := (c3 p4 N.n46).trans f4
        have f73 := (c3 p7 (fun e => N.n67 e.symm)).trans f7
        cases hw : (putP P k val).2 with
        | true =>
          rw [hw] at c1
          have st := st4 H3 f43
          rw [zPm_eq] at st
          refine ⟨.ret, _, H3.set p4 (.cells 120 false zPm), by simp [Try.f160, U, t6, t7, w9, w10, ix, lr, c1, st, t4, fillA, zPm_eq, evHist, ObsOk, ObOk, List.getElem?_cons_zero]; rfl, .inl ⟨rfl, by simp, ?_, by simp [t4], 11, by simp, ⟨rfl, kn, .inr rfl⟩⟩⟩
          exact ⟨by simpa using K3.next, fun b hb => by rw [AH.set_getN _ _ (by have := N.b4.1; omega)]; exact K3.get b hb⟩
        | false =>
          rw [hw] at c1
          obtain ⟨vo', vt', vf', bo', bt', bf', X3⟩ := c4 hw
          have str : stVar Try.prog 4 p7 k (.bool true) H3 = some (H3.set p7 (.cells 4 false (row (s ++ [(k : Int)])))) := by
            have := row_len s
            have : k + 1 ≤ (row s).length := by omega
            simp [stVar, f73, this, spl, row_set s k hk]
          refine ⟨.normal, _, H3.set p7 (.cells 4 false (row (s ++ [(k : Int)]))), by simp [Try.f160, U, t6, t7, w9, w10, ix, lr, c1, str]; rfl, .inr ⟨.inl rfl, ⟨by simp [t0], by simp [t1], by simp [t4], by simp [t6], by simp [t7], by simp [t8]⟩, .inr ⟨kn, by simp [hin], vo', vt', vf', bo', bt', bf', ?_, b6, X3.stay (by simp) (AH.set_getN _ _ N.n67) (fun b hb => AH.set_getN _ _ (by have := X3.lo b hb; have := N.b7.2; omega)), by simp, ?_, ?_, by simp; omega⟩⟩⟩
          · rw [AH.set_getN _ _ (fun e => N.n7q e.symm), c3 q (fun e => N.n6q e.symm)]; exact Hq2
          · rw [AH.set_getN _ _ N.n47]; exact f43
          · exact ⟨by simpa using K3.next, fun b hb => by rw [AH.set_getN _ _ (by have := N.b7.1; omega)]; exact K3.get b hb⟩
    · rw [decide_eq_false kn] at kv
      refine ⟨.exit 1, _, H2, by simp [Try.f160, s9, kv]; rfl, .inr ⟨.inr rfl, ⟨by simp [t0], by simp [t1], by simp [t4], by simp [t6], by simp [t7], by simp [t8]⟩, .inl ⟨kn, Hq2, b6, X2, f7, f4, K2, by omega⟩⟩⟩
end Go.Ev

/- Parameters read by the reference: the whole function. -/
namespace Go.Ev
open Go Go.Proofs
set_option linter.unusedSimpArgs false
set_option linter.unusedVariables false

def SpL (l : List Int) (r sv : AV) (p4 p6 p7 q : Nat) (Hb : AH) (lo : Nat) (d : Nat) (τ : Tm) (h : AH) : Prop :=
  ∃ (a : Nat) (s : List Int) (P : Pm) (vo vt vf : AV) (bo bt bf : List Nat), SpT τ r sv p4 p6 p7 q ∧ SpH l r p4 p6 p7 q a s P vo vt vf bo bt bf Hb lo h ∧ l.length ≤ a + d ∧ prRun l l.length 0 Pm0 [] = prRun l d a P s
set_option maxRecDepth 20000 in
theorem spLoop {l : List Int} {r sv : AV} {p4 p6 p7 q : Nat} {Hb h0 : AH} {lo : Nat} (hs : Bs Hb r l) (hby : By l) (hl : l.length ≤ 65536) (N : SpN p4 p6 p7 q Hb lo) (m : Nat) (hm : 70000 ≤ m) (τ : Tm) (hI : SpL l r sv p4 p6 p7 q Hb lo l.length τ h0) :
    ∃ e τ' H', evLoop Try.prog (ev Try.prog m) m (lp Try.prog 160 252) τ h0 = some (e, τ', H') ∧
      ((e = .exit 0 ∧ (prRun l l.length 0 Pm0 []).2 = 0 ∧ ∃ (a : Nat) (s : List Int) (vo vt vf : AV) (bo bt bf : List Nat), SpT τ' r sv p4 p6 p7 q ∧ SpH l r p4 p6 p7 q a s (prRun l l.length 0 Pm0 []).1 vo vt vf bo bt bf Hb lo H') ∨
       (e = .ret ∧ H'.get p4 = some (.cells 120 false zPm) ∧ Kp Hb H' ∧ τ' 4 = .ptr p4 0 ∧ (prRun l l.length 0 Pm0 []).2 ≠ 0 ∧ τ' 5 = .int .i64 (prRun l l.length 0 Pm0 []).2)) := by
  refine loop_rule (d := l.length) (SpL l r sv p4 p6 p7 q Hb lo) (fun e τ h => (e = .exit 0 ∧ (prRun l l.length 0 Pm0 []).2 = 0 ∧ ∃ (a : Nat) (s : List Int) (vo vt vf : AV) (bo bt bf : List Nat), SpT τ r sv p4 p6 p7 q ∧ SpH l r p4 p6 p7 q a s (prRun l l.length 0 Pm0 []).1 vo vt vf bo bt bf Hb lo h) ∨
       (e = .ret ∧ h.get p4 = some (.cells 120 false zPm) ∧ Kp Hb h ∧ τ 4 = .ptr p4 0 ∧ (prRun l l.length 0 Pm0 []).2 ≠ 0 ∧ τ 5 = .int .i64 (prRun l l.length 0 Pm0 []).2)) ?_ hI (by omega)
  rintro d τ h ⟨a, s, P, vo, vt, vf, bo, bt, bf, T, I, hd, hrun⟩
  have hL := hs.len
  have hsc : h.get q = some (.cells 183 false [r, .int .i64 a, .bool false]) := I.sc
  have la : ldVar Try.prog 3 q 1 h = some (.int .i64 a) := by simp [ldVar, hsc]
  have T0 := T
  obtain ⟨t0, t1, t4, t6, t7, t8⟩ := T
  rw [lp_M Try.func160 252 (by decide) 8 (by decide) (by kernel_rfl) [2018]]
  by_cases c : a < l.length
  · have c1 := eq_true (show (a : Int) < l.length by omega)
    have c2 := eq_true c
    obtain ⟨d, rfl⟩ : ∃ j, d = j + 1 := ⟨d - 1, by omega⟩
    simp [Try.f160, t0, t8, la, hL, c1, c2]
    generalize hτ : upd _ 26 _ = τ1
    have T1 : SpT τ1 r sv p4 p6 p7 q := by rw [← hτ]; exact ⟨by simp [t0], by simp [t1], by simp [t4], by simp [t6], by simp [t7], by simp [t8]⟩
    clear hτ
    obtain ⟨e, τ', h', e1, g⟩ := spStep hs hby hl N I m (by omega) τ1 T1
    rw [e1]
    simp only [prRun] at hrun
    rw [if_neg (by omega)] at hrun
    rcases g with ⟨rfl, g4, gK, gt, cdv, g5, g⟩ | ⟨he, g1, T', g⟩
    · simp
      refine ⟨g4, gK, gt, ?_⟩
      rcases g with ⟨rfl, g⟩ | ⟨rfl, g2, g3, g6⟩
      · rw [if_pos g] at hrun
        rw [hrun]; exact ⟨by simp, g5⟩
      · rw [if_neg (by simp [g2]), if_neg (by simpa using g3), if_pos g6] at hrun
        rw [hrun]; exact ⟨by simp, g5⟩
    · have adv := entry_adv g1
      rw [if_neg (by simp [g1])] at hrun
      have fin : ∃ d', d' < d + 1 ∧ SpL l r sv p4 p6 p7 q Hb lo d' τ' h' := by
        rcases g with ⟨nk, I'⟩ | ⟨kn, nw, vo', vt', vf', bo', bt', bf', I'⟩
        · rw [if_pos nk] at hrun
          exact ⟨d, by omega, _, s, P, vo, vt, vf, bo, bt, bf, T', I', by omega, hrun⟩
        · rw [if_neg (by simpa using kn), if_neg nw] at hrun
          exact ⟨d, by omega, _, _, _, vo', vt', vf', bo', bt', bf', T', I', by omega, hrun⟩
      rcases he with rfl | rfl
      · simpa using fin
      · simpa using fin
  · have c1 := eq_false (show ¬ ((a : Int) < l.length) by omega)
    have c2 := eq_false c
    have hz : prRun l d a P s = (P, 0) := by
      cases d with
      | zero => rfl
      | succ d => simp only [prRun]; rw [if_pos (by omega)]
    rw [hz] at hrun
    simp [Try.f160, t0, t8, la, hL, c1, c2]
    rw [hrun]
    exact ⟨rfl, ⟨by simp [t0], by simp [t1], by simp [t4], by simp [t6], by simp [t7], by simp [t8]⟩, a, s, vo, vt, vf, bo, bt, bf, I⟩
set_option maxRecDepth 20000 in
set_option maxHeartbeats 1000000 in
theorem ReadParamsS_ev {H : AH} {r : AV} {l : List Int} (hs : Bs H r l) (hby : By l) (hl : l.length ≤ 65536) (sv : Bool) (m : Nat) (hm : 70020 ≤ m) :
    ∃ vo vt vf H' bo bt bf, ev Try.prog m 160 [r, .bool sv] H = some (.tuple [.agg (pmC (rdP l sv).1.F (rdP l sv).1.nm vo vt vf), .int .i64 (rdP l sv).2], H') ∧ PmR (rdP l sv).1 vo vt vf bo bt bf H.next H' ∧ Kp H H' := by
  obtain ⟨m, rfl⟩ : ∃ k, m = k + 1 := ⟨m - 1, by omega⟩
  have hL := hs.len
  obtain ⟨Z1, hZ1⟩ : ∃ Z : AH, Z = H.push (.cells 120 false zPm) := ⟨_, rfl⟩
  have n1 : Z1.next = H.next + 1 := by rw [hZ1]; simp
  have g1 : Z1.get H.next = some (.cells 120 false zPm) := by rw [hZ1]; simp
  have k1 : Kp H Z1 := by rw [hZ1]; exact (Kp.refl H).push _
  have tl1 := eq_false (show ¬ (65536 < (l.length : Int)) by omega)
  have tl2 := eq_false (show ¬ (65536 < l.length) by omega)
  obtain ⟨Z2, hZ2⟩ : ∃ Z : AH, Z = Z1.push (.cells 120 false zPm) := ⟨_, rfl⟩
  have n2 : Z2.next = Z1.next + 1 := by rw [hZ2]; simp
  have g2 : Z2.get Z1.next = some (.cells 120 false zPm) := by rw [hZ2]; simp
  have k2 : Kp Z1 Z2 := by rw [hZ2]; exact (Kp.refl Z1).push _
  have len0 : (pmC Pm0.F false .nilSlice .nilSlice .nilSlice).length = 13 := rfl
  have one0 : (pmC Pm0.F false .nilSlice .nilSlice .nilSlice).all AV.one = true := rfl
  obtain ⟨Z3, hZ3⟩ : ∃ Z : AH, Z = Z2.set Z1.next (.cells 120 false (pmC Pm0.F false .nilSlice .nilSlice .nilSlice)) := ⟨_, rfl⟩
  have n3 : Z3.next = Z2.next := by rw [hZ3]; simp
  have g3 : Z3.get Z1.next = some (.cells 120 false (pmC Pm0.F false .nilSlice .nilSlice .nilSlice)) := by rw [hZ3]; simp
  have k3 : Kp Z1 Z3 := ⟨by omega, fun b hb => by rw [hZ3, AH.set_getN _ _ (by omega)]; exact k2.get b hb⟩
  have st3 := st120 g2 zPm_len len0 one0
  rw [← hZ3] at st3
  have e0 : pmC Pm0.F false .nilSlice .nilSlice .nilSlice = [.int .i64 0, .int .i64 2000, .int .i64 4096, .int .i64 1024, .int .i64 4, .int .i64 4, .int .i64 25000, .int .i64 2, .int .i64 0, .bool false, .nilSlice, .nilSlice, .nilSlice] := rfl
  rw [e0] at st3
  obtain ⟨Z4, hZ4⟩ : ∃ Z : AH, Z = Z3.push (.cells 4 false (row [])) := ⟨_, rfl⟩
  have n4 : Z4.next = Z3.next + 1 := by rw [hZ4]; simp
  have g4 : Z4.get Z3.next = some (.cells 4 false (row [])) := by rw [hZ4]; simp
  have k4 : Kp Z3 Z4 := by rw [hZ4]; exact (Kp.refl Z3).push _
  obtain ⟨Z5, hZ5⟩ : ∃ Z : AH, Z = Z4.push (.cells 183 false [r, .int .i64 0, .bool false]) := ⟨_, rfl⟩
  have n5 : Z5.next = Z4.next + 1 := by rw [hZ5]; simp
  have g5 : Z5.get Z4.next = some (rdB r 0 false) := by rw [hZ5]; simp [rdB]
  have k5 : Kp Z4 Z5 := by rw [hZ5]; exact (Kp.refl Z4).push _
  have z1' := hZ1.symm
  have z2' := hZ2.symm
  have z4' := hZ4.symm
  have z5' := hZ5.symm
  rw [zPm_eq] at z1' z2'
  rw [row_nil] at z4'
  have hro := hs.one
  have k35 := k4.trans k5
  have N : SpN H.next Z1.next Z3.next Z4.next H Z5.next := by constructor <;> omega
  have I0 : SpH l r H.next Z1.next Z3.next Z4.next 0 [] Pm0 .nilSlice .nilSlice .nilSlice [] [] [] H Z5.next Z5 :=
    ⟨g5, by omega, ⟨(k35.get _ (by omega)).trans g3, rfl, fun x hx => by simp [Pm0, pnL] at hx; exact InK.i64 (by omega) (by omega), .inl ⟨rfl, rfl, rfl⟩, .inl ⟨rfl, rfl, rfl⟩, .inl ⟨rfl, rfl, rfl⟩, by simp, by simp, by simp, by omega⟩, (k5.get _ (by omega)).trans g4, ((k3.trans k35).get _ (by omega)).trans g1, (k1.trans k3).trans k35, by omega⟩
  rw [ev_M Try.func160 ok160 [127] m _ H (by simp [Try.f160])]
  simp [Try.f160, tm0, z1', hL, tl1, tl2, z2', z4', z5', st3, fillA, hro, cells_one hro, spl]
  generalize hLo : evLoop _ _ _ _ _ _ = R
  obtain ⟨e, τ2, h2, rfl, g⟩ := loop_at hLo (spLoop (sv := .bool sv) hs hby hl N m (by omega) _ ⟨0, [], Pm0, .nilSlice, .nilSlice, .nilSlice, [], [], [], ⟨by simp, by simp, by simp, by simp [n1], by simp, by simp⟩, I0, by omega, rfl⟩)
  rcases g with ⟨rfl, hz, a, s, vo, vt, vf, bo, bt, bf, T2, I2⟩ | ⟨rfl, y4', ky, u4, hnz, y5⟩
  · simp
    obtain ⟨u0, u1, u4, u6, u7, u8⟩ := T2
    obtain ⟨c1, c2, X, c4, c5, c6, c7⟩ := I2
    have LO := X.Ro.lenA (P := Try.prog) (T := 34) (by simp)
    have LT := X.Rt.lenA (P := Try.prog) (T := 34) (by simp)
    have LF := X.Rf.lenA (P := Try.prog) (T := 34) (by simp)
    have oo := X.Ro.sl_one
    have ot := X.Rt.sl_one
    have of_ := X.Rf.sl_one
    obtain ⟨H3, d1, d2⟩ := ParamsOKS_ev (nm := (prRun l l.length 0 Pm0 []).1.nm) X.hF LO LT LF oo ot of_ sv h2 m (by omega)
    have e : rdP l sv = if prmOK (prRun l l.length 0 Pm0 []).1.F (prRun l l.length 0 Pm0 []).1.o.length (prRun l l.length 0 Pm0 []).1.t.length (prRun l l.length 0 Pm0 []).1.f.length sv then ((prRun l l.length 0 Pm0 []).1, 0) else (pmZ, 11) := by
      unfold rdP; rw [if_neg (by simp [hz])]
    rw [e]
    generalize (prRun l l.length 0 Pm0 []).1 = P at *
    have len := (pmC_rest P.F X.hF P.nm vo vt vf).2.2.2.2
    have one := pmC_one (F := P.F) (nm := P.nm) oo ot of_
    have l6 := ld120 X.g6 len
    have n6 := X.n6
    have g6' := (d2.get Z1.next n6).trans X.g6
    have l6' := ld120 g6' len
    have n4' : H.next < h2.next := by have := c6.next; omega
    have g4' := (d2.get H.next n4').trans c5
    have hxl := X.lo
    have s4 := st120 g4' zPm_len len one
    have s4z := st120 g4' zPm_len zPm_len zPm_one
    have d2n := d2.next
    have fin : ∀ y : Blk, Kp H (H3.set H.next y) := fun y => ⟨by simp; omega, fun b hb => by rw [AH.set_getN _ _ (by omega), d2.get b (by omega)]; exact c6.get b hb⟩
    rw [at_M Try.func160 127 (by decide) 7 (by decide) (by kernel_rfl) []]
    by_cases ok : prmOK P.F P.o.length P.t.length P.f.length sv
    · rw [if_pos ok]
      rw [decide_eq_true ok] at d1
      have lr := ld120 (X := H3.set H.next (.cells 120 false (pmC P.F P.nm vo vt vf))) (p := H.next) (AH.set_getS _ _ _) len
      refine ⟨vo, vt, vf, H3.set H.next (.cells 120 false (pmC P.F P.nm vo vt vf)), by simp [Try.f160, u1, u4, u6, l6, d1, l6', s4, lr], ⟨bo, bt, bf, ⟨X.hF, X.iF, ?_, ?_, ?_, X.nd, fun b hb => by have := X.lo b hb; omega⟩⟩, fin _⟩
      · exact (X.Ro.kp d2).stay (by simp) fun b hb => AH.set_getN _ _ (by have := hxl b (by simp [hb]); omega)
      · exact (X.Rt.kp d2).stay (by simp) fun b hb => AH.set_getN _ _ (by have := hxl b (by simp [hb]); omega)
      · exact (X.Rf.kp d2).stay (by simp) fun b hb => AH.set_getN _ _ (by have := hxl b (by simp [hb]); omega)
    · rw [if_neg ok]
      rw [decide_eq_false ok] at d1
      have lr := ld120 (X := H3.set H.next (.cells 120 false zPm)) (p := H.next) (AH.set_getS _ _ _) zPm_len
      rw [zPm_eq] at s4z lr
      refine ⟨.nilSlice, .nilSlice, .nilSlice, H3.set H.next (.cells 120 false zPm), ?_, ⟨[], [], [], pmZ_R _ _⟩, fin _⟩
      simp [Try.f160, u1, u4, u6, l6, d1, s4z, lr, fillA, zPm_eq]
      simp [pmZ, pmC, zPm_eq]
  · have e : rdP l sv = (pmZ, (prRun l l.length 0 Pm0 []).2) := by unfold rdP; rw [if_pos hnz]
    rw [e]
    have lr := ld120 y4' zPm_len
    rw [zPm_eq] at lr
    refine ⟨.nilSlice, .nilSlice, .nilSlice, h2, ?_, ⟨[], [], [], pmZ_R _ _⟩, ky⟩
    simp [u4, y5, lr]
    simp [pmZ, pmC]
end Go.Ev

/- Names and versions in the reference. -/
namespace Go.Ev
open Go Go.Proofs
set_option linter.unusedSimpArgs false
set_option linter.unusedVariables false

theorem Ty.R.cut {P : Program} {H : AH} {e : TypeId} {t : Ty} {s : AV} {d : List t.D} {bs : List Nat} (h : (Ty.sl e t).R false H [s] d bs) {T : TypeId} (hT : P.underlying T = some (.slice e)) (hn : sizeT P e = some t.n) {i j : Nat} (hij : i ≤ j) (hj : j ≤ d.length) {lo hi : Option (Option AV)} (hlo : bndA 0 lo = some (i : Int)) (hhi : bndA d.length hi = some (j : Int)) :
    ∃ s' bs', cutA P T s lo hi H = some s' ∧ (Ty.sl e t).R false H [s'] ((d.drop i).take (j - i)) bs' := by
  rcases h with ⟨h1, h2, _⟩ | ⟨b, o, ro, xs, b', h1, h2, h3, h4, h5, h6, h7⟩
  · simp only [List.cons.injEq, and_true] at h1; subst h1; subst h2
    have hj0 : j = 0 := by simpa using hj
    have hi0 : i = 0 := by omega
    subst hj0; subst hi0
    simp only [List.length_nil] at hhi
    exact ⟨.nilSlice, [], by simp only [cutA, hT, hn, hlo, hhi]; rfl, .inl ⟨rfl, rfl, rfl⟩⟩
  · simp only [List.cons.injEq, and_true] at h1; subst h1
    have hd : d = d.take i ++ ((d.drop i).take (j - i) ++ (d.drop i).drop (j - i)) := by rw [List.take_append_drop, List.take_append_drop]
    have hl : ((d.drop i).take (j - i)).length = j - i := by rw [List.length_take, List.length_drop]; omega
    have h70 := h7
    rw [hd] at h7
    obtain ⟨x1, x2, b1, b2, e1, e2, e3, e4⟩ := h7.split
    obtain ⟨y1, y2, c1, c2, f1, f2, f3, f4⟩ := e4.split
    rw [← hd] at e1
    have l1 := e3.len
    have l2 := f3.len
    rw [List.length_take, Nat.min_eq_left (by omega)] at l1
    rw [hl] at l2
    have key : (xs.drop (o + i * t.n)).take ((j - i) * t.n) = y1 := by
      have g : ((xs.drop o).take (d.length * t.n)).drop (i * t.n) = y1 ++ y2 := by rw [e1, ← l1, List.drop_left, f1]
      rw [List.drop_take] at g
      have g2 := congrArg (List.take ((j - i) * t.n)) g
      rw [List.take_take, ← l2, List.take_left, l2, List.drop_drop] at g2
      have hle : (j - i) * t.n ≤ d.length * t.n - i * t.n := by rw [← Nat.mul_sub_right_distrib]; exact Nat.mul_le_mul_right _ (by omega)
      rw [Nat.min_eq_left hle] at g2
      exact g2
    have hb2 : i * t.n + (j - i) * t.n ≤ d.length * t.n := by rw [← Nat.add_mul]; exact Nat.mul_le_mul_right _ (by omega)
    refine ⟨.slice b (o + i * t.n) (j - i), b :: c1, ?_, .inr ⟨b, o + i * t.n, ro, xs, c1, by rw [hl], rfl, h3, h4, by simp, by rw [hl]; omega, by rw [hl, key]; exact f3⟩⟩
    have q : (0 : Int) ≤ i ∧ (i : Int) ≤ j ∧ (j : Int) ≤ d.length ∧ sizeT P e = some t.n := ⟨by omega, by omega, by omega, hn⟩
    simp only [cutA, hT, hn, hlo, hhi, h4]
    rw [if_pos ⟨q.1, q.2.1, q.2.2.1, trivial⟩]
    simp
/-! versions -/
theorem versionS_ev (v : Int) (H : AH) (m : Nat) (hm : 1 ≤ m) : ev Try.prog m 238 [.int .i64 v] H = some (.bool (decide (verIn v)), H) := by
  obtain ⟨m, rfl⟩ : ∃ k, m = k + 1 := ⟨m - 1, by omega⟩
  rw [ev_M Try.func238 ok238 [] m _ H (by simp [Try.f238])]
  by_cases h0 : 1 ≤ v
  · by_cases h1 : v ≤ 4294967295 <;> simp [Try.f238, tm0, h0, h1, verIn]
  · simp [Try.f238, tm0, h0, verIn]
/-- of one and many: found or not -/
def CvI (r1 r2 : AV) (l : List Int) (H : AH) (d : Nat) (τ : Tm) (h : AH) : Prop := h = H ∧ ∃ k : Nat, k + d = l.length ∧ τ 0 = r1 ∧ τ 1 = r2 ∧ τ 5 = .int .i64 0 ∧ τ 6 = .int .i64 k ∧ τ 4 = .int .i64 0
def CvO (r1 r2 : AV) (v : Int) (l : List Int) (H : AH) (d : Nat) (τ : Tm) (h : AH) : Prop := h = H ∧ τ 0 = r1 ∧ τ 1 = r2 ∧ τ 4 = .int .i64 0 ∧ ((d = 1 ∧ τ 5 = .int .i64 0) ∨ (d = 0 ∧ τ 5 = .int .i64 1 ∧ v ∉ l))
set_option maxRecDepth 20000 in
theorem chooseOne_ev {H : AH} {r1 r2 : AV} {v : Int} {l : List Int} {b1 b2 : List Nat} (h1 : (Ty.sl 3 (.int .i64)).R false H [r1] [v] b1) (h2 : (Ty.sl 3 (.int .i64)).R false H [r2] l b2) (hl : l.length ≤ 1000) (m : Nat) (hm : 1010 ≤ m) :
    ev Try.prog m 240 [r1, r2] H = some (.int .i64 (if v ∈ l then v else 0), H) := by
  obtain ⟨m, rfl⟩ : ∃ k, m = k + 1 := ⟨m - 1, by omega⟩
  have L1 := h1.lenA (P := Try.prog) (T := 60) (by simp)
  have L2 := h2.lenA (P := Try.prog) (T := 60) (by simp)
  simp only [List.length_singleton] at L1
  obtain ⟨bv, ov, v1, v2, v3⟩ := intAt' h1 (k := 0) (by simp)
  have v3 := v3 H rfl
  simp only [List.getElem_cons_zero] at v3
  have v1 : idxA Try.prog 60 r1 (.int .i64 0) = some (.ptr bv ov) := v1
  have g1 := eq_false (show ¬ ((4096 : Int) < l.length) by omega)
  have g2 := eq_false (show ¬ (4096 < l.length) by omega)
  rw [ev_M Try.func240 ok240 [] _ _ H (by simp [Try.f240])]
  simp [Try.f240, U, tm0, L1, L2, g1, g2]
  generalize hLo : evLoop _ _ _ _ _ _ = R
  obtain ⟨e, τ', H', rfl, rfl, g⟩ := loop_at hLo (loop_rule (d := 1) (CvO r1 r2 v l H) (fun e τ h => h = H ∧ ((e = .exit 0 ∧ v ∉ l) ∨ (e = .ret ∧ τ 4 = .int .i64 v ∧ v ∈ l))) (by
    rintro d τ h ⟨rfl, t0, t1, t4, hd⟩
    rw [lp_M Try.func240 58 (by decide) 6 (by decide) (by kernel_rfl) []]
    rcases hd with ⟨rfl, t5⟩ | ⟨rfl, t5, hno⟩
    · simp [Try.f240, t0, t1, t5, L1]
      generalize hLo : evLoop _ _ _ _ _ _ = R
      obtain ⟨e, τ', H', rfl, rfl, g⟩ := loop_at hLo (loop_rule (d := l.length) (fun d τ h' => CvI r1 r2 l h d τ h' ∧ ∀ j (hj : j < l.length), j + d < l.length → l[j] ≠ v) (fun e τ h' => h' = h ∧ ((e = .exit 2 ∧ v ∉ l ∧ τ 0 = r1 ∧ τ 1 = r2 ∧ τ 4 = .int .i64 0 ∧ τ 5 = .int .i64 0) ∨ (e = .ret ∧ τ 4 = .int .i64 v ∧ v ∈ l))) (by
        rintro d τ h' ⟨⟨rfl, k, hk, t0, t1, t5, t6, t4⟩, hno⟩
        rw [lp_M Try.func240 3730 (by decide) 12 (by decide) (by kernel_rfl) []]
        by_cases hd0 : d = 0
        · subst hd0
          have hkl := eq_false (show ¬ ((k : Int) < l.length) by omega)
          have hkl' := eq_false (show ¬ (k < l.length) by omega)
          simp [Try.f240, t0, t4, t5, t1, t6, L2, hkl, hkl']
          intro hv
          obtain ⟨j, hj, rfl⟩ := List.getElem_of_mem hv
          exact hno j hj (by omega) rfl
        · have hlt : k < l.length := by omega
          have hkl := eq_true (show ((k : Int) < l.length) by omega)
          have hkl' := eq_true hlt
          obtain ⟨b, o, u1, u2, u3⟩ := intAt' h2 hlt
          have u3 := u3 h' rfl
          have w1 : IntKind.i64.wrap ((k : Int) + 1) = (k : Int) + 1 := wrap_i64 (n := (k : Int) + 1) (by omega) (by omega)
          by_cases c : v = l[k]
          · have c1 : (v == l[k]) = true := by simpa using c
            simp [Try.f240, t0, t1, t5, t6, L2, hkl, hkl', v1, v3, u1, u3, c1]
            rw [c]; exact List.getElem_mem hlt
          · have c1 : (v == l[k]) = false := by simpa using c
            simp [Try.f240, t0, t1, t5, t6, L2, hkl, hkl', v1, v3, u1, u3, c1, w1]
            exact ⟨d - 1, by omega, ⟨rfl, k + 1, by omega, by simp [t0], by simp [t1], by simp [t5], by simp, by simp [t4]⟩, fun j hj hjd => by
              by_cases e : j = k
              · subst e; exact fun h => c h.symm
              · exact hno j hj (by omega)⟩) ⟨⟨rfl, 0, by simp, by simp [t0], by simp [t1], by simp [t5], by simp, by simp [t4]⟩, fun j hj h => by omega⟩ (by omega))
      rcases g with ⟨rfl, g, s0, s1, s4, s5⟩ | ⟨rfl, g1, g2⟩
      · have w1 : IntKind.i64.wrap ((0 : Int) + 1) = 1 := by rw [wrap_i64 (n := (0 : Int) + 1) (by omega) (by omega)]; rfl
        simp at w1
        simp [s5, w1]
        exact ⟨rfl, by simp [s0], by simp [s1], by simp [s4], .inr ⟨rfl, by simp, g⟩⟩
      · simp [g1, g2]
    · simp [Try.f240, t0, t5, L1, hno]) ⟨rfl, by simp, by simp, by simp, .inl ⟨rfl, by simp⟩⟩ (by omega))
  rcases g with ⟨rfl, g⟩ | ⟨rfl, g1, g2⟩
  · simp [g]
  · simp [g1, g2]
end Go.Ev

/- Names in the reference. -/
namespace Go.Ev
open Go Go.Proofs
set_option linter.unusedSimpArgs false
set_option linter.unusedVariables false

theorem lenS9 (s : ByteArray) (h : AH) : lenA Try.prog 9 (.str s) h = some (.int .i64 s.size) := by simp [lenA]
/-- the inner loop -/
def NmJ (r ms : AV) (l : List ByteArray) (i : Nat) (H : AH) (d : Nat) (τ : Tm) (h : AH) : Prop := h = H ∧ τ 0 = r ∧ τ 1 = ms ∧ τ 5 = .int .i64 i ∧ ∃ k : Nat, k + d = i ∧ τ 6 = .int .i64 k ∧ ∀ j (hj : j < k) (hj' : j < l.length) (hi : i < l.length), l[j] ≠ l[i]
def NmI (r ms : AV) (l : List ByteArray) (H : AH) (d : Nat) (τ : Tm) (h : AH) : Prop := h = H ∧ τ 0 = r ∧ τ 1 = ms ∧ ∃ k : Nat, k + d = l.length ∧ τ 5 = .int .i64 k ∧ (∀ j (hj : j < l.length), j < k → nameIn l[j]) ∧ ∀ i j (hi : i < l.length) (hj : j < l.length), j < i → i < k → l[j] ≠ l[i]
theorem nodup_at {α : Type} (l : List α) : l.Nodup ↔ ∀ i j (hi : i < l.length) (hj : j < l.length), j < i → l[j] ≠ l[i] := by
  unfold List.Nodup
  rw [List.pairwise_iff_getElem]
  exact ⟨fun h i j hi hj hij => h j i hj hi hij, fun h i j hi hj hij => h j i hj hi hij⟩
set_option maxRecDepth 20000 in
theorem nmInner {rw : Bool} {H : AH} {r ms : AV} {l : List ByteArray} {bs : List Nat} (hr : (Ty.sl 9 .str).R rw H [r] l bs) {i : Nat} (hi : i < l.length) (hl : l.length ≤ 1000) (m : Nat) (hm : 1010 ≤ m) (τ : Tm) (hI : NmJ r ms l i H i τ H) :
    ∃ e τ' H', evLoop Try.prog (ev Try.prog m) m (lp Try.prog 239 7462) τ H = some (e, τ', H') ∧ H' = H ∧ ((e = .exit 2 ∧ (∀ j (hj : j < i) (hj' : j < l.length), l[j] ≠ l[i]) ∧ τ' 0 = r ∧ τ' 1 = ms ∧ τ' 5 = .int .i64 i) ∨ (e = .ret ∧ τ' 4 = .bool false ∧ ¬ l.Nodup)) := by
  refine loop_rule (d := i) (NmJ r ms l i H) (fun e τ' H' => H' = H ∧ ((e = .exit 2 ∧ (∀ j (hj : j < i) (hj' : j < l.length), l[j] ≠ l[i]) ∧ τ' 0 = r ∧ τ' 1 = ms ∧ τ' 5 = .int .i64 i) ∨ (e = .ret ∧ τ' 4 = .bool false ∧ ¬ l.Nodup))) ?_ hI (by omega)
  rintro d τ h ⟨rfl, t0, t1, t5, k, hk, t6, hno⟩
  rw [lp_M Try.func239 7462 (by decide) 13 (by decide) (by kernel_rfl) []]
  by_cases hd0 : d = 0
  · subst hd0
    obtain rfl : k = i := by omega
    simp [Try.f239, t0, t1, t5, t6]
    exact fun j hj hj' => hno j hj hj' hi
  · have hlt : k < i := by omega
    have hkl := eq_true (show ((k : Int) < i) by omega)
    have hkl' := eq_true hlt
    obtain ⟨b, o, u1, u2, u3⟩ := strAt hr (k := k) (by omega)
    have u3 := u3 h rfl
    obtain ⟨b', o', u1', u2', u3'⟩ := strAt hr (k := i) hi
    have u3' := u3' h rfl
    have w1 : IntKind.i64.wrap ((k : Int) + 1) = (k : Int) + 1 := wrap_i64 (n := (k : Int) + 1) (by omega) (by omega)
    by_cases c : l[k] = l[i]
    · have c1 : (l[k].toList == l[i].toList) = true := by rw [c]; simp
      simp [Try.f239, t0, t1, t5, t6, hkl, hkl', u1, u3, u1', u3', c1]
      exact fun h => (nodup_at l).1 h i k hi (by omega) hlt c
    · have c1 : (l[k].toList == l[i].toList) = false := by rw [← beq_toListBytes]; exact baN c
      simp [Try.f239, t0, t1, t5, t6, hkl, hkl', u1, u3, u1', u3', c1, w1]
      exact ⟨d - 1, by omega, rfl, by simp [t0], by simp [t1], by simp [t5], k + 1, by omega, by simp, fun j hj hj' hi' => by
        by_cases e : j = k
        · subst e; exact c
        · exact hno j (by omega) hj' hi'⟩
set_option maxRecDepth 20000 in
theorem namesS_ev {rw : Bool} {H : AH} {r : AV} {l : List ByteArray} {bs : List Nat} (hr : (Ty.sl 9 .str).R rw H [r] l bs) (most : Int) (hmo : most ≤ 4) (m : Nat) (hm : 1020 ≤ m) :
    ev Try.prog m 239 [r, .int .i64 most] H = some (.bool (decide (namesL l most)), H) := by
  obtain ⟨m, rfl⟩ : ∃ k, m = k + 1 := ⟨m - 1, by omega⟩
  have L1 := hr.lenA (P := Try.prog) (T := 118) (by simp)
  rw [ev_M Try.func239 ok239 [] _ _ H (by simp [Try.f239])]
  by_cases c1 : 1 ≤ l.length
  · have c1' := eq_false (show ¬ ((l.length : Int) < 1) by omega)
    have c1'' := eq_false (show ¬ (l.length < 1) by omega)
    have c1n := eq_false (show ¬ (l.length = 0) by omega)
    have c1m := eq_false (show ¬ (l = []) by intro e; rw [e] at c1; simp at c1)
    by_cases c2 : (l.length : Int) ≤ most
    · have c2' := eq_false (show ¬ (most < (l.length : Int)) by omega)
      simp [Try.f239, U, tm0, L1, c1', c1'', c1n, c1m, c2']
      generalize hLo : evLoop _ _ _ _ _ _ = R
      obtain ⟨e, τ', H', rfl, rfl, g⟩ := loop_at hLo (loop_rule (d := l.length) (NmI r (.int .i64 most) l H) (fun e τ h => h = H ∧ ((e = .exit 0 ∧ (∀ v ∈ l, nameIn v) ∧ l.Nodup) ∨ (e = .ret ∧ τ 4 = .bool false ∧ ¬ ((∀ v ∈ l, nameIn v) ∧ l.Nodup)))) (by
        rintro d τ h ⟨rfl, t0, t1, k, hk, t5, hin, hno⟩
        rw [lp_M Try.func239 58 (by decide) 6 (by decide) (by kernel_rfl) []]
        by_cases hd0 : d = 0
        · subst hd0
          have hkl := eq_false (show ¬ ((k : Int) < l.length) by omega)
          have hkl' := eq_false (show ¬ (k < l.length) by omega)
          simp [Try.f239, t0, t5, L1, hkl, hkl']
          refine ⟨fun v hv => ?_, (nodup_at l).2 fun i j hi hj hij => hno i j hi hj hij (by omega)⟩
          obtain ⟨j, hj, rfl⟩ := List.getElem_of_mem hv
          exact hin j hj (by omega)
        · have hlt : k < l.length := by omega
          have hkl := eq_true (show ((k : Int) < l.length) by omega)
          have hkl' := eq_true hlt
          obtain ⟨b, o, u1, u2, u3⟩ := strAt hr hlt
          have u3 := u3 h rfl
          have w1 : IntKind.i64.wrap ((k : Int) + 1) = (k : Int) + 1 := wrap_i64 (n := (k : Int) + 1) (by omega) (by omega)
          by_cases c : nameIn l[k]
          · have d1 := eq_false (show ¬ ((l[k].size : Int) < 1) by have := c.1; omega)
            have d1' := eq_false (show ¬ (l[k].size < 1) by have := c.1; omega)
            have d1n := eq_false (show ¬ (l[k].size = 0) by have := c.1; omega)
            have d2 := eq_false (show ¬ ((16 : Int) < l[k].size) by have := c.2; omega)
            have d2' := eq_false (show ¬ (16 < l[k].size) by have := c.2; omega)
            simp [Try.f239, U, t0, t1, t5, L1, hkl, hkl', u1, u3, lenS9, d1, d1', d1n, d2, d2']
            generalize hLo : evLoop _ _ _ _ _ _ = R
            obtain ⟨e, τ', H', rfl, rfl, g⟩ := loop_at hLo (nmInner (ms := .int .i64 most) hr hlt (by omega) m (by omega) _ ⟨rfl, by simp [t0], by simp [t1], by simp [t5], 0, by omega, by simp, fun j hj => by omega⟩)
            rcases g with ⟨rfl, g, s0, s1, s5⟩ | ⟨rfl, g1, g2⟩
            · simp [s5, w1]
              refine ⟨d - 1, by omega, rfl, by simp [s0], by simp [s1], k + 1, by omega, by simp, fun j hj hjk => ?_, fun i j hi hj hij hik => ?_⟩
              · by_cases e : j = k
                · subst e; exact c
                · exact hin j hj (by omega)
              · by_cases e : i = k
                · subst e; exact g j hij hj
                · exact hno i j hi hj hij (by omega)
            · simp [g1]
              exact fun _ => g2
          · have hc : l[k].size < 1 ∨ 16 < l[k].size := by unfold nameIn at c; omega
            have hx : ¬ ((∀ v ∈ l, nameIn v) ∧ l.Nodup) := fun h => c (h.1 _ (List.getElem_mem hlt))
            rcases hc with hc | hc
            · have d1 := eq_true (show ((l[k].size : Int) < 1) by omega)
              have d1' := eq_true hc
              have d1n := eq_true (show (l[k].size = 0) by omega)
              simp [Try.f239, U, t0, t1, t5, L1, hkl, hkl', u1, u3, lenS9, d1, d1', d1n]
              simpa using hx
            · have d1 := eq_false (show ¬ ((l[k].size : Int) < 1) by omega)
              have d1' := eq_false (show ¬ (l[k].size < 1) by omega)
              have d1n := eq_false (show ¬ (l[k].size = 0) by omega)
              have d2 := eq_true (show ((16 : Int) < l[k].size) by omega)
              have d2' := eq_true hc
              simp [Try.f239, U, t0, t1, t5, L1, hkl, hkl', u1, u3, lenS9, d1, d1', d1n, d2, d2']
              simpa using hx) ⟨rfl, by simp, by simp, 0, by simp, by simp, by simp, fun i j _ _ _ h => by omega⟩ (by omega))
      rcases g with ⟨rfl, g1, g2⟩ | ⟨rfl, g1, g2⟩
      · have hv : namesL l most := ⟨c1, c2, g1, g2⟩
        simp [hv]
      · have hv : ¬ namesL l most := fun h => g2 h.2.2
        simp [g1, hv]
    · have hv : ¬ namesL l most := fun h => c2 h.2.1
      have c2' := eq_true (show (most < (l.length : Int)) by omega)
      simp [Try.f239, U, tm0, L1, c1', c1'', c1n, c1m, c2', hv]
  · have c0 : l = [] := List.length_eq_zero_iff.1 (by omega)
    have hv : ¬ namesL l most := fun h => c1 h.1
    subst c0
    simp [Try.f239, U, tm0, L1, hv]
end Go.Ev
