/- Lemmas of an evaluator of the given code and of what the functions answer; no condition of its own. -/
import Derived.Test.YtomhcdfflfonfaaEv10
import Derived.Test.YtomhcdfflfonfaaEv9
import Derived.Test.YtomhcdfflfonfaaEv8
import Derived.WideShapes
/- Retry packets: what is written for which header. -/
namespace Go.Ev
open Go Go.Proofs
set_option linter.unusedSimpArgs false
set_option linter.unusedVariables false

def hdG (f v : Int) (d s t : AV) (n l p : Int) : AV := .agg [.int .i64 f, .int .i64 v, d, s, t, .int .i64 n, .int .i64 l, .int .i64 p]
def rpOK (f v : Int) (D S T : List Int) (n l p : Int) (O : List Int) : Prop :=
  f = 3 ∧ verB v = true ∧ D.length ≤ 8 ∧ S.length ≤ 8 ∧ 1 ≤ T.length ∧ T.length ≤ 64 ∧ n = 0 ∧ l = 0 ∧ p = 0 ∧ O.length ≤ 8
def retH (v : Int) (D S T : List Int) : List Int := (240 :: idsL v D S) ++ T
def retL (v : Int) (D S T O : List Int) : List Int := retH v D S T ++ tagL O (retH v D S T)
theorem RetryPacketI_bad {H : AH} {d s t o : AV} {f v n l p : Int} {D S T O : List Int} (hd : Bs H d D) (hs : Bs H s S) (ht : Bs H t T) (ho : Bs H o O) (hB : ¬ rpOK f v D S T n l p O) (m : Nat) (hm : 2 ≤ m) :
    ∃ r H', ev Try.prog m 8 [hdG f v d s t n l p, o] H = some (.tuple [r, .int .i64 1], H') ∧ Kp H H' ∧ Bs H' r [] := by
  obtain ⟨m, rfl⟩ : ∃ k, m = k + 1 := ⟨m - 1, by omega⟩
  rw [ev_M Try.func8 ok8 [] _ _ H (by simp [Try.f8])]
  have LD : ∀ h, lenA Try.prog 22 d h = some (.int .i64 D.length) := hd.len
  have LS : ∀ h, lenA Try.prog 22 s h = some (.int .i64 S.length) := hs.len
  have LT : ∀ h, lenA Try.prog 22 t h = some (.int .i64 T.length) := ht.len
  have LO : ∀ h, lenA Try.prog 22 o h = some (.int .i64 O.length) := ho.len
  have V : ∀ h, ev Try.prog m 51 [.int .i64 v] h = some (.bool (verB v), h) := fun h => versionOK_ev v h m (by omega)
  by_cases h0 : f = 3
  rotate_left
  · have b : (f != 3) = true := by simp [h0]
    simp [Try.f8, tm0, hdG, hd.one, hs.one, ht.one, LD, LS, LT, LO, V, b, spl, fillA, zerosA, ldVar, stVar]
    exact ⟨_, _, ⟨rfl, rfl⟩, (Kp.refl H).push _, Bs.nil _⟩
  have e0 := h0
  by_cases h1 : verB v = true
  rotate_left
  · have b : verB v = false := by simpa using h1
    simp [Try.f8, tm0, hdG, hd.one, hs.one, ht.one, LD, LS, LT, LO, V, b, e0, spl, fillA, zerosA, ldVar, stVar]
    exact ⟨_, _, ⟨rfl, rfl⟩, (Kp.refl H).push _, Bs.nil _⟩
  have e1 := h1
  by_cases h2 : D.length ≤ 8
  rotate_left
  · have b := eq_true (show (8 < (D.length : Int)) by omega)
    simp [Try.f8, tm0, hdG, hd.one, hs.one, ht.one, LD, LS, LT, LO, V, b, e0, e1, spl, fillA, zerosA, ldVar, stVar]
    exact ⟨_, _, ⟨rfl, rfl⟩, (Kp.refl H).push _, Bs.nil _⟩
  have e2 := eq_false (show ¬ (8 < (D.length : Int)) by omega)
  by_cases h3 : S.length ≤ 8
  rotate_left
  · have b := eq_true (show (8 < (S.length : Int)) by omega)
    simp [Try.f8, tm0, hdG, hd.one, hs.one, ht.one, LD, LS, LT, LO, V, b, e0, e1, e2, spl, fillA, zerosA, ldVar, stVar]
    exact ⟨_, _, ⟨rfl, rfl⟩, (Kp.refl H).push _, Bs.nil _⟩
  have e3 := eq_false (show ¬ (8 < (S.length : Int)) by omega)
  by_cases h4 : 1 ≤ T.length
  rotate_left
  · have b := eq_true (show ((T.length : Int) < 1) by omega)
    simp [Try.f8, tm0, hdG, hd.one, hs.one, ht.one, LD, LS, LT, LO, V, b, e0, e1, e2, e3, spl, fillA, zerosA, ldVar, stVar]
    exact ⟨_, _, ⟨rfl, rfl⟩, (Kp.refl H).push _, Bs.nil _⟩
  have e4 := eq_false (show ¬ ((T.length : Int) < 1) by omega)
  by_cases h5 : T.length ≤ 64
  rotate_left
  · have b := eq_true (show (64 < (T.length : Int)) by omega)
    simp [Try.f8, tm0, hdG, hd.one, hs.one, ht.one, LD, LS, LT, LO, V, b, e0, e1, e2, e3, e4, spl, fillA, zerosA, ldVar, stVar]
    exact ⟨_, _, ⟨rfl, rfl⟩, (Kp.refl H).push _, Bs.nil _⟩
  have e5 := eq_false (show ¬ (64 < (T.length : Int)) by omega)
  by_cases h6 : n = 0
  rotate_left
  · have b : (n != 0) = true := by simp [h6]
    simp [Try.f8, tm0, hdG, hd.one, hs.one, ht.one, LD, LS, LT, LO, V, b, e0, e1, e2, e3, e4, e5, spl, fillA, zerosA, ldVar, stVar]
    exact ⟨_, _, ⟨rfl, rfl⟩, (Kp.refl H).push _, Bs.nil _⟩
  have e6 := h6
  by_cases h7 : l = 0
  rotate_left
  · have b : (l != 0) = true := by simp [h7]
    simp [Try.f8, tm0, hdG, hd.one, hs.one, ht.one, LD, LS, LT, LO, V, b, e0, e1, e2, e3, e4, e5, e6, spl, fillA, zerosA, ldVar, stVar]
    exact ⟨_, _, ⟨rfl, rfl⟩, (Kp.refl H).push _, Bs.nil _⟩
  have e7 := h7
  by_cases h8 : p = 0
  rotate_left
  · have b : (p != 0) = true := by simp [h8]
    simp [Try.f8, tm0, hdG, hd.one, hs.one, ht.one, LD, LS, LT, LO, V, b, e0, e1, e2, e3, e4, e5, e6, e7, spl, fillA, zerosA, ldVar, stVar]
    exact ⟨_, _, ⟨rfl, rfl⟩, (Kp.refl H).push _, Bs.nil _⟩
  have e8 := h8
  by_cases h9 : O.length ≤ 8
  rotate_left
  · have b := eq_true (show (8 < (O.length : Int)) by omega)
    simp [Try.f8, tm0, hdG, hd.one, hs.one, ht.one, LD, LS, LT, LO, V, b, e0, e1, e2, e3, e4, e5, e6, e7, e8, spl, fillA, zerosA, ldVar, stVar]
    exact ⟨_, _, ⟨rfl, rfl⟩, (Kp.refl H).push _, Bs.nil _⟩
  have e9 := eq_false (show ¬ (8 < (O.length : Int)) by omega)
  exact absurd ⟨h0, h1, h2, h3, h4, h5, h6, h7, h8, h9⟩ hB
theorem RetryPacketS_bad {H : AH} {d s t o : AV} {f v n l p : Int} {D S T O : List Int} (hd : Bs H d D) (hs : Bs H s S) (ht : Bs H t T) (ho : Bs H o O) (hB : ¬ rpOK f v D S T n l p O) (m : Nat) (hm : 2 ≤ m) :
    ∃ r H', ev Try.prog m 9 [hdG f v d s t n l p, o] H = some (.tuple [r, .int .i64 1], H') ∧ Kp H H' ∧ Bs H' r [] := by
  obtain ⟨m, rfl⟩ : ∃ k, m = k + 1 := ⟨m - 1, by omega⟩
  rw [ev_M Try.func9 ok9 [] _ _ H (by simp [Try.f9])]
  have LD : ∀ h, lenA Try.prog 22 d h = some (.int .i64 D.length) := hd.len
  have LS : ∀ h, lenA Try.prog 22 s h = some (.int .i64 S.length) := hs.len
  have LT : ∀ h, lenA Try.prog 22 t h = some (.int .i64 T.length) := ht.len
  have LO : ∀ h, lenA Try.prog 22 o h = some (.int .i64 O.length) := ho.len
  have V : ∀ h, ev Try.prog m 54 [.int .i64 v] h = some (.bool (verB v), h) := fun h => versionOKS_ev v h m (by omega)
  by_cases h0 : f = 3
  rotate_left
  · have b : (f != 3) = true := by simp [h0]
    simp [Try.f9, tm0, hdG, hd.one, hs.one, ht.one, LD, LS, LT, LO, V, b, spl, fillA, zerosA, ldVar, stVar]
    exact ⟨_, _, ⟨rfl, rfl⟩, ((Kp.refl H).push _).push _, Bs.mk' (ro := false) (l := []) (by simp [u8L]) (by simp)⟩
  have e0 := h0
  by_cases h1 : verB v = true
  rotate_left
  · have b : verB v = false := by simpa using h1
    simp [Try.f9, tm0, hdG, hd.one, hs.one, ht.one, LD, LS, LT, LO, V, b, e0, spl, fillA, zerosA, ldVar, stVar]
    exact ⟨_, _, ⟨rfl, rfl⟩, ((Kp.refl H).push _).push _, Bs.mk' (ro := false) (l := []) (by simp [u8L]) (by simp)⟩
  have e1 := h1
  by_cases h2 : D.length ≤ 8
  rotate_left
  · have b := eq_true (show (8 < (D.length : Int)) by omega)
    simp [Try.f9, tm0, hdG, hd.one, hs.one, ht.one, LD, LS, LT, LO, V, b, e0, e1, spl, fillA, zerosA, ldVar, stVar]
    exact ⟨_, _, ⟨rfl, rfl⟩, ((Kp.refl H).push _).push _, Bs.mk' (ro := false) (l := []) (by simp [u8L]) (by simp)⟩
  have e2 := eq_false (show ¬ (8 < (D.length : Int)) by omega)
  by_cases h3 : S.length ≤ 8
  rotate_left
  · have b := eq_true (show (8 < (S.length : Int)) by omega)
    simp [Try.f9, tm0, hdG, hd.one, hs.one, ht.one, LD, LS, LT, LO, V, b, e0, e1, e2, spl, fillA, zerosA, ldVar, stVar]
    exact ⟨_, _, ⟨rfl, rfl⟩, ((Kp.refl H).push _).push _, Bs.mk' (ro := false) (l := []) (by simp [u8L]) (by simp)⟩
  have e3 := eq_false (show ¬ (8 < (S.length : Int)) by omega)
  by_cases h4 : 1 ≤ T.length
  rotate_left
  · have b := eq_true (show ((T.length : Int) < 1) by omega)
    simp [Try.f9, tm0, hdG, hd.one, hs.one, ht.one, LD, LS, LT, LO, V, b, e0, e1, e2, e3, spl, fillA, zerosA, ldVar, stVar]
    exact ⟨_, _, ⟨rfl, rfl⟩, ((Kp.refl H).push _).push _, Bs.mk' (ro := false) (l := []) (by simp [u8L]) (by simp)⟩
  have e4 := eq_false (show ¬ ((T.length : Int) < 1) by omega)
  by_cases h5 : T.length ≤ 64
  rotate_left
  · have b := eq_true (show (64 < (T.length : Int)) by omega)
    simp [Try.f9, tm0, hdG, hd.one, hs.one, ht.one, LD, LS, LT, LO, V, b, e0, e1, e2, e3, e4, spl, fillA, zerosA, ldVar, stVar]
    exact ⟨_, _, ⟨rfl, rfl⟩, ((Kp.refl H).push _).push _, Bs.mk' (ro := false) (l := []) (by simp [u8L]) (by simp)⟩
  have e5 := eq_false (show ¬ (64 < (T.length : Int)) by omega)
  by_cases h6 : n = 0
  rotate_left
  · have b : (n != 0) = true := by simp [h6]
    simp [Try.f9, tm0, hdG, hd.one, hs.one, ht.one, LD, LS, LT, LO, V, b, e0, e1, e2, e3, e4, e5, spl, fillA, zerosA, ldVar, stVar]
    exact ⟨_, _, ⟨rfl, rfl⟩, ((Kp.refl H).push _).push _, Bs.mk' (ro := false) (l := []) (by simp [u8L]) (by simp)⟩
  have e6 := h6
  by_cases h7 : l = 0
  rotate_left
  · have b : (l != 0) = true := by simp [h7]
    simp [Try.f9, tm0, hdG, hd.one, hs.one, ht.one, LD, LS, LT, LO, V, b, e0, e1, e2, e3, e4, e5, e6, spl, fillA, zerosA, ldVar, stVar]
    exact ⟨_, _, ⟨rfl, rfl⟩, ((Kp.refl H).push _).push _, Bs.mk' (ro := false) (l := []) (by simp [u8L]) (by simp)⟩
  have e7 := h7
  by_cases h8 : p = 0
  rotate_left
  · have b : (p != 0) = true := by simp [h8]
    simp [Try.f9, tm0, hdG, hd.one, hs.one, ht.one, LD, LS, LT, LO, V, b, e0, e1, e2, e3, e4, e5, e6, e7, spl, fillA, zerosA, ldVar, stVar]
    exact ⟨_, _, ⟨rfl, rfl⟩, ((Kp.refl H).push _).push _, Bs.mk' (ro := false) (l := []) (by simp [u8L]) (by simp)⟩
  have e8 := h8
  by_cases h9 : O.length ≤ 8
  rotate_left
  · have b := eq_true (show (8 < (O.length : Int)) by omega)
    simp [Try.f9, tm0, hdG, hd.one, hs.one, ht.one, LD, LS, LT, LO, V, b, e0, e1, e2, e3, e4, e5, e6, e7, e8, spl, fillA, zerosA, ldVar, stVar]
    exact ⟨_, _, ⟨rfl, rfl⟩, ((Kp.refl H).push _).push _, Bs.mk' (ro := false) (l := []) (by simp [u8L]) (by simp)⟩
  have e9 := eq_false (show ¬ (8 < (O.length : Int)) by omega)
  exact absurd ⟨h0, h1, h2, h3, h4, h5, h6, h7, h8, h9⟩ hB
end Go.Ev

/- Plain packets: what is read back, in plain Lean. -/
namespace Go.Ev
open Go Go.Proofs
set_option linter.unusedSimpArgs false
set_option linter.unusedVariables false

theorem takeI_at (pre x post : List Int) {n : Int} (hn : n = x.length) {a : Nat} (ha : a = pre.length) : takeI (pre ++ (x ++ post)) a 0 n = (x, a + x.length, 0) := by
  subst hn ha
  unfold takeI
  rw [if_neg (by simp), if_neg (by simp; omega)]
  simp
theorem octetI_at (pre post : List Int) (y : Int) {a : Nat} (ha : a = pre.length) : octetI (pre ++ (y :: post)) a 0 = (y, a + 1, 0) := by
  have := takeI_at pre [y] post (n := 1) (by simp) ha
  simp only [List.singleton_append] at this
  simp [octetI, this, octV]
theorem cidI_at (pre D post : List Int) (hD : D.length ≤ 8) {a : Nat} (ha : a = pre.length) : cidI (pre ++ ((D.length : Int) :: (D ++ post))) a 0 = (D, a + 1 + D.length, 0) := by
  unfold cidI
  rw [octetI_at pre (D ++ post) _ ha]
  have := takeI_at (pre ++ [(D.length : Int)]) D post (n := D.length) rfl (a := a + 1) (by simp [ha])
  simp only [List.append_assoc, List.singleton_append] at this
  simp only
  rw [if_neg (by omega), this]
theorem valP_dig4 {v : Int} (h0 : 0 ≤ v) (h1 : v ≤ 4294967295) : valP (digB 4 v) = v := by
  simp [digB, valP]
  omega
theorem peek_ids (f v : Int) (D S R : List Int) (hD : D.length ≤ 8) (hS : S.length ≤ 8) (hf : 128 ≤ f) :
    peekP (f :: (idsL v D S ++ R)) 0 = longP (f :: (idsL v D S ++ R)) f (digB 4 v, 5, 0) (D, 6 + D.length, 0) (S, 7 + D.length + S.length, 0) := by
  unfold peekP
  have o1 := octetI_at [] (idsL v D S ++ R) f (a := 0) rfl
  simp only [List.nil_append] at o1
  rw [o1]
  rw [if_neg (by simp), if_neg (by simp; omega), if_neg (by simp; omega)]
  have t1 := takeI_at [f] (digB 4 v) ((D.length : Int) :: (D ++ ((S.length : Int) :: (S ++ R)))) (n := 4) (by simp [digB_len]) (a := 1) rfl
  have el : f :: (idsL v D S ++ R) = [f] ++ (digB 4 v ++ ((D.length : Int) :: (D ++ ((S.length : Int) :: (S ++ R))))) := by simp [idsL]
  rw [digB_len] at t1
  simp only [Nat.zero_add]
  rw [el, t1]
  unfold idsP
  have c1 := cidI_at ([f] ++ digB 4 v) D ((S.length : Int) :: (S ++ R)) hD (a := 5) (by simp [digB_len])
  simp only [List.append_assoc] at c1 
  simp only
  rw [c1]
  have c2 := cidI_at ([f] ++ digB 4 v ++ ((D.length : Int) :: D)) S R hS (a := 5 + 1 + D.length) (by simp [digB_len]; omega)
  simp only [List.append_assoc, List.cons_append] at c2
  simp only [List.cons_append, List.nil_append, List.append_assoc] at c2 ⊢
  rw [c2]
  congr 3 <;> omega
theorem drop_ids (f v : Int) (D S R : List Int) : (f :: (idsL v D S ++ R)).drop (7 + D.length + S.length) = R := by
  have el : f :: (idsL v D S ++ R) = (f :: idsL v D S) ++ R := by simp
  rw [el]
  have : (f :: idsL v D S).length = 7 + D.length + S.length := by simp [idsL, digB_len]; omega
  rw [← this, List.drop_left]
theorem len_ids (f v : Int) (D S R : List Int) : (f :: (idsL v D S ++ R)).length = 7 + D.length + S.length + R.length := by simp [idsL, digB_len]; omega
theorem tagL_len (O P : List Int) : (tagL O P).length = 8 := by simp [tagL, digestL_len]
theorem retL_eq (v : Int) (D S T O : List Int) : retL v D S T O = 240 :: (idsL v D S ++ (T ++ tagL O (retH v D S T))) := by simp [retL, retH]
theorem peek_ret {v : Int} {D S T O : List Int} (hv : 1 ≤ v) (hv1 : v ≤ 4294967295) (hD : D.length ≤ 8) (hS : S.length ≤ 8) (hT : 1 ≤ T.length) (hT1 : T.length ≤ 64) :
    peekP (retL v D S T O) 0 = ⟨0, 3, v, D, S, T, (retL v D S T O).length⟩ := by
  rw [retL_eq, peek_ids _ _ _ _ _ hD hS (by omega)]
  unfold longP
  simp only
  have hl := len_ids 240 v D S (T ++ tagL O (retH v D S T))
  simp only [List.length_append, tagL_len] at hl
  rw [if_neg (by simp), if_neg (by rw [valP_dig4 (by omega) hv1]; omega), if_neg (by omega), if_pos (by omega), drop_ids, hl, if_neg (by omega), if_neg (by omega), valP_dig4 (by omega) hv1]
  have : 7 + D.length + S.length + (T.length + 8) - (7 + D.length + S.length) - 8 = T.length := by omega
  rw [this, List.take_left]
theorem retL_len (v : Int) (D S T O : List Int) : (retL v D S T O).length = 15 + D.length + S.length + T.length := by
  rw [retL_eq, len_ids]; simp [tagL_len]; omega
theorem retP_ok {v : Int} {D S T O : List Int} (hv : 1 ≤ v) (hv1 : v ≤ 4294967295) (hD : D.length ≤ 8) (hS : S.length ≤ 8) (hT : 1 ≤ T.length) (hT1 : T.length ≤ 64) (hO : O.length ≤ 8) :
    RetryP (retL v D S T O) O = ⟨0, 3, v, D, S, T, (retL v D S T O).length⟩ := by
  unfold RetryP
  have hp := peek_ret (O := O) hv hv1 hD hS hT hT1
  have hl := retL_len v D S T O
  rw [if_neg (by omega), if_neg (by omega), hp, if_neg (by simp), if_neg (by simp), if_neg]
  unfold badTag
  have h1 : (retL v D S T O).take ((retL v D S T O).length - 8) = retH v D S T := by
    have : (retL v D S T O).length - 8 = (retH v D S T).length := by simp [retL, tagL_len]
    rw [this, retL, List.take_left]
  have h2 : (retL v D S T O).drop ((retL v D S T O).length - 8) = tagL O (retH v D S T) := by
    have : (retL v D S T O).length - 8 = (retH v D S T).length := by simp [retL, tagL_len]
    rw [this, retL, List.drop_left]
  rw [h1, h2]; simp
def verL (D S V : List Int) : List Int := 128 :: (idsL 0 D S ++ V.flatMap (digB 4))
theorem flat_len (V : List Int) : (V.flatMap (digB 4)).length = 4 * V.length := by
  induction V with
  | nil => rfl
  | cons x V ih => simp only [List.flatMap_cons, List.length_append, digB_len, ih, List.length_cons]; omega
theorem flat_grp : ∀ (V : List Int) (hV : ∀ x ∈ V, 0 ≤ x ∧ x ≤ 4294967295) (j : Nat) (hj : j < V.length), grp (V.flatMap (digB 4)) j = V[j]
  | x :: V, hV, 0, hj => by
    have : (digB 4 x).length = 4 := digB_len 4 x
    have h2 : (digB 4 x ++ V.flatMap (digB 4)).take 4 = digB 4 x := by
      have h3 : (digB 4 x ++ V.flatMap (digB 4)).take (digB 4 x).length = digB 4 x := List.take_left ..
      rwa [this] at h3
    simp only [grp, List.flatMap_cons, Nat.mul_zero, List.drop_zero, h2, List.getElem_cons_zero]
    exact valP_dig4 (hV x (by simp)).1 (hV x (by simp)).2
  | x :: V, hV, j + 1, hj => by
    have ih := flat_grp V (fun y hy => hV y (by simp [hy])) j (by simpa using hj)
    simp only [List.getElem_cons_succ]
    rw [← ih]
    unfold grp
    have e : 4 * (j + 1) = (digB 4 x).length + 4 * j := by rw [digB_len]; omega
    rw [e, List.flatMap_cons, List.drop_append, List.drop_eq_nil_of_le (by omega), Nat.add_sub_cancel_left, List.nil_append]
theorem versP_flat {V : List Int} (h1 : 1 ≤ V.length) (h8 : V.length ≤ 8) (hV : ∀ x ∈ V, 1 ≤ x ∧ x ≤ 4294967295) : versP (V.flatMap (digB 4)) = true := by
  simp only [versP, decide_eq_true_eq, flat_len]
  refine ⟨by omega, by omega, by omega, fun j hj => ?_⟩
  have hj' : j < V.length := by omega
  rw [flat_grp V (fun x hx => by have := hV x hx; omega) j hj']
  have := hV V[j] (List.getElem_mem hj'); omega
theorem peek_ver {D S V : List Int} (hD : D.length ≤ 8) (hS : S.length ≤ 8) (h1 : 1 ≤ V.length) (h8 : V.length ≤ 8) (hV : ∀ x ∈ V, 1 ≤ x ∧ x ≤ 4294967295) :
    peekP (verL D S V) 0 = ⟨0, 5, 0, D, S, [], (verL D S V).length⟩ := by
  unfold verL
  rw [peek_ids _ _ _ _ _ hD hS (by omega)]
  unfold longP
  simp only
  rw [if_neg (by simp), if_pos (by rw [valP_dig4 (by omega) (by omega)]), if_pos ⟨by simp, by rw [drop_ids]; exact versP_flat h1 h8 hV⟩]
end Go.Ev

/- Version packets: the loops that write the versions. -/
namespace Go.Ev
open Go Go.Proofs
set_option linter.unusedSimpArgs false
set_option linter.unusedVariables false

/-- whole numbers in a row of their own -/
def IO (H : AH) (v : AV) (l : List Int) (b : Nat) : Prop := v = .slice b 0 l.length ∧ b < H.next ∧ H.get b = some (.cells 3 false (l.map (.int .i64)))
theorem IO.kp {H H' : AH} {v : AV} {l : List Int} {b : Nat} (h : IO H v l b) (hK : Kp H H') : IO H' v l b := ⟨h.1, by have := hK.next; have := h.2.1; omega, by rw [hK.get _ h.2.1]; exact h.2.2⟩
theorem IO.len {H : AH} {v : AV} {l : List Int} {b : Nat} (h : IO H v l b) (h' : AH) : lenA Try.prog 33 v h' = some (.int .i64 l.length) := by rw [h.1]; simp
def InV (l : List Int) : Prop := ∀ x ∈ l, -9223372036854775808 ≤ x ∧ x ≤ 9223372036854775807
def VpI15 (v : AV) (D S V : List Int) (H : AH) (d : Nat) (τ : Tm) (h : AH) : Prop :=
  ∃ (i : Nat) (w : AV) (b : Nat), i + d = V.length ∧ τ 34 = .int .i64 i ∧ τ 32 = v ∧ τ 33 = .int .i64 V.length ∧ τ 8 = w ∧ (BO h w (128 :: (idsL 0 D S ++ (V.take i).flatMap (digB 4))) b) ∧ Kp H h ∧ H.next ≤ b ∧ ∀ x ∈ V.take i, verB x = true
def VpE15 (D S V : List Int) (H : AH) (e : Ex) (τ : Tm) (h : AH) : Prop :=
  (e = .exit 0 ∧ ∃ w b, τ 8 = w ∧ (BO h w (verL D S V) b) ∧ Kp H h ∧ H.next ≤ b ∧ ∀ x ∈ V, verB x = true) ∨ (e = .ret ∧ (∃ r, τ 6 = r ∧ Bs h r []) ∧ τ 7 = .int .i64 1 ∧ Kp H h ∧ ¬ ∀ x ∈ V, verB x = true)
set_option maxRecDepth 20000 in
theorem VpL15 {H h : AH} {v : AV} {D S V : List Int} {bv : Nat} (hV : IO H v V bv) (hb : InV V) (hD : D.length ≤ 8) (hS : S.length ≤ 8) (h8 : V.length ≤ 8) (m : Nat) (hm : 20 ≤ m) (τ : Tm) (h0 : VpI15 v D S V H V.length τ h) :
    ∃ e τ' h', evLoop Try.prog (ev Try.prog m) m (lp Try.prog 15 122) τ h = some (e, τ', h') ∧ VpE15 D S V H e τ' h' := by
  refine loop_rule (d := V.length) (VpI15 v D S V H) (VpE15 D S V H) ?_ h0 (by omega)
  rintro d τ h ⟨i, w, b, hid, t1, t2, t3, t4, hB, hK, hbn, hall⟩
  rw [lp_M Try.func15 122 (by decide) 7 (by decide) (by kernel_rfl) []]
  have hg := hV.2.2
  have hg' : h.get bv = some (.cells 3 false (V.map (.int .i64))) := by rw [hK.get _ hV.2.1]; exact hg
  have hvv := hV.1
  have LV : ∀ h', lenA Try.prog 33 v h' = some (.int .i64 V.length) := fun h' => by rw [hvv]; simp
  by_cases hi : i < V.length
  · have hi' : ((i : Int) < V.length) = True := eq_true (by omega)
    obtain ⟨d, rfl⟩ : ∃ k, d = k + 1 := ⟨d - 1, by omega⟩
    obtain ⟨x, hx⟩ : ∃ x, x = V[i] := ⟨_, rfl⟩
    have hxb := hb x (by rw [hx]; exact List.getElem_mem hi)
    have hgx : (V.map (AV.int .i64))[i]? = some (.int .i64 x) := by rw [hx]; simp [hi]
    have hin : (i < V.length) = True := eq_true hi
    have V1 : ∀ h', ev Try.prog m 51 [.int .i64 x] h' = some (.bool (verB x), h') := fun h' => versionOK_ev x h' m (by omega)
    have wi : IntKind.i64.wrap ((i : Int) + 1) = (i : Int) + 1 := wrap_i64 (by omega) (by omega)
    have ht : V.take (i + 1) = V.take i ++ [x] := by rw [hx]; simp
    by_cases hv : verB x = true
    · have hxx : 1 ≤ x ∧ x ≤ 4294967295 := by simpa [verB] using hv
      obtain ⟨w', X, b', q1, q2, q3, q4⟩ := fixedN_ev (n := 4) hB (x := x) (by simp only [List.length_cons, List.length_append, flat_len, idsL, digB_len, List.length_take]; omega) (by omega) (by omega) (by omega) m (by omega)
      have q1' : ev Try.prog m 61 [w, .int .i64 x, .int .i64 4] h = some (w', X) := q1
      have KX : Kp H X := KoS.kp' hK q3 hbn
      simp [Try.f15, t1, t2, t3, t4, hvv, hi', hg', hgx, hin, hx.symm, V1, hv, q1', wi, LV, ldVar, stVar, idxA, hid]
      refine ⟨d, by omega, i + 1, w', b', by omega, by simp, by simp [t2, hvv], by simp [t3], by simp, ?_, KX, by have := hK.next; rcases q4 with h | h <;> omega, ?_⟩
      · rw [ht]; simpa using q2
      · intro y hy; rw [ht] at hy; simp only [List.mem_append, List.mem_singleton] at hy; rcases hy with h | rfl; exact hall y h; exact hv
    · have hvf : verB x = false := by simpa using hv
      simp [Try.f15, t1, t2, t3, t4, hvv, hi', hg', hgx, hin, hx.symm, V1, hvf, wi, LV, ldVar, stVar, idxA]
      refine .inr ⟨rfl, ⟨_, by simp, Bs.nil _⟩, by simp, hK, fun hh => hv (hh x (by rw [hx]; exact List.getElem_mem hi))⟩
  · have hi' : ((i : Int) < V.length) = False := eq_false (by omega)
    have hl : V.take i = V := List.take_of_length_le (by omega)
    rw [hl] at hB hall
    simp [Try.f15, t1, t2, t3, t4, hi', LV]
    exact .inl ⟨rfl, w, b, by simp [t4], hB, hK, hbn, hall⟩
def VpI16 (v : AV) (D S V : List Int) (H : AH) (d : Nat) (τ : Tm) (h : AH) : Prop :=
  ∃ (i : Nat) (w : AV) (b : Nat), i + d = V.length ∧ τ 9 = .int .i64 i ∧ τ 2 = v ∧ τ 8 = w ∧ (∃ l, BO h w l b ∧ l.length ≤ 23 + 4 * i) ∧ Kp H h ∧ H.next ≤ b ∧ ∀ x ∈ V.take i, verB x = true
def VpE16 (D S V : List Int) (H : AH) (e : Ex) (τ : Tm) (h : AH) : Prop :=
  (e = .exit 0 ∧ ∃ w b, τ 8 = w ∧ (∃ l, BO h w l b) ∧ Kp H h ∧ H.next ≤ b ∧ ∀ x ∈ V, verB x = true) ∨ (e = .ret ∧ (∃ r, τ 6 = r ∧ Bs h r []) ∧ τ 7 = .int .i64 1 ∧ Kp H h ∧ ¬ ∀ x ∈ V, verB x = true)
set_option maxRecDepth 20000 in
theorem VpL16 {H h : AH} {v : AV} {D S V : List Int} {bv : Nat} (hV : IO H v V bv) (hb : InV V) (hD : D.length ≤ 8) (hS : S.length ≤ 8) (h8 : V.length ≤ 8) (m : Nat) (hm : 20 ≤ m) (τ : Tm) (h0 : VpI16 v D S V H V.length τ h) :
    ∃ e τ' h', evLoop Try.prog (ev Try.prog m) m (lp Try.prog 16 122) τ h = some (e, τ', h') ∧ VpE16 D S V H e τ' h' := by
  refine loop_rule (d := V.length) (VpI16 v D S V H) (VpE16 D S V H) ?_ h0 (by omega)
  rintro d τ h ⟨i, w, b, hid, t1, t2, t4, hB, hK, hbn, hall⟩
  rw [lp_M Try.func16 122 (by decide) 7 (by decide) (by kernel_rfl) []]
  have hg := hV.2.2
  have hg' : h.get bv = some (.cells 3 false (V.map (.int .i64))) := by rw [hK.get _ hV.2.1]; exact hg
  have hvv := hV.1
  have LV : ∀ h', lenA Try.prog 33 v h' = some (.int .i64 V.length) := fun h' => by rw [hvv]; simp
  by_cases hi : i < V.length
  · have hi' : ((i : Int) < V.length) = True := eq_true (by omega)
    obtain ⟨d, rfl⟩ : ∃ k, d = k + 1 := ⟨d - 1, by omega⟩
    obtain ⟨x, hx⟩ : ∃ x, x = V[i] := ⟨_, rfl⟩
    have hxb := hb x (by rw [hx]; exact List.getElem_mem hi)
    have hgx : (V.map (AV.int .i64))[i]? = some (.int .i64 x) := by rw [hx]; simp [hi]
    have hin : (i < V.length) = True := eq_true hi
    have V1 : ∀ h', ev Try.prog m 54 [.int .i64 x] h' = some (.bool (verB x), h') := fun h' => versionOKS_ev x h' m (by omega)
    have wi : IntKind.i64.wrap ((i : Int) + 1) = (i : Int) + 1 := wrap_i64 (by omega) (by omega)
    have ht : V.take (i + 1) = V.take i ++ [x] := by rw [hx]; simp
    by_cases hv : verB x = true
    · have hxx : 1 ≤ x ∧ x ≤ 4294967295 := by simpa [verB] using hv
      obtain ⟨l0, hB, hl0⟩ := hB
      obtain ⟨r1, X1, l1, b1, p1, pl, P1, pn, PK, pby⟩ := digitsB (n := 4) (H := h) (v := x) (by omega) (by omega) (by omega) (by omega) m (by omega)
      have p1' : ev Try.prog m 62 [.int .i64 x, .int .i64 4] h = some (r1, X1) := p1
      obtain ⟨w', X, b', q1, q2, q3, q4⟩ := (hB.kp PK).appB P1.bs (by omega)
      have KX : Kp H X := KoS.kp' (hK.trans PK) q3 hbn
      have hgX : X1.get bv = some (.cells 3 false (V.map (.int .i64))) := by rw [PK.get _ (by have := hK.next; have := hV.2.1; omega)]; exact hg'
      simp [Try.f16, t1, t2, t4, hvv, hi', hg', hgx, hin, hx.symm, V1, hv, p1', q1, hgX, wi, LV, ldVar, stVar, idxA, hid]
      refine ⟨d, by omega, i + 1, w', b', by omega, by simp, by simp [t2, hvv], by simp, ⟨_, q2, by simp; omega⟩, KX, by have := hK.next; have := PK.next; rcases q4 with h | h <;> omega, ?_⟩
      · intro y hy; rw [ht] at hy; simp only [List.mem_append, List.mem_singleton] at hy; rcases hy with h | rfl; exact hall y h; exact hv
    · have hvf : verB x = false := by simpa using hv
      simp [Try.f16, t1, t2, t4, hvv, hi', hg', hgx, hin, hx.symm, V1, hvf, wi, LV, ldVar, stVar, idxA, zerosA, fillA, spl]
      refine .inr ⟨rfl, ⟨_, by simp, Bs.mk' (b := h.next) (ro := false) (l := []) (by simp [u8L]) (by simp)⟩, by simp, hK.push _, fun hh => hv (hh x (by rw [hx]; exact List.getElem_mem hi))⟩
  · have hi' : ((i : Int) < V.length) = False := eq_false (by omega)
    have hl : V.take i = V := List.take_of_length_le (by omega)
    rw [hl] at hall
    obtain ⟨l0, hB, hl0⟩ := hB
    simp [Try.f16, t1, t2, t4, hi', LV]
    exact .inl ⟨rfl, w, b, by simp [t4], ⟨_, hB⟩, hK, hbn, hall⟩
end Go.Ev

/- Version packets: both sides. -/
namespace Go.Ev
open Go Go.Proofs
set_option linter.unusedSimpArgs false
set_option linter.unusedVariables false

def vpOK (D S V : List Int) : Prop := D.length ≤ 8 ∧ S.length ≤ 8 ∧ 1 ≤ V.length ∧ V.length ≤ 8 ∧ ∀ x ∈ V, verB x = true
theorem VersionsPacketI_ev {H : AH} {d s v : AV} {D S V : List Int} {bv : Nat} (hd : Bs H d D) (hs : Bs H s S) (hV : IO H v V bv) (hb : InV V) (m : Nat) (hm : 30 ≤ m) :
    ∃ r c H', ev Try.prog m 15 [d, s, v] H = some (.tuple [r, .int .i64 c], H') ∧ Kp H H' ∧ r.one = true ∧ (vpOK D S V → c = 0 ∧ Bs H' r (verL D S V)) ∧ (¬ vpOK D S V → c = 1) := by
  obtain ⟨m, rfl⟩ : ∃ k, m = k + 1 := ⟨m - 1, by omega⟩
  rw [ev_M Try.func15 ok15 [] _ _ H (by simp [Try.f15])]
  have LD : ∀ h, lenA Try.prog 22 d h = some (.int .i64 D.length) := hd.len
  have LS : ∀ h, lenA Try.prog 22 s h = some (.int .i64 S.length) := hs.len
  have LV : ∀ h, lenA Try.prog 33 v h = some (.int .i64 V.length) := hV.len
  by_cases h0 : D.length ≤ 8
  rotate_left
  · have b := eq_true (show (8 < (D.length : Int)) by omega)
    refine ⟨.nilSlice, 1, H, ?_, Kp.refl H, rfl, fun hh => absurd hh.1 h0, fun _ => rfl⟩
    simp [Try.f15, tm0, LD, LS, LV, b, spl, fillA, zerosA]
  have e0 := eq_false (show ¬ (8 < (D.length : Int)) by omega)
  by_cases h1 : S.length ≤ 8
  rotate_left
  · have b := eq_true (show (8 < (S.length : Int)) by omega)
    refine ⟨.nilSlice, 1, H, ?_, Kp.refl H, rfl, fun hh => absurd hh.2.1 h1, fun _ => rfl⟩
    simp [Try.f15, tm0, LD, LS, LV, b, e0, spl, fillA, zerosA]
  have e1 := eq_false (show ¬ (8 < (S.length : Int)) by omega)
  by_cases h2 : 1 ≤ V.length
  rotate_left
  · have b := eq_true (show ((V.length : Int) < 1) by omega)
    refine ⟨.nilSlice, 1, H, ?_, Kp.refl H, rfl, fun hh => absurd hh.2.2.1 h2, fun _ => rfl⟩
    simp [Try.f15, tm0, LD, LS, LV, b, e0, e1, spl, fillA, zerosA]
  have e2 := eq_false (show ¬ ((V.length : Int) < 1) by omega)
  by_cases h3 : V.length ≤ 8
  rotate_left
  · have b := eq_true (show (8 < (V.length : Int)) by omega)
    refine ⟨.nilSlice, 1, H, ?_, Kp.refl H, rfl, fun hh => absurd hh.2.2.2.1 h3, fun _ => rfl⟩
    simp [Try.f15, tm0, LD, LS, LV, b, e0, e1, e2, spl, fillA, zerosA]
  have e3 := eq_false (show ¬ (8 < (V.length : Int)) by omega)
  obtain ⟨w, X, b, p1, B, K, q⟩ := longBegin_ev hd hs h0 h1 128 0 (by omega) (by omega) m (by omega)
  simp [Try.f15, tm0, LD, LS, LV, e0, e1, e2, e3, p1, spl, fillA, zerosA]
  generalize hLo : evLoop _ _ _ _ _ _ = R
  obtain ⟨e, τ', h', hR, hE⟩ := loop_at hLo (VpL15 (h := X) (D := D) (S := S) hV hb h0 h1 h3 m (by omega) _ ⟨0, w, b, by simp, by simp, by simp, by simp, by simp, by simpa using B, K, q, by simp⟩)
  subst hR
  rcases hE with ⟨rfl, w', b', t8, B', K', q', hall⟩ | ⟨rfl, ⟨r, t6, R6⟩, t7, K', hn⟩
  · have ok : vpOK D S V := ⟨h0, h1, h2, h3, hall⟩
    simp [t8]
    exact ⟨_, _, _, ⟨⟨rfl, rfl⟩, rfl⟩, K', B'.bs.one, fun _ => ⟨rfl, B'.bs⟩, fun h => absurd ok h⟩
  · have nok : ¬ vpOK D S V := fun h => hn h.2.2.2.2
    simp [t6, t7]
    exact ⟨_, _, _, ⟨⟨rfl, rfl⟩, rfl⟩, K', R6.one, fun h => absurd h nok, fun _ => rfl⟩
theorem VersionsPacketS_ev {H : AH} {d s v : AV} {D S V : List Int} {bv : Nat} (hd : Bs H d D) (hs : Bs H s S) (hV : IO H v V bv) (hb : InV V) (m : Nat) (hm : 30 ≤ m) :
    ∃ r c H', ev Try.prog m 16 [d, s, v] H = some (.tuple [r, .int .i64 c], H') ∧ Kp H H' ∧ r.one = true ∧ (vpOK D S V → c = 0) ∧ (¬ vpOK D S V → c = 1) := by
  obtain ⟨m, rfl⟩ : ∃ k, m = k + 1 := ⟨m - 1, by omega⟩
  rw [ev_M Try.func16 ok16 [] _ _ H (by simp [Try.f16])]
  have LD : ∀ h, lenA Try.prog 22 d h = some (.int .i64 D.length) := hd.len
  have LS : ∀ h, lenA Try.prog 22 s h = some (.int .i64 S.length) := hs.len
  have LV : ∀ h, lenA Try.prog 33 v h = some (.int .i64 V.length) := hV.len
  by_cases h0 : D.length ≤ 8
  rotate_left
  · have b := eq_true (show (8 < (D.length : Int)) by omega)
    refine ⟨.slice H.next 0 0, 1, H.push (.cells 5 false []), ?_, (Kp.refl H).push _, rfl, fun hh => absurd hh.1 h0, fun _ => rfl⟩
    simp [Try.f16, tm0, LD, LS, LV, b, spl, fillA, zerosA]
  have e0 := eq_false (show ¬ (8 < (D.length : Int)) by omega)
  by_cases h1 : S.length ≤ 8
  rotate_left
  · have b := eq_true (show (8 < (S.length : Int)) by omega)
    refine ⟨.slice H.next 0 0, 1, H.push (.cells 5 false []), ?_, (Kp.refl H).push _, rfl, fun hh => absurd hh.2.1 h1, fun _ => rfl⟩
    simp [Try.f16, tm0, LD, LS, LV, b, e0, spl, fillA, zerosA]
  have e1 := eq_false (show ¬ (8 < (S.length : Int)) by omega)
  by_cases h2 : 1 ≤ V.length
  rotate_left
  · have b := eq_true (show ((V.length : Int) < 1) by omega)
    refine ⟨.slice H.next 0 0, 1, H.push (.cells 5 false []), ?_, (Kp.refl H).push _, rfl, fun hh => absurd hh.2.2.1 h2, fun _ => rfl⟩
    simp [Try.f16, tm0, LD, LS, LV, b, e0, e1, spl, fillA, zerosA]
  have e2 := eq_false (show ¬ ((V.length : Int) < 1) by omega)
  by_cases h3 : V.length ≤ 8
  rotate_left
  · have b := eq_true (show (8 < (V.length : Int)) by omega)
    refine ⟨.slice H.next 0 0, 1, H.push (.cells 5 false []), ?_, (Kp.refl H).push _, rfl, fun hh => absurd hh.2.2.2.1 h3, fun _ => rfl⟩
    simp [Try.f16, tm0, LD, LS, LV, b, e0, e1, e2, spl, fillA, zerosA]
  have e3 := eq_false (show ¬ (8 < (V.length : Int)) by omega)
  have K0 : Kp H (H.push (.cells 5 false [.int .u8 128])) := (Kp.refl H).push _
  obtain ⟨r1, X1, l1, b1, p1, B1, lb, K1, q1⟩ := ids_spec (hd.kp K0) (hs.kp K0) h0 h1 0 (by omega) (by omega) m (by omega)
  obtain ⟨w, X, b, a1, B, J, q⟩ := ((BO.new H 128).kp K1).appB B1.bs (by simp; omega)
  have K : Kp H X := KoS.kp' (K0.trans K1) J (by omega)
  have hq : H.next ≤ b := by have := K1.next; have := K0.next; rcases q with h | h <;> omega
  simp [Try.f16, tm0, LD, LS, LV, e0, e1, e2, e3, p1, a1, spl, fillA, zerosA]
  generalize hLo : evLoop _ _ _ _ _ _ = R
  obtain ⟨e, τ', h', hR, hE⟩ := loop_at hLo (VpL16 (h := X) (D := D) (S := S) hV hb h0 h1 h3 m (by omega) _ ⟨0, w, b, by simp, by simp, by simp, by simp, ⟨_, B, by simp; omega⟩, K, hq, by simp⟩)
  subst hR
  rcases hE with ⟨rfl, w', b', t8, ⟨l, B'⟩, K', q', hall⟩ | ⟨rfl, ⟨r, t6, R6⟩, t7, K', hn⟩
  · have ok : vpOK D S V := ⟨h0, h1, h2, h3, hall⟩
    simp [t8]
    exact ⟨_, _, _, ⟨⟨rfl, rfl⟩, rfl⟩, K', B'.bs.one, fun _ => rfl, fun h => absurd ok h⟩
  · have nok : ¬ vpOK D S V := fun h => hn h.2.2.2.2
    simp [t6, t7]
    exact ⟨_, _, _, ⟨⟨rfl, rfl⟩, rfl⟩, K', R6.one, fun h => absurd h nok, fun _ => rfl⟩
end Go.Ev

/- Version packets: the versions that are read back. -/
namespace Go.Ev
open Go Go.Proofs
set_option linter.unusedSimpArgs false
set_option linter.unusedVariables false

def grps (l : List Int) (k : Nat) : List Int := (List.range k).map (grp l)
theorem grps_succ (l : List Int) (k : Nat) : grps l (k + 1) = grps l k ++ [grp l k] := by simp [grps, List.range_succ]
theorem grps_len (l : List Int) (k : Nat) : (grps l k).length = k := by simp [grps]
theorem grps_flat {V : List Int} (hV : ∀ x ∈ V, 0 ≤ x ∧ x ≤ 4294967295) : grps (V.flatMap (digB 4)) V.length = V := by
  apply List.ext_getElem
  · simp [grps]
  · intro i h1 h2
    simp only [grps, List.getElem_map, List.getElem_range]
    exact flat_grp V hV i h2
theorem versLoopV {Hb H0 : AH} {s : AV} {l : List Int} (hs : Bs Hb s l) (hb : By l) (hK : Kp Hb H0) (G : Nat) (hG : l.length = 4 * G) (hG8 : G ≤ 8) (hall : ∀ j, j < G → grp l j ≠ 0) (m : Nat) (hm : 20 ≤ m) (τ : Tm) (h : AH) (hK0 : Kp H0 h)
    (t0 : τ 0 = s) (t5 : τ 5 = .int .i64 0) (b : Nat) (t4 : τ 4 = .slice b 0 0) (hb0 : H0.next ≤ b) (hb1 : b < h.next) (hb2 : h.get b = some (.cells 3 false [])) :
    ∃ e τ' H', evLoop Try.prog (ev Try.prog m) m (lp Try.prog 63 122) τ h = some (e, τ', H') ∧ Kp H0 H' ∧ e = .exit 0 ∧ ∃ r b, τ' 4 = r ∧ IO H' r (grps l G) b := by
  refine loop_rule (d := G) (fun d τ h => Kp H0 h ∧ ∃ k, k + d = G ∧ τ 0 = s ∧ τ 5 = .int .i64 (4 * k : Nat) ∧ (∃ b xs, τ 4 = .slice b 0 k ∧ xs = (grps l k).map (AV.int .i64) ∧ H0.next ≤ b ∧ b < h.next ∧ h.get b = some (.cells 3 false xs)))
    (fun e τ h => Kp H0 h ∧ e = .exit 0 ∧ ∃ r b, τ 4 = r ∧ IO h r (grps l G) b)
    ?_ ⟨hK0, 0, by omega, t0, by simp [t5], ⟨b, [], t4, by simp [grps], hb0, hb1, hb2⟩⟩ (by omega)
  rintro d τ h ⟨hk, k, hkd, t0, t5, ⟨b, xs, t4, hx', hb0, hb1, hb2⟩⟩
  have hx : xs.length = k := by rw [hx']; simp [grps]
  have hs' := hs.kp (hK.trans hk)
  by_cases h0 : d = 0
  · subst h0
    have hkG : k = G := by omega
    subst hkG
    have e1 : ((4 * k : Nat) : Int) = l.length := by omega
    rw [e1] at t5
    rewrite [lp63_122]
    simp [Try.f63, t0, t5, t4, hs'.len]
    exact ⟨hk, b, by rw [grps_len], hb1, by rw [hb2, hx']⟩
  · have hd0 : 1 ≤ d := by omega
    have hlt : ((4 * k : Nat) : Int) < l.length := by omega
    have w1 : IntKind.i64.wrap (((4 * k : Nat) : Int) + 4) = (4 * k + 4 : Nat) := by rw [wrap_i64 (by omega) (by omega)]; omega
    obtain ⟨s', k1, k2⟩ := cutBs hs (4 * k) 4 (by omega) (A := ((4 * k : Nat) : Int)) (N := ((4 * k + 4 : Nat) : Int)) rfl (by omega)
    have hgb := grp_bound hb k
    have hu : ev Try.prog m 90 [s'] h = some (.int .i64 (grp l k), h) := by
      rw [unfixed_ev k2 (hK.trans hk) ((hb.drop _).take _) (by simp; omega) m (by omega)]
      rw [wrap_i64 (n := valP ((l.drop (4 * k)).take 4)) (by unfold grp at hgb; omega) (by unfold grp at hgb; omega)]; rfl
    have hcut := k1 h (hK.trans hk)
    have ha := appInt (v := .int .i64 (grp l k)) hb2 hx (by omega) hb1
    have hX : ∃ X, X = 4 * k := ⟨_, rfl⟩
    obtain ⟨X, hX⟩ := hX
    have hY : (4 * k + 4 : Nat) = X + 4 := by omega
    rw [hY] at w1 hcut
    rw [← hX] at t5 hlt w1 hcut
    push_cast at w1 hcut
    have hg := hall k (by omega)
    rewrite [lp63_122]
    simp [Try.f63, t0, t5, t4, hs'.len, hlt, w1, hcut, hu, hg, ha, zerosA]
    refine ⟨d - 1, by omega, ((hk.push _).kill hb0).push _, k + 1, by omega, by omega, h.next + 1, ?_⟩
    have := hk.next
    simp [hx', grps_succ]
    omega
theorem versionsV_ev {Hb H : AH} {s : AV} {l : List Int} (hs : Bs Hb s l) (hb : By l) (hK : Kp Hb H) (hv : versP l = true) (m : Nat) (hm : 21 ≤ m) :
    ∃ r H' b, ev Try.prog m 63 [s] H = some (.tuple [r, .bool true], H') ∧ Kp H H' ∧ IO H' r (grps l (l.length / 4)) b := by
  obtain ⟨m, rfl⟩ : ∃ k, m = k + 1 := ⟨m - 1, by omega⟩
  have hs' := hs.kp hK
  simp only [versP, decide_eq_true_eq] at hv
  obtain ⟨h1, h2, h3, g⟩ := hv
  rw [ev_eq Try.func63 ok63 m _ H (by simp [Try.f63])]
  have h1' : ¬ ((l.length : Int) = 0) := by omega
  have hne : ¬ (l = []) := fun h => h1 (by rw [h]; rfl)
  have hw : IntKind.i64.wrap ((l.length : Int).tmod 4) = (l.length % 4 : Nat) := by rw [Int.tmod_eq_emod_of_nonneg (by omega), wrap_i64 (by omega) (by omega)]; omega
  have hw' : (l.length : Int).tmod 4 = (l.length % 4 : Nat) := by rw [Int.tmod_eq_emod_of_nonneg (by omega)]; omega
  have h3' : ¬ (32 < (l.length : Int)) := by omega
  have hG : l.length = 4 * (l.length / 4) := by omega
  simp [Try.f63, hs'.len, h1', hne, hw, hw', h2, h3']
  generalize hL : evLoop _ _ _ _ _ _ = R
  obtain ⟨e, τ', H', rfl, hK', rfl, r, b, t4, B⟩ := loop_at hL (versLoopV hs hb hK (l.length / 4) hG (by omega) g m (by omega) _ _ ((Kp.refl H).push _) (by simp) (by simp) H.next (by simp) (Nat.le_refl _) (by simp) (by simp))
  simp [t4]
  exact ⟨_, _, ⟨rfl, rfl⟩, hK', b, B⟩
theorem idsL_by {v : Int} {D S : List Int} (hD : By D) (hS : By S) (lD : D.length ≤ 8) (lS : S.length ≤ 8) : By (idsL v D S) := by
  intro x hx
  simp [idsL] at hx
  rcases hx with h | rfl | h | rfl | h
  · exact digB_by _ _ x h
  · omega
  · exact hD x h
  · omega
  · exact hS x h
theorem verL_by {D S V : List Int} (hD : By D) (hS : By S) (lD : D.length ≤ 8) (lS : S.length ≤ 8) : By (verL D S V) := by
  intro x hx
  simp only [verL, List.mem_cons, List.mem_append, List.mem_flatMap] at hx
  rcases hx with rfl | h | ⟨y, _, h⟩
  · omega
  · exact idsL_by hD hS lD lS x h
  · exact digB_by _ _ x h
theorem ReadVersions_ev {H : AH} {s : AV} {D S V : List Int} (hs : Bs H s (verL D S V)) (hD : By D) (hS : By S) (ok : vpOK D S V) (m : Nat) (hm : 40 ≤ m) :
    ∃ r H' b, ev Try.prog m 17 [s] H = some (.tuple [r, .int .i64 0], H') ∧ Kp H H' ∧ IO H' r V b := by
  obtain ⟨m, rfl⟩ : ∃ k, m = k + 1 := ⟨m - 1, by omega⟩
  obtain ⟨lD, lS, l1, l8, hall⟩ := ok
  have hV : ∀ x ∈ V, 1 ≤ x ∧ x ≤ 4294967295 := fun x hx => by simpa [verB] using hall x hx
  have hby := verL_by (V := V) hD hS lD lS
  have hlen : (verL D S V).length = 7 + D.length + S.length + 4 * V.length := by unfold verL; rw [len_ids, flat_len]
  obtain ⟨d, s', t, X, a, b, p1, K, q1, q2, q3, o1, o2, o3⟩ := PeekI_ev hs hby (cid := 0) m (by omega)
  rw [PeekP_in (by omega) (by omega) (by omega), peek_ver lD lS l1 l8 hV] at p1 o1 o2 o3
  simp only at p1 o1 o2 o3
  obtain ⟨c, c1, c2⟩ := cutDrop hs (7 + D.length + S.length) (by omega)
  have hdrop : (verL D S V).drop (7 + D.length + S.length) = V.flatMap (digB 4) := drop_ids 128 0 D S _
  rw [hdrop] at c2
  have byF : By (V.flatMap (digB 4)) := by rw [← hdrop]; exact hby.drop _
  obtain ⟨Z, hZ⟩ : ∃ Z : AH, Z = X.push (.cells 24 false [.int .i64 5, .int .i64 0, d, s', t, .int .i64 0, .int .i64 0, .int .i64 0]) := ⟨_, rfl⟩
  have KZ : Kp X Z := by rw [hZ]; exact (Kp.refl X).push _
  obtain ⟨r, W, b', e1, e2, e3⟩ := versionsV_ev c2 byF (K.trans KZ) (versP_flat l1 l8 hV) m (by omega)
  have hq : (V.flatMap (digB 4)).length / 4 = V.length := by rw [flat_len]; omega
  rw [hq, grps_flat (fun x hx => by have := hV x hx; omega)] at e3
  have hcut := c1 Z (K.trans KZ)
  have hn : Z.get X.next = some (.cells 24 false [.int .i64 5, .int .i64 0, d, s', t, .int .i64 0, .int .i64 0, .int .i64 0]) := by rw [hZ]; simp
  have LD : ∀ h, lenA Try.prog 22 d h = some (.int .i64 D.length) := o1.bs.len
  have LS : ∀ h, lenA Try.prog 22 s' h = some (.int .i64 S.length) := o2.bs.len
  have w1 : IntKind.i64.wrap (7 + (D.length : Int)) = 7 + (D.length : Int) := wrap_i64 (by omega) (by omega)
  have w2 : IntKind.i64.wrap (7 + (D.length : Int) + S.length) = ((7 + D.length + S.length : Nat) : Int) := by rw [wrap_i64 (by omega) (by omega)]; omega
  obtain ⟨A, hA⟩ : ∃ A : Int, A = ((7 + D.length + S.length : Nat) : Int) := ⟨_, rfl⟩
  rw [← hA] at w2 hcut
  have hZ' := hZ.symm
  rw [ev_M Try.func17 ok17 [] _ _ H (by simp [Try.f17])]
  simp [Try.f17, tm0, p1, hdr, o1.bs.one, o2.bs.one, o3.bs.one, ldVar, stVar, zerosA, fillA, spl, hZ', hn, LD, LS, w1, w2, hcut, e1]
  exact ⟨_, _, ⟨rfl, rfl⟩, (K.trans KZ).trans e2, b', e3⟩
end Go.Ev

/- What a frame fits, what asks, two frames alike, a copy. -/
namespace Go.Ev
open Go Go.Proofs
set_option linter.unusedSimpArgs false
set_option linter.unusedVariables false

theorem sameB_ev {r1 r2 : Bool} {H : AH} {s1 s2 : AV} {l : List Int} {b1 b2 : List Nat} (h1 : (Ty.sl 5 (.int .u8)).R r1 H [s1] l b1) (h2 : (Ty.sl 5 (.int .u8)).R r2 H [s2] l b2) (m : Nat) (hm : 1 ≤ m) :
    ev Try.prog m 12 [s1, s2] H = some (.bool true, H) := by
  obtain ⟨m, rfl⟩ : ∃ k, m = k + 1 := ⟨m - 1, by omega⟩
  have c1 := conv_str (P := Try.prog) (s := 22) (d := 9) (by simp) (by simp) (by simp) h1
  have c2 := conv_str (P := Try.prog) (s := 22) (d := 9) (by simp) (by simp) (by simp) h2
  rw [ev_eq Try.func12 ok12 m _ H (by simp [Try.f12])]
  simp [Try.f12, c1, c2]
theorem copiedL_ev {H : AH} {v : AV} {l : List Int} {b : Nat} (h : BO H v l b) (hl : l.length ≤ 100000) (m : Nat) (hm : 1 ≤ m) :
    ∃ v' H' b', ev Try.prog m 11 [v] H = some (v', H') ∧ BO H' v' l b' ∧ H.next ≤ b' ∧ Kp H H' := by
  obtain ⟨m, rfl⟩ : ∃ k, m = k + 1 := ⟨m - 1, by omega⟩
  obtain ⟨A, hA⟩ : ∃ A : AH, A = H.push (.cells 5 false []) := ⟨_, rfl⟩
  have kA : Kp H A := by rw [hA]; exact (Kp.refl H).push _
  have BA : BO A (.slice H.next 0 0) [] H.next := ⟨rfl, by rw [hA]; simp, by rw [hA]; simp [u8L]⟩
  obtain ⟨v', X', b', e, B', k', c'⟩ := BA.appB (h.bs.kp kA) (by simp; omega)
  have hA' := hA.symm
  have := kA.next
  refine ⟨v', X', b', ?_, by simpa using B', by rcases c' with h | h <;> omega, KoS.kp kA k' (by simp)⟩
  rw [ev_M Try.func11 ok11 [] m _ H (by simp [Try.f11])]
  simp [Try.f11, U, tm0, hA', e, zerosA, fillA]
end Go.Ev

/- Ranges alike; a number of a row. -/
namespace Go.Ev
open Go Go.Proofs
set_option linter.unusedSimpArgs false
set_option linter.unusedVariables false

theorem intAt {rw : Bool} {H : AH} {r : AV} {l : List Int} {bs : List Nat} (hr : (Ty.sl 3 (.int .i64)).R rw H [r] l bs) {k : Nat} (hk : k < l.length) :
    ∃ b o ro xs, idxA Try.prog 33 r (.int .i64 k) = some (.ptr b o) ∧ b < H.next ∧ H.get b = some (.cells 3 ro xs) ∧ xs[o]? = some (.int .i64 l[k]) := by
  obtain ⟨b, o, ro, x1, c, x2, bk, u1, u2, u3, u4, u5, u6, u7, u8⟩ := Ty.R.at_ hr (P := Try.prog) (T := 33) (by simp) (by simp [Ty.n]) (k := k) hk
  obtain ⟨rfl, _⟩ := u5
  subst u4
  exact ⟨b, _, ro, _, u1, u2, u3, by simp⟩
end Go.Ev

/- Ranges from a number on; rows of numbers alike; an acknowledgement of ranges, and what it acknowledges. -/
namespace Go.Ev
open Go Go.Proofs
set_option linter.unusedSimpArgs false
set_option linter.unusedVariables false

def SiI (s1 s2 : AV) (l : List Int) (H : AH) (d : Nat) (τ : Tm) (h : AH) : Prop := h = H ∧ ∃ k : Nat, k + d = l.length ∧ τ 0 = s1 ∧ τ 1 = s2 ∧ τ 5 = .int .i64 k
set_option maxRecDepth 20000 in
theorem sameInts_ev {r1 r2 : Bool} {H : AH} {s1 s2 : AV} {L : List Int} {b1 b2 : List Nat} (h1 : (Ty.sl 3 (.int .i64)).R r1 H [s1] L b1) (h2 : (Ty.sl 3 (.int .i64)).R r2 H [s2] L b2) (hl : L.length ≤ 1000000) (m : Nat) (hm : L.length + 3 ≤ m) :
    ev Try.prog m 18 [s1, s2] H = some (.bool true, H) := by
  obtain ⟨m, rfl⟩ : ∃ k, m = k + 1 := ⟨m - 1, by omega⟩
  have L1 := Ty.R.lenA h1 (P := Try.prog) (T := 33) (by simp)
  have L2 := Ty.R.lenA h2 (P := Try.prog) (T := 33) (by simp)
  rw [ev_M Try.func18 ok18 [] _ _ H (by simp [Try.f18])]
  simp [Try.f18, tm0, L1, L2]
  generalize hLo : evLoop _ _ _ _ _ _ = R
  obtain ⟨e, τ', H', rfl, rfl, rfl⟩ := loop_at hLo (loop_rule (d := L.length) (SiI s1 s2 L H) (fun e τ h => e = .exit 0 ∧ h = H) (by
    rintro d τ h ⟨rfl, k, hk, t0, t1, t5⟩
    rw [lp_M Try.func18 58 (by decide) 6 (by decide) (by kernel_rfl) []]
    by_cases hd0 : d = 0
    · subst hd0
      have hkl : ¬ ((k : Int) < L.length) := by omega
      simp [Try.f18, t0, t5, L1, hkl]
    · have hlt : k < L.length := by omega
      have hlt' : (k : Int) < L.length := by omega
      obtain ⟨b, o, ro, xs, u1, u2, u3, u4⟩ := intAt h1 hlt
      obtain ⟨b', o', ro', xs', v1, v2, v3, v4⟩ := intAt h2 hlt
      have w1 : IntKind.i64.wrap ((k : Int) + 1) = (k : Int) + 1 := wrap_i64 (n := (k : Int) + 1) (by omega) (by omega)
      simp [Try.f18, t0, t1, t5, L1, hlt, hlt', u1, u3, u4, v1, v3, v4, w1, ldVar]
      exact ⟨d - 1, by omega, rfl, k + 1, by omega, by simp [t0], by simp [t1], by simp⟩) ⟨rfl, 0, by simp, by simp, by simp, by simp⟩ (by omega))
  simp [Try.f18]
end Go.Ev

/- Plain packets: reset tokens; rows of bytes that are the same. -/
namespace Go.Ev
open Go Go.Proofs
set_option linter.unusedSimpArgs false
set_option linter.unusedVariables false

theorem IO.R {H : AH} {v : AV} {l : List Int} {b : Nat} (h : IO H v l b) (hb : InV l) : (Ty.sl 3 (.int .i64)).R true H [v] l [b] := by
  rw [h.1]; exact ints_one h.2.1 h.2.2 (fun d hd => hb d hd)
theorem Bs.str {H : AH} {s : AV} {l : List Int} (h : Bs H s l) (hb : By l) : convA Try.prog 22 9 s H = some (.str (strOf l), H) := by
  obtain ⟨bs, hR⟩ := bs_tB h hb
  exact conv_str (P := Try.prog) (s := 22) (d := 9) (by simp) (by simp) (by simp) hR
def eqS (l1 l2 : List Int) : Bool := (strOf l1).toList == (strOf l2).toList
theorem eqS_refl (l : List Int) : eqS l l = true := by simp [eqS]
theorem same_ev {H : AH} {s1 s2 : AV} {l1 l2 : List Int} (h1 : Bs H s1 l1) (h2 : Bs H s2 l2) (b1 : By l1) (b2 : By l2) (m : Nat) (hm : 1 ≤ m) :
    ev Try.prog m 12 [s1, s2] H = some (.bool (eqS l1 l2), H) := by
  obtain ⟨m, rfl⟩ : ∃ k, m = k + 1 := ⟨m - 1, by omega⟩
  have c1 := h1.str b1
  have c2 := h2.str b2
  rw [ev_eq Try.func12 ok12 m _ H (by simp [Try.f12])]
  simp [Try.f12, c1, c2, eqS]
def rtOK (K C : List Int) : Prop := K.length = 16 ∧ C.length ≤ 8
def rtL (K C : List Int) : List Int := (digestL K C).take 8
theorem rtL_len (K C : List Int) : (rtL K C).length = 8 := by simp [rtL, digestL_len]
theorem digestL_by (k d : List Int) : By (digestL k d) := by
  intro x hx
  simp only [digestL, List.mem_append] at hx
  rcases hx with ((h | h) | h) | h <;> exact dig_by _ _ x h
theorem rtL_by (K C : List Int) : By (rtL K C) := (digestL_by K C).take 8
theorem ResetToken_good {H : AH} {k c : AV} {K C : List Int} (hk : Bs H k K) (hc : Bs H c C) (ok : rtOK K C) (m : Nat) (hm : 100 ≤ m) (f : Nat) (hf : f = 20 ∨ f = 21) :
    ∃ r H', ev Try.prog m f [k, c] H = some (r, H') ∧ Kp H H' ∧ Ow H.next H'.next H' r (rtL K C) := by
  obtain ⟨m, rfl⟩ : ∃ k, m = k + 1 := ⟨m - 1, by omega⟩
  obtain ⟨h1, h2⟩ := ok
  have LK : ∀ h, lenA Try.prog 22 k h = some (.int .i64 16) := fun h => by rw [hk.len h, h1]; rfl
  have LC : ∀ h, lenA Try.prog 22 c h = some (.int .i64 C.length) := hc.len
  have e2 := eq_false (show ¬ (8 < (C.length : Int)) by omega)
  rcases hf with rfl | rfl
  · obtain ⟨r, X, bs, p1, p2, p3, p4, p5⟩ := digestI_ev hk hc (by omega) (by omega) m (by omega)
    obtain ⟨r', q1, q2⟩ := cutTake (tB_bs p2).1 8 (by rw [digestL_len]; omega) (A := 8) rfl
    have q1' := q1 X (Kp.refl _)
    obtain ⟨w, Y, t1, t2, t3⟩ := copied_ev q2 (Kp.refl X) (by simp [digestL_len]) m (by omega)
    rw [ev_M Try.func20 ok20 [] _ _ H (by simp [Try.f20])]
    simp [Try.f20, tm0, LK, LC, e2, p1, q1', t1]
    exact ⟨_, _, ⟨rfl, rfl⟩, p5.trans t2, t3.wide p5.next (Nat.le_refl _) (Nat.le_refl _)⟩
  · obtain ⟨r, X, bs, p1, p2, p3, p4, p5⟩ := digestS_ev hk hc (by omega) (by omega) m (by omega)
    obtain ⟨r', q1, q2⟩ := cutTake (tB_bs p2).1 8 (by rw [digestL_len]; omega) (A := 8) rfl
    have q1' := q1 X (Kp.refl _)
    obtain ⟨w, Y, t1, t2, t3⟩ := l03Copy_ev q2 (Kp.refl X) (by simp [digestL_len]) m (by omega)
    rw [ev_M Try.func21 ok21 [] _ _ H (by simp [Try.f21])]
    simp [Try.f21, tm0, LK, LC, e2, p1, q1', t1]
    exact ⟨_, _, ⟨rfl, rfl⟩, p5.trans t2, t3.wide p5.next (Nat.le_refl _) (Nat.le_refl _)⟩
theorem ResetToken_bad {H : AH} {k c : AV} {K C : List Int} (hk : Bs H k K) (hc : Bs H c C) (ok : ¬ rtOK K C) (m : Nat) (hm : 2 ≤ m) (f : Nat) (hf : f = 20 ∨ f = 21) :
    ∃ r H', ev Try.prog m f [k, c] H = some (r, H') ∧ Kp H H' ∧ Bs H' r [] := by
  obtain ⟨m, rfl⟩ : ∃ k, m = k + 1 := ⟨m - 1, by omega⟩
  have LK : ∀ h, lenA Try.prog 22 k h = some (.int .i64 K.length) := hk.len
  have LC : ∀ h, lenA Try.prog 22 c h = some (.int .i64 C.length) := hc.len
  have bE : Bs (H.push (.cells 5 false [])) (.slice H.next 0 0) [] := Bs.mk' (b := H.next) (ro := false) (l := []) (by simp [u8L]) (by simp)
  obtain ⟨N, hN⟩ : ∃ N : Int, N = K.length := ⟨_, rfl⟩
  by_cases h1 : N = 16
  · have e2 := eq_true (show (8 < (C.length : Int)) by
      by_cases h : C.length ≤ 8
      · exact absurd ⟨by omega, h⟩ ok
      · omega)
    rw [← hN, h1] at LK
    rcases hf with rfl | rfl
    · rw [ev_M Try.func20 ok20 [] _ _ H (by simp [Try.f20])]
      simp [Try.f20, tm0, LK, LC, e2, spl, zerosA, fillA]
      exact ⟨_, _, ⟨rfl, rfl⟩, Kp.refl H, Bs.nil _⟩
    · rw [ev_M Try.func21 ok21 [] _ _ H (by simp [Try.f21])]
      simp [Try.f21, tm0, LK, LC, e2, spl, zerosA, fillA]
      exact ⟨_, _, ⟨rfl, rfl⟩, (Kp.refl H).push _, bE⟩
  · have e1 : (N != 16) = true := by simp [h1]
    rw [← hN] at LK
    rcases hf with rfl | rfl
    · rw [ev_M Try.func20 ok20 [] _ _ H (by simp [Try.f20])]
      simp [Try.f20, tm0, LK, LC, e1, spl, zerosA, fillA]
      exact ⟨_, _, ⟨rfl, rfl⟩, Kp.refl H, Bs.nil _⟩
    · rw [ev_M Try.func21 ok21 [] _ _ H (by simp [Try.f21])]
      simp [Try.f21, tm0, LK, LC, e1, spl, zerosA, fillA]
      exact ⟨_, _, ⟨rfl, rfl⟩, (Kp.refl H).push _, bE⟩
end Go.Ev

/- Plain packets: packets that reset, and how they are known. -/
namespace Go.Ev
open Go Go.Proofs
set_option linter.unusedSimpArgs false
set_option linter.unusedVariables false

theorem Ow.BO {lo hi : Nat} {H : AH} {s : AV} {l : List Int} (h : Ow lo hi H s l) (hl : 0 < l.length) (hh : hi ≤ H.next) : ∃ b, BO H s l b ∧ lo ≤ b ∧ b < hi := by
  rcases h with ⟨rfl, rfl⟩ | ⟨b, h1, h2, h3, rfl, h4⟩
  · simp at hl
  · exact ⟨b, ⟨rfl, by omega, h4⟩, h1, h2⟩
theorem BO.get0 {H : AH} {s : AV} {x : Int} {l : List Int} {b : Nat} (h : BO H s (x :: l) b) : H.get b = some (.cells 5 false (.int .u8 x :: u8L l)) := h.2.2
def rsL (J T : List Int) : List Int := (64 :: J) ++ T
theorem ResetPacket_ev {H : AH} {t j : AV} {T J : List Int} (ht : Bs H t T) (hj : Bs H j (0 :: J)) (hT : T.length = 8) (h1 : 12 ≤ J.length) (h2 : J.length ≤ 99) (m : Nat) (hm : 3 ≤ m) :
    ∃ r H' b, ev Try.prog m 22 [t, j] H = some (.tuple [r, .int .i64 0], H') ∧ Kp H H' ∧ BO H' r (rsL J T) b := by
  obtain ⟨m, rfl⟩ : ∃ k, m = k + 1 := ⟨m - 1, by omega⟩
  have LT : ∀ h, lenA Try.prog 22 t h = some (.int .i64 8) := fun h => by rw [ht.len h, hT]; rfl
  obtain ⟨N, hN⟩ : ∃ N : Int, N = ((0 :: J : List Int).length : Int) := ⟨_, rfl⟩
  have LJ : ∀ h, lenA Try.prog 22 j h = some (.int .i64 N) := fun h => by rw [hj.len h, hN]
  have hN' : N = J.length + 1 := by rw [hN]; simp
  have e1 := eq_false (show ¬ (N < 13) by omega)
  have e2 := eq_false (show ¬ (100 < N) by omega)
  obtain ⟨r, X, p1, p2, p3⟩ := copied_ev hj (Kp.refl H) (by simp; omega) m (by omega)
  obtain ⟨b, B, hb1, hb2⟩ := p3.BO (by simp) (Nat.le_refl _)
  obtain ⟨bj, o, g1, g2⟩ := hj.at_
  obtain ⟨Y, hY⟩ : ∃ Y : AH, Y = X.set b (.cells 5 false (.int .u8 64 :: u8L J)) := ⟨_, rfl⟩
  have BY : BO Y r (64 :: J) b := ⟨by rw [B.1]; simp, by rw [hY]; simpa using B.2.1, by rw [hY]; simp [u8L]⟩
  have KY : Kp H Y := by rw [hY]; exact p2.set hb1 _
  have hi := g2.1 0 (by simp)
  have hld := g2.2 X (by rw [p2.get _ (g1 (by simp))]) 0 (by simp)
  simp only [List.getElem_cons_zero, Nat.add_zero] at hi hld
  have hi' : idxA Try.prog 22 j (.int .i64 0) = some (.ptr bj o) := hi
  have hr := B.1
  have hir : idxA Try.prog 22 r (.int .i64 0) = some (.ptr b 0) := by rw [hr]; simp [idxA]
  have hst : stVar Try.prog 5 b 0 (.int .u8 64) X = some Y := by
    have := B.get0
    simp [stVar, this, hY]
  obtain ⟨v, Z, b', q1, q2, q3, q4⟩ := BY.appB (ht.kp KY) (by simp; omega)
  refine ⟨v, Z, b', ?_, KoS.kp' KY q3 (by omega), q2⟩
  rw [ev_M Try.func22 ok22 [] _ _ H (by simp [Try.f22])]
  have w64 : IntKind.u8.wrap 64 = 64 := by decide
  simp [Try.f22, tm0, LT, LJ, e1, e2, p1, w64, hi', hld, hir, hst, q1]
end Go.Ev

/- Plain packets: which token a packet tells. -/
namespace Go.Ev
open Go Go.Proofs
set_option linter.unusedSimpArgs false
set_option linter.unusedVariables false

def hitR (E l : List Int) : Bool := decide (l.length = 8) && eqS l E
/-- rows of bytes in a row -/
structure TkI (H : AH) (tv : AV) (bt : Nat) (L : List (AV × List Int)) : Prop where
  eq : tv = .slice bt 0 L.length
  get : H.get bt = some (.cells 22 false (L.map (·.1)))
  bs : ∀ x ∈ L, Bs H x.1 x.2 ∧ By x.2
def IrI (l : List Int) (s tv : AV) (L : List (AV × List Int)) (H : AH) (d : Nat) (τ : Tm) (h : AH) : Prop :=
  h = H ∧ ∃ i : Nat, i + d = L.length ∧ τ 0 = s ∧ τ 31 = tv ∧ τ 32 = .int .i64 L.length ∧ τ 33 = .int .i64 i ∧ ∀ j (hj : j < L.length), j < i → hitR (l.drop (l.length - 8)) L[j].2 = false
def IrE (l : List Int) (L : List (AV × List Int)) (H : AH) (e : Ex) (τ : Tm) (h : AH) : Prop :=
  h = H ∧ ((e = .exit 0 ∧ ∀ j (hj : j < L.length), hitR (l.drop (l.length - 8)) L[j].2 = false) ∨
    (e = .ret ∧ ∃ (i : Nat) (hi : i < L.length), τ 4 = .int .i64 i ∧ hitR (l.drop (l.length - 8)) L[i].2 = true ∧ ∀ j (hj : j < L.length), j < i → hitR (l.drop (l.length - 8)) L[j].2 = false))
theorem IrL {H : AH} {s tv : AV} {bt : Nat} {l : List Int} {L : List (AV × List Int)} (hs : Bs H s l) (hb : By l) (hl : l.length ≤ 65536) (hl8 : 8 ≤ l.length) (hT : TkI H tv bt L) (hL : L.length ≤ 1000) (m : Nat) (hm : 1010 ≤ m) (τ : Tm) (h0 : IrI l s tv L H L.length τ H) :
    ∃ e τ' h', evLoop Try.prog (ev Try.prog m) m (lp Try.prog 24 58) τ H = some (e, τ', h') ∧ IrE l L H e τ' h' := by
  refine loop_rule (d := L.length) (IrI l s tv L H) (IrE l L H) ?_ h0 (by omega)
  rintro d τ h ⟨rfl, i, hid, t0, t31, t32, t33, hno⟩
  rw [lp_M Try.func24 58 (by decide) 6 (by decide) (by kernel_rfl) []]
  have hg := hT.get
  have hv := hT.eq
  have LS : ∀ h', lenA Try.prog 22 s h' = some (.int .i64 l.length) := hs.len
  by_cases hi : i < L.length
  · have hi' : ((i : Int) < L.length) = True := eq_true (by omega)
    obtain ⟨d, rfl⟩ : ∃ k, d = k + 1 := ⟨d - 1, by omega⟩
    obtain ⟨x, hx⟩ : ∃ x, x = L[i].1 := ⟨_, rfl⟩
    obtain ⟨k, hk⟩ : ∃ k, k = L[i].2 := ⟨_, rfl⟩
    have hB := hT.bs L[i] (List.getElem_mem hi)
    rw [← hx, ← hk] at hB
    have hgx : (L.map (·.1))[i]? = some x := by rw [hx]; simp [hi]
    have hin : (i < L.length) = True := eq_true hi
    have LX : ∀ h', lenA Try.prog 22 x h' = some (.int .i64 k.length) := hB.1.len
    have CX := hB.1.str hB.2
    obtain ⟨c, c1, c2⟩ := cutDrop hs (l.length - 8) (by omega)
    have c1' := c1 h (Kp.refl h)
    have CC := c2.str (hb.drop _)
    have wl : IntKind.i64.wrap ((l.length : Int) - 8) = ((l.length - 8 : Nat) : Int) := by rw [wrap_i64 (by omega) (by omega)]; omega
    have wi : IntKind.i64.wrap ((i : Int) + 1) = (i : Int) + 1 := wrap_i64 (by omega) (by omega)
    obtain ⟨A, hA⟩ : ∃ A : Int, A = ((l.length - 8 : Nat) : Int) := ⟨_, rfl⟩
    obtain ⟨N, hN⟩ : ∃ N : Int, N = (k.length : Int) := ⟨_, rfl⟩
    rw [← hA] at wl c1'
    rw [← hN] at LX
    by_cases h8 : N = 8
    · obtain ⟨q, hq⟩ : ∃ q, q = ((strOf k).toList == (strOf (l.drop (l.length - 8))).toList) := ⟨_, rfl⟩
      have hh : hitR (l.drop (l.length - 8)) L[i].2 = q := by rw [← hk, hq]; simp [hitR, eqS]; intro _; omega
      have hq' := hq.symm
      cases q
      · simp [Try.f24, t0, t31, t32, t33, hv, hi', hg, hgx, hin, hx.symm, LX, CX, LS, wl, c1', CC, hq', h8, wi, ldVar, stVar, idxA]
        refine ⟨d, by omega, rfl, i + 1, by omega, by simp [t0], by simp [t31, hv], by simp [t32], by simp, fun j hj hji => ?_⟩
        by_cases hji' : j = i
        · subst hji'; exact hh
        · exact hno j hj (by omega)
      · simp [Try.f24, t0, t31, t32, t33, hv, hi', hg, hgx, hin, hx.symm, LX, CX, LS, wl, c1', CC, hq', h8, wi, ldVar, stVar, idxA]
        exact ⟨rfl, .inr ⟨rfl, i, hi, by simp, hh, hno⟩⟩
    · have h8' : (N == 8) = false := by simp [h8]
      have hh : hitR (l.drop (l.length - 8)) L[i].2 = false := by rw [← hk]; simp [hitR]; intro h; omega
      simp [Try.f24, t0, t31, t32, t33, hv, hi', hg, hgx, hin, hx.symm, LX, CX, LS, wl, c1', CC, h8', wi, ldVar, stVar, idxA]
      refine ⟨d, by omega, rfl, i + 1, by omega, by simp [t0], by simp [t31, hv], by simp [t32], by simp, fun j hj hji => ?_⟩
      by_cases hji' : j = i
      · subst hji'; exact hh
      · exact hno j hj (by omega)
  · have hi' : ((i : Int) < L.length) = False := eq_false (by omega)
    simp [Try.f24, t32, t33, hi']
    exact ⟨rfl, .inl ⟨rfl, fun j hj => hno j hj (by omega)⟩⟩
theorem IsReset_ev {H : AH} {s tv : AV} {bt : Nat} {x : Int} {l : List Int} {L : List (AV × List Int)} (hs : Bs H s (x :: l)) (hb : By (x :: l)) (hx : 64 ≤ x ∧ x ≤ 127) (hl : l.length ≤ 6000) (hl2 : 20 ≤ l.length) (hT : TkI H tv bt L) (hL : L.length ≤ 1000) (m : Nat) (hm : 1020 ≤ m) :
    ∃ (r : Int), ev Try.prog m 24 [s, tv] H = some (.int .i64 r, H) ∧
      ((r = -1 ∧ ∀ j (hj : j < L.length), hitR ((x :: l).drop ((x :: l).length - 8)) L[j].2 = false) ∨
       (∃ (i : Nat) (hi : i < L.length), r = i ∧ hitR ((x :: l).drop ((x :: l).length - 8)) L[i].2 = true ∧ ∀ j (hj : j < L.length), j < i → hitR ((x :: l).drop ((x :: l).length - 8)) L[j].2 = false)) := by
  obtain ⟨m, rfl⟩ : ∃ k, m = k + 1 := ⟨m - 1, by omega⟩
  have c1 := tooLong_ev hs H m (by omega)
  rw [decide_eq_false (by simp; omega)] at c1
  obtain ⟨N, hN⟩ : ∃ N : Int, N = ((x :: l : List Int).length : Int) := ⟨_, rfl⟩
  have hN' : N = l.length + 1 := by rw [hN]; simp
  have LS : ∀ h, lenA Try.prog 22 s h = some (.int .i64 N) := fun h => by rw [hs.len h, hN]
  have LT : ∀ h, lenA Try.prog 46 tv h = some (.int .i64 L.length) := fun h => by rw [hT.eq]; simp
  have e1 := eq_false (show ¬ (4096 < (L.length : Int)) by omega)
  have e2 := eq_false (show ¬ (N < 21) by omega)
  have e3 := eq_false (show ¬ (x < 64) by omega)
  have e4 := eq_false (show ¬ (127 < x) by omega)
  obtain ⟨bj, o, g1, g2⟩ := hs.at_
  have hi := g2.1 0 (by simp)
  have hld := g2.2 H rfl 0 (by simp)
  simp only [List.getElem_cons_zero, Nat.add_zero] at hi hld
  have hi' : idxA Try.prog 22 s (.int .i64 0) = some (.ptr bj o) := hi
  rw [ev_M Try.func24 ok24 [] _ _ H (by simp [Try.f24])]
  generalize hE : (x :: l).drop ((x :: l).length - 8) = E
  simp [Try.f24, tm0, c1, LS, LT, e1, e2, e3, e4, hi', hld]
  generalize hLo : evLoop _ _ _ _ _ _ = R
  obtain ⟨e, τ', h', rfl, rfl, h⟩ := loop_at hLo (IrL hs hb (by simp; omega) (by simp; omega) hT hL m (by omega) _ ⟨rfl, 0, by simp, by simp, by simp, by simp, by simp, fun j hj h => by omega⟩)
  simp only [hE] at h
  rcases h with ⟨rfl, h⟩ | ⟨rfl, i, hi, t4, h1, h2⟩
  · refine ⟨-1, by simp, .inl ⟨rfl, h⟩⟩
  · exact ⟨i, by simp [t4], .inr ⟨i, rfl, ⟨hi, h1⟩, h2⟩⟩
end Go.Ev

/- Plain packets: a number out of bytes. -/
namespace Go.Ev
open Go Go.Proofs
set_option linter.unusedSimpArgs false
set_option linter.unusedVariables false

theorem at80_ev {H : AH} {s : AV} {l : List Int} (hs : Bs H s l) (hb : By l) (hl : l.length ≤ 1048576) (m : Nat) (hm : 2 ≤ m) :
    ∃ k : Nat, k < 80 ∧ ev Try.prog m 23 [s, .int .i64 0, .int .i64 80] H = some (.int .i64 k, H) := by
  obtain ⟨m, rfl⟩ : ∃ k, m = k + 1 := ⟨m - 1, by omega⟩
  rw [ev_M Try.func23 ok23 [] _ _ H (by simp [Try.f23])]
  obtain ⟨N, hN⟩ : ∃ N : Int, N = (l.length : Int) := ⟨_, rfl⟩
  have LS : ∀ h, lenA Try.prog 22 s h = some (.int .i64 N) := fun h => by rw [hs.len h, hN]
  have w0 : IntKind.i64.wrap 0 = 0 := by decide
  have w1 : IntKind.i64.wrap 1 = 1 := by decide
  by_cases h0 : N = 0
  · refine ⟨0, by omega, ?_⟩
    have b := eq_true h0
    simp [Try.f23, tm0, LS, h0, w0]
  · have b : (N == 0) = false := by simp [h0]
    obtain ⟨bj, o, g1, g2⟩ := hs.at_
    have hp : 0 < l.length := by omega
    have hi0 : idxA Try.prog 22 s (.int .i64 0) = some (.ptr bj o) := by simpa using g2.1 0 hp
    obtain ⟨j, hj⟩ : ∃ j : Nat, j = 1 % l.length := ⟨_, rfl⟩
    have hjl : j < l.length := by rw [hj]; exact Nat.mod_lt _ hp
    have hj1 : (1 : Int).tmod N = (j : Int) := by rw [hN, hj, Int.tmod_eq_emod_of_nonneg (by omega)]; rfl
    obtain ⟨J, hJ⟩ : ∃ J : Int, J = (j : Int) := ⟨_, rfl⟩
    have hij : idxA Try.prog 22 s (.int .i64 J) = some (.ptr bj (o + j)) := by rw [hJ]; exact g2.1 j hjl
    rw [← hJ] at hj1
    have wJ : IntKind.i64.wrap J = J := wrap_i64 (by omega) (by omega)
    obtain ⟨x, hx⟩ : ∃ x, x = l[0] := ⟨_, rfl⟩
    obtain ⟨y, hy⟩ : ∃ y, y = l[j] := ⟨_, rfl⟩
    have hxb := hb x (by rw [hx]; exact List.getElem_mem hp)
    have hyb := hb y (by rw [hy]; exact List.getElem_mem hjl)
    have l0 : ldVar Try.prog 5 bj o H = some (.int .u8 x) := by rw [hx]; simpa using g2.2 H rfl 0 hp
    have l1 : ldVar Try.prog 5 bj (o + j) H = some (.int .u8 y) := by rw [hy]; exact g2.2 H rfl j hjl
    have cx : ∀ h, convA Try.prog 5 3 (.int .u8 x) h = some (.int .i64 x, h) := fun h => by
      rw [conv_int (k := .i64) (ds := .int .u8) (by simp) (by simp), wrap_i64 (by omega) (by omega)]
    have cy : ∀ h, convA Try.prog 5 3 (.int .u8 y) h = some (.int .i64 y, h) := fun h => by
      rw [conv_int (k := .i64) (ds := .int .u8) (by simp) (by simp), wrap_i64 (by omega) (by omega)]
    have wx : IntKind.i64.wrap (x * 31) = x * 31 := wrap_i64 (by omega) (by omega)
    have wy : IntKind.i64.wrap (x * 31 + y) = x * 31 + y := wrap_i64 (by omega) (by omega)
    have hr : 0 ≤ (x * 31 + y).tmod 80 ∧ (x * 31 + y).tmod 80 < 80 := by rw [Int.tmod_eq_emod_of_nonneg (by omega)]; omega
    have wr : IntKind.i64.wrap ((x * 31 + y).tmod 80) = (x * 31 + y).tmod 80 := wrap_i64 (by omega) (by omega)
    refine ⟨((x * 31 + y).tmod 80).toNat, by omega, ?_⟩
    have hk : ((((x * 31 + y).tmod 80).toNat : Nat) : Int) = (x * 31 + y).tmod 80 := by omega
    rw [hk]
    have n0 := eq_false h0
    simp [Try.f23, tm0, LS, b, n0, w0, w1, hi0, l0, hj1, wJ, hij, l1, cx, cy, wx, wy, wr]
end Go.Ev

/- The source: a number of any size. -/
namespace Go.Ev
open Go Go.Proofs
set_option linter.unusedSimpArgs false
set_option linter.unusedVariables false

def numL : List Int := [0, 63, 64, 16383, 16384, 1073741823, 1073741824, 4611686018427387903, 4611686018427387902]
def farL : List Int := [-1, 4611686018427387904, 9223372036854775807, -9223372036854775808]
def numP (S : Src) : Int × Src :=
  let k := nextP 12 S
  if k.1 = 0 then (lkP numL (nextP 9 k.2).1, (nextP 9 k.2).2)
  else if k.1 = 1 then ((nextP 16777216 k.2).1 * 65536 + (nextP 65536 (nextP 16777216 k.2).2).1, (nextP 65536 (nextP 16777216 k.2).2).2)
  else if k.1 = 2 then (lkP farL (nextP 4 k.2).1, (nextP 4 k.2).2)
  else if k.1 = 3 ∨ k.1 = 4 then nextP 20000 k.2
  else nextP 100 k.2
theorem koS_set {h : AH} {q : Nat} (x : Blk) : KoS [q] h (h.set q x) :=
  ⟨by simp, fun b hb hn => AH.set_getN _ _ (by simpa using hn)⟩
theorem koS_qpq {h : AH} {q : Nat} (x y z : Blk) : KoS [q] h (((h.set q x).push y).set q z) :=
  ⟨by simp, fun b hb hn => by
    have hbq : b ≠ q := by simpa using hn
    rw [AH.set_getN _ _ hbq, AH.push_get, if_neg (by simp; omega), AH.set_getN _ _ hbq]⟩
theorem inK64 {n : Int} (h1 : -9223372036854775808 ≤ n) (h2 : n ≤ 9223372036854775807) : InK .i64 n := ⟨h1, h2⟩
theorem inK_in {n : Int} (h : InK .i64 n) : -9223372036854775808 ≤ n ∧ n ≤ 9223372036854775807 := ⟨h.1, h.2⟩
theorem lkP_in {l : List Int} (h : ∀ x ∈ l, InK .i64 x) (i : Int) : InK .i64 (lkP l i) := by
  unfold lkP
  cases e : l[i.toNat]? with
  | none => exact inK64 (by simp) (by simp)
  | some x => exact h x (List.mem_of_getElem? e)
theorem drawNum_ev {h : AH} {q : Nat} {v : AV} {S : Src} {bs : List Nat} {K : Nat} (h0 : SrcI h q v S bs) (hp : S.pos ≤ K) (hK : K ≤ 900000) (m : Nat) (hm : 4 ≤ m) :
    ∃ (n : Int) (S' : Src) (H' : AH), numP S = (n, S') ∧ InK .i64 n ∧ S'.pos ≤ K + 9 ∧ ev Try.prog m 96 [.ptr q 0] h = some (.int .i64 n, H') ∧ SrcI H' q v S' bs ∧ KoS [q] h H' := by
  obtain ⟨m, rfl⟩ : ∃ k, m = k + 1 := ⟨m - 1, by omega⟩
  have hq := h0.lt
  obtain ⟨k, S1, d1, a1, p1, e1, h1⟩ := draw h0 hp (by omega) 12 (by omega) (by omega) m (by omega)
  rw [ev_eq Try.func96 ok96 m _ h (by simp [Try.f96])]
  unfold numP
  simp only [d1]
  by_cases c0 : k = 0
  · subst c0
    obtain ⟨j, S2, d2, a2, p2, e2, h2⟩ := draw (h1.push (.cells 3 false (numL.map (.int .i64)))) p1 (by omega) 9 (by omega) (by omega) m (by omega)
    have g := lk_get (l := numL) (k := j) (by simp [numL]; omega)
    have b1 : InK .i64 (lkP numL j) := lkP_in (fun x hx => by simp only [numL, List.mem_cons, List.not_mem_nil, or_false] at hx; apply inK64 <;> omega) _
    simp only [numL, List.map_cons, List.map_nil] at e2 h2 g
    have hn1 : ¬ (h.next = q) := by omega
    refine ⟨lkP numL j, S2, _, by simp [d2], b1, by omega, ?_, h2, koS_qpq _ _ _⟩
    simp (disch := omega) [Try.f96, e1, e2, zerosA, idxA, ldVar, hn1, g, numL, a2]
  by_cases c1 : k = 1
  · subst c1
    obtain ⟨i, S2, d2, a2, p2, e2, h2⟩ := draw h1 p1 (by omega) 16777216 (by omega) (by omega) m (by omega)
    rw [set_set] at e2 h2
    obtain ⟨j, S3, d3, a3, p3, e3, h3⟩ := draw h2 p2 (by omega) 65536 (by omega) (by omega) m (by omega)
    rw [set_set] at e3 h3
    have w1 := wrap_i64 (n := (i : Int) * 65536) (by omega) (by omega)
    have w2 := wrap_i64 (n := (i : Int) * 65536 + j) (by omega) (by omega)
    refine ⟨(i : Int) * 65536 + j, S3, _, by simp [d2, d3], inK64 (by omega) (by omega), by omega, ?_, h3, koS_set _⟩
    simp [Try.f96, e1, e2, e3, w1, w2]
  by_cases c2 : k = 2
  · subst c2
    obtain ⟨j, S2, d2, a2, p2, e2, h2⟩ := draw (h1.push (.cells 3 false (farL.map (.int .i64)))) p1 (by omega) 4 (by omega) (by omega) m (by omega)
    have g := lk_get (l := farL) (k := j) (by simp [farL]; omega)
    have b1 : InK .i64 (lkP farL j) := lkP_in (fun x hx => by simp only [farL, List.mem_cons, List.not_mem_nil, or_false] at hx; apply inK64 <;> omega) _
    simp only [farL, List.map_cons, List.map_nil] at e2 h2 g
    have hn1 : ¬ (h.next = q) := by omega
    refine ⟨lkP farL j, S2, _, by simp [d2], b1, by omega, ?_, h2, koS_qpq _ _ _⟩
    simp (disch := omega) [Try.f96, e1, e2, zerosA, idxA, ldVar, hn1, g, farL, a2]
  have k0 : ¬ ((k : Int) = 0) := by omega
  have k1 : ¬ ((k : Int) = 1) := by omega
  have k2 : ¬ ((k : Int) = 2) := by omega
  by_cases c3 : k = 3 ∨ k = 4
  · obtain ⟨j, S2, d2, a2, p2, e2, h2⟩ := draw h1 p1 (by omega) 20000 (by omega) (by omega) m (by omega)
    rw [set_set] at e2 h2
    refine ⟨j, S2, _, ?_, inK64 (by omega) (by omega), by omega, ?_, h2, koS_set _⟩
    · rw [if_neg k0, if_neg k1, if_neg k2, if_pos (by omega), d2]
    · rcases c3 with rfl | rfl <;> simp [Try.f96, e1, e2]
  · have k3 : ¬ ((k : Int) = 3) := by omega
    have k4 : ¬ ((k : Int) = 4) := by omega
    have k03 : ¬ (k = 3) := by omega
    have k04 : ¬ (k = 4) := by omega
    obtain ⟨j, S2, d2, a2, p2, e2, h2⟩ := draw h1 p1 (by omega) 100 (by omega) (by omega) m (by omega)
    rw [set_set] at e2 h2
    refine ⟨j, S2, _, ?_, inK64 (by omega) (by omega), by omega, ?_, h2, koS_set _⟩
    · rw [if_neg k0, if_neg k1, if_neg k2, if_neg (by omega), d2]
    · simp [Try.f96, e1, e2, k0, k1, k2, k3, k4, c0, c1, c2, k03, k04, beqF k0, beqF k1, beqF k2, beqF k3, beqF k4]
end Go.Ev

/- A source whose drawn things are not looked at: what is drawn, and what stays. -/
namespace Go.Ev
open Go Go.Proofs
set_option linter.unusedSimpArgs false
set_option linter.unusedVariables false

def SX (h : AH) (q : Nat) (v : AV) (bs : List Nat) (K : Nat) : Prop := ∃ S, SrcI h q v S bs ∧ S.pos ≤ K
section
variable {h h' : AH} {q : Nat} {v : AV} {bs : List Nat} {K : Nat}
theorem SX.lt (X : SX h q v bs K) : q < h.next := X.choose_spec.1.lt
theorem SX.nin (X : SX h q v bs K) : q ∉ bs := X.choose_spec.1.nin
theorem SX.mem (X : SX h q v bs K) : ∀ b ∈ bs, b < h.next := fun b hb => X.choose_spec.1.row.mem b hb
theorem SX.ko (X : SX h q v bs K) (hn : h.next ≤ h'.next) (hq : h'.get q = h.get q) (hb : ∀ b ∈ bs, h'.get b = h.get b) : SX h' q v bs K := by
  obtain ⟨S, s1, s2⟩ := X; exact ⟨S, s1.ko hn hq hb, s2⟩
theorem SX.kp (X : SX h q v bs K) (k : Kp h h') : SX h' q v bs K := X.ko k.next (k.get q X.lt) fun b hb => k.get b (X.mem b hb)
theorem SX.koS {cs : List Nat} (X : SX h q v bs K) (k : KoS cs h h') (hq : q ∉ cs) (hb : ∀ b ∈ bs, b ∉ cs) : SX h' q v bs K := X.ko k.next (k.get q X.lt hq) fun b hb' => k.get b (X.mem b hb') (hb b hb')
theorem SX.push (X : SX h q v bs K) (x : Blk) : SX (h.push x) q v bs K := X.kp ((Kp.refl h).push x)
theorem SX.set_ne {p : Nat} (X : SX h q v bs K) (x : Blk) (hp : p ≠ q) (hb : p ∉ bs) : SX (h.set p x) q v bs K := by
  obtain ⟨S, s1, s2⟩ := X; exact ⟨S, s1.set_ne x hp hb, s2⟩
theorem SX.resv (X : SX h q v bs K) (n : Nat) : SX (h.res n) q v bs K := by
  obtain ⟨S, s1, s2⟩ := X; exact ⟨S, s1.resv n, s2⟩
theorem SX.mono {K' : Nat} (X : SX h q v bs K) (hk : K ≤ K') : SX h q v bs K' := by
  obtain ⟨S, s1, s2⟩ := X; exact ⟨S, s1, Nat.le_trans s2 hk⟩
theorem SX.next (X : SX h q v bs K) (hK : K ≤ 1000000) (n : Int) (hn1 : 1 ≤ n) (hn : n ≤ 1099511627776) (m : Nat) (hm : 2 ≤ m) :
    ∃ (k : Nat) (h' : AH), ev Try.prog m 50 [.ptr q 0, .int .i64 n] h = some (.int .i64 k, h') ∧ (k : Int) < n ∧ SX h' q v bs (K + 3) ∧ KoS [q] h h' ∧ h'.next = h.next := by
  obtain ⟨S, s1, s2⟩ := X
  obtain ⟨k, S', d, a, p, e, i⟩ := draw s1 s2 hK n hn1 hn m hm
  exact ⟨k, _, e, a, ⟨S', i, p⟩, koS_set _, by simp⟩
theorem SX.byte (X : SX h q v bs K) (hK : K ≤ 1000000) (m : Nat) (hm : 1 ≤ m) :
    ∃ (k : Int) (h' : AH), ev Try.prog m 97 [.ptr q 0] h = some (.int .i64 k, h') ∧ 0 ≤ k ∧ k ≤ 255 ∧ SX h' q v bs (K + 1) ∧ KoS [q] h h' ∧ h'.next = h.next := by
  obtain ⟨S, s1, s2⟩ := X
  have e := byte_ev s1 (by omega) m hm
  obtain ⟨a1, a2, a3, a4, a5, a6⟩ := byteP_in s1
  exact ⟨_, _, e, a1, a2, ⟨_, s1.byte (by omega), by omega⟩, koS_set _, by simp⟩
theorem SX.chance (X : SX h q v bs K) (hK : K ≤ 1000000) (n : Int) (hn1 : 0 ≤ n) (hn : n ≤ 1099511627776) (m : Nat) (hm : 3 ≤ m) :
    ∃ (b : Bool) (h' : AH), ev Try.prog m 48 [.ptr q 0, .int .i64 n] h = some (.bool b, h') ∧ SX h' q v bs (K + 3) ∧ KoS [q] h h' ∧ h'.next = h.next := by
  obtain ⟨S, s1, s2⟩ := X
  have e := chance_ev s1 (by omega) hn1 hn m hm
  exact ⟨_, _, e, ⟨_, s1.next (by omega) n, nextP_p s2⟩, koS_set _, by simp⟩
theorem SX.size (X : SX h q v bs K) (n : Int) (hn : 1 ≤ n) (m : Nat) (hm : 1 ≤ m) :
    ∃ k : Int, ev Try.prog m 108 [.ptr q 0, .int .i64 n] h = some (.int .i64 k, h) ∧ 1 ≤ k ∧ k ≤ n := by
  obtain ⟨S, s1, s2⟩ := X
  refine ⟨_, size_ev s1 n m hm, ?_⟩
  have := s1.len
  unfold sizeP miI; split <;> omega
theorem SX.number (X : SX h q v bs K) (hK : K ≤ 900000) (m : Nat) (hm : 4 ≤ m) :
    ∃ (n : Int) (h' : AH), ev Try.prog m 96 [.ptr q 0] h = some (.int .i64 n, h') ∧ InK .i64 n ∧ SX h' q v bs (K + 9) ∧ KoS [q] h h' := by
  obtain ⟨S, s1, s2⟩ := X
  obtain ⟨n, S', H', d, i, p, e, s, k⟩ := drawNum_ev s1 s2 hK m hm
  exact ⟨n, H', e, i, ⟨S', s, p⟩, k⟩
end
theorem koS1 {q : Nat} {A B C : AH} (h : KoS [q] A B) (k : KoS [q] B C) : KoS [q] A C := h.trans k fun b hb => .inl hb
theorem Kp.koS1 {q : Nat} {A B : AH} (h : Kp A B) : KoS [q] A B := h.koS _
/-! drawn bytes -/
def BxI (q : Nat) (v : AV) (bs : List Nat) (K N : Nat) (n1 : Int) (H : AH) (d : Nat) (τ : Tm) (h : AH) : Prop :=
  ∃ (k : Nat) (l : List Int) (r : AV) (b : Nat), k + d = N ∧ τ 0 = .ptr q 0 ∧ τ 1 = .int .i64 n1 ∧ τ 5 = r ∧ τ 6 = .int .i64 k ∧ l.length = k ∧ By l ∧ BO h r l b ∧ H.next ≤ b ∧ SX h q v bs (K + k) ∧ KoS [q] H h
set_option maxRecDepth 20000 in
theorem SX.bytes {h : AH} {q : Nat} {v : AV} {bs : List Nat} {K : Nat} (X : SX h q v bs K) (hK : K ≤ 900000) (n : Int) (hn : n ≤ 20000) (m : Nat) (hm : 20010 ≤ m) :
    ∃ (l : List Int) (r : AV) (h' : AH) (b : Nat), ev Try.prog m 49 [.ptr q 0, .int .i64 n] h = some (r, h') ∧ l.length = n.toNat ∧ By l ∧ BO h' r l b ∧ h.next ≤ b ∧ SX h' q v bs (K + n.toNat) ∧ KoS [q] h h' := by
  obtain ⟨m, rfl⟩ : ∃ k, m = k + 1 := ⟨m - 1, by omega⟩
  have hq := X.lt
  obtain ⟨Z, hZ⟩ : ∃ Z : AH, Z = h.push (.cells 5 false []) := ⟨_, rfl⟩
  have kZ : Kp h Z := by rw [hZ]; exact (Kp.refl h).push _
  have nZ : Z.next = h.next + 1 := by rw [hZ]; simp
  have bZ : BO Z (.slice h.next 0 0) [] h.next := ⟨rfl, by omega, by rw [hZ]; simp [u8L]⟩
  have hZ' := hZ.symm
  rw [ev_M Try.func49 ok49 [] m _ h (by simp [Try.f49])]
  simp [Try.f49, U, tm0, hZ', zerosA, fillA]
  generalize hLo : evLoop _ _ _ _ _ _ = R
  obtain ⟨e, τ', H', rfl, rfl, g⟩ := loop_at hLo (loop_rule (d := n.toNat) (BxI q v bs K n.toNat n h) (fun e τ h' => e = .exit 0 ∧ BxI q v bs K n.toNat n h 0 τ h') (by
    rintro d τ hh ⟨k, l, r, b, hk, t0, t1, t5, t6, hlen, hby, B, hb, Y, KY⟩
    rw [lp_M Try.func49 58 (by decide) 6 (by decide) (by kernel_rfl) []]
    by_cases hd0 : d = 0
    · subst hd0
      have hkl : ((k : Int) < n) = False := eq_false (by omega)
      simp [Try.f49, U, t1, t6, hkl]
      exact ⟨k, l, r, b, hk, by simp [t0], by simp [t1], by simp [t5], by simp [t6], hlen, hby, B, hb, Y, KY⟩
    · have hkl : ((k : Int) < n) = True := eq_true (by omega)
      obtain ⟨x, h1, e1, x0, x1, Y1, K1, N1⟩ := Y.byte (by omega) m (by omega)
      have w8 : IntKind.u8.wrap x = x := by rw [IntKind.wrap_u8]; omega
      have cx : ∀ h', convA Try.prog 3 5 (.int .i64 x) h' = some (.int .u8 x, h') := fun h' => (conv_int (ds := .int .i64) (k := .u8) (by simp) (by simp)).trans (by rw [w8])
      have hbq : b ≠ q := by omega
      have B1 : BO h1 r l b := ⟨B.1, by have := B.2.1; omega, by rw [K1.get b B.2.1 (by simpa using hbq)]; exact B.2.2⟩
      obtain ⟨v', X', b', q1, q2, q3, q4⟩ := B1.app1 (x := x) (by omega)
      have w1 : IntKind.i64.wrap ((k : Int) + 1) = (k : Int) + 1 := wrap_i64 (by omega) (by omega)
      obtain ⟨P1, hP⟩ : ∃ P : AH, P = h1.push (.cells 5 false [.int .u8 x]) := ⟨_, rfl⟩
      rw [← hP] at q1
      have hP' := hP.symm
      simp [Try.f49, U, t0, t1, t5, t6, hkl, e1, cx, zerosA, fillA, spl, hP', q1, w1]
      have hbs := Y.mem
      have hlb := Y1.mem
      refine ⟨d - 1, by omega, k + 1, l ++ [x], v', b', by omega, by simp [t0], by simp [t1], by simp, by simp, by simp [hlen], ?_, q2, by have := KY.next; omega, ?_, ?_⟩
      · intro y hy
        rcases List.mem_append.1 hy with hy | hy
        · exact hby y hy
        · simp at hy; subst hy; omega
      · have hbb : ∀ y ∈ bs, y ≠ b := fun y hy e => by have := X.mem y hy; omega
        exact (Y1.koS q3 (by simp; omega) fun y hy => by simpa using hbb y hy).mono (by omega)
      · exact (koS1 KY K1).trans q3 fun y hy => by simp at hy; subst hy; exact .inr hb) ⟨0, [], .slice h.next 0 0, h.next, by omega, by simp, by simp, by simp, by simp, rfl, by simp [By], bZ, Nat.le_refl _, (X.kp kZ).mono (by omega), kZ.koS1⟩ (by omega))
  obtain ⟨k, l, r, b, hk, t0, t1, t5, t6, hlen, hby, B, hb, Y, KY⟩ := g
  have hk' : k = n.toNat := by omega
  subst hk'
  exact ⟨l, r, H', by simp [t5], hlen, hby, b, B, hb, Y, KY⟩
end Go.Ev

/- Plain packets: drawn ids, drawn retry headers, drawn versions. -/
namespace Go.Ev
open Go Go.Proofs
set_option linter.unusedSimpArgs false
set_option linter.unusedVariables false

variable {h h' : AH} {q : Nat} {v : AV} {bs : List Nat} {K : Nat}
theorem BO.ks {H H' : AH} {v : AV} {l : List Int} {b q : Nat} (h : BO H v l b) (k : KoS [q] H H') (hq : b ≠ q) : BO H' v l b :=
  ⟨h.1, by have := k.next; have := h.2.1; omega, by rw [k.get b h.2.1 (by simpa using hq)]; exact h.2.2⟩
theorem IO.ks {H H' : AH} {v : AV} {l : List Int} {b q : Nat} (h : IO H v l b) (k : KoS [q] H H') (hq : b ≠ q) : IO H' v l b :=
  ⟨h.1, by have := k.next; have := h.2.1; omega, by rw [k.get b h.2.1 (by simpa using hq)]; exact h.2.2⟩
theorem BO.cl {H : AH} {v : AV} {l : List Int} {b : Nat} (h : BO H v l b) : v.cells = [v] := by rw [h.1]; rfl
theorem SX.cid (X : SX h q v bs K) (hK : K ≤ 800000) (m : Nat) (hm : 20020 ≤ m) :
    ∃ (l : List Int) (r : AV) (h' : AH) (b : Nat), ev Try.prog m 59 [.ptr q 0] h = some (r, h') ∧ l.length ≤ 8 ∧ By l ∧ BO h' r l b ∧ h.next ≤ b ∧ SX h' q v bs (K + 20) ∧ KoS [q] h h' := by
  obtain ⟨m, rfl⟩ : ∃ k, m = k + 1 := ⟨m - 1, by omega⟩
  obtain ⟨k, h1, e1, hk, X1, K1, n1⟩ := X.next (by omega) 9 (by omega) (by omega) m (by omega)
  obtain ⟨l, r, h2, b, e2, hl, hb, B, hb', X2, K2⟩ := X1.bytes (by omega) k (by omega) m (by omega)
  refine ⟨l, r, h2, b, ?_, by omega, hb, B, by omega, X2.mono (by omega), koS1 K1 K2⟩
  rw [ev_M Try.func59 ok59 [] _ _ h (by simp [Try.f59])]
  simp [Try.f59, tm0, e1, e2]
theorem DrawRetryH (X : SX h q v bs K) (hK : K ≤ 100000) (m : Nat) (hm : 20030 ≤ m) :
    ∃ (w : Int) (D S T : List Int) (d s t : AV) (b1 b2 b3 : Nat) (h' : AH), ev Try.prog m 47 [.ptr q 0] h = some (hdG 3 w d s t 0 0 0, h') ∧ 1 ≤ w ∧ w ≤ 5 ∧ D.length ≤ 8 ∧ S.length ≤ 8 ∧ T.length ≤ 64 ∧ By D ∧ By S ∧ By T ∧
      BO h' d D b1 ∧ BO h' s S b2 ∧ BO h' t T b3 ∧ h.next ≤ b1 ∧ h.next ≤ b2 ∧ h.next ≤ b3 ∧ SX h' q v bs (K + 200) ∧ KoS [q] h h' := by
  obtain ⟨m, rfl⟩ : ∃ k, m = k + 1 := ⟨m - 1, by omega⟩
  have hq := X.lt
  obtain ⟨Z, hZ⟩ : ∃ Z : AH, Z = h.push (.cells 24 false [.int .i64 0, .int .i64 0, .nilSlice, .nilSlice, .nilSlice, .int .i64 0, .int .i64 0, .int .i64 0]) := ⟨_, rfl⟩
  have XZ : SX Z q v bs K := by rw [hZ]; exact X.push _
  have nZ : Z.next = h.next + 1 := by rw [hZ]; simp
  have gZ : Z.get h.next = some (.cells 24 false [.int .i64 0, .int .i64 0, .nilSlice, .nilSlice, .nilSlice, .int .i64 0, .int .i64 0, .int .i64 0]) := by rw [hZ]; simp
  have KZ : KoS [q] h Z := by rw [hZ]; exact ((Kp.refl h).push _).koS1
  obtain ⟨k, h1, e1, hk, X1, K1, n1⟩ := XZ.next (by omega) 5 (by omega) (by omega) m (by omega)
  obtain ⟨D, d, h2, b1, e2, lD, yD, B2, q2, X2, K2⟩ := X1.cid (by omega) m (by omega)
  obtain ⟨S, s, h3, b2, e3, lS, yS, B3, q3, X3, K3⟩ := X2.cid (by omega) m (by omega)
  obtain ⟨j, h4, e4, hj, X4, K4, n4⟩ := X3.next (by omega) 64 (by omega) (by omega) m (by omega)
  have wj : IntKind.i64.wrap (1 + (j : Int)) = 1 + (j : Int) := wrap_i64 (by omega) (by omega)
  have wk : IntKind.i64.wrap (1 + (k : Int)) = 1 + (k : Int) := wrap_i64 (by omega) (by omega)
  obtain ⟨T, t, h5, b3, e5, lT, yT, B5, q5, X5, K5⟩ := X4.bytes (by omega) (1 + (j : Int)) (by omega) m (by omega)
  have m2 := K2.next
  have m3 := K3.next
  have KA : KoS [q] Z h5 := koS1 (koS1 (koS1 (koS1 K1 K2) K3) K4) K5
  have C1 := ((B2.ks K3 (by omega)).ks K4 (by omega)).ks K5 (by omega)
  have C2 := (B3.ks K4 (by omega)).ks K5 (by omega)
  have g5 : h5.get h.next = some (.cells 24 false [.int .i64 0, .int .i64 0, .nilSlice, .nilSlice, .nilSlice, .int .i64 0, .int .i64 0, .int .i64 0]) := by
    rw [KA.get _ (by omega) (by simp; omega)]; exact gZ
  obtain ⟨Y, hY⟩ : ∃ Y : AH, Y = h5.set h.next (.cells 24 false [.int .i64 3, .int .i64 (1 + (k : Int)), d, s, t, .int .i64 0, .int .i64 0, .int .i64 0]) := ⟨_, rfl⟩
  have gY : Y.get h.next = some (.cells 24 false [.int .i64 3, .int .i64 (1 + (k : Int)), d, s, t, .int .i64 0, .int .i64 0, .int .i64 0]) := by rw [hY]; simp
  have nY : Y.next = h5.next := by rw [hY]; simp
  have oY : ∀ b, b ≠ h.next → Y.get b = h5.get b := fun b hb => by rw [hY, AH.set_get, if_neg hb]
  have m4 := KA.next
  refine ⟨1 + (k : Int), D, S, T, d, s, t, b1, b2, b3, Y, ?_, by omega, by omega, lD, lS, by omega, yD, yS, yT, ?_, ?_, ?_, by omega, by omega, by omega, ?_, ?_⟩
  · rw [ev_M Try.func47 ok47 [] _ _ h (by simp [Try.f47])]
    have hZ' := hZ.symm
    have hY' := hY.symm
    simp [Try.f47, tm0, hZ', e1, wk, e2, e3, e4, wj, e5, g5, B5.cl, C1.cl, C2.cl, B5.bs.one, C1.bs.one, C2.bs.one, hY', gY, ldVar, stVar, hdG, fillA, zerosA, spl]
  · exact ⟨C1.1, by rw [nY]; exact C1.2.1, by rw [oY _ (by omega)]; exact C1.2.2⟩
  · exact ⟨C2.1, by rw [nY]; exact C2.2.1, by rw [oY _ (by omega)]; exact C2.2.2⟩
  · exact ⟨B5.1, by rw [nY]; exact B5.2.1, by rw [oY _ (by omega)]; exact B5.2.2⟩
  · rw [hY]; exact (X5.set_ne _ (by omega) (fun hb => by have := X.mem _ hb; omega)).mono (by omega)
  · refine ⟨by omega, fun b hb hbq => ?_⟩
    rw [oY b (by omega), KA.get b (by omega) hbq, hZ, AH.push_get, if_neg (by omega)]
end Go.Ev

/- Plain packets: a header with one field bent. -/
namespace Go.Ev
open Go Go.Proofs
set_option linter.unusedSimpArgs false
set_option linter.unusedVariables false

variable {h h' : AH} {q : Nat} {v : AV} {bs : List Nat} {K : Nat}
/-- a header with rows of its own -/
def HdI (q : Nat) (H : AH) (hd : AV) (f w : Int) (D S T : List Int) (n l p : Int) : Prop :=
  ∃ (d s t : AV) (b1 b2 b3 : Nat), hd = hdG f w d s t n l p ∧ BO H d D b1 ∧ BO H s S b2 ∧ BO H t T b3 ∧ b1 ≠ q ∧ b2 ≠ q ∧ b3 ≠ q ∧ D.length ≤ 100 ∧ S.length ≤ 100 ∧ T.length ≤ 100 ∧ By D ∧ By S ∧ By T
theorem HdI.ks {q : Nat} {H H' : AH} {hd : AV} {f w : Int} {D S T : List Int} {n l p : Int} (h : HdI q H hd f w D S T n l p) (k : KoS [q] H H') : HdI q H' hd f w D S T n l p := by
  obtain ⟨d, s, t, b1, b2, b3, e, B1, B2, B3, n1, n2, n3, r⟩ := h
  exact ⟨d, s, t, b1, b2, b3, e, B1.ks k n1, B2.ks k n2, B3.ks k n3, n1, n2, n3, r⟩
theorem setBO {A : AH} {x : AV} {l : List Int} {b p : Nat} (h : BO A x l b) (c : Blk) (hp : b ≠ p) : BO (A.set p c) x l b :=
  ⟨h.1, by simpa using h.2.1, by rw [AH.set_get, if_neg hp]; exact h.2.2⟩
theorem setKo {A : AH} {p : Nat} (k : KoS [q] h A) (c : Blk) (hp : h.next ≤ p) : KoS [q] h (A.set p c) :=
  ⟨by simpa using k.next, fun b hb hbq => by rw [AH.set_get, if_neg (by omega)]; exact k.get b hb hbq⟩
theorem Bent0 (X : SX h q v bs K) (hK : K ≤ 100000) {f w n l p : Int} {D S T : List Int} {hd d s t : AV} (m : Nat) (hm : 20030 ≤ m) (Z : AH) (hZ : Z = (h.push (.cells 24 false [.int .i64 f, .int .i64 w, d, s, t, .int .i64 n, .int .i64 l, .int .i64 p])).push (.cells 24 false [.int .i64 0, .int .i64 0, .nilSlice, .nilSlice, .nilSlice, .int .i64 0, .int .i64 0, .int .i64 0])) {kk : Int} {h1 : AH} {b1 b2 b3 : Nat} (he : hd = hdG f w d s t n l p)
    (B1 : BO h1 d D b1) (B2 : BO h1 s S b2) (B3 : BO h1 t T b3) (c1 : b1 < h.next) (c2 : b2 < h.next) (c3 : b3 < h.next) (n1 : b1 ≠ q) (n2 : b2 ≠ q) (n3 : b3 ≠ q) (lD : D.length ≤ 100) (lS : S.length ≤ 100) (lT : T.length ≤ 100) (yD : By D) (yS : By S) (yT : By T)
    (X1 : SX h1 q v bs (K + 3)) (K1 : KoS [q] Z h1) (nn : h1.next = Z.next) (e1 : ev Try.prog m 50 [.ptr q 0, .int .i64 20] Z = some (.int .i64 kk, h1)) (hk : kk = 0) :
    ∃ (f w : Int) (D S T : List Int) (n l p : Int) (r : AV) (h' : AH), ev Try.prog (m + 1) 46 [.ptr q 0, hd] h = some (r, h') ∧ HdI q h' r f w D S T n l p ∧ SX h' q v bs (K + 100) ∧ KoS [q] h h' := by
  have hq := X.lt
  have hmm := X.mem
  have nZ : Z.next = h.next + 2 := by rw [hZ]; simp
  have gZ : Z.get h.next = some (.cells 24 false [.int .i64 f, .int .i64 w, d, s, t, .int .i64 n, .int .i64 l, .int .i64 p]) := by rw [hZ, AH.push_get, if_neg (by simp)]; simp
  have gZ1 : Z.get (h.next + 1) = some (.cells 24 false [.int .i64 0, .int .i64 0, .nilSlice, .nilSlice, .nilSlice, .int .i64 0, .int .i64 0, .int .i64 0]) := by rw [hZ]; simp
  have KZ : KoS [q] h Z := by rw [hZ]; exact (((Kp.refl h).push _).push _).koS1
  have hZ' := hZ.symm
  have C1 := B1.cl
  have C2 := B2.cl
  have C3 := B3.cl
  have O1 := B1.bs.one
  have O2 := B2.bs.one
  have O3 := B3.bs.one
  subst hk
  obtain ⟨j, h2, e2, hj, X2, K2, n2'⟩ := X1.next (by omega) 8 (by omega) (by omega) m (by omega)
  have wj : IntKind.i64.wrap ((j : Int) - 1) = (j : Int) - 1 := wrap_i64 (by omega) (by omega)
  have KA : KoS [q] Z h2 := koS1 K1 K2
  have mA := KA.next
  have g5 : h2.get h.next = some (.cells 24 false [.int .i64 f, .int .i64 w, d, s, t, .int .i64 n, .int .i64 l, .int .i64 p]) := by rw [KA.get _ (by omega) (by simp; omega)]; exact gZ
  have g51 : h2.get (h.next + 1) = some (.cells 24 false [.int .i64 0, .int .i64 0, .nilSlice, .nilSlice, .nilSlice, .int .i64 0, .int .i64 0, .int .i64 0]) := by rw [KA.get _ (by omega) (by simp; omega)]; exact gZ1
  obtain ⟨W, hW⟩ : ∃ W : AH, W = h2.set h.next (.cells 24 false [.int .i64 ((j : Int) - 1), .int .i64 w, d, s, t, .int .i64 n, .int .i64 l, .int .i64 p]) := ⟨_, rfl⟩
  have gW : W.get h.next = some (.cells 24 false [.int .i64 ((j : Int) - 1), .int .i64 w, d, s, t, .int .i64 n, .int .i64 l, .int .i64 p]) := by rw [hW]; simp
  have gW1 : W.get (h.next + 1) = some (.cells 24 false [.int .i64 0, .int .i64 0, .nilSlice, .nilSlice, .nilSlice, .int .i64 0, .int .i64 0, .int .i64 0]) := by rw [hW]; rw [AH.set_get, if_neg (by omega)]; exact g51
  obtain ⟨Y, hY⟩ : ∃ Y : AH, Y = W.set (h.next + 1) (.cells 24 false [.int .i64 ((j : Int) - 1), .int .i64 w, d, s, t, .int .i64 n, .int .i64 l, .int .i64 p]) := ⟨_, rfl⟩
  have gY : Y.get (h.next + 1) = some (.cells 24 false [.int .i64 ((j : Int) - 1), .int .i64 w, d, s, t, .int .i64 n, .int .i64 l, .int .i64 p]) := by rw [hY]; simp
  have hW' := hW.symm
  have hY' := hY.symm
  have XY : SX Y q v bs (K + 100) := by
    rw [hY, hW]
    exact ((X2.set_ne _ (by omega) (fun hb => by have := hmm _ hb; omega)).set_ne _ (by omega) (fun hb => by have := hmm _ hb; omega)).mono (by omega)
  have KY : KoS [q] h Y := by
    rw [hY, hW]
    exact setKo (setKo (koS1 KZ KA) _ (by omega)) _ (by omega)
  have bo : ∀ {x : AV} {L : List Int} {b : Nat}, BO h2 x L b → b ≠ h.next → b ≠ h.next + 1 → BO Y x L b := fun hB u1 u2 => by
    rw [hY, hW]
    exact setBO (setBO hB _ u1) _ u2
  have KB : ∀ {x : AV} {L : List Int} {b : Nat}, BO h1 x L b → b ≠ q → BO h2 x L b := fun hB hn => hB.ks K2 hn
  refine ⟨_, w, D, S, T, n, l, p, hdG (((j : Int) - 1)) w d s t n l p, Y, ?_, ⟨d, s, t, b1, b2, b3, rfl, bo (KB B1 n1) (by omega) (by omega), bo (KB B2 n2) (by omega) (by omega), bo (KB B3 n3) (by omega) (by omega), n1, n2, n3, lD, lS, lT, yD, yS, yT⟩, XY, KY⟩
  rw [he, ev_M Try.func46 ok46 [] m _ h (by simp [Try.f46])]
  simp [Try.f46, tm0, hdG, C1, C2, C3, O1, O2, O3, hZ', e1, e2, wj, g5, g51, hW', gW, gW1, hY', gY, ldVar, stVar, fillA, zerosA, spl]

theorem Bent1 (X : SX h q v bs K) (hK : K ≤ 100000) {f w n l p : Int} {D S T : List Int} {hd d s t : AV} (m : Nat) (hm : 20030 ≤ m) (Z : AH) (hZ : Z = (h.push (.cells 24 false [.int .i64 f, .int .i64 w, d, s, t, .int .i64 n, .int .i64 l, .int .i64 p])).push (.cells 24 false [.int .i64 0, .int .i64 0, .nilSlice, .nilSlice, .nilSlice, .int .i64 0, .int .i64 0, .int .i64 0])) {kk : Int} {h1 : AH} {b1 b2 b3 : Nat} (he : hd = hdG f w d s t n l p)
    (B1 : BO h1 d D b1) (B2 : BO h1 s S b2) (B3 : BO h1 t T b3) (c1 : b1 < h.next) (c2 : b2 < h.next) (c3 : b3 < h.next) (n1 : b1 ≠ q) (n2 : b2 ≠ q) (n3 : b3 ≠ q) (lD : D.length ≤ 100) (lS : S.length ≤ 100) (lT : T.length ≤ 100) (yD : By D) (yS : By S) (yT : By T)
    (X1 : SX h1 q v bs (K + 3)) (K1 : KoS [q] Z h1) (nn : h1.next = Z.next) (e1 : ev Try.prog m 50 [.ptr q 0, .int .i64 20] Z = some (.int .i64 kk, h1)) (hk : kk = 1) :
    ∃ (f w : Int) (D S T : List Int) (n l p : Int) (r : AV) (h' : AH), ev Try.prog (m + 1) 46 [.ptr q 0, hd] h = some (r, h') ∧ HdI q h' r f w D S T n l p ∧ SX h' q v bs (K + 100) ∧ KoS [q] h h' := by
  have hq := X.lt
  have hmm := X.mem
  have nZ : Z.next = h.next + 2 := by rw [hZ]; simp
  have gZ : Z.get h.next = some (.cells 24 false [.int .i64 f, .int .i64 w, d, s, t, .int .i64 n, .int .i64 l, .int .i64 p]) := by rw [hZ, AH.push_get, if_neg (by simp)]; simp
  have gZ1 : Z.get (h.next + 1) = some (.cells 24 false [.int .i64 0, .int .i64 0, .nilSlice, .nilSlice, .nilSlice, .int .i64 0, .int .i64 0, .int .i64 0]) := by rw [hZ]; simp
  have KZ : KoS [q] h Z := by rw [hZ]; exact (((Kp.refl h).push _).push _).koS1
  have hZ' := hZ.symm
  have C1 := B1.cl
  have C2 := B2.cl
  have C3 := B3.cl
  have O1 := B1.bs.one
  have O2 := B2.bs.one
  have O3 := B3.bs.one
  subst hk
  obtain ⟨P, hP⟩ : ∃ P : AH, P = h1.push (.cells 3 false [.int .i64 0, .int .i64 (-1), .int .i64 4294967296, .int .i64 1]) := ⟨_, rfl⟩
  have XP : SX P q v bs (K + 3) := by rw [hP]; exact X1.push _
  have KP : Kp h1 P := by rw [hP]; exact (Kp.refl h1).push _
  have gP : P.get h1.next = some (.cells 3 false [.int .i64 0, .int .i64 (-1), .int .i64 4294967296, .int .i64 1]) := by rw [hP]; simp
  have nP : P.next = h1.next + 1 := by rw [hP]; simp
  have hP' := hP.symm
  obtain ⟨j, h2, e2, hj, X2, K2, n2'⟩ := XP.next (by omega) 4 (by omega) (by omega) m (by omega)
  have hm1 := K1.next
  have g2 : h2.get h1.next = some (.cells 3 false [.int .i64 0, .int .i64 (-1), .int .i64 4294967296, .int .i64 1]) := by rw [K2.get _ (by omega) (by simp; omega)]; exact gP
  obtain ⟨x, hx⟩ : ∃ x : Int, ([.int .i64 0, .int .i64 (-1), .int .i64 4294967296, .int .i64 1] : List AV)[j]'(by simp; omega) = .int .i64 x := by
    have : j = 0 ∨ j = 1 ∨ j = 2 ∨ j = 3 := by omega
    rcases this with rfl | rfl | rfl | rfl <;> exact ⟨_, rfl⟩
  have hj4 : (j < 4) = True := eq_true (by omega)
  have hj4' : ((j : Int) < 4) = True := eq_true (by omega)
  have KA : KoS [q] Z h2 := koS1 (koS1 K1 KP.koS1) K2
  have mA := KA.next
  have g5 : h2.get h.next = some (.cells 24 false [.int .i64 f, .int .i64 w, d, s, t, .int .i64 n, .int .i64 l, .int .i64 p]) := by rw [KA.get _ (by omega) (by simp; omega)]; exact gZ
  have g51 : h2.get (h.next + 1) = some (.cells 24 false [.int .i64 0, .int .i64 0, .nilSlice, .nilSlice, .nilSlice, .int .i64 0, .int .i64 0, .int .i64 0]) := by rw [KA.get _ (by omega) (by simp; omega)]; exact gZ1
  obtain ⟨W, hW⟩ : ∃ W : AH, W = h2.set h.next (.cells 24 false [.int .i64 f, .int .i64 x, d, s, t, .int .i64 n, .int .i64 l, .int .i64 p]) := ⟨_, rfl⟩
  have gW : W.get h.next = some (.cells 24 false [.int .i64 f, .int .i64 x, d, s, t, .int .i64 n, .int .i64 l, .int .i64 p]) := by rw [hW]; simp
  have gW1 : W.get (h.next + 1) = some (.cells 24 false [.int .i64 0, .int .i64 0, .nilSlice, .nilSlice, .nilSlice, .int .i64 0, .int .i64 0, .int .i64 0]) := by rw [hW]; rw [AH.set_get, if_neg (by omega)]; exact g51
  obtain ⟨Y, hY⟩ : ∃ Y : AH, Y = W.set (h.next + 1) (.cells 24 false [.int .i64 f, .int .i64 x, d, s, t, .int .i64 n, .int .i64 l, .int .i64 p]) := ⟨_, rfl⟩
  have gY : Y.get (h.next + 1) = some (.cells 24 false [.int .i64 f, .int .i64 x, d, s, t, .int .i64 n, .int .i64 l, .int .i64 p]) := by rw [hY]; simp
  have hW' := hW.symm
  have hY' := hY.symm
  have XY : SX Y q v bs (K + 100) := by
    rw [hY, hW]
    exact ((X2.set_ne _ (by omega) (fun hb => by have := hmm _ hb; omega)).set_ne _ (by omega) (fun hb => by have := hmm _ hb; omega)).mono (by omega)
  have KY : KoS [q] h Y := by
    rw [hY, hW]
    exact setKo (setKo (koS1 KZ KA) _ (by omega)) _ (by omega)
  have bo : ∀ {x : AV} {L : List Int} {b : Nat}, BO h2 x L b → b ≠ h.next → b ≠ h.next + 1 → BO Y x L b := fun hB u1 u2 => by
    rw [hY, hW]
    exact setBO (setBO hB _ u1) _ u2
  have KB : ∀ {x : AV} {L : List Int} {b : Nat}, BO h1 x L b → b ≠ q → BO h2 x L b := fun hB hn => (hB.kp KP).ks K2 hn
  refine ⟨f, _, D, S, T, n, l, p, hdG f (x) d s t n l p, Y, ?_, ⟨d, s, t, b1, b2, b3, rfl, bo (KB B1 n1) (by omega) (by omega), bo (KB B2 n2) (by omega) (by omega), bo (KB B3 n3) (by omega) (by omega), n1, n2, n3, lD, lS, lT, yD, yS, yT⟩, XY, KY⟩
  rw [he, ev_M Try.func46 ok46 [] m _ h (by simp [Try.f46])]
  simp [Try.f46, tm0, hdG, C1, C2, C3, O1, O2, O3, hZ', e1, hP', e2, g2, hx, hj4, hj4', idxA, g5, g51, hW', gW, gW1, hY', gY, ldVar, stVar, fillA, zerosA, spl]

theorem Bent2 (X : SX h q v bs K) (hK : K ≤ 100000) {f w n l p : Int} {D S T : List Int} {hd d s t : AV} (m : Nat) (hm : 20030 ≤ m) (Z : AH) (hZ : Z = (h.push (.cells 24 false [.int .i64 f, .int .i64 w, d, s, t, .int .i64 n, .int .i64 l, .int .i64 p])).push (.cells 24 false [.int .i64 0, .int .i64 0, .nilSlice, .nilSlice, .nilSlice, .int .i64 0, .int .i64 0, .int .i64 0])) {kk : Int} {h1 : AH} {b1 b2 b3 : Nat} (he : hd = hdG f w d s t n l p)
    (B1 : BO h1 d D b1) (B2 : BO h1 s S b2) (B3 : BO h1 t T b3) (c1 : b1 < h.next) (c2 : b2 < h.next) (c3 : b3 < h.next) (n1 : b1 ≠ q) (n2 : b2 ≠ q) (n3 : b3 ≠ q) (lD : D.length ≤ 100) (lS : S.length ≤ 100) (lT : T.length ≤ 100) (yD : By D) (yS : By S) (yT : By T)
    (X1 : SX h1 q v bs (K + 3)) (K1 : KoS [q] Z h1) (nn : h1.next = Z.next) (e1 : ev Try.prog m 50 [.ptr q 0, .int .i64 20] Z = some (.int .i64 kk, h1)) (hk : kk = 2) :
    ∃ (f w : Int) (D S T : List Int) (n l p : Int) (r : AV) (h' : AH), ev Try.prog (m + 1) 46 [.ptr q 0, hd] h = some (r, h') ∧ HdI q h' r f w D S T n l p ∧ SX h' q v bs (K + 100) ∧ KoS [q] h h' := by
  have hq := X.lt
  have hmm := X.mem
  have nZ : Z.next = h.next + 2 := by rw [hZ]; simp
  have gZ : Z.get h.next = some (.cells 24 false [.int .i64 f, .int .i64 w, d, s, t, .int .i64 n, .int .i64 l, .int .i64 p]) := by rw [hZ, AH.push_get, if_neg (by simp)]; simp
  have gZ1 : Z.get (h.next + 1) = some (.cells 24 false [.int .i64 0, .int .i64 0, .nilSlice, .nilSlice, .nilSlice, .int .i64 0, .int .i64 0, .int .i64 0]) := by rw [hZ]; simp
  have KZ : KoS [q] h Z := by rw [hZ]; exact (((Kp.refl h).push _).push _).koS1
  have hZ' := hZ.symm
  have C1 := B1.cl
  have C2 := B2.cl
  have C3 := B3.cl
  have O1 := B1.bs.one
  have O2 := B2.bs.one
  have O3 := B3.bs.one
  subst hk
  obtain ⟨j, h2, e2, hj, X2, K2, n2'⟩ := X1.next (by omega) 3 (by omega) (by omega) m (by omega)
  have wj : IntKind.i64.wrap (8 + (j : Int)) = 8 + (j : Int) := wrap_i64 (by omega) (by omega)
  obtain ⟨L, r, h3, b, e3, lL, yL, BL, hbL, X3, K3⟩ := X2.bytes (by omega) (8 + (j : Int)) (by omega) m (by omega)
  have hm2 := K1.next
  have OL := BL.bs.one
  have CL := BL.cl
  have KA : KoS [q] Z h3 := koS1 (koS1 K1 K2) K3
  have mA := KA.next
  have g5 : h3.get h.next = some (.cells 24 false [.int .i64 f, .int .i64 w, d, s, t, .int .i64 n, .int .i64 l, .int .i64 p]) := by rw [KA.get _ (by omega) (by simp; omega)]; exact gZ
  have g51 : h3.get (h.next + 1) = some (.cells 24 false [.int .i64 0, .int .i64 0, .nilSlice, .nilSlice, .nilSlice, .int .i64 0, .int .i64 0, .int .i64 0]) := by rw [KA.get _ (by omega) (by simp; omega)]; exact gZ1
  obtain ⟨W, hW⟩ : ∃ W : AH, W = h3.set h.next (.cells 24 false [.int .i64 f, .int .i64 w, r, s, t, .int .i64 n, .int .i64 l, .int .i64 p]) := ⟨_, rfl⟩
  have gW : W.get h.next = some (.cells 24 false [.int .i64 f, .int .i64 w, r, s, t, .int .i64 n, .int .i64 l, .int .i64 p]) := by rw [hW]; simp
  have gW1 : W.get (h.next + 1) = some (.cells 24 false [.int .i64 0, .int .i64 0, .nilSlice, .nilSlice, .nilSlice, .int .i64 0, .int .i64 0, .int .i64 0]) := by rw [hW]; rw [AH.set_get, if_neg (by omega)]; exact g51
  obtain ⟨Y, hY⟩ : ∃ Y : AH, Y = W.set (h.next + 1) (.cells 24 false [.int .i64 f, .int .i64 w, r, s, t, .int .i64 n, .int .i64 l, .int .i64 p]) := ⟨_, rfl⟩
  have gY : Y.get (h.next + 1) = some (.cells 24 false [.int .i64 f, .int .i64 w, r, s, t, .int .i64 n, .int .i64 l, .int .i64 p]) := by rw [hY]; simp
  have hW' := hW.symm
  have hY' := hY.symm
  have XY : SX Y q v bs (K + 100) := by
    rw [hY, hW]
    exact ((X3.set_ne _ (by omega) (fun hb => by have := hmm _ hb; omega)).set_ne _ (by omega) (fun hb => by have := hmm _ hb; omega)).mono (by omega)
  have KY : KoS [q] h Y := by
    rw [hY, hW]
    exact setKo (setKo (koS1 KZ KA) _ (by omega)) _ (by omega)
  have bo : ∀ {x : AV} {L : List Int} {b : Nat}, BO h3 x L b → b ≠ h.next → b ≠ h.next + 1 → BO Y x L b := fun hB u1 u2 => by
    rw [hY, hW]
    exact setBO (setBO hB _ u1) _ u2
  have KB : ∀ {x : AV} {L : List Int} {b : Nat}, BO h1 x L b → b ≠ q → BO h3 x L b := fun hB hn => (hB.ks K2 hn).ks K3 hn
  refine ⟨f, w, L, S, T, n, l, p, hdG f w r s t n l p, Y, ?_, ⟨r, s, t, b, b2, b3, rfl, bo BL (by omega) (by omega), bo (KB B2 n2) (by omega) (by omega), bo (KB B3 n3) (by omega) (by omega), (by omega), n2, n3, (by omega), lS, lT, yL, yS, yT⟩, XY, KY⟩
  rw [he, ev_M Try.func46 ok46 [] m _ h (by simp [Try.f46])]
  simp [Try.f46, tm0, hdG, C1, C2, C3, O1, O2, O3, hZ', e1, e2, wj, e3, OL, CL, g5, g51, hW', gW, gW1, hY', gY, ldVar, stVar, fillA, zerosA, spl]

theorem Bent3 (X : SX h q v bs K) (hK : K ≤ 100000) {f w n l p : Int} {D S T : List Int} {hd d s t : AV} (m : Nat) (hm : 20030 ≤ m) (Z : AH) (hZ : Z = (h.push (.cells 24 false [.int .i64 f, .int .i64 w, d, s, t, .int .i64 n, .int .i64 l, .int .i64 p])).push (.cells 24 false [.int .i64 0, .int .i64 0, .nilSlice, .nilSlice, .nilSlice, .int .i64 0, .int .i64 0, .int .i64 0])) {kk : Int} {h1 : AH} {b1 b2 b3 : Nat} (he : hd = hdG f w d s t n l p)
    (B1 : BO h1 d D b1) (B2 : BO h1 s S b2) (B3 : BO h1 t T b3) (c1 : b1 < h.next) (c2 : b2 < h.next) (c3 : b3 < h.next) (n1 : b1 ≠ q) (n2 : b2 ≠ q) (n3 : b3 ≠ q) (lD : D.length ≤ 100) (lS : S.length ≤ 100) (lT : T.length ≤ 100) (yD : By D) (yS : By S) (yT : By T)
    (X1 : SX h1 q v bs (K + 3)) (K1 : KoS [q] Z h1) (nn : h1.next = Z.next) (e1 : ev Try.prog m 50 [.ptr q 0, .int .i64 20] Z = some (.int .i64 kk, h1)) (hk : kk = 3) :
    ∃ (f w : Int) (D S T : List Int) (n l p : Int) (r : AV) (h' : AH), ev Try.prog (m + 1) 46 [.ptr q 0, hd] h = some (r, h') ∧ HdI q h' r f w D S T n l p ∧ SX h' q v bs (K + 100) ∧ KoS [q] h h' := by
  have hq := X.lt
  have hmm := X.mem
  have nZ : Z.next = h.next + 2 := by rw [hZ]; simp
  have gZ : Z.get h.next = some (.cells 24 false [.int .i64 f, .int .i64 w, d, s, t, .int .i64 n, .int .i64 l, .int .i64 p]) := by rw [hZ, AH.push_get, if_neg (by simp)]; simp
  have gZ1 : Z.get (h.next + 1) = some (.cells 24 false [.int .i64 0, .int .i64 0, .nilSlice, .nilSlice, .nilSlice, .int .i64 0, .int .i64 0, .int .i64 0]) := by rw [hZ]; simp
  have KZ : KoS [q] h Z := by rw [hZ]; exact (((Kp.refl h).push _).push _).koS1
  have hZ' := hZ.symm
  have C1 := B1.cl
  have C2 := B2.cl
  have C3 := B3.cl
  have O1 := B1.bs.one
  have O2 := B2.bs.one
  have O3 := B3.bs.one
  subst hk
  obtain ⟨j, h2, e2, hj, X2, K2, n2'⟩ := X1.next (by omega) 3 (by omega) (by omega) m (by omega)
  have wj : IntKind.i64.wrap (8 + (j : Int)) = 8 + (j : Int) := wrap_i64 (by omega) (by omega)
  obtain ⟨L, r, h3, b, e3, lL, yL, BL, hbL, X3, K3⟩ := X2.bytes (by omega) (8 + (j : Int)) (by omega) m (by omega)
  have hm2 := K1.next
  have OL := BL.bs.one
  have CL := BL.cl
  have KA : KoS [q] Z h3 := koS1 (koS1 K1 K2) K3
  have mA := KA.next
  have g5 : h3.get h.next = some (.cells 24 false [.int .i64 f, .int .i64 w, d, s, t, .int .i64 n, .int .i64 l, .int .i64 p]) := by rw [KA.get _ (by omega) (by simp; omega)]; exact gZ
  have g51 : h3.get (h.next + 1) = some (.cells 24 false [.int .i64 0, .int .i64 0, .nilSlice, .nilSlice, .nilSlice, .int .i64 0, .int .i64 0, .int .i64 0]) := by rw [KA.get _ (by omega) (by simp; omega)]; exact gZ1
  obtain ⟨W, hW⟩ : ∃ W : AH, W = h3.set h.next (.cells 24 false [.int .i64 f, .int .i64 w, d, r, t, .int .i64 n, .int .i64 l, .int .i64 p]) := ⟨_, rfl⟩
  have gW : W.get h.next = some (.cells 24 false [.int .i64 f, .int .i64 w, d, r, t, .int .i64 n, .int .i64 l, .int .i64 p]) := by rw [hW]; simp
  have gW1 : W.get (h.next + 1) = some (.cells 24 false [.int .i64 0, .int .i64 0, .nilSlice, .nilSlice, .nilSlice, .int .i64 0, .int .i64 0, .int .i64 0]) := by rw [hW]; rw [AH.set_get, if_neg (by omega)]; exact g51
  obtain ⟨Y, hY⟩ : ∃ Y : AH, Y = W.set (h.next + 1) (.cells 24 false [.int .i64 f, .int .i64 w, d, r, t, .int .i64 n, .int .i64 l, .int .i64 p]) := ⟨_, rfl⟩
  have gY : Y.get (h.next + 1) = some (.cells 24 false [.int .i64 f, .int .i64 w, d, r, t, .int .i64 n, .int .i64 l, .int .i64 p]) := by rw [hY]; simp
  have hW' := hW.symm
  have hY' := hY.symm
  have XY : SX Y q v bs (K + 100) := by
    rw [hY, hW]
    exact ((X3.set_ne _ (by omega) (fun hb => by have := hmm _ hb; omega)).set_ne _ (by omega) (fun hb => by have := hmm _ hb; omega)).mono (by omega)
  have KY : KoS [q] h Y := by
    rw [hY, hW]
    exact setKo (setKo (koS1 KZ KA) _ (by omega)) _ (by omega)
  have bo : ∀ {x : AV} {L : List Int} {b : Nat}, BO h3 x L b → b ≠ h.next → b ≠ h.next + 1 → BO Y x L b := fun hB u1 u2 => by
    rw [hY, hW]
    exact setBO (setBO hB _ u1) _ u2
  have KB : ∀ {x : AV} {L : List Int} {b : Nat}, BO h1 x L b → b ≠ q → BO h3 x L b := fun hB hn => (hB.ks K2 hn).ks K3 hn
  refine ⟨f, w, D, L, T, n, l, p, hdG f w d r t n l p, Y, ?_, ⟨d, r, t, b1, b, b3, rfl, bo (KB B1 n1) (by omega) (by omega), bo BL (by omega) (by omega), bo (KB B3 n3) (by omega) (by omega), n1, (by omega), n3, lD, (by omega), lT, yD, yL, yT⟩, XY, KY⟩
  rw [he, ev_M Try.func46 ok46 [] m _ h (by simp [Try.f46])]
  simp [Try.f46, tm0, hdG, C1, C2, C3, O1, O2, O3, hZ', e1, e2, wj, e3, OL, CL, g5, g51, hW', gW, gW1, hY', gY, ldVar, stVar, fillA, zerosA, spl]

theorem Bent4 (X : SX h q v bs K) (hK : K ≤ 100000) {f w n l p : Int} {D S T : List Int} {hd d s t : AV} (m : Nat) (hm : 20030 ≤ m) (Z : AH) (hZ : Z = (h.push (.cells 24 false [.int .i64 f, .int .i64 w, d, s, t, .int .i64 n, .int .i64 l, .int .i64 p])).push (.cells 24 false [.int .i64 0, .int .i64 0, .nilSlice, .nilSlice, .nilSlice, .int .i64 0, .int .i64 0, .int .i64 0])) {kk : Int} {h1 : AH} {b1 b2 b3 : Nat} (he : hd = hdG f w d s t n l p)
    (B1 : BO h1 d D b1) (B2 : BO h1 s S b2) (B3 : BO h1 t T b3) (c1 : b1 < h.next) (c2 : b2 < h.next) (c3 : b3 < h.next) (n1 : b1 ≠ q) (n2 : b2 ≠ q) (n3 : b3 ≠ q) (lD : D.length ≤ 100) (lS : S.length ≤ 100) (lT : T.length ≤ 100) (yD : By D) (yS : By S) (yT : By T)
    (X1 : SX h1 q v bs (K + 3)) (K1 : KoS [q] Z h1) (nn : h1.next = Z.next) (e1 : ev Try.prog m 50 [.ptr q 0, .int .i64 20] Z = some (.int .i64 kk, h1)) (hk : kk = 4) :
    ∃ (f w : Int) (D S T : List Int) (n l p : Int) (r : AV) (h' : AH), ev Try.prog (m + 1) 46 [.ptr q 0, hd] h = some (r, h') ∧ HdI q h' r f w D S T n l p ∧ SX h' q v bs (K + 100) ∧ KoS [q] h h' := by
  have hq := X.lt
  have hmm := X.mem
  have nZ : Z.next = h.next + 2 := by rw [hZ]; simp
  have gZ : Z.get h.next = some (.cells 24 false [.int .i64 f, .int .i64 w, d, s, t, .int .i64 n, .int .i64 l, .int .i64 p]) := by rw [hZ, AH.push_get, if_neg (by simp)]; simp
  have gZ1 : Z.get (h.next + 1) = some (.cells 24 false [.int .i64 0, .int .i64 0, .nilSlice, .nilSlice, .nilSlice, .int .i64 0, .int .i64 0, .int .i64 0]) := by rw [hZ]; simp
  have KZ : KoS [q] h Z := by rw [hZ]; exact (((Kp.refl h).push _).push _).koS1
  have hZ' := hZ.symm
  have C1 := B1.cl
  have C2 := B2.cl
  have C3 := B3.cl
  have O1 := B1.bs.one
  have O2 := B2.bs.one
  have O3 := B3.bs.one
  subst hk
  obtain ⟨j, h2, e2, hj, X2, K2, n2'⟩ := X1.next (by omega) 3 (by omega) (by omega) m (by omega)
  have wj : IntKind.i64.wrap (64 + (j : Int)) = 64 + (j : Int) := wrap_i64 (by omega) (by omega)
  obtain ⟨L, r, h3, b, e3, lL, yL, BL, hbL, X3, K3⟩ := X2.bytes (by omega) (64 + (j : Int)) (by omega) m (by omega)
  have hm2 := K1.next
  have OL := BL.bs.one
  have CL := BL.cl
  have KA : KoS [q] Z h3 := koS1 (koS1 K1 K2) K3
  have mA := KA.next
  have g5 : h3.get h.next = some (.cells 24 false [.int .i64 f, .int .i64 w, d, s, t, .int .i64 n, .int .i64 l, .int .i64 p]) := by rw [KA.get _ (by omega) (by simp; omega)]; exact gZ
  have g51 : h3.get (h.next + 1) = some (.cells 24 false [.int .i64 0, .int .i64 0, .nilSlice, .nilSlice, .nilSlice, .int .i64 0, .int .i64 0, .int .i64 0]) := by rw [KA.get _ (by omega) (by simp; omega)]; exact gZ1
  obtain ⟨W, hW⟩ : ∃ W : AH, W = h3.set h.next (.cells 24 false [.int .i64 f, .int .i64 w, d, s, r, .int .i64 n, .int .i64 l, .int .i64 p]) := ⟨_, rfl⟩
  have gW : W.get h.next = some (.cells 24 false [.int .i64 f, .int .i64 w, d, s, r, .int .i64 n, .int .i64 l, .int .i64 p]) := by rw [hW]; simp
  have gW1 : W.get (h.next + 1) = some (.cells 24 false [.int .i64 0, .int .i64 0, .nilSlice, .nilSlice, .nilSlice, .int .i64 0, .int .i64 0, .int .i64 0]) := by rw [hW]; rw [AH.set_get, if_neg (by omega)]; exact g51
  obtain ⟨Y, hY⟩ : ∃ Y : AH, Y = W.set (h.next + 1) (.cells 24 false [.int .i64 f, .int .i64 w, d, s, r, .int .i64 n, .int .i64 l, .int .i64 p]) := ⟨_, rfl⟩
  have gY : Y.get (h.next + 1) = some (.cells 24 false [.int .i64 f, .int .i64 w, d, s, r, .int .i64 n, .int .i64 l, .int .i64 p]) := by rw [hY]; simp
  have hW' := hW.symm
  have hY' := hY.symm
  have XY : SX Y q v bs (K + 100) := by
    rw [hY, hW]
    exact ((X3.set_ne _ (by omega) (fun hb => by have := hmm _ hb; omega)).set_ne _ (by omega) (fun hb => by have := hmm _ hb; omega)).mono (by omega)
  have KY : KoS [q] h Y := by
    rw [hY, hW]
    exact setKo (setKo (koS1 KZ KA) _ (by omega)) _ (by omega)
  have bo : ∀ {x : AV} {L : List Int} {b : Nat}, BO h3 x L b → b ≠ h.next → b ≠ h.next + 1 → BO Y x L b := fun hB u1 u2 => by
    rw [hY, hW]
    exact setBO (setBO hB _ u1) _ u2
  have KB : ∀ {x : AV} {L : List Int} {b : Nat}, BO h1 x L b → b ≠ q → BO h3 x L b := fun hB hn => (hB.ks K2 hn).ks K3 hn
  refine ⟨f, w, D, S, L, n, l, p, hdG f w d s r n l p, Y, ?_, ⟨d, s, r, b1, b2, b, rfl, bo (KB B1 n1) (by omega) (by omega), bo (KB B2 n2) (by omega) (by omega), bo BL (by omega) (by omega), n1, n2, (by omega), lD, lS, (by omega), yD, yS, yL⟩, XY, KY⟩
  rw [he, ev_M Try.func46 ok46 [] m _ h (by simp [Try.f46])]
  simp [Try.f46, tm0, hdG, C1, C2, C3, O1, O2, O3, hZ', e1, e2, wj, e3, OL, CL, g5, g51, hW', gW, gW1, hY', gY, ldVar, stVar, fillA, zerosA, spl]
end Go.Ev

/- Plain packets: a header with one field bent. -/
namespace Go.Ev
open Go Go.Proofs
set_option linter.unusedSimpArgs false
set_option linter.unusedVariables false

variable {h h' : AH} {q : Nat} {v : AV} {bs : List Nat} {K : Nat}
/-- a header with rows of its own -/
theorem Bent5 (X : SX h q v bs K) (hK : K ≤ 100000) {f w n l p : Int} {D S T : List Int} {hd d s t : AV} (m : Nat) (hm : 20030 ≤ m) (Z : AH) (hZ : Z = (h.push (.cells 24 false [.int .i64 f, .int .i64 w, d, s, t, .int .i64 n, .int .i64 l, .int .i64 p])).push (.cells 24 false [.int .i64 0, .int .i64 0, .nilSlice, .nilSlice, .nilSlice, .int .i64 0, .int .i64 0, .int .i64 0])) {kk : Int} {h1 : AH} {b1 b2 b3 : Nat} (he : hd = hdG f w d s t n l p)
    (B1 : BO h1 d D b1) (B2 : BO h1 s S b2) (B3 : BO h1 t T b3) (c1 : b1 < h.next) (c2 : b2 < h.next) (c3 : b3 < h.next) (n1 : b1 ≠ q) (n2 : b2 ≠ q) (n3 : b3 ≠ q) (lD : D.length ≤ 100) (lS : S.length ≤ 100) (lT : T.length ≤ 100) (yD : By D) (yS : By S) (yT : By T)
    (X1 : SX h1 q v bs (K + 3)) (K1 : KoS [q] Z h1) (nn : h1.next = Z.next) (e1 : ev Try.prog m 50 [.ptr q 0, .int .i64 20] Z = some (.int .i64 kk, h1)) (hk : kk = 5) :
    ∃ (f w : Int) (D S T : List Int) (n l p : Int) (r : AV) (h' : AH), ev Try.prog (m + 1) 46 [.ptr q 0, hd] h = some (r, h') ∧ HdI q h' r f w D S T n l p ∧ SX h' q v bs (K + 100) ∧ KoS [q] h h' := by
  have hq := X.lt
  have hmm := X.mem
  have nZ : Z.next = h.next + 2 := by rw [hZ]; simp
  have gZ : Z.get h.next = some (.cells 24 false [.int .i64 f, .int .i64 w, d, s, t, .int .i64 n, .int .i64 l, .int .i64 p]) := by rw [hZ, AH.push_get, if_neg (by simp)]; simp
  have gZ1 : Z.get (h.next + 1) = some (.cells 24 false [.int .i64 0, .int .i64 0, .nilSlice, .nilSlice, .nilSlice, .int .i64 0, .int .i64 0, .int .i64 0]) := by rw [hZ]; simp
  have KZ : KoS [q] h Z := by rw [hZ]; exact (((Kp.refl h).push _).push _).koS1
  have hZ' := hZ.symm
  have C1 := B1.cl
  have C2 := B2.cl
  have C3 := B3.cl
  have O1 := B1.bs.one
  have O2 := B2.bs.one
  have O3 := B3.bs.one
  subst hk
  obtain ⟨j, h2, e2, hj, X2, K2⟩ := X1.number (by omega) m (by omega)
  have KA : KoS [q] Z h2 := koS1 K1 K2
  have mA := KA.next
  have g5 : h2.get h.next = some (.cells 24 false [.int .i64 f, .int .i64 w, d, s, t, .int .i64 n, .int .i64 l, .int .i64 p]) := by rw [KA.get _ (by omega) (by simp; omega)]; exact gZ
  have g51 : h2.get (h.next + 1) = some (.cells 24 false [.int .i64 0, .int .i64 0, .nilSlice, .nilSlice, .nilSlice, .int .i64 0, .int .i64 0, .int .i64 0]) := by rw [KA.get _ (by omega) (by simp; omega)]; exact gZ1
  obtain ⟨W, hW⟩ : ∃ W : AH, W = h2.set h.next (.cells 24 false [.int .i64 f, .int .i64 w, d, s, t, .int .i64 j, .int .i64 l, .int .i64 p]) := ⟨_, rfl⟩
  have gW : W.get h.next = some (.cells 24 false [.int .i64 f, .int .i64 w, d, s, t, .int .i64 j, .int .i64 l, .int .i64 p]) := by rw [hW]; simp
  have gW1 : W.get (h.next + 1) = some (.cells 24 false [.int .i64 0, .int .i64 0, .nilSlice, .nilSlice, .nilSlice, .int .i64 0, .int .i64 0, .int .i64 0]) := by rw [hW]; rw [AH.set_get, if_neg (by omega)]; exact g51
  obtain ⟨Y, hY⟩ : ∃ Y : AH, Y = W.set (h.next + 1) (.cells 24 false [.int .i64 f, .int .i64 w, d, s, t, .int .i64 j, .int .i64 l, .int .i64 p]) := ⟨_, rfl⟩
  have gY : Y.get (h.next + 1) = some (.cells 24 false [.int .i64 f, .int .i64 w, d, s, t, .int .i64 j, .int .i64 l, .int .i64 p]) := by rw [hY]; simp
  have hW' := hW.symm
  have hY' := hY.symm
  have XY : SX Y q v bs (K + 100) := by
    rw [hY, hW]
    exact ((X2.set_ne _ (by omega) (fun hb => by have := hmm _ hb; omega)).set_ne _ (by omega) (fun hb => by have := hmm _ hb; omega)).mono (by omega)
  have KY : KoS [q] h Y := by
    rw [hY, hW]
    exact setKo (setKo (koS1 KZ KA) _ (by omega)) _ (by omega)
  have bo : ∀ {x : AV} {L : List Int} {b : Nat}, BO h2 x L b → b ≠ h.next → b ≠ h.next + 1 → BO Y x L b := fun hB u1 u2 => by
    rw [hY, hW]
    exact setBO (setBO hB _ u1) _ u2
  have KB : ∀ {x : AV} {L : List Int} {b : Nat}, BO h1 x L b → b ≠ q → BO h2 x L b := fun hB hn => hB.ks K2 hn
  refine ⟨f, w, D, S, T, _, l, p, hdG f w d s t (j) l p, Y, ?_, ⟨d, s, t, b1, b2, b3, rfl, bo (KB B1 n1) (by omega) (by omega), bo (KB B2 n2) (by omega) (by omega), bo (KB B3 n3) (by omega) (by omega), n1, n2, n3, lD, lS, lT, yD, yS, yT⟩, XY, KY⟩
  rw [he, ev_M Try.func46 ok46 [] m _ h (by simp [Try.f46])]
  simp [Try.f46, tm0, hdG, C1, C2, C3, O1, O2, O3, hZ', e1, e2, g5, g51, hW', gW, gW1, hY', gY, ldVar, stVar, fillA, zerosA, spl]

theorem Bent6 (X : SX h q v bs K) (hK : K ≤ 100000) {f w n l p : Int} {D S T : List Int} {hd d s t : AV} (m : Nat) (hm : 20030 ≤ m) (Z : AH) (hZ : Z = (h.push (.cells 24 false [.int .i64 f, .int .i64 w, d, s, t, .int .i64 n, .int .i64 l, .int .i64 p])).push (.cells 24 false [.int .i64 0, .int .i64 0, .nilSlice, .nilSlice, .nilSlice, .int .i64 0, .int .i64 0, .int .i64 0])) {kk : Int} {h1 : AH} {b1 b2 b3 : Nat} (he : hd = hdG f w d s t n l p)
    (B1 : BO h1 d D b1) (B2 : BO h1 s S b2) (B3 : BO h1 t T b3) (c1 : b1 < h.next) (c2 : b2 < h.next) (c3 : b3 < h.next) (n1 : b1 ≠ q) (n2 : b2 ≠ q) (n3 : b3 ≠ q) (lD : D.length ≤ 100) (lS : S.length ≤ 100) (lT : T.length ≤ 100) (yD : By D) (yS : By S) (yT : By T)
    (X1 : SX h1 q v bs (K + 3)) (K1 : KoS [q] Z h1) (nn : h1.next = Z.next) (e1 : ev Try.prog m 50 [.ptr q 0, .int .i64 20] Z = some (.int .i64 kk, h1)) (hk : kk = 6) :
    ∃ (f w : Int) (D S T : List Int) (n l p : Int) (r : AV) (h' : AH), ev Try.prog (m + 1) 46 [.ptr q 0, hd] h = some (r, h') ∧ HdI q h' r f w D S T n l p ∧ SX h' q v bs (K + 100) ∧ KoS [q] h h' := by
  have hq := X.lt
  have hmm := X.mem
  have nZ : Z.next = h.next + 2 := by rw [hZ]; simp
  have gZ : Z.get h.next = some (.cells 24 false [.int .i64 f, .int .i64 w, d, s, t, .int .i64 n, .int .i64 l, .int .i64 p]) := by rw [hZ, AH.push_get, if_neg (by simp)]; simp
  have gZ1 : Z.get (h.next + 1) = some (.cells 24 false [.int .i64 0, .int .i64 0, .nilSlice, .nilSlice, .nilSlice, .int .i64 0, .int .i64 0, .int .i64 0]) := by rw [hZ]; simp
  have KZ : KoS [q] h Z := by rw [hZ]; exact (((Kp.refl h).push _).push _).koS1
  have hZ' := hZ.symm
  have C1 := B1.cl
  have C2 := B2.cl
  have C3 := B3.cl
  have O1 := B1.bs.one
  have O2 := B2.bs.one
  have O3 := B3.bs.one
  subst hk
  obtain ⟨j, h2, e2, hj, X2, K2, n2'⟩ := X1.next (by omega) 7 (by omega) (by omega) m (by omega)
  have wj : IntKind.i64.wrap ((j : Int) - 1) = (j : Int) - 1 := wrap_i64 (by omega) (by omega)
  have KA : KoS [q] Z h2 := koS1 K1 K2
  have mA := KA.next
  have g5 : h2.get h.next = some (.cells 24 false [.int .i64 f, .int .i64 w, d, s, t, .int .i64 n, .int .i64 l, .int .i64 p]) := by rw [KA.get _ (by omega) (by simp; omega)]; exact gZ
  have g51 : h2.get (h.next + 1) = some (.cells 24 false [.int .i64 0, .int .i64 0, .nilSlice, .nilSlice, .nilSlice, .int .i64 0, .int .i64 0, .int .i64 0]) := by rw [KA.get _ (by omega) (by simp; omega)]; exact gZ1
  obtain ⟨W, hW⟩ : ∃ W : AH, W = h2.set h.next (.cells 24 false [.int .i64 f, .int .i64 w, d, s, t, .int .i64 n, .int .i64 ((j : Int) - 1), .int .i64 p]) := ⟨_, rfl⟩
  have gW : W.get h.next = some (.cells 24 false [.int .i64 f, .int .i64 w, d, s, t, .int .i64 n, .int .i64 ((j : Int) - 1), .int .i64 p]) := by rw [hW]; simp
  have gW1 : W.get (h.next + 1) = some (.cells 24 false [.int .i64 0, .int .i64 0, .nilSlice, .nilSlice, .nilSlice, .int .i64 0, .int .i64 0, .int .i64 0]) := by rw [hW]; rw [AH.set_get, if_neg (by omega)]; exact g51
  obtain ⟨Y, hY⟩ : ∃ Y : AH, Y = W.set (h.next + 1) (.cells 24 false [.int .i64 f, .int .i64 w, d, s, t, .int .i64 n, .int .i64 ((j : Int) - 1), .int .i64 p]) := ⟨_, rfl⟩
  have gY : Y.get (h.next + 1) = some (.cells 24 false [.int .i64 f, .int .i64 w, d, s, t, .int .i64 n, .int .i64 ((j : Int) - 1), .int .i64 p]) := by rw [hY]; simp
  have hW' := hW.symm
  have hY' := hY.symm
  have XY : SX Y q v bs (K + 100) := by
    rw [hY, hW]
    exact ((X2.set_ne _ (by omega) (fun hb => by have := hmm _ hb; omega)).set_ne _ (by omega) (fun hb => by have := hmm _ hb; omega)).mono (by omega)
  have KY : KoS [q] h Y := by
    rw [hY, hW]
    exact setKo (setKo (koS1 KZ KA) _ (by omega)) _ (by omega)
  have bo : ∀ {x : AV} {L : List Int} {b : Nat}, BO h2 x L b → b ≠ h.next → b ≠ h.next + 1 → BO Y x L b := fun hB u1 u2 => by
    rw [hY, hW]
    exact setBO (setBO hB _ u1) _ u2
  have KB : ∀ {x : AV} {L : List Int} {b : Nat}, BO h1 x L b → b ≠ q → BO h2 x L b := fun hB hn => hB.ks K2 hn
  refine ⟨f, w, D, S, T, n, _, p, hdG f w d s t n (((j : Int) - 1)) p, Y, ?_, ⟨d, s, t, b1, b2, b3, rfl, bo (KB B1 n1) (by omega) (by omega), bo (KB B2 n2) (by omega) (by omega), bo (KB B3 n3) (by omega) (by omega), n1, n2, n3, lD, lS, lT, yD, yS, yT⟩, XY, KY⟩
  rw [he, ev_M Try.func46 ok46 [] m _ h (by simp [Try.f46])]
  simp [Try.f46, tm0, hdG, C1, C2, C3, O1, O2, O3, hZ', e1, e2, wj, g5, g51, hW', gW, gW1, hY', gY, ldVar, stVar, fillA, zerosA, spl]

theorem Bent7 (X : SX h q v bs K) (hK : K ≤ 100000) {f w n l p : Int} {D S T : List Int} {hd d s t : AV} (m : Nat) (hm : 20030 ≤ m) (Z : AH) (hZ : Z = (h.push (.cells 24 false [.int .i64 f, .int .i64 w, d, s, t, .int .i64 n, .int .i64 l, .int .i64 p])).push (.cells 24 false [.int .i64 0, .int .i64 0, .nilSlice, .nilSlice, .nilSlice, .int .i64 0, .int .i64 0, .int .i64 0])) {kk : Int} {h1 : AH} {b1 b2 b3 : Nat} (he : hd = hdG f w d s t n l p)
    (B1 : BO h1 d D b1) (B2 : BO h1 s S b2) (B3 : BO h1 t T b3) (c1 : b1 < h.next) (c2 : b2 < h.next) (c3 : b3 < h.next) (n1 : b1 ≠ q) (n2 : b2 ≠ q) (n3 : b3 ≠ q) (lD : D.length ≤ 100) (lS : S.length ≤ 100) (lT : T.length ≤ 100) (yD : By D) (yS : By S) (yT : By T)
    (X1 : SX h1 q v bs (K + 3)) (K1 : KoS [q] Z h1) (nn : h1.next = Z.next) (e1 : ev Try.prog m 50 [.ptr q 0, .int .i64 20] Z = some (.int .i64 kk, h1)) (hk : kk = 7) :
    ∃ (f w : Int) (D S T : List Int) (n l p : Int) (r : AV) (h' : AH), ev Try.prog (m + 1) 46 [.ptr q 0, hd] h = some (r, h') ∧ HdI q h' r f w D S T n l p ∧ SX h' q v bs (K + 100) ∧ KoS [q] h h' := by
  have hq := X.lt
  have hmm := X.mem
  have nZ : Z.next = h.next + 2 := by rw [hZ]; simp
  have gZ : Z.get h.next = some (.cells 24 false [.int .i64 f, .int .i64 w, d, s, t, .int .i64 n, .int .i64 l, .int .i64 p]) := by rw [hZ, AH.push_get, if_neg (by simp)]; simp
  have gZ1 : Z.get (h.next + 1) = some (.cells 24 false [.int .i64 0, .int .i64 0, .nilSlice, .nilSlice, .nilSlice, .int .i64 0, .int .i64 0, .int .i64 0]) := by rw [hZ]; simp
  have KZ : KoS [q] h Z := by rw [hZ]; exact (((Kp.refl h).push _).push _).koS1
  have hZ' := hZ.symm
  have C1 := B1.cl
  have C2 := B2.cl
  have C3 := B3.cl
  have O1 := B1.bs.one
  have O2 := B2.bs.one
  have O3 := B3.bs.one
  subst hk
  obtain ⟨j, h2, e2, hj, X2, K2, n2'⟩ := X1.next (by omega) 4 (by omega) (by omega) m (by omega)
  have wj : IntKind.i64.wrap ((j : Int) - 1) = (j : Int) - 1 := wrap_i64 (by omega) (by omega)
  have KA : KoS [q] Z h2 := koS1 K1 K2
  have mA := KA.next
  have g5 : h2.get h.next = some (.cells 24 false [.int .i64 f, .int .i64 w, d, s, t, .int .i64 n, .int .i64 l, .int .i64 p]) := by rw [KA.get _ (by omega) (by simp; omega)]; exact gZ
  have g51 : h2.get (h.next + 1) = some (.cells 24 false [.int .i64 0, .int .i64 0, .nilSlice, .nilSlice, .nilSlice, .int .i64 0, .int .i64 0, .int .i64 0]) := by rw [KA.get _ (by omega) (by simp; omega)]; exact gZ1
  obtain ⟨W, hW⟩ : ∃ W : AH, W = h2.set h.next (.cells 24 false [.int .i64 f, .int .i64 w, d, s, t, .int .i64 n, .int .i64 l, .int .i64 ((j : Int) - 1)]) := ⟨_, rfl⟩
  have gW : W.get h.next = some (.cells 24 false [.int .i64 f, .int .i64 w, d, s, t, .int .i64 n, .int .i64 l, .int .i64 ((j : Int) - 1)]) := by rw [hW]; simp
  have gW1 : W.get (h.next + 1) = some (.cells 24 false [.int .i64 0, .int .i64 0, .nilSlice, .nilSlice, .nilSlice, .int .i64 0, .int .i64 0, .int .i64 0]) := by rw [hW]; rw [AH.set_get, if_neg (by omega)]; exact g51
  obtain ⟨Y, hY⟩ : ∃ Y : AH, Y = W.set (h.next + 1) (.cells 24 false [.int .i64 f, .int .i64 w, d, s, t, .int .i64 n, .int .i64 l, .int .i64 ((j : Int) - 1)]) := ⟨_, rfl⟩
  have gY : Y.get (h.next + 1) = some (.cells 24 false [.int .i64 f, .int .i64 w, d, s, t, .int .i64 n, .int .i64 l, .int .i64 ((j : Int) - 1)]) := by rw [hY]; simp
  have hW' := hW.symm
  have hY' := hY.symm
  have XY : SX Y q v bs (K + 100) := by
    rw [hY, hW]
    exact ((X2.set_ne _ (by omega) (fun hb => by have := hmm _ hb; omega)).set_ne _ (by omega) (fun hb => by have := hmm _ hb; omega)).mono (by omega)
  have KY : KoS [q] h Y := by
    rw [hY, hW]
    exact setKo (setKo (koS1 KZ KA) _ (by omega)) _ (by omega)
  have bo : ∀ {x : AV} {L : List Int} {b : Nat}, BO h2 x L b → b ≠ h.next → b ≠ h.next + 1 → BO Y x L b := fun hB u1 u2 => by
    rw [hY, hW]
    exact setBO (setBO hB _ u1) _ u2
  have KB : ∀ {x : AV} {L : List Int} {b : Nat}, BO h1 x L b → b ≠ q → BO h2 x L b := fun hB hn => hB.ks K2 hn
  refine ⟨f, w, D, S, T, n, l, _, hdG f w d s t n l (((j : Int) - 1)), Y, ?_, ⟨d, s, t, b1, b2, b3, rfl, bo (KB B1 n1) (by omega) (by omega), bo (KB B2 n2) (by omega) (by omega), bo (KB B3 n3) (by omega) (by omega), n1, n2, n3, lD, lS, lT, yD, yS, yT⟩, XY, KY⟩
  rw [he, ev_M Try.func46 ok46 [] m _ h (by simp [Try.f46])]
  simp [Try.f46, tm0, hdG, C1, C2, C3, O1, O2, O3, hZ', e1, e2, wj, g5, g51, hW', gW, gW1, hY', gY, ldVar, stVar, fillA, zerosA, spl]

theorem Bent8 (X : SX h q v bs K) (hK : K ≤ 100000) {f w n l p : Int} {D S T : List Int} {hd d s t : AV} (m : Nat) (hm : 20030 ≤ m) (Z : AH) (hZ : Z = (h.push (.cells 24 false [.int .i64 f, .int .i64 w, d, s, t, .int .i64 n, .int .i64 l, .int .i64 p])).push (.cells 24 false [.int .i64 0, .int .i64 0, .nilSlice, .nilSlice, .nilSlice, .int .i64 0, .int .i64 0, .int .i64 0])) {kk : Int} {h1 : AH} {b1 b2 b3 : Nat} (he : hd = hdG f w d s t n l p)
    (B1 : BO h1 d D b1) (B2 : BO h1 s S b2) (B3 : BO h1 t T b3) (c1 : b1 < h.next) (c2 : b2 < h.next) (c3 : b3 < h.next) (n1 : b1 ≠ q) (n2 : b2 ≠ q) (n3 : b3 ≠ q) (lD : D.length ≤ 100) (lS : S.length ≤ 100) (lT : T.length ≤ 100) (yD : By D) (yS : By S) (yT : By T)
    (X1 : SX h1 q v bs (K + 3)) (K1 : KoS [q] Z h1) (nn : h1.next = Z.next) (e1 : ev Try.prog m 50 [.ptr q 0, .int .i64 20] Z = some (.int .i64 kk, h1)) (hk : 8 ≤ kk) :
    ∃ (f w : Int) (D S T : List Int) (n l p : Int) (r : AV) (h' : AH), ev Try.prog (m + 1) 46 [.ptr q 0, hd] h = some (r, h') ∧ HdI q h' r f w D S T n l p ∧ SX h' q v bs (K + 100) ∧ KoS [q] h h' := by
  have hq := X.lt
  have hmm := X.mem
  have nZ : Z.next = h.next + 2 := by rw [hZ]; simp
  have gZ : Z.get h.next = some (.cells 24 false [.int .i64 f, .int .i64 w, d, s, t, .int .i64 n, .int .i64 l, .int .i64 p]) := by rw [hZ, AH.push_get, if_neg (by simp)]; simp
  have gZ1 : Z.get (h.next + 1) = some (.cells 24 false [.int .i64 0, .int .i64 0, .nilSlice, .nilSlice, .nilSlice, .int .i64 0, .int .i64 0, .int .i64 0]) := by rw [hZ]; simp
  have KZ : KoS [q] h Z := by rw [hZ]; exact (((Kp.refl h).push _).push _).koS1
  have hZ' := hZ.symm
  have C1 := B1.cl
  have C2 := B2.cl
  have C3 := B3.cl
  have O1 := B1.bs.one
  have O2 := B2.bs.one
  have O3 := B3.bs.one
  have f0 := eq_false (show ¬ (kk = 0) by omega)
  have f1 := eq_false (show ¬ (kk = 1) by omega)
  have f2 := eq_false (show ¬ (kk = 2) by omega)
  have f3 := eq_false (show ¬ (kk = 3) by omega)
  have f4 := eq_false (show ¬ (kk = 4) by omega)
  have f5 := eq_false (show ¬ (kk = 5) by omega)
  have f6 := eq_false (show ¬ (kk = 6) by omega)
  have f7 := eq_false (show ¬ (kk = 7) by omega)
  have b10 : (kk == 0) = false := by simp [f0]
  have b11 : (kk == 1) = false := by simp [f1]
  have b12 : (kk == 2) = false := by simp [f2]
  have b13 : (kk == 3) = false := by simp [f3]
  have b14 : (kk == 4) = false := by simp [f4]
  have b15 : (kk == 5) = false := by simp [f5]
  have b16 : (kk == 6) = false := by simp [f6]
  have b17 : (kk == 7) = false := by simp [f7]
  have KA : KoS [q] Z h1 := K1
  have mA := KA.next
  have g5 : h1.get h.next = some (.cells 24 false [.int .i64 f, .int .i64 w, d, s, t, .int .i64 n, .int .i64 l, .int .i64 p]) := by rw [KA.get _ (by omega) (by simp; omega)]; exact gZ
  have g51 : h1.get (h.next + 1) = some (.cells 24 false [.int .i64 0, .int .i64 0, .nilSlice, .nilSlice, .nilSlice, .int .i64 0, .int .i64 0, .int .i64 0]) := by rw [KA.get _ (by omega) (by simp; omega)]; exact gZ1
  obtain ⟨W, hW⟩ : ∃ W : AH, W = h1 := ⟨_, rfl⟩
  have gW : W.get h.next = some (.cells 24 false [.int .i64 f, .int .i64 w, d, s, t, .int .i64 n, .int .i64 l, .int .i64 p]) := by rw [hW]; exact g5
  have gW1 : W.get (h.next + 1) = some (.cells 24 false [.int .i64 0, .int .i64 0, .nilSlice, .nilSlice, .nilSlice, .int .i64 0, .int .i64 0, .int .i64 0]) := by rw [hW]; exact g51
  obtain ⟨Y, hY⟩ : ∃ Y : AH, Y = W.set (h.next + 1) (.cells 24 false [.int .i64 f, .int .i64 w, d, s, t, .int .i64 n, .int .i64 l, .int .i64 p]) := ⟨_, rfl⟩
  have gY : Y.get (h.next + 1) = some (.cells 24 false [.int .i64 f, .int .i64 w, d, s, t, .int .i64 n, .int .i64 l, .int .i64 p]) := by rw [hY]; simp
  have hW' := hW.symm
  have hY' := hY.symm
  have XY : SX Y q v bs (K + 100) := by
    rw [hY, hW]
    exact (X1.set_ne _ (by omega) (fun hb => by have := hmm _ hb; omega)).mono (by omega)
  have KY : KoS [q] h Y := by
    rw [hY, hW]
    exact setKo (koS1 KZ KA) _ (by omega)
  have bo : ∀ {x : AV} {L : List Int} {b : Nat}, BO h1 x L b → b ≠ h.next → b ≠ h.next + 1 → BO Y x L b := fun hB u1 u2 => by
    rw [hY, hW]
    exact setBO hB _ u2
  have KB : ∀ {x : AV} {L : List Int} {b : Nat}, BO h1 x L b → b ≠ q → BO h1 x L b := fun hB hn => hB
  refine ⟨f, w, D, S, T, n, l, p, hdG f w d s t n l p, Y, ?_, ⟨d, s, t, b1, b2, b3, rfl, bo (KB B1 n1) (by omega) (by omega), bo (KB B2 n2) (by omega) (by omega), bo (KB B3 n3) (by omega) (by omega), n1, n2, n3, lD, lS, lT, yD, yS, yT⟩, XY, KY⟩
  rw [he, ev_M Try.func46 ok46 [] m _ h (by simp [Try.f46])]
  simp [Try.f46, tm0, hdG, C1, C2, C3, O1, O2, O3, hZ', e1, f0, b10, f1, b11, f2, b12, f3, b13, f4, b14, f5, b15, f6, b16, f7, b17, g5, g51, hW', gW, gW1, hY', gY, ldVar, stVar, fillA, zerosA, spl]
end Go.Ev

/- Plain packets: the drawn retry packet's header. -/
namespace Go.Ev
open Go Go.Proofs
set_option linter.unusedSimpArgs false
set_option linter.unusedVariables false

variable {h h' : AH} {q : Nat} {v : AV} {bs : List Nat} {K : Nat}
theorem Bent_ev (X : SX h q v bs K) (hK : K ≤ 100000) {f w n l p : Int} {D S T : List Int} {hd : AV} (hI : HdI q h hd f w D S T n l p) (m : Nat) (hm : 20031 ≤ m) :
    ∃ (f w : Int) (D S T : List Int) (n l p : Int) (r : AV) (h' : AH), ev Try.prog m 46 [.ptr q 0, hd] h = some (r, h') ∧ HdI q h' r f w D S T n l p ∧ SX h' q v bs (K + 100) ∧ KoS [q] h h' := by
  obtain ⟨m, rfl⟩ : ∃ k, m = k + 1 := ⟨m - 1, by omega⟩
  obtain ⟨d, s, t, b1, b2, b3, he, B1, B2, B3, n1, n2, n3, lD, lS, lT, yD, yS, yT⟩ := hI
  have c1 := B1.2.1
  have c2 := B2.2.1
  have c3 := B3.2.1
  obtain ⟨Z, hZ⟩ : ∃ Z : AH, Z = (h.push (.cells 24 false [.int .i64 f, .int .i64 w, d, s, t, .int .i64 n, .int .i64 l, .int .i64 p])).push (.cells 24 false [.int .i64 0, .int .i64 0, .nilSlice, .nilSlice, .nilSlice, .int .i64 0, .int .i64 0, .int .i64 0]) := ⟨_, rfl⟩
  have KZ : Kp h Z := by rw [hZ]; exact ((Kp.refl h).push _).push _
  obtain ⟨k, h1, e1, hk, X1, K1, nn⟩ := (X.kp KZ).next (by omega) 20 (by omega) (by omega) m (by omega)
  have A1 := (B1.kp KZ).ks K1 n1
  have A2 := (B2.kp KZ).ks K1 n2
  have A3 := (B3.kp KZ).ks K1 n3
  have : k = 0 ∨ k = 1 ∨ k = 2 ∨ k = 3 ∨ k = 4 ∨ k = 5 ∨ k = 6 ∨ k = 7 ∨ 8 ≤ k := by omega
  rcases this with rfl | rfl | rfl | rfl | rfl | rfl | rfl | rfl | h8
  · exact Bent0 X hK m (by omega) Z hZ he A1 A2 A3 c1 c2 c3 n1 n2 n3 lD lS lT yD yS yT X1 K1 nn e1 rfl
  · exact Bent1 X hK m (by omega) Z hZ he A1 A2 A3 c1 c2 c3 n1 n2 n3 lD lS lT yD yS yT X1 K1 nn e1 rfl
  · exact Bent2 X hK m (by omega) Z hZ he A1 A2 A3 c1 c2 c3 n1 n2 n3 lD lS lT yD yS yT X1 K1 nn e1 rfl
  · exact Bent3 X hK m (by omega) Z hZ he A1 A2 A3 c1 c2 c3 n1 n2 n3 lD lS lT yD yS yT X1 K1 nn e1 rfl
  · exact Bent4 X hK m (by omega) Z hZ he A1 A2 A3 c1 c2 c3 n1 n2 n3 lD lS lT yD yS yT X1 K1 nn e1 rfl
  · exact Bent5 X hK m (by omega) Z hZ he A1 A2 A3 c1 c2 c3 n1 n2 n3 lD lS lT yD yS yT X1 K1 nn e1 rfl
  · exact Bent6 X hK m (by omega) Z hZ he A1 A2 A3 c1 c2 c3 n1 n2 n3 lD lS lT yD yS yT X1 K1 nn e1 rfl
  · exact Bent7 X hK m (by omega) Z hZ he A1 A2 A3 c1 c2 c3 n1 n2 n3 lD lS lT yD yS yT X1 K1 nn e1 rfl
  · exact Bent8 X hK m (by omega) Z hZ he A1 A2 A3 c1 c2 c3 n1 n2 n3 lD lS lT yD yS yT X1 K1 nn e1 (by omega)
theorem drpTail {Q : AH} (X : SX Q q v bs K) (hK : K ≤ 100000) (m : Nat) (hm : 20020 ≤ m) :
    ∃ (k : Nat) (kd : Int) (h4 : AH) (j : Nat) (h5 : AH) (O : List Int) (o : AV) (h6 : AH) (bo : Nat), ev Try.prog m 50 [.ptr q 0, .int .i64 20] Q = some (.int .i64 k, h4) ∧ (k : Int).tdiv 19 = kd ∧ IntKind.i64.wrap kd = kd ∧ IntKind.i64.wrap (9 + kd) = 9 + kd ∧
      ev Try.prog m 50 [.ptr q 0, .int .i64 (9 + kd)] h4 = some (.int .i64 j, h5) ∧ ev Try.prog m 49 [.ptr q 0, .int .i64 j] h5 = some (o, h6) ∧ BO h6 o O bo ∧ By O ∧ O.length ≤ 100 ∧ Q.next ≤ bo ∧ KoS [q] Q h4 ∧ KoS [q] Q h5 ∧ KoS [q] Q h6 := by
  obtain ⟨k, h4, e4, hk, X4, K4, n4⟩ := X.next (by omega) 20 (by omega) (by omega) m (by omega)
  have hkd : 0 ≤ (k : Int).tdiv 19 ∧ (k : Int).tdiv 19 ≤ 1 := by rw [Int.tdiv_eq_ediv_of_nonneg (by omega)]; omega
  obtain ⟨kd, hkd'⟩ : ∃ kd : Int, kd = (k : Int).tdiv 19 := ⟨_, rfl⟩
  rw [← hkd'] at hkd
  obtain ⟨j, h5, e5, hj, X5, K5, n5⟩ := X4.next (by omega) (9 + kd) (by omega) (by omega) m (by omega)
  obtain ⟨O, o, h6, bo, e6, lO, yO, BO', hb, X6, K6⟩ := X5.bytes (by omega) (j : Int) (by omega) m (by omega)
  exact ⟨k, kd, h4, j, h5, O, o, h6, bo, e4, hkd'.symm, wrap_i64 (by omega) (by omega), wrap_i64 (by omega) (by omega), e5, e6, BO', yO, by omega, by have := K4.next; have := K5.next; omega, K4, koS1 K4 K5, koS1 (koS1 K4 K5) K6⟩
theorem DrawRetryPacket_ev {H : AH} {v : AV} {l : List Int} {bs : List Nat} (hR : (Ty.sl 5 (.int .u8)).R false H [v] l bs) (hv : v.one = true) (hl : l.length ≤ 1048576) (m : Nat) (hm : 20100 ≤ m) :
    ∃ (f w : Int) (D S T O : List Int) (n lw p : Int) (r o : AV) (q : Nat) (h' : AH), ev Try.prog m 7 [v] H = some (.tuple [r, o], h') ∧ HdI q h' r f w D S T n lw p ∧ Bs h' o O ∧ By O ∧ O.length ≤ 100 ∧ Kp H h' := by
  obtain ⟨m, rfl⟩ : ∃ k, m = k + 1 := ⟨m - 1, by omega⟩
  let c0 : Blk := .cells 24 false [.int .i64 0, .int .i64 0, .nilSlice, .nilSlice, .nilSlice, .int .i64 0, .int .i64 0, .int .i64 0]
  have k0 : Kp H (H.push c0) := (Kp.refl H).push _
  have hR1 := hR.kp k0
  obtain ⟨A, hA⟩ : ∃ A : AH, A = (H.push c0).push (.cells 102 false (srcC v ⟨l, 0, l.length % 1000⟩)) := ⟨_, rfl⟩
  have I0 := source_I hR1 hl
  have e0 := source_ev hR1 hv hl m (by omega)
  rw [← hA] at I0 e0
  have hq0 : (H.push c0).next = H.next + 1 := by simp
  obtain ⟨q, hq⟩ : ∃ q : Nat, q = H.next + 1 := ⟨_, rfl⟩
  rw [hq0, ← hq] at I0 e0
  have nA : A.next = H.next + 2 := by rw [hA]; simp
  have KA : Kp H A := by rw [hA]; exact ((Kp.refl H).push _).push _
  have gA : A.get H.next = some c0 := by rw [hA, AH.push_get, if_neg (by simp)]; simp [c0]
  have XA : SX A q v bs 0 := ⟨_, I0, Nat.le_refl _⟩
  obtain ⟨w, D, S, T, d, s, t, b1, b2, b3, h1, e1, w1, w5, lD, lS, lT, yD, yS, yT, B1, B2, B3, q1, q2, q3, X1, K1⟩ := DrawRetryH XA (by omega) m (by omega)
  have I1 : HdI q h1 (hdG 3 w d s t 0 0 0) 3 w D S T 0 0 0 := ⟨d, s, t, b1, b2, b3, rfl, B1, B2, B3, by omega, by omega, by omega, by omega, by omega, by omega, yD, yS, yT⟩
  obtain ⟨f2, w2, D2, S2, T2, n2, l2, p2, r2, h2, e2, I2, X2, K2⟩ := Bent_ev X1 (by omega) I1 m (by omega)
  obtain ⟨d2, s2, t2, c1, c2, c3, rfl, C1, C2, C3, m1, m2, m3, kD, kS, kT, zD, zS, zT⟩ := I2
  have j1 := K1.next
  have j2 := K2.next
  have hA' := hA.symm
  have O1 := C1.bs.one
  have O2 := C2.bs.one
  have O3 := C3.bs.one
  have cl1 := C1.cl
  have cl2 := C2.cl
  have cl3 := C3.cl
  have i1 := C1.2.1
  have i2 := C2.2.1
  have i3 := C3.2.1
  have KA2 : KoS [q] A h2 := koS1 K1 K2
  have g20 : h2.get H.next = some c0 := by rw [KA2.get _ (by omega) (by simp; omega)]; exact gA
  have nee : ∀ {x : AV} {L : List Int} {b : Nat}, BO h2 x L b → b ≠ H.next := fun hB e => by
    have := hB.2.2; rw [e, g20] at this; simp [c0] at this
  have ne1 := nee C1
  have ne2 := nee C2
  have ne3 := nee C3
  have KH2 : Kp H h2 := KA2.kp KA (fun z hz => by simp at hz; omega)
  have mbs : ∀ b ∈ bs, b < H.next := fun b hb => hR.mem b hb
  obtain ⟨CC, hCC⟩ : ∃ CC : Blk, CC = .cells 24 false [.int .i64 f2, .int .i64 w2, d2, s2, t2, .int .i64 n2, .int .i64 l2, .int .i64 p2] := ⟨_, rfl⟩
  obtain ⟨P, hP⟩ : ∃ P : AH, P = (h2.push c0).set h2.next CC := ⟨_, rfl⟩
  have nP : P.next = h2.next + 1 := by rw [hP]; simp
  have gP : P.get h2.next = some CC := by rw [hP]; simp
  have KP : Kp h2 P := by rw [hP]; exact ((Kp.refl h2).push _).set (Nat.le_refl _) _
  have hP' := hP.symm
  obtain ⟨bb, h3, e3, X4, K4, n4⟩ := (X2.kp KP).chance (by omega) 10 (by omega) (by omega) m (by omega)
  have g3 : h3.get h2.next = some CC := by rw [K4.get _ (by omega) (by simp; omega)]; exact gP
  have g30 : h3.get H.next = some c0 := by rw [K4.get _ (by omega) (by simp; omega), KP.get _ (by omega)]; exact g20
  have D1 := (C1.kp KP).ks K4 m1
  have D2' := (C2.kp KP).ks K4 m2
  have D3 := (C3.kp KP).ks K4 m3
  have KH3 : Kp H h3 := K4.kp (KH2.trans KP) (fun z hz => by simp at hz; omega)
  cases bb with
  | true =>
    obtain ⟨P3, hP3⟩ : ∃ P3 : AH, P3 = h3.push (.cells 5 false []) := ⟨_, rfl⟩
    have hP3' := hP3.symm
    have k3 : Kp h3 P3 := by rw [hP3]; exact (Kp.refl h3).push _
    have g3' : P3.get h2.next = some CC := by rw [k3.get _ (by omega)]; exact g3
    have g30' : P3.get H.next = some c0 := by rw [k3.get _ (by omega)]; exact g30
    obtain ⟨DD, hDD⟩ : ∃ DD : Blk, DD = .cells 24 false [.int .i64 f2, .int .i64 w2, d2, s2, .slice h3.next 0 0, .int .i64 n2, .int .i64 l2, .int .i64 p2] := ⟨_, rfl⟩
    obtain ⟨Q, hQ⟩ : ∃ Q : AH, Q = P3.set h2.next DD := ⟨_, rfl⟩
    have hQ' := hQ.symm
    have XQ : SX Q q v bs 303 := by rw [hQ]; exact ((X4.kp k3).set_ne _ (by omega) (fun hb => by have := mbs _ hb; omega)).mono (by omega)
    have gQ : Q.get h2.next = some DD := by rw [hQ]; simp
    have gQ0 : Q.get H.next = some c0 := by rw [hQ, AH.set_get, if_neg (by omega)]; exact g30'
    have nQ : Q.next = h3.next + 1 := by rw [hQ, hP3]; simp
    have Q1 : BO Q d2 D2 c1 := by rw [hQ]; exact setBO (D1.kp k3) _ (by omega)
    have Q2 : BO Q s2 S2 c2 := by rw [hQ]; exact setBO (D2'.kp k3) _ (by omega)
    have Q3 : BO Q (.slice h3.next 0 0) [] h3.next := by rw [hQ]; exact setBO (show BO P3 (.slice h3.next 0 0) [] h3.next from ⟨rfl, by rw [hP3]; simp, by rw [hP3]; simp [u8L]⟩) _ (by omega)
    have KQ : Kp H Q := by rw [hQ]; exact (KH3.trans k3).set (by omega) _
    simp only [hCC, c0] at g3' g30'
    obtain ⟨k, kd, h4, j, h5, O, o, h6, bo, f1, f2', f3, f4, f5, f6, BOo, yO, lO, qO, J4, J5, J6⟩ := drpTail XQ (by omega) m (by omega)
    have G4 : h4.get h2.next = some DD := by rw [J4.get _ (by omega) (by simp; omega)]; exact gQ
    have G5 : h5.get h2.next = some DD := by rw [J5.get _ (by omega) (by simp; omega)]; exact gQ
    have G6 : h6.get h2.next = some DD := by rw [J6.get _ (by omega) (by simp; omega)]; exact gQ
    have G0 : h6.get H.next = some c0 := by rw [J6.get _ (by omega) (by simp; omega)]; exact gQ0
    obtain ⟨Y, hY⟩ : ∃ Y : AH, Y = h6.set H.next DD := ⟨_, rfl⟩
    have gY : Y.get H.next = some DD := by rw [hY]; simp
    have hY' := hY.symm
    have mJ := J6.next
    have bo' : ∀ {x : AV} {L : List Int} {b : Nat}, BO Q x L b → b ≠ q → b ≠ H.next → BO Y x L b := fun hB u1 u2 => by rw [hY]; exact setBO (hB.ks J6 u1) _ u2
    have R1 := bo' Q1 m1 ne1
    have R2 := bo' Q2 m2 ne2
    have R3 := bo' Q3 (by omega) (by omega)
    have Ro : BO Y o O bo := by rw [hY]; exact setBO BOo _ (by omega)
    have KY : Kp H Y := by rw [hY]; exact (J6.kp KQ (fun z hz => by simp at hz; omega)).set (Nat.le_refl _) _
    refine ⟨f2, w2, D2, S2, [], O, n2, l2, p2, hdG f2 w2 d2 s2 (.slice h3.next 0 0) n2 l2 p2, o, q, Y, ?_, ⟨d2, s2, (.slice h3.next 0 0), c1, c2, h3.next, rfl, R1, R2, R3, m1, m2, (by omega), kD, kS, (by simp), zD, zS, (fun x hx => by simp at hx)⟩, Ro.bs, yO, lO, KY⟩
    rw [ev_M Try.func7 ok7 [] m _ H (by simp [Try.f7])]
    have RC1 := R1.bs.one
    have RC2 := R2.bs.one
    have RC3 := R3.bs.one
    simp only [hDD, hCC, c0] at *
    simp only [hdG] at e1 e2
    simp [Try.f7, tm0, hA', e0, e1, e2, hdG, O1, O2, O3, cl1, cl2, cl3, RC1, RC2, RC3, hP', gP, e3, g3, hP3', g3', g30', hQ', gQ, f1, f2', f3, f4, f5, f6, G4, G5, G6, G0, hY', gY, ldVar, stVar, fillA, zerosA, spl]
  | false =>
    obtain ⟨DD, hDD⟩ : ∃ DD : Blk, DD = CC := ⟨_, rfl⟩
    rw [hCC] at hDD
    obtain ⟨Q, hQ⟩ : ∃ Q : AH, Q = h3 := ⟨_, rfl⟩
    have hQ' := hQ.symm
    have XQ : SX Q q v bs 303 := by rw [hQ]; exact X4.mono (by omega)
    have gQ : Q.get h2.next = some DD := by rw [hQ, hDD, ← hCC]; exact g3
    have gQ0 : Q.get H.next = some c0 := by rw [hQ]; exact g30
    have nQ : h3.next ≤ Q.next := by rw [hQ]; omega
    have Q1 : BO Q d2 D2 c1 := by rw [hQ]; exact D1
    have Q2 : BO Q s2 S2 c2 := by rw [hQ]; exact D2'
    have Q3 : BO Q t2 T2 c3 := by rw [hQ]; exact D3
    have KQ : Kp H Q := by rw [hQ]; exact KH3
    obtain ⟨k, kd, h4, j, h5, O, o, h6, bo, f1, f2', f3, f4, f5, f6, BOo, yO, lO, qO, J4, J5, J6⟩ := drpTail XQ (by omega) m (by omega)
    have G4 : h4.get h2.next = some DD := by rw [J4.get _ (by omega) (by simp; omega)]; exact gQ
    have G5 : h5.get h2.next = some DD := by rw [J5.get _ (by omega) (by simp; omega)]; exact gQ
    have G6 : h6.get h2.next = some DD := by rw [J6.get _ (by omega) (by simp; omega)]; exact gQ
    have G0 : h6.get H.next = some c0 := by rw [J6.get _ (by omega) (by simp; omega)]; exact gQ0
    obtain ⟨Y, hY⟩ : ∃ Y : AH, Y = h6.set H.next DD := ⟨_, rfl⟩
    have gY : Y.get H.next = some DD := by rw [hY]; simp
    have hY' := hY.symm
    have mJ := J6.next
    have bo' : ∀ {x : AV} {L : List Int} {b : Nat}, BO Q x L b → b ≠ q → b ≠ H.next → BO Y x L b := fun hB u1 u2 => by rw [hY]; exact setBO (hB.ks J6 u1) _ u2
    have R1 := bo' Q1 m1 ne1
    have R2 := bo' Q2 m2 ne2
    have R3 := bo' Q3 (m3) (ne3)
    have Ro : BO Y o O bo := by rw [hY]; exact setBO BOo _ (by omega)
    have KY : Kp H Y := by rw [hY]; exact (J6.kp KQ (fun z hz => by simp at hz; omega)).set (Nat.le_refl _) _
    refine ⟨f2, w2, D2, S2, T2, O, n2, l2, p2, hdG f2 w2 d2 s2 t2 n2 l2 p2, o, q, Y, ?_, ⟨d2, s2, t2, c1, c2, c3, rfl, R1, R2, R3, m1, m2, m3, kD, kS, kT, zD, zS, zT⟩, Ro.bs, yO, lO, KY⟩
    rw [ev_M Try.func7 ok7 [] m _ H (by simp [Try.f7])]
    have RC1 := R1.bs.one
    have RC2 := R2.bs.one
    have RC3 := R3.bs.one
    simp only [hDD, hCC, c0] at *
    simp only [hdG] at e1 e2
    simp [Try.f7, tm0, hA', e0, e1, e2, hdG, O1, O2, O3, cl1, cl2, cl3, RC1, RC2, RC3, hP', gP, e3, g3,  hQ', gQ, f1, f2', f3, f4, f5, f6, G4, G5, G6, G0, hY', gY, ldVar, stVar, fillA, zerosA, spl]
end Go.Ev

/- Plain packets: drawn versions. -/
namespace Go.Ev
open Go Go.Proofs
set_option linter.unusedSimpArgs false
set_option linter.unusedVariables false

variable {h h' : AH} {q : Nat} {v : AV} {bs : List Nat} {K : Nat}
theorem IO.app1 {H : AH} {v : AV} {l : List Int} {b : Nat} {x : Int} (h : IO H v l b) (hl : l.length ≤ 1000) :
    ∃ v' X' b', appA Try.prog 33 33 v (.slice H.next 0 1) (H.push (.cells 3 false [.int .i64 x])) = some (v', X') ∧ IO X' v' (l ++ [x]) b' ∧ KoS [b] H X' ∧ H.next ≤ b' := by
  have ha := appInt (v := .int .i64 x) h.2.2 (by simp) (n := l.length) (by omega) h.2.1
  rw [← h.1] at ha
  refine ⟨_, _, H.next + 1, ha, ⟨by simp, by simp, by simp⟩, ⟨by simp; omega, fun z hz hzb => ?_⟩, by omega⟩
  have : z ≠ b := fun e => hzb (by simp [e])
  rw [AH.push_get, if_neg (by simp; omega), AH.kill_get, if_neg this, AH.push_get, if_neg (by omega)]
def DvI (q : Nat) (v : AV) (bs : List Nat) (K N : Nat) (H : AH) (d : Nat) (τ : Tm) (h : AH) : Prop :=
  ∃ (l : List Int) (r : AV) (b : Nat), τ 0 = .ptr q 0 ∧ τ 4 = .int .i64 d ∧ τ 3 = r ∧ IO h r l b ∧ l.length + d = N ∧ (∀ x ∈ l, 1 ≤ x ∧ x ≤ 9) ∧ H.next ≤ b ∧ SX h q v bs (K + 3 * l.length) ∧ KoS [q] H h
theorem DrawVersions_ev (X : SX h q v bs K) (hK : K ≤ 100000) (m : Nat) (hm : 40 ≤ m) :
    ∃ (l : List Int) (r : AV) (h' : AH) (b : Nat), ev Try.prog m 60 [.ptr q 0] h = some (r, h') ∧ 1 ≤ l.length ∧ l.length ≤ 8 ∧ (∀ x ∈ l, 1 ≤ x ∧ x ≤ 9) ∧ IO h' r l b ∧ h.next ≤ b ∧ SX h' q v bs (K + 60) ∧ KoS [q] h h' := by
  obtain ⟨m, rfl⟩ : ∃ k, m = k + 1 := ⟨m - 1, by omega⟩
  have hq := X.lt
  obtain ⟨P, hP⟩ : ∃ P : AH, P = h.push (.cells 3 false []) := ⟨_, rfl⟩
  have hP' := hP.symm
  have kP : Kp h P := by rw [hP]; exact (Kp.refl h).push _
  have BP : IO P (.slice h.next 0 0) [] h.next := ⟨rfl, by rw [hP]; simp, by rw [hP]; simp⟩
  obtain ⟨k, h1, e1, hk, X1, K1, n1⟩ := (X.kp kP).next (by omega) 8 (by omega) (by omega) m (by omega)
  have B1 := BP.ks K1 (by omega)
  have wk : IntKind.i64.wrap (1 + (k : Int)) = 1 + (k : Int) := wrap_i64 (by omega) (by omega)
  rw [ev_M Try.func60 ok60 [] m _ h (by simp [Try.f60])]
  simp [Try.f60, tm0, hP', e1, wk, fillA, zerosA, spl]
  generalize hLo : evLoop _ _ _ _ _ _ = R
  obtain ⟨e, τ', H', rfl, rfl, l, r, b, t0, t4, t3, B, hl, hx, hb, XX, KK⟩ := loop_at hLo (loop_rule (d := k + 1) (DvI q v bs (K + 3) (k + 1) h) (fun e τ h' => e = .exit 0 ∧ DvI q v bs (K + 3) (k + 1) h 0 τ h') (by
    rintro d τ hh ⟨l, r, b, t0, t4, t3, B, hl, hx, hb, XX, KK⟩
    rw [lp_M Try.func60 58 (by decide) 6 (by decide) (by kernel_rfl) []]
    by_cases hd0 : d = 0
    · subst hd0
      have hz : ((0 : Nat) : Int) = 0 := rfl
      rw [hz] at t4
      simp [Try.f60, t4]
      exact ⟨l, r, b, t0, by simp [t4], t3, B, hl, hx, hb, XX, KK⟩
    · obtain ⟨d, rfl⟩ : ∃ k, d = k + 1 := ⟨d - 1, by omega⟩
      obtain ⟨D, hD⟩ : ∃ D : Int, D = ((d + 1 : Nat) : Int) := ⟨_, rfl⟩
      rw [← hD] at t4
      have hpos : (0 < D) = True := eq_true (by omega)
      have wD : IntKind.i64.wrap (D - 1) = (d : Int) := by rw [wrap_i64 (by omega) (by omega)]; omega
      obtain ⟨j, h2, e2, hj, X2, K2, n2⟩ := XX.next (by omega) 9 (by omega) (by omega) m (by omega)
      have wj : IntKind.i64.wrap (1 + (j : Int)) = 1 + (j : Int) := wrap_i64 (by omega) (by omega)
      have B2 := B.ks K2 (by omega)
      obtain ⟨v', X', b', a1, B3, K3, hb'⟩ := B2.app1 (x := 1 + (j : Int)) (by omega)
      have m2 := K2.next
      have m3 := KK.next
      simp [Try.f60, t0, t4, t3, hpos, e2, wj, a1, wD, fillA, zerosA, spl]
      refine ⟨d, by omega, l ++ [1 + (j : Int)], v', b', by simp [t0], by simp, by simp, B3, by simp; omega, ?_, by omega, ?_, ?_⟩
      · intro x hxx
        simp only [List.mem_append, List.mem_singleton] at hxx
        rcases hxx with h | rfl
        · exact hx x h
        · omega
      · have := X2.koS K3 (by simp; omega) (fun z hz => by simp; intro e; have := X.mem z hz; omega)
        exact this.mono (by simp; omega)
      · refine ⟨by have := K3.next; omega, fun z hz hzq => ?_⟩
        rw [K3.get z (by omega) (by simp; omega), K2.get z (by omega) hzq, KK.get z hz hzq]) ⟨[], _, h.next, by simp, by simp; omega, by simp, B1, by simp, by simp, by omega, by simpa using X1, koS1 kP.koS1 K1⟩ (by omega))
  exact ⟨l, r, H', by simp [t3], by omega, by omega, hx, b, B, hb, XX.mono (by omega), KK⟩
end Go.Ev

/- Plain packets: drawn reset tokens; drawn version packets. -/
namespace Go.Ev
open Go Go.Proofs
set_option linter.unusedSimpArgs false
set_option linter.unusedVariables false

variable {h h' : AH} {q : Nat} {v : AV} {bs : List Nat} {K : Nat}
theorem src_new {H : AH} {v : AV} {l : List Int} {bs : List Nat} (hR : (Ty.sl 5 (.int .u8)).R false H [v] l bs) (hv : v.one = true) (hl : l.length ≤ 1048576) (m : Nat) (hm : 1 ≤ m) :
    ∃ A : AH, ev Try.prog m 45 [v] H = some (.ptr H.next 0, A) ∧ SX A H.next v bs 0 ∧ Kp H A ∧ A.next = H.next + 1 :=
  ⟨_, source_ev hR hv hl m hm, ⟨_, source_I hR hl, Nat.le_refl _⟩, (Kp.refl H).push _, by simp⟩
theorem DrawResetToken_ev {H : AH} {v : AV} {l : List Int} {bs : List Nat} (hR : (Ty.sl 5 (.int .u8)).R false H [v] l bs) (hv : v.one = true) (hl : l.length ≤ 1048576) (m : Nat) (hm : 20100 ≤ m) :
    ∃ (D S : List Int) (d s : AV) (h' : AH), ev Try.prog m 19 [v] H = some (.tuple [d, s], h') ∧ Bs h' d D ∧ Bs h' s S ∧ By D ∧ By S ∧ D.length ≤ 100 ∧ S.length ≤ 100 ∧ Kp H h' := by
  obtain ⟨m, rfl⟩ : ∃ k, m = k + 1 := ⟨m - 1, by omega⟩
  obtain ⟨A, e0, XA, KA, nA⟩ := src_new hR hv hl m (by omega)
  obtain ⟨q, hq⟩ : ∃ q, q = H.next := ⟨_, rfl⟩
  rw [← hq] at e0 XA
  obtain ⟨bb, h1, e1, X1, K1, n1⟩ := XA.chance (by omega) 6 (by omega) (by omega) m (by omega)
  have fin : ∀ {h2 : AH} (X2 : SX h2 q v bs 6) (K2 : KoS [q] A h2) (N : Int) (hN0 : 0 ≤ N) (hN : N ≤ 20), ∃ (D S : List Int) (d s : AV) (h3 h4 h' : AH) (j : Nat), ev Try.prog m 49 [.ptr q 0, .int .i64 N] h2 = some (d, h3) ∧
      ev Try.prog m 50 [.ptr q 0, .int .i64 10] h3 = some (.int .i64 j, h4) ∧ ev Try.prog m 49 [.ptr q 0, .int .i64 j] h4 = some (s, h') ∧ Bs h' d D ∧ Bs h' s S ∧ By D ∧ By S ∧ D.length ≤ 100 ∧ S.length ≤ 100 ∧ Kp H h' := by
    intro h2 X2 K2 N hN0 hN
    have m2 := K2.next
    obtain ⟨D, d, h3, b, f1, lD, yD, B, hb, X3, K3⟩ := X2.bytes (by omega) N (by omega) m (by omega)
    obtain ⟨j, h4, f2, hj, X4, K4, n4⟩ := X3.next (by omega) 10 (by omega) (by omega) m (by omega)
    obtain ⟨S, s, h5, b2, f3, lS, yS, B2, hb2, X5, K5⟩ := X4.bytes (by omega) (j : Int) (by omega) m (by omega)
    exact ⟨D, S, d, s, h3, h4, h5, j, f1, f2, f3, ((B.ks K4 (by omega)).ks K5 (by omega)).bs, B2.bs, yD, yS, by omega, by omega, (koS1 (koS1 (koS1 K2 K3) K4) K5).kp KA (fun z hz => by simp at hz; omega)⟩
  cases bb with
  | true =>
    obtain ⟨k, h2, e2, hk, X2, K2, n2⟩ := X1.next (by omega) 20 (by omega) (by omega) m (by omega)
    obtain ⟨D, S, d, s, h3, h4, h5, j, f1, f2, f3, g⟩ := fin (X2.mono (by omega)) (koS1 K1 K2) k (by omega) (by omega)
    refine ⟨D, S, d, s, h5, ?_, g⟩
    rw [ev_M Try.func19 ok19 [] m _ H (by simp [Try.f19])]
    simp [Try.f19, tm0, e0, e1, e2, f1, f2, f3]
  | false =>
    obtain ⟨D, S, d, s, h3, h4, h5, j, f1, f2, f3, g⟩ := fin (X1.mono (by omega)) K1 16 (by omega) (by omega)
    refine ⟨D, S, d, s, h5, ?_, g⟩
    rw [ev_M Try.func19 ok19 [] m _ H (by simp [Try.f19])]
    simp [Try.f19, tm0, e0, e1, f1, f2, f3]
theorem DrawVersionsPacket_ev {H : AH} {v : AV} {l : List Int} {bs : List Nat} (hR : (Ty.sl 5 (.int .u8)).R false H [v] l bs) (hv : v.one = true) (hl : l.length ≤ 1048576) (m : Nat) (hm : 20100 ≤ m) :
    ∃ (D S V : List Int) (d s w : AV) (bv : Nat) (h' : AH), ev Try.prog m 14 [v] H = some (.tuple [d, s, w], h') ∧ Bs h' d D ∧ Bs h' s S ∧ IO h' w V bv ∧ InV V ∧ By D ∧ By S ∧ D.length ≤ 100 ∧ S.length ≤ 100 ∧ V.length ≤ 100 ∧ Kp H h' := by
  obtain ⟨m, rfl⟩ : ∃ k, m = k + 1 := ⟨m - 1, by omega⟩
  obtain ⟨A, e0, XA, KA, nA⟩ := src_new hR hv hl m (by omega)
  obtain ⟨q, hq⟩ : ∃ q, q = H.next := ⟨_, rfl⟩
  rw [← hq] at e0 XA
  obtain ⟨D, d, h1, b1, e1, lD, yD, B1, q1, X1, K1⟩ := XA.cid (by omega) m (by omega)
  obtain ⟨S, s, h2, b2, e2, lS, yS, B2, q2, X2, K2⟩ := X1.cid (by omega) m (by omega)
  obtain ⟨V, w, h3, b3, e3, lV, lV8, hV, B3, q3, X3, K3⟩ := DrawVersions_ev X2 (by omega) m (by omega)
  obtain ⟨k, h4, e4, hk, X4, K4, n4⟩ := X3.next (by omega) 10 (by omega) (by omega) m (by omega)
  have m1 := K1.next
  have m2 := K2.next
  have m3 := K3.next
  have KH : Kp H h4 := (koS1 (koS1 (koS1 K1 K2) K3) K4).kp KA (fun z hz => by simp at hz; omega)
  have C1 := ((B1.ks K2 (by omega)).ks K3 (by omega)).ks K4 (by omega)
  have C2 := (B2.ks K3 (by omega)).ks K4 (by omega)
  have C3 := B3.ks K4 (by omega)
  have iV : InV V := fun x hx => by have := hV x hx; omega
  have : k = 0 ∨ k = 1 ∨ k = 2 ∨ k = 3 ∨ 4 ≤ k := by omega
  rcases this with rfl | rfl | rfl | rfl | h8
  · obtain ⟨x0, V', hVV⟩ : ∃ x0 V', V = x0 :: V' := by
      cases V with
      | nil => simp at lV
      | cons a b => exact ⟨a, b, rfl⟩
    subst hVV
    obtain ⟨P, hP⟩ : ∃ P : AH, P = h4.push (.cells 3 false [.int .i64 0, .int .i64 (-1), .int .i64 4294967295, .int .i64 4294967296]) := ⟨_, rfl⟩
    have XP : SX P q v bs 103 := by rw [hP]; exact X4.push _
    have KP : Kp h4 P := by rw [hP]; exact (Kp.refl h4).push _
    have gP : P.get h4.next = some (.cells 3 false [.int .i64 0, .int .i64 (-1), .int .i64 4294967295, .int .i64 4294967296]) := by rw [hP]; simp
    have nP : P.next = h4.next + 1 := by rw [hP]; simp
    have hP' := hP.symm
    obtain ⟨j, h5, e5, hj, X5, K5, n5⟩ := XP.next (by omega) 4 (by omega) (by omega) m (by omega)
    have g5 : h5.get h4.next = some (.cells 3 false [.int .i64 0, .int .i64 (-1), .int .i64 4294967295, .int .i64 4294967296]) := by rw [K5.get _ (by omega) (by simp; omega)]; exact gP
    obtain ⟨x, hx, hxi⟩ : ∃ x : Int, ([.int .i64 0, .int .i64 (-1), .int .i64 4294967295, .int .i64 4294967296] : List AV)[j]'(by simp; omega) = .int .i64 x ∧ -1 ≤ x ∧ x ≤ 4294967296 := by
      have : j = 0 ∨ j = 1 ∨ j = 2 ∨ j = 3 := by omega
      rcases this with rfl | rfl | rfl | rfl <;> exact ⟨_, rfl, by omega⟩
    have hj4 : (j < 4) = True := eq_true (by omega)
    have hj4' : ((j : Int) < 4) = True := eq_true (by omega)
    have D1 := (C1.kp KP).ks K5 (by omega)
    have D2 := (C2.kp KP).ks K5 (by omega)
    have D3 := (C3.kp KP).ks K5 (by omega)
    have D3g := D3.2.2
    have D3e := D3.1
    simp only [List.map_cons, List.length_cons] at D3g D3e
    have i3 := D3.2.1
    obtain ⟨Y, hY⟩ : ∃ Y : AH, Y = h5.set b3 (.cells 3 false (.int .i64 x :: V'.map (.int .i64))) := ⟨_, rfl⟩
    have hY' := hY.symm
    have nee : ∀ {x : AV} {L : List Int} {b : Nat}, BO h5 x L b → b ≠ b3 := fun hB e => by
      have := hB.2.2; rw [e, D3g] at this; simp at this
    have R1 : BO Y d D b1 := by rw [hY]; exact setBO D1 _ (nee D1)
    have R2 : BO Y s S b2 := by rw [hY]; exact setBO D2 _ (nee D2)
    have R3 : IO Y w (x :: V') b3 := ⟨by rw [D3e]; simp, by rw [hY]; simpa using i3, by rw [hY]; simp⟩
    have KY : Kp H Y := by rw [hY]; exact ((K5.kp (KH.trans KP) (fun z hz => by simp at hz; omega))).set (by omega) _
    refine ⟨D, S, x :: V', d, s, w, b3, Y, ?_, R1.bs, R2.bs, R3, ?_, yD, yS, by omega, by omega, by simpa using (by simp at lV8; omega), KY⟩
    · rw [ev_M Try.func14 ok14 [] m _ H (by simp [Try.f14])]
      simp [Try.f14, tm0, e0, e1, e2, e3, e4, hP', e5, g5, hx, hj4, hj4', D3e, D3g, hY', idxA, ldVar, stVar, fillA, zerosA, spl]
    · intro y hy
      rcases List.mem_cons.1 hy with rfl | h
      · omega
      · exact iV y (by simp [h])
  · obtain ⟨j, h5, e5, hj, X5, K5, n5⟩ := X4.next (by omega) 2 (by omega) (by omega) m (by omega)
    have wj : IntKind.i64.wrap ((j : Int) * 9) = (j : Int) * 9 := wrap_i64 (by omega) (by omega)
    obtain ⟨N, hN⟩ : ∃ N : Int, N = (j : Int) * 9 := ⟨_, rfl⟩
    have hj' : j = 0 ∨ j = 1 := by omega
    rw [← hN] at wj
    have hN0 : (N < 0) = False := eq_false (by omega)
    have hN1 : (0 ≤ N) = True := eq_true (by omega)
    have hN2 : (8 * N ≤ 281474976710656) = True := eq_true (by omega)
    have hN3 : (N ≤ 281474976710656) = True := eq_true (by omega)
    have D1 := (C1.ks K5 (by omega))
    have D2 := (C2.ks K5 (by omega))
    have KY : Kp H h5 := K5.kp KH (fun z hz => by simp at hz; omega)
    refine ⟨D, S, List.replicate N.toNat 0, d, s, .slice h5.next 0 N.toNat, h5.next, h5.push (.cells 3 false (zerosA [.int .i64 0] N.toNat)), ?_, ((D1.kp ((Kp.refl h5).push _))).bs, ((D2.kp ((Kp.refl h5).push _))).bs, ⟨by simp, by simp, by rcases hj' with rfl | rfl <;> (subst hN; simp [zerosA])⟩, ?_, yD, yS, by omega, by omega, by simp; omega, KY.push _⟩
    · rw [ev_M Try.func14 ok14 [] m _ H (by simp [Try.f14])]
      simp [Try.f14, tm0, e0, e1, e2, e3, e4, e5, wj, hN0, hN.symm, hN1, hN2, hN3, ldVar, stVar, fillA, spl]
    · intro y hy
      have := List.eq_of_mem_replicate hy
      omega
  · obtain ⟨j, h5, e5, hj, X5, K5, n5⟩ := X4.next (by omega) 3 (by omega) (by omega) m (by omega)
    have wj : IntKind.i64.wrap (8 + (j : Int)) = 8 + (j : Int) := wrap_i64 (by omega) (by omega)
    obtain ⟨L, r, h6, b, e6, lL, yL, BL, hbL, X6, K6⟩ := X5.bytes (by omega) (8 + (j : Int)) (by omega) m (by omega)
    refine ⟨L, S, V, r, s, w, b3, h6, ?_, BL.bs, ((C2.ks K5 (by omega)).ks K6 (by omega)).bs, (C3.ks K5 (by omega)).ks K6 (by omega), iV, yL, yS, by omega, by omega, by omega, K6.kp (K5.kp KH (fun z hz => by simp at hz; omega)) (fun z hz => by simp at hz; omega)⟩
    rw [ev_M Try.func14 ok14 [] m _ H (by simp [Try.f14])]
    simp [Try.f14, tm0, e0, e1, e2, e3, e4, e5, wj, e6, ldVar, stVar, fillA, zerosA, spl]
  · obtain ⟨j, h5, e5, hj, X5, K5, n5⟩ := X4.next (by omega) 3 (by omega) (by omega) m (by omega)
    have wj : IntKind.i64.wrap (8 + (j : Int)) = 8 + (j : Int) := wrap_i64 (by omega) (by omega)
    obtain ⟨L, r, h6, b, e6, lL, yL, BL, hbL, X6, K6⟩ := X5.bytes (by omega) (8 + (j : Int)) (by omega) m (by omega)
    refine ⟨D, L, V, d, r, w, b3, h6, ?_, ((C1.ks K5 (by omega)).ks K6 (by omega)).bs, BL.bs, (C3.ks K5 (by omega)).ks K6 (by omega), iV, yD, yL, by omega, by omega, by omega, K6.kp (K5.kp KH (fun z hz => by simp at hz; omega)) (fun z hz => by simp at hz; omega)⟩
    rw [ev_M Try.func14 ok14 [] m _ H (by simp [Try.f14])]
    simp [Try.f14, tm0, e0, e1, e2, e3, e4, e5, wj, e6, ldVar, stVar, fillA, zerosA, spl]
  · obtain ⟨kk, hkk⟩ : ∃ kk : Int, kk = (k : Int) := ⟨_, rfl⟩
    rw [← hkk] at e4
    have f0 := eq_false (show ¬ (kk = 0) by omega)
    have b0' : (kk == 0) = false := by simp [f0]
    have f1 := eq_false (show ¬ (kk = 1) by omega)
    have b1' : (kk == 1) = false := by simp [f1]
    have f2 := eq_false (show ¬ (kk = 2) by omega)
    have b2' : (kk == 2) = false := by simp [f2]
    have f3 := eq_false (show ¬ (kk = 3) by omega)
    have b3' : (kk == 3) = false := by simp [f3]
    refine ⟨D, S, V, d, s, w, b3, h4, ?_, C1.bs, C2.bs, C3, iV, yD, yS, by omega, by omega, by omega, KH⟩
    rw [ev_M Try.func14 ok14 [] m _ H (by simp [Try.f14])]
    simp [Try.f14, tm0, e0, e1, e2, e3, e4, f0, b0', f1, b1', f2, b2', f3, b3', ldVar, stVar, fillA, zerosA, spl]
end Go.Ev

/- FnPlainPackets: the last third: reset tokens. -/
namespace Go.Ev
open Go Go.Proofs
set_option linter.unusedSimpArgs false
set_option linter.unusedVariables false

theorem copiedB_ev {H : AH} {v : AV} {l : List Int} (h : Bs H v l) (hl : l.length ≤ 100000) (m : Nat) (hm : 1 ≤ m) :
    ∃ v' H' b', ev Try.prog m 11 [v] H = some (v', H') ∧ BO H' v' l b' ∧ H.next ≤ b' ∧ Kp H H' := by
  obtain ⟨m, rfl⟩ : ∃ k, m = k + 1 := ⟨m - 1, by omega⟩
  obtain ⟨A, hA⟩ : ∃ A : AH, A = H.push (.cells 5 false []) := ⟨_, rfl⟩
  have kA : Kp H A := by rw [hA]; exact (Kp.refl H).push _
  have BA : BO A (.slice H.next 0 0) [] H.next := ⟨rfl, by rw [hA]; simp, by rw [hA]; simp [u8L]⟩
  obtain ⟨v', X', b', e, B', k', c'⟩ := BA.appB (h.kp kA) (by simp; omega)
  have hA' := hA.symm
  have := kA.next
  refine ⟨v', X', b', ?_, by simpa using B', by rcases c' with h | h <;> omega, KoS.kp kA k' (by simp)⟩
  rw [ev_M Try.func11 ok11 [] m _ H (by simp [Try.f11])]
  simp [Try.f11, U, tm0, hA', e, zerosA, fillA]
theorem rs_drop {J T : List Int} (hT : T.length = 8) : (rsL J T).drop ((rsL J T).length - 8) = T := by
  have : (rsL J T).length - 8 = (64 :: J).length := by simp [rsL, hT]
  rw [this, rsL, List.drop_left]
theorem eqS_comm (a b : List Int) : eqS a b = eqS b a := by unfold eqS; exact Bool.beq_comm
theorem zer_u8 (n : Nat) : zerosA [AV.int .u8 0] n = u8L (List.replicate n 0) := by
  induction n with
  | zero => rfl
  | succ n ih => simp [zerosA, ih, u8L, List.replicate_succ]
set_option maxRecDepth 20000 in
theorem ppC {h : AH} {τ : Tm} {c e : AV} {L M : List Int} {bs : List Nat} (t0 : τ 0 = c) (t1 : τ 1 = e) (hR : (Ty.sl 5 (.int .u8)).R false h [c] L bs) (hv : c.one = true) (hl : L.length ≤ 1048576) (hM : Bs h e M) (yM : By M) (lM : M.length ≤ 1048576) (m : Nat) (hm : 30000 ≤ m) :
    ∃ τ' H', evAt Try.prog (ev Try.prog m) m 3 8191 τ h = some (.ret, τ', H') ∧ τ' 4 = .bool true := by
  rw [at_M Try.func3 8191 (by decide) 13 (by decide) (by kernel_rfl) []]
  obtain ⟨D, S, d, s, h1, e1, BD, BS, yD, yS, lD, lS, K1⟩ := DrawResetToken_ev hR hv hl m (by omega)
  by_cases ok : rtOK D S
  · obtain ⟨t, h2, e2, K2, O2⟩ := ResetToken_good BD BS ok m (by omega) 20 (.inl rfl)
    obtain ⟨t', h3, e3, K3, O3⟩ := ResetToken_good (BD.kp K2) (BS.kp K2) ok m (by omega) 21 (.inr rfl)
    have BT := O2.bs.kp K3
    have yT := rtL_by D S
    have lT := rtL_len D S
    generalize hT : rtL D S = T at *
    have e4 := same_ev BT O3.bs yT yT m (by omega)
    rw [eqS_refl] at e4
    have LT : ∀ h, lenA Try.prog 22 t h = some (.int .i64 8) := fun h => by rw [BT.len h, lT]; rfl
    obtain ⟨k, hk, e5⟩ := at80_ev ((hM.kp K1).kp (K2.trans K3)) yM lM m (by omega)
    have wk : IntKind.i64.wrap (13 + (k : Int)) = 13 + (k : Int) := wrap_i64 (by omega) (by omega)
    obtain ⟨N, hN⟩ : ∃ N : Int, N = 13 + (k : Int) := ⟨_, rfl⟩
    rw [← hN] at wk
    have hN1 : (0 ≤ N) = True := eq_true (by omega)
    have hN2 : (1 * N ≤ 281474976710656) = True := eq_true (by omega)
    have hN3 : (N ≤ 281474976710656) = True := eq_true (by omega)
    obtain ⟨P, hP⟩ : ∃ P : AH, P = h3.push (.cells 5 false (zerosA [.int .u8 0] N.toNat)) := ⟨_, rfl⟩
    have KP : Kp h3 P := by rw [hP]; exact (Kp.refl h3).push _
    have hP' := hP.symm
    have hNn : N.toNat = (12 + k) + 1 := by omega
    have BJ : Bs P (.slice h3.next 0 N.toNat) (0 :: List.replicate (12 + k) 0) := by
      have := Bs.mk' (H := P) (b := h3.next) (ro := false) (l := List.replicate N.toNat 0) (by rw [hP, zer_u8]; simp) (by rw [hP]; simp)
      rw [List.length_replicate] at this
      rw [hNn, List.replicate_succ] at this
      rw [hNn]; exact this
    obtain ⟨r, h4, br, e6, K4, Br⟩ := ResetPacket_ev (BT.kp KP) BJ lT (by simp) (by simp; omega) m (by omega)
    have yR : By (rsL (List.replicate (12 + k) 0) T) := by
      intro x hx
      simp only [rsL, List.cons_append, List.mem_cons, List.mem_append] at hx
      rcases hx with rfl | h | h
      · omega
      · rw [List.eq_of_mem_replicate h]; omega
      · exact yT x h
    have lR : (rsL (List.replicate (12 + k) 0) T).length = 21 + k := by simp [rsL, lT]; omega
    have dR := rs_drop (J := List.replicate (12 + k) 0) lT
    have eR : rsL (List.replicate (12 + k) 0) T = 64 :: (List.replicate (12 + k) 0 ++ T) := rfl
    obtain ⟨Q, hQ⟩ : ∃ Q : AH, Q = h4.push (.cells 5 false (zerosA [.int .u8 0] 8)) := ⟨_, rfl⟩
    have KQ : Kp h4 Q := by rw [hQ]; exact (Kp.refl h4).push _
    have hQ' := hQ.symm
    have hz8 : zerosA [AV.int .u8 0] 8 = u8L (List.replicate 8 0) := zer_u8 8
    have BN : Bs Q (.slice h4.next 0 8) (List.replicate 8 0) := by
      have := Bs.mk' (H := Q) (b := h4.next) (ro := false) (l := List.replicate 8 0) (by rw [hQ, hz8]; simp) (by rw [hQ]; simp)
      rw [List.length_replicate] at this; exact this
    have yN : By (List.replicate 8 0) := by intro x hx; rw [List.eq_of_mem_replicate hx]; omega
    obtain ⟨r2, h5, b5, e7, B5, q5, K5⟩ := copiedB_ev (Br.bs.kp KQ) (by omega) m (by omega)
    obtain ⟨P1, hP1⟩ : ∃ P1 : AH, P1 = h5.push (.cells 5 false [.int .u8 1]) := ⟨_, rfl⟩
    have KP1 : Kp h5 P1 := by rw [hP1]; exact (Kp.refl h5).push _
    have hP1' := hP1.symm
    have B1 : Bs P1 (.slice h5.next 0 1) [1] := by
      have := Bs.mk' (H := P1) (b := h5.next) (ro := false) (l := [1]) (by rw [hP1]; simp [u8L]) (by rw [hP1]; simp)
      exact this
    have KK := (((KP.trans K4).trans KQ).trans K5).trans KP1
    obtain ⟨t2, h6, b6, e8, B6, q6, K6⟩ := copiedB_ev (BT.kp KK) (by omega) m (by omega)
    obtain ⟨W, hW⟩ : ∃ W : AH, W = h6.push (.cells 22 false [.slice h5.next 0 1, t2, .slice h4.next 0 8]) := ⟨_, rfl⟩
    have KW : Kp h6 W := by rw [hW]; exact (Kp.refl h6).push _
    have hW' := hW.symm
    have TK : TkI W (.slice h6.next 0 3) h6.next [(.slice h5.next 0 1, [1]), (t2, T), (.slice h4.next 0 8, List.replicate 8 0)] := by
      refine ⟨rfl, by rw [hW]; simp, ?_⟩
      intro x hx
      simp only [List.mem_cons, List.not_mem_nil, or_false] at hx
      rcases hx with rfl | rfl | rfl
      · exact ⟨(B1.kp K6).kp KW, fun x hx => by simp at hx; omega⟩
      · exact ⟨B6.bs.kp KW, yT⟩
      · exact ⟨(((BN.kp K5).kp KP1).kp K6).kp KW, yN⟩
    have B5' := ((B5.bs.kp KP1).kp K6).kp KW
    rw [eR] at B5' yR
    obtain ⟨i, e9, hi⟩ := IsReset_ev B5' yR (by omega) (by simp; omega) (by simp; omega) TK (by simp) m (by omega)
    have i1 : i = 1 := by
      rw [← eR, dR] at hi
      have hh1 : hitR T T = true := by simp [hitR, lT, eqS_refl]
      have hh0 : hitR T [1] = false := by simp [hitR]
      rcases hi with ⟨rfl, hi⟩ | ⟨j, hj, rfl, hj1, hj2⟩
      · have := hi 1 (by simp); simp [hh1] at this
      · have : j = 0 ∨ j = 1 ∨ j = 2 := by simp at hj; omega
        rcases this with rfl | rfl | rfl
        · simp [hh0] at hj1
        · rfl
        · have := hj2 1 (by simp) (by omega); simp [hh1] at this
    subst i1
    have BTW := (((BT.kp KK).kp K6).kp KW)
    have BNW := ((((BN.kp K5).kp KP1).kp K6).kp KW)
    have f1 := same_ev BTW BNW yT yN m (by omega)
    generalize hq : eqS T (List.replicate 8 0) = qq at f1
    have RR1 := B6.bs.one
    have RR2 := B6.cl
    have z1 : zerosA [AV.int .u8 0] 1 = [AV.int .u8 0] := rfl
    have z3 : zerosA [AV.nilSlice] 3 = [AV.nilSlice, AV.nilSlice, AV.nilSlice] := rfl
    have z4 : zerosA [AV.nilSlice] 1 = [AV.nilSlice] := rfl
    cases qq with
    | true =>
      simp [Try.f3, t0, t1, e1, e2, e3, e4, LT, e5, hN.symm, wk, hN1, hN2, hN3, hP', e6, hQ', e7, hP1', e8, hW', e9, f1, RR1, RR2, z1, z3, z4, fillA, spl]
    | false =>
      obtain ⟨W2, hW2⟩ : ∃ W2 : AH, W2 = W.push (.cells 22 false [.slice h4.next 0 8]) := ⟨_, rfl⟩
      have KW2 : Kp W W2 := by rw [hW2]; exact (Kp.refl W).push _
      have hW2' := hW2.symm
      have TK2 : TkI W2 (.slice W.next 0 1) W.next [(.slice h4.next 0 8, List.replicate 8 0)] := by
        refine ⟨rfl, by rw [hW2]; simp, ?_⟩
        intro x hx
        simp only [List.mem_cons, List.not_mem_nil, or_false] at hx
        subst hx
        exact ⟨BNW.kp KW2, yN⟩
      have BrW := ((((((Br.bs.kp KQ).kp K5).kp KP1).kp K6).kp KW).kp KW2)
      rw [eR] at BrW
      obtain ⟨i, g9, hi⟩ := IsReset_ev BrW yR (by omega) (by simp; omega) (by simp; omega) TK2 (by simp) m (by omega)
      have i1 : i = -1 := by
        rw [← eR, dR] at hi
        have hh : hitR T (List.replicate 8 0) = false := by
          unfold hitR; rw [eqS_comm, hq]; simp
        rcases hi with ⟨rfl, hi⟩ | ⟨j, hj, rfl, hj1, hj2⟩
        · rfl
        · have : j = 0 := by simp at hj; omega
          subst this
          simp only [List.getElem_cons_zero] at hj1
          rw [hh] at hj1; cases hj1
      subst i1
      simp [Try.f3, t0, t1, e1, e2, e3, e4, LT, e5, hN.symm, wk, hN1, hN2, hN3, hP', e6, hQ', e7, hP1', e8, hW', e9, f1, hW2', g9, RR1, RR2, z1, z3, z4, fillA, spl]
  · obtain ⟨t, h2, e2, K2, O2⟩ := ResetToken_bad BD BS ok m (by omega) 20 (.inl rfl)
    obtain ⟨t', h3, e3, K3, O3⟩ := ResetToken_bad (BD.kp K2) (BS.kp K2) ok m (by omega) 21 (.inr rfl)
    have e4 := same_ev (O2.kp K3) O3 (by intro x hx; simp at hx) (by intro x hx; simp at hx) m (by omega)
    rw [eqS_refl] at e4
    have LT : ∀ h, lenA Try.prog 22 t h = some (.int .i64 0) := fun h => by rw [O2.len h]; rfl
    simp [Try.f3, t0, t1, e1, e2, e3, e4, LT]
end Go.Ev

/- FnPlainPackets: the middle third: version packets. -/
namespace Go.Ev
open Go Go.Proofs
set_option linter.unusedSimpArgs false
set_option linter.unusedVariables false

def RetT (o : Option (Ex × Tm × AH)) : Prop := ∃ τ' H', o = some (.ret, τ', H') ∧ τ' 4 = .bool true
set_option maxRecDepth 20000 in
theorem ppD {h : AH} {τ : Tm} {c e : AV} {L M : List Int} {bs : List Nat} (t0 : τ 0 = c) (t1 : τ 1 = e) (hR : (Ty.sl 5 (.int .u8)).R false h [c] L bs) (hv : c.one = true) (hl : L.length ≤ 1048576) (hM : Bs h e M) (yM : By M) (lM : M.length ≤ 1048576) (m : Nat) (hm : 30000 ≤ m) :
    RetT (evAt Try.prog (ev Try.prog m) m 3 255 τ h) := by
  rw [at_M Try.func3 255 (by decide) 8 (by decide) (by kernel_rfl) [8191]]
  obtain ⟨D, S, V, d, s, w, bv, h1, e1, BD, BS, BV, iV, yD, yS, lD, lS, lV, K1⟩ := DrawVersionsPacket_ev hR hv hl m (by omega)
  obtain ⟨r, c1, h2, e2, K2, o2, g2, b2⟩ := VersionsPacketI_ev BD BS BV iV m (by omega)
  obtain ⟨r', c2, h3, e3, K3, o3, g3, b3⟩ := VersionsPacketS_ev (BD.kp K2) (BS.kp K2) (BV.kp K2) iV m (by omega)
  have K13 := (K1.trans K2).trans K3
  by_cases ok : vpOK D S V
  · obtain ⟨rfl, BR⟩ := g2 ok
    obtain rfl := g3 ok
    obtain ⟨bk, h4, b4, e4, K4, B4⟩ := ReadVersions_ev (BR.kp K3) yD yS ok m (by omega)
    have e5 := sameInts_ev (B4.R iV) ((((BV.kp K2).kp K3).kp K4).R iV) (by omega) m (by omega)
    have KF := K13.trans K4
    simp [Try.f3, t0, t1, e1, e2, e3, e4, e5]
    refine ppC ?_ ?_ (hR.kp KF) hv hl (hM.kp KF) yM lM m hm <;> simp [t0, t1]
  · obtain rfl := b2 ok
    obtain rfl := b3 ok
    simp [Try.f3, t0, t1, e1, e2, e3]
    refine ppC ?_ ?_ (hR.kp K13) hv hl (hM.kp K13) yM lM m hm <;> simp [t0, t1]
end Go.Ev

/- Retry packets: what the program writes. -/
namespace Go.Ev
open Go Go.Proofs
set_option linter.unusedSimpArgs false
set_option linter.unusedVariables false

theorem RetryPacketI_ok {H : AH} {d s t o : AV} {f v n l p : Int} {D S T O : List Int} (hd : Bs H d D) (hs : Bs H s S) (ht : Bs H t T) (ho : Bs H o O) (hB : rpOK f v D S T n l p O) (bD : By D) (bS : By S) (bT : By T) (bO : By O) (m : Nat) (hm : 70010 ≤ m) :
    ∃ r H' b, ev Try.prog m 8 [hdG f v d s t n l p, o] H = some (.tuple [r, .int .i64 0], H') ∧ Kp H H' ∧ BO H' r (retL v D S T O) b := by
  obtain ⟨m, rfl⟩ : ∃ k, m = k + 1 := ⟨m - 1, by omega⟩
  rw [ev_M Try.func8 ok8 [] _ _ H (by simp [Try.f8])]
  have LD : ∀ h, lenA Try.prog 22 d h = some (.int .i64 D.length) := hd.len
  have LS : ∀ h, lenA Try.prog 22 s h = some (.int .i64 S.length) := hs.len
  have LT : ∀ h, lenA Try.prog 22 t h = some (.int .i64 T.length) := ht.len
  have LO : ∀ h, lenA Try.prog 22 o h = some (.int .i64 O.length) := ho.len
  have V : ∀ h, ev Try.prog m 51 [.int .i64 v] h = some (.bool (verB v), h) := fun h => versionOK_ev v h m (by omega)
  obtain ⟨h0, h1, h2, h3, h4, h5, h6, h7, h8, h9⟩ := hB
  subst h0 h6 h7 h8
  have e2 := eq_false (show ¬ (8 < (D.length : Int)) by omega)
  have e3 := eq_false (show ¬ (8 < (S.length : Int)) by omega)
  have e4 := eq_false (show ¬ ((T.length : Int) < 1) by omega)
  have e5 := eq_false (show ¬ (64 < (T.length : Int)) by omega)
  have e9 := eq_false (show ¬ (8 < (O.length : Int)) by omega)
  have hv : 1 ≤ v ∧ v ≤ 4294967295 := by simpa [verB] using h1
  have K0 : Kp H (H.push (.cells 24 false [.int .i64 3, .int .i64 v, d, s, t, .int .i64 0, .int .i64 0, .int .i64 0])) := (Kp.refl H).push _
  generalize hH0 : H.push (.cells 24 false [.int .i64 3, .int .i64 v, d, s, t, .int .i64 0, .int .i64 0, .int .i64 0]) = H0 at K0
  have n0 : H0.next = H.next + 1 := by rw [← hH0]; simp
  have g0 : H0.get H.next = some (.cells 24 false [.int .i64 3, .int .i64 v, d, s, t, .int .i64 0, .int .i64 0, .int .i64 0]) := by rw [← hH0]; simp
  obtain ⟨v1, X1, b1, p1, B1, K1, q1⟩ := longBegin_ev (hd.kp K0) (hs.kp K0) h2 h3 240 v (by omega) hv.2 m (by omega)
  have g1 : X1.get H.next = some (.cells 24 false [.int .i64 3, .int .i64 v, d, s, t, .int .i64 0, .int .i64 0, .int .i64 0]) := by rw [K1.get _ (by omega)]; exact g0
  obtain ⟨v2, X2, b2, p2, B2, K2, q2⟩ := B1.appB ((ht.kp K0).kp K1) (by simp [idsL, digB_len]; omega)
  have KA := (K0.trans K1)
  have KB : Kp H X2 := KoS.kp' KA K2 (by omega)
  have := K1.next
  have hb2 : H.next < b2 := by rcases q2 with h | h <;> omega
  obtain ⟨v3, X3, c3, p3, K3, R3⟩ := tag_ev (ho.kp KB) B2.bs bO (by
    intro x hx
    simp [idsL] at hx
    rcases hx with rfl | h | rfl | h | rfl | h | h
    · omega
    · exact digB_by _ _ x h
    · omega
    · exact bD x h
    · omega
    · exact bS x h
    · exact bT x h) h9 (by simp [idsL, digB_len]; omega) 53 65 (.inr ⟨rfl, rfl⟩) m (by omega)
  have B3 := B2.kp K3
  obtain ⟨v4, X4, b4, p4, B4, K4, q4⟩ := B3.appB (tB_bs R3).1 (by simp [idsL, digB_len, tagL, digestL_len]; omega)
  have KC : Kp H X4 := KoS.kp' (KB.trans K3) K4 (by omega)
  simp [Try.f8, tm0, hdG, hd.one, hs.one, ht.one, LD, LS, LT, LO, V, h1, e2, e3, e4, e5, e9, hH0, g0, p1, g1, p2, p3, p4, spl, fillA, zerosA, ldVar, stVar]
  exact ⟨_, _, ⟨rfl, rfl⟩, KC, b4, by simpa [retL, retH] using B4⟩
end Go.Ev

/- Retry packets: what the reference writes. -/
namespace Go.Ev
open Go Go.Proofs
set_option linter.unusedSimpArgs false
set_option linter.unusedVariables false

theorem RetryPacketS_ok {H : AH} {d s t o : AV} {f v n l p : Int} {D S T O : List Int} (hd : Bs H d D) (hs : Bs H s S) (ht : Bs H t T) (ho : Bs H o O) (hB : rpOK f v D S T n l p O) (bD : By D) (bS : By S) (bT : By T) (bO : By O) (m : Nat) (hm : 70010 ≤ m) :
    ∃ r H' R, ev Try.prog m 9 [hdG f v d s t n l p, o] H = some (.tuple [r, .int .i64 0], H') ∧ Kp H H' ∧ Bs H' r R := by
  obtain ⟨m, rfl⟩ : ∃ k, m = k + 1 := ⟨m - 1, by omega⟩
  rw [ev_M Try.func9 ok9 [] _ _ H (by simp [Try.f9])]
  have LD : ∀ h, lenA Try.prog 22 d h = some (.int .i64 D.length) := hd.len
  have LS : ∀ h, lenA Try.prog 22 s h = some (.int .i64 S.length) := hs.len
  have LT : ∀ h, lenA Try.prog 22 t h = some (.int .i64 T.length) := ht.len
  have LO : ∀ h, lenA Try.prog 22 o h = some (.int .i64 O.length) := ho.len
  have V : ∀ h, ev Try.prog m 54 [.int .i64 v] h = some (.bool (verB v), h) := fun h => versionOKS_ev v h m (by omega)
  obtain ⟨h0, h1, h2, h3, h4, h5, h6, h7, h8, h9⟩ := hB
  subst h0 h6 h7 h8
  have e2 := eq_false (show ¬ (8 < (D.length : Int)) by omega)
  have e3 := eq_false (show ¬ (8 < (S.length : Int)) by omega)
  have e4 := eq_false (show ¬ ((T.length : Int) < 1) by omega)
  have e5 := eq_false (show ¬ (64 < (T.length : Int)) by omega)
  have e9 := eq_false (show ¬ (8 < (O.length : Int)) by omega)
  have hv : 1 ≤ v ∧ v ≤ 4294967295 := by simpa [verB] using h1
  have K0 : Kp H (H.push (.cells 24 false [.int .i64 3, .int .i64 v, d, s, t, .int .i64 0, .int .i64 0, .int .i64 0])) := (Kp.refl H).push _
  generalize hH0 : H.push (.cells 24 false [.int .i64 3, .int .i64 v, d, s, t, .int .i64 0, .int .i64 0, .int .i64 0]) = H0 at K0
  have n0 : H0.next = H.next + 1 := by rw [← hH0]; simp
  have g0 : H0.get H.next = some (.cells 24 false [.int .i64 3, .int .i64 v, d, s, t, .int .i64 0, .int .i64 0, .int .i64 0]) := by rw [← hH0]; simp
  have h20 : (v < 1) = False := eq_false (by omega)
  have BN := BO.new H0 240
  have KN : Kp H0 (H0.push (.cells 5 false [.int .u8 240])) := (Kp.refl H0).push _
  have g0' : (H0.push (.cells 5 false [.int .u8 240])).get H.next = some (.cells 24 false [.int .i64 3, .int .i64 v, d, s, t, .int .i64 0, .int .i64 0, .int .i64 0]) := by rw [KN.get _ (by omega)]; exact g0
  have K00 := K0.trans KN
  obtain ⟨w1, W1, L1, c1, p1, C1, ⟨lc, lby⟩, K1, q1⟩ := ids_spec (hd.kp K00) (hs.kp K00) h2 h3 v (by omega) hv.2 m (by omega)
  have KA := K00.trans K1
  have hn1 := KN.next
  have hn2 := K1.next
  obtain ⟨v1, X1, b1, a1, B1, J1, r1⟩ := (BN.kp K1).appB C1.bs (by simp; omega)
  have KA1 : Kp H X1 := KoS.kp' KA J1 (by omega)
  have hb1 : H.next < b1 := by rcases r1 with h | h <;> omega
  have g1 : X1.get H.next = some (.cells 24 false [.int .i64 3, .int .i64 v, d, s, t, .int .i64 0, .int .i64 0, .int .i64 0]) := by
    rw [J1.get _ (by omega) (by simp; omega), K1.get _ (by simp; omega)]; exact g0'
  obtain ⟨v2, X2, b2, a2, B2, J2, r2⟩ := B1.appB (ht.kp KA1) (by simp; omega)
  have KB : Kp H X2 := KoS.kp' KA1 J2 (by omega)
  have hn3 := J1.next
  have hb2 : H.next < b2 := by rcases r2 with h | h <;> omega
  have by2 : By ([240] ++ L1 ++ T) := by
    intro x hx
    simp at hx
    rcases hx with rfl | h | h
    · omega
    · exact lby bD bS x h
    · exact bT x h
  have hne := eq_false (show ¬ (H.next = H0.next) by omega)
  obtain ⟨v3, X3, c3, p3, K3, R3⟩ := tag_ev (ho.kp KB) B2.bs bO by2 h9 (by simp; omega) 56 67 (.inl ⟨rfl, rfl⟩) m (by omega)
  have B3 := B2.kp K3
  obtain ⟨v4, X4, b4, p4, B4, K4, q4⟩ := B3.appB (tB_bs R3).1 (by simp [tagL, digestL_len]; omega)
  have KC : Kp H X4 := KoS.kp' (KB.trans K3) K4 (by omega)
  simp [Try.f9, tm0, hdG, hd.one, hs.one, ht.one, LD, LS, LT, LO, V, h1, e2, e3, e4, e5, e9, hH0, hne, g0, g0', p1, a1, g1, a2, p3, p4, spl, fillA, zerosA, ldVar, stVar]
  exact ⟨_, _, ⟨rfl, rfl⟩, KC, _, B4.bs⟩
end Go.Ev

/- FnPlainPackets: the first third: retry packets; the law. -/
namespace Go.Ev
open Go Go.Proofs
set_option linter.unusedSimpArgs false
set_option linter.unusedVariables false

theorem verL_ok {w : Int} (h : verB w = true) : 1 ≤ w ∧ w ≤ 4294967295 := by simpa [verB] using h
theorem retL_by {w : Int} {D S T O : List Int} (bD : By D) (bS : By S) (bT : By T) (lD : D.length ≤ 8) (lS : S.length ≤ 8) : By (retL w D S T O) := by
  rw [retL_eq]
  intro x hx
  simp only [List.mem_cons, List.mem_append] at hx
  rcases hx with rfl | h | h | h
  · omega
  · exact idsL_by bD bS lD lS x h
  · exact bT x h
  · exact (digestL_by _ _).take 8 x h
set_option maxRecDepth 20000 in
theorem lawPp {H : AH} {v e : AV} {l M : List Int} {bs bs2 : List Nat} (hR : (Ty.sl 5 (.int .u8)).R false H [v] l bs) (hR2 : (Ty.sl 5 (.int .u8)).R false H [e] M bs2) (s0 : (Ty.sl 5 (.int .u8)).sm l) (s1 : (Ty.sl 5 (.int .u8)).sm M) (m : Nat) (hm : 4000000 ≤ m) :
    ∃ H', ev Try.prog m 3 [v, e] H = some (.bool true, H') := by
  obtain ⟨m, rfl⟩ : ∃ k, m = k + 1 := ⟨m - 1, by omega⟩
  obtain ⟨hB, hby⟩ := tB_bs hR
  obtain ⟨hM, yM⟩ := tB_bs hR2
  have LV : ∀ h, lenA Try.prog 22 v h = some (.int .i64 l.length) := hB.len
  have LE : ∀ h, lenA Try.prog 22 e h = some (.int .i64 M.length) := hM.len
  by_cases c1 : 1048576 < l.length
  · have c1' := eq_true (show (1048576 : Int) < l.length by omega)
    rw [ev_M Try.func3 ok3 [] m _ H (by simp [Try.f3])]
    exact ⟨H, by simp [Try.f3, tm0, LV, c1']⟩
  have c1' := eq_false (show ¬ ((1048576 : Int) < l.length) by omega)
  by_cases c2 : 1048576 < M.length
  · have c2' := eq_true (show (1048576 : Int) < M.length by omega)
    rw [ev_M Try.func3 ok3 [] m _ H (by simp [Try.f3])]
    exact ⟨H, by simp [Try.f3, tm0, LV, LE, c1', c2']⟩
  have c2' := eq_false (show ¬ ((1048576 : Int) < M.length) by omega)
  have fin : ∀ {τ : Tm} {h : AH}, τ 0 = v → τ 1 = e → Kp H h → RetT (evAt Try.prog (ev Try.prog m) m 3 255 τ h) := fun t0 t1 K =>
    ppD t0 t1 (hR.kp K) hB.one (by omega) (hM.kp K) yM (by omega) m (by omega)
  obtain ⟨f, w, D, S, T, O, n, lw, p, r, o, q, h1, e1, I1, BO1, yO, lO, K1⟩ := DrawRetryPacket_ev hR hB.one (by omega) m (by omega)
  obtain ⟨d, s, t, b1, b2, b3, rfl, B1, B2, B3, -, -, -, kD, kS, kT, yD, yS, yT⟩ := I1
  have O1 := B1.bs.one
  have O2 := B2.bs.one
  have O3 := B3.bs.one
  have cl1 := B1.cl
  have cl2 := B2.cl
  have cl3 := B3.cl
  let CC : Blk := .cells 24 false [.int .i64 f, .int .i64 w, d, s, t, .int .i64 n, .int .i64 lw, .int .i64 p]
  let ZZ : Blk := .cells 24 false [.int .i64 0, .int .i64 0, .nilSlice, .nilSlice, .nilSlice, .int .i64 0, .int .i64 0, .int .i64 0]
  obtain ⟨P, hP⟩ : ∃ P : AH, P = (h1.push ZZ).set h1.next CC := ⟨_, rfl⟩
  have KP : Kp h1 P := by rw [hP]; exact ((Kp.refl h1).push _).set (Nat.le_refl _) _
  have gP : P.get h1.next = some CC := by rw [hP]; simp
  have nP : h1.next < P.next := by rw [hP]; simp
  have hP' := hP.symm
  by_cases ok : rpOK f w D S T n lw p O
  · have okk := ok
    obtain ⟨q0, q1, q2, q3, q4, q5, q6, q7, q8, q9⟩ := ok
    obtain ⟨w1, w5⟩ := verL_ok q1
    obtain ⟨r1, h2, br, e2, K2, BR⟩ := RetryPacketI_ok (B1.bs.kp KP) (B2.bs.kp KP) (B3.bs.kp KP) (BO1.kp KP) okk yD yS yT yO m (by omega)
    have g2 : h2.get h1.next = some CC := by rw [K2.get _ nP]; exact gP
    have n2 := K2.next
    obtain ⟨r2, h3, RX, e3, K3, R3⟩ := RetryPacketS_ok ((B1.bs.kp KP).kp K2) ((B2.bs.kp KP).kp K2) ((B3.bs.kp KP).kp K2) ((BO1.kp KP).kp K2) okk yD yS yT yO m (by omega)
    have n3 := K3.next
    have yR := retL_by (w := w) (O := O) yD yS yT q2 q3
    have lR := retL_len w D S T O
    obtain ⟨r3, h4, b4, e4, B4, qb4, K4⟩ := copiedB_ev (BR.bs.kp K3) (by omega) m (by omega)
    have n4 := K4.next
    have KX4 := ((KP.trans K2).trans K3).trans K4
    have rp := RetryI_ev B4.bs (BO1.kp KX4) yR yO m (by omega)
    rw [retP_ok w1 w5 q2 q3 q4 q5 q9] at rp
    obtain ⟨d', s', t', h5, e5, K5, a, b, u1, u2, u3, D', S', T'⟩ := rp
    have n5 := K5.next
    have g5 : h5.get h1.next = some CC := by rw [(K3.trans (K4.trans K5)).get _ (by omega)]; exact g2
    obtain ⟨P2, hP2⟩ : ∃ P2 : AH, P2 = (h5.push ZZ).set h5.next (.cells 24 false [.int .i64 3, .int .i64 w, d', s', t', .int .i64 0, .int .i64 0, .int .i64 0]) := ⟨_, rfl⟩
    have KP2 : Kp h5 P2 := by rw [hP2]; exact ((Kp.refl h5).push _).set (Nat.le_refl _) _
    have nP2 : P2.next = h5.next + 1 := by rw [hP2]; simp
    have hP2' := hP2.symm
    have gA : P2.get h5.next = some (.cells 24 false [.int .i64 3, .int .i64 w, d', s', t', .int .i64 0, .int .i64 0, .int .i64 0]) := by rw [hP2]; simp
    have gB : P2.get h1.next = some CC := by rw [KP2.get _ (by omega)]; exact g5
    have KX := KX4.trans (K5.trans KP2)
    have f1 := same_ev (D'.bs.kp KP2) (B1.bs.kp KX) yD yD m (by omega)
    have f2 := same_ev (S'.bs.kp KP2) (B2.bs.kp KX) yS yS m (by omega)
    have f3 := same_ev (T'.bs.kp KP2) (B3.bs.kp KX) yT yT m (by omega)
    rw [eqS_refl] at f1 f2 f3
    obtain ⟨o2, h6, b6, e6, B6, qb6, K6⟩ := copiedB_ev (BO1.kp KX) (by omega) m (by omega)
    obtain ⟨o3, h7, b7, e7, B7, K7, qb7⟩ := B6.app1 (x := 1) (by omega)
    have K67 : Kp P2 h7 := KoS.kp' K6 K7 (by omega)
    have yO1 : By (O ++ [1]) := by
      intro x hx
      simp only [List.mem_append, List.mem_singleton] at hx
      rcases hx with h | rfl
      · exact yO x h
      · omega
    have BR7 := (BR.bs.kp (K3.trans (K4.trans (K5.trans KP2)))).kp K67
    obtain ⟨d8, s8, t8, h8, e8, K8, a8, b8, v1, v2, v3, D8, S8, T8⟩ := RetryI_ev BR7 B7.bs yR yO1 m (by omega)
    generalize hRP : RetryP (retL w D S T O) (O ++ [1]) = RP at *
    obtain ⟨P4, hP4⟩ : ∃ P4 : AH, P4 = (h8.push ZZ).set h8.next (.cells 24 false [.int .i64 RP.f, .int .i64 RP.v, d8, s8, t8, .int .i64 0, .int .i64 0, .int .i64 0]) := ⟨_, rfl⟩
    have KP4 : Kp h8 P4 := by rw [hP4]; exact ((Kp.refl h8).push _).set (Nat.le_refl _) _
    have hP4' := hP4.symm
    obtain ⟨d9, s9, t9, h9, e9, K9, D9, S9, T9⟩ := RetryS_ev ((BR7.kp K8).kp KP4) ((B7.bs.kp K8).kp KP4) yR yO1 m (by omega)
    rw [hRP] at e9 D9 S9 T9
    obtain ⟨P5, hP5⟩ : ∃ P5 : AH, P5 = (h9.push ZZ).set h9.next (.cells 24 false [.int .i64 RP.f, .int .i64 RP.v, d9, s9, t9, .int .i64 0, .int .i64 0, .int .i64 0]) := ⟨_, rfl⟩
    have KP5 : Kp h9 P5 := by rw [hP5]; exact ((Kp.refl h9).push _).set (Nat.le_refl _) _
    have hP5' := hP5.symm
    have KF : Kp H P5 := (((((K1.trans KX).trans K67).trans K8).trans KP4).trans K9).trans KP5
    have x1 := D'.bs.one
    have x2 := S'.bs.one
    have x3 := T'.bs.one
    have x4 := D8.bs.one
    have x5 := S8.bs.one
    have x6 := T8.bs.one
    have x7 := D9.one
    have x8 := S9.one
    have x9 := T9.one
    simp only [hdG, hdr] at e1 e2 e3 e5 e8 e9
    simp only [CC, ZZ] at hP' gP g2 gA gB hP2' hP4' hP5'
    rw [ev_M Try.func3 ok3 [255] m _ H (by simp [Try.f3])]
    simp [Try.f3, tm0, LV, LE, c1', c2', e1, O1, O2, O3, cl1, cl2, cl3, hP', gP, e2, g2, e3, e4, e5, x1, x2, x3, hP2', gA, gB, f1, f2, f3, e6, e7, e8, x4, x5, x6, hP4', e9, x7, x8, x9, hP5', ldVar, stVar, fillA, zerosA, spl]
    generalize hE : evAt _ _ _ _ _ _ _ = R
    have hF : RetT R := by
      rw [← hE]
      refine fin ?_ ?_ KF <;> simp
    obtain ⟨τ', H', rfl, g4⟩ := hF
    exact ⟨H', by simp [g4]⟩
  · obtain ⟨r1, h2, e2, K2, R2⟩ := RetryPacketI_bad (B1.bs.kp KP) (B2.bs.kp KP) (B3.bs.kp KP) (BO1.kp KP) ok m (by omega)
    have g2 : h2.get h1.next = some CC := by rw [K2.get _ nP]; exact gP
    obtain ⟨r2, h3, e3, K3, R3⟩ := RetryPacketS_bad ((B1.bs.kp KP).kp K2) ((B2.bs.kp KP).kp K2) ((B3.bs.kp KP).kp K2) ((BO1.kp KP).kp K2) ok m (by omega)
    have KF : Kp H h3 := ((K1.trans KP).trans K2).trans K3
    simp only [hdG] at e1 e2 e3
    simp only [CC, ZZ] at hP' gP g2
    rw [ev_M Try.func3 ok3 [255] m _ H (by simp [Try.f3])]
    simp [Try.f3, tm0, LV, LE, c1', c2', e1, O1, O2, O3, cl1, cl2, cl3, hP', gP, e2, g2, e3, ldVar, stVar, fillA, zerosA, spl]
    generalize hE : evAt _ _ _ _ _ _ _ = R
    have hF : RetT R := by
      rw [← hE]
      refine fin ?_ ?_ KF <;> simp
    obtain ⟨τ', H', rfl, g4⟩ := hF
    exact ⟨H', by simp [g4]⟩
end Go.Ev

/- From what came in to the evaluator: a call's arguments. -/
namespace Go.Ev
open Go Go.RowKit
set_option linter.unusedSimpArgs false
set_option linter.unusedVariables false

section
variable {P : Program} {w : World} {Hd : Type} {enc : TypeId × Value → Hd} {held : Bool} {r : Reach} {base : Nat}

def HE : AH := { get := fun _ => none, next := 0 }
theorem rel_empty (P : Program) (w : World) : Rel P w HE (fun _ => none) w :=
  ⟨Below.refl _ _, fun _ _ => rfl, fun b x h => by simp [HE] at h, fun b x h => by simp [HE] at h, fun b x h => by simp [HE] at h⟩

/-- an argument: its abstract value, in the memory that its rows lie in -/
def ArgRes (P : Program) (w : World) (t : Ty) (v : Value) (H : AH) (μ : Mu) : Prop :=
  ∃ H' μ' a c d bs, Ext μ μ' ∧ Rel P w H' μ' w ∧ Kp H H' ∧ VR μ' a v ∧ t.R false H' c d bs ∧ t.sm d ∧ (a = .agg c ∨ c = [a])

theorem arg1 {T : TypeId} {t : Ty} {v : Value} {d : DataW Hd} {p : List MemPlace} {H : AH} {μ : Mu} (hf : Fits P T t) (h : DataW.Trod enc P w 0 (fun _ => true) held T v d p) (hR : Rel P w H μ w) (hv : v.cells.toList = [v]) :
    ∃ H' μ' a d bs, Ext μ μ' ∧ Rel P w H' μ' w ∧ Kp H H' ∧ VR μ' a v ∧ t.R false H' [a] d bs ∧ t.sm d := by
  obtain ⟨fuel, hf'⟩ := h
  rw [hv] at hf'
  obtain ⟨H', μ', c, d, bs, e, r1, k, hV, hr, hs⟩ := in_ty fuel hf hf' hR
  match c, hV with
  | [], hV => simp [VRs] at hV
  | [a], hV =>
    simp only [VRs] at hV
    obtain ⟨u, us, hu, hV, _⟩ := hV
    simp only [List.cons.injEq] at hu
    obtain ⟨rfl, _⟩ := hu
    exact ⟨H', μ', a, d, bs, e, r1, k, hV, hr, hs⟩
  | a :: b :: c, hV =>
    simp only [VRs] at hV
    obtain ⟨u, us, hu, hV, u2, us2, hu2, _⟩ := hV
    simp only [List.cons.injEq] at hu
    rw [hu2] at hu; simp at hu
theorem argSl {T e : TypeId} {t : Ty} {v : Value} {d : DataW Hd} {p : List MemPlace} {H : AH} {μ : Mu} (hf : Fits P T t) (hT : P.underlying T = some (.slice e)) (hval : Value.okWide P w r base T v) (h : DataW.Trod enc P w 0 (fun _ => true) held T v d p) (hR : Rel P w H μ w) :
    ∃ H' μ' a d bs, Ext μ μ' ∧ Rel P w H' μ' w ∧ Kp H H' ∧ VR μ' a v ∧ t.R false H' [a] d bs ∧ t.sm d := by
  obtain ⟨a, l, c, rfl⟩ := Go.WideShapes.okWide_slice hT hval
  exact arg1 hf h hR rfl
theorem argInt {T : TypeId} {k : IntKind} {t : Ty} {v : Value} {d : DataW Hd} {p : List MemPlace} {H : AH} {μ : Mu} (hf : Fits P T t) (hT : P.underlying T = some (.int k)) (hval : Value.okWide P w r base T v) (h : DataW.Trod enc P w 0 (fun _ => true) held T v d p) (hR : Rel P w H μ w) :
    ∃ H' μ' a d bs, Ext μ μ' ∧ Rel P w H' μ' w ∧ Kp H H' ∧ VR μ' a v ∧ t.R false H' [a] d bs ∧ t.sm d := by
  obtain ⟨n, rfl⟩ := Go.WideShapes.okWide_int hT hval
  exact arg1 hf h hR rfl
theorem argBool {T : TypeId} {t : Ty} {v : Value} {d : DataW Hd} {p : List MemPlace} {H : AH} {μ : Mu} (hf : Fits P T t) (hT : P.underlying T = some .bool) (hval : Value.okWide P w r base T v) (h : DataW.Trod enc P w 0 (fun _ => true) held T v d p) (hR : Rel P w H μ w) :
    ∃ H' μ' a d bs, Ext μ μ' ∧ Rel P w H' μ' w ∧ Kp H H' ∧ VR μ' a v ∧ t.R false H' [a] d bs ∧ t.sm d := by
  obtain ⟨n, rfl⟩ := Go.WideShapes.okWide_bool hT hval
  exact arg1 hf h hR rfl
theorem argStr {T : TypeId} {t : Ty} {v : Value} {d : DataW Hd} {p : List MemPlace} {H : AH} {μ : Mu} (hf : Fits P T t) (hT : P.underlying T = some .string) (hval : Value.okWide P w r base T v) (h : DataW.Trod enc P w 0 (fun _ => true) held T v d p) (hR : Rel P w H μ w) :
    ∃ H' μ' a d bs, Ext μ μ' ∧ Rel P w H' μ' w ∧ Kp H H' ∧ VR μ' a v ∧ t.R false H' [a] d bs ∧ t.sm d := by
  obtain ⟨n, rfl⟩ := Go.WideShapes.okWide_string hT hval
  exact arg1 hf h hR rfl
/-- a struct by value -/
theorem argAgg {T : TypeId} {fs : Array Field} {t : Ty} {v : Value} {d : DataW Hd} {p : List MemPlace} {H : AH} {μ : Mu} (hf : Fits P T t) (hT : P.underlying T = some (.struct fs)) (hval : Value.okWide P w r base T v) (h : DataW.Trod enc P w 0 (fun _ => true) held T v d p) (hR : Rel P w H μ w) :
    ∃ H' μ' c d bs, Ext μ μ' ∧ Rel P w H' μ' w ∧ Kp H H' ∧ VR μ' (.agg c) v ∧ t.R false H' c d bs ∧ t.sm d := by
  obtain ⟨cs, rfl, _⟩ := Go.WideShapes.okWide_struct hT hval
  obtain ⟨fuel, hf'⟩ := h
  obtain ⟨H', μ', c, d, bs, e, r1, k, hV, hr, hs⟩ := in_ty fuel hf hf' hR
  exact ⟨H', μ', c, d, bs, e, r1, k, by simp only [VR]; exact ⟨cs, rfl, hV⟩, hr, hs⟩

theorem law_run2 (hm : P.follows .mixedOrders = true) {H : AH} {μ : Mu} {n : Nat} {f : FuncId} {args : List AV} {vs : Array Value} {H' : AH} (hR : Rel P w H μ w)
    (h : ev P n f args H = some (.bool true, H')) (hv : VRs μ args vs.toList) :
    Calls P f vs w fun e w' => e = .returned (.bool true) ∧ Below w.heap.size w w' := by
  refine (ev_sound hm n f args H (.bool true) H' μ w vs h hR hv).2.mono ?_
  rintro e w' ⟨v, μ', rfl, hx, hR, hv⟩
  simp only [VR] at hv
  subst hv
  exact ⟨rfl, hR.below⟩
end
end Go.Ev
