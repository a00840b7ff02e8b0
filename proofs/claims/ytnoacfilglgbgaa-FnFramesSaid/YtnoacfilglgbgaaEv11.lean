/- Lemmas of an evaluator of the given code and of what the functions answer; no condition of its own. -/
import Derived.Test.YtnoacfilglgbgaaEv10
import Derived.Test.YtnoacfilglgbgaaEv7
/- Whether a frame is right, in the program: the whole. -/
namespace Go.Ev
open Go Go.Proofs
set_option linter.unusedSimpArgs false
set_option linter.unusedVariables false

def shP (s : Shp) (a b : Int) (fin : Bool) (dl tl rl : Nat) : Prop :=
  (s.1 = true ∨ a = 0) ∧ (s.2.1 = true ∨ b = 0) ∧ (s.2.2.1 = true ∨ fin = false) ∧ (s.2.2.2.1 = true ∨ dl = 0) ∧ (s.2.2.2.2.1 = true ∨ tl = 0) ∧ (s.2.2.2.2.2 = true ∨ rl = 0)
theorem fi1 {k a b c : Int} {fin : Bool} {d t r : AV} {dl tl rl : Nat} {A B : Nat} {H : AH} (hk : kindIn k)
    (hA : H.get A = some (.cells 72 false (frC k a b c fin d t r))) (hB : H.get B = some (.cells 197 false (shL ((shapeL.lookup k).getD shN)))) (m : Nat)
    (hd : ∀ h, lenA Try.prog 34 d h = some (.int .i64 dl)) (ht : ∀ h, lenA Try.prog 34 t h = some (.int .i64 tl)) (hr : ∀ h, lenA Try.prog 70 r h = some (.int .i64 rl)) (τ : Tm) (T : FiT τ A B) :
    ∃ τ', (shP ((shapeL.lookup k).getD shN) a b fin dl tl rl ∧ evAt Try.prog (ev Try.prog m) m 50 15 τ H = evAt Try.prog (ev Try.prog m) m 50 31 τ' H ∧ FiT τ' A B) ∨
      (¬ shP ((shapeL.lookup k).getD shN) a b fin dl tl rl ∧ evAt Try.prog (ev Try.prog m) m 50 15 τ H = some (.ret, τ', H) ∧ τ' 2 = .bool false) := by
  simp only [kindIn] at hk
  rcases hk with rfl | rfl | rfl | rfl | rfl | rfl | rfl | rfl | rfl | rfl | rfl | rfl | rfl | rfl | rfl | rfl | rfl | rfl | rfl | rfl | rfl | rfl
  · obtain ⟨τ', g⟩ := fi1_0 hA hB m (by decide) hd ht hr τ T
    refine ⟨τ', ?_⟩
    simpa [shP, shapeL, List.lookup_cons] using g
  · obtain ⟨τ', g⟩ := fi1_1 hA hB m (by decide) hd ht hr τ T
    refine ⟨τ', ?_⟩
    simpa [shP, shapeL, List.lookup_cons] using g
  · obtain ⟨τ', g⟩ := fi1_2 hA hB m (by decide) hd ht hr τ T
    refine ⟨τ', ?_⟩
    simpa [shP, shapeL, List.lookup_cons] using g
  · obtain ⟨τ', g⟩ := fi1_3 hA hB m trivial hd ht hr τ T
    refine ⟨τ', ?_⟩
    simpa [shP, shapeL, List.lookup_cons] using g
  · obtain ⟨τ', g⟩ := fi1_3 hA hB m trivial hd ht hr τ T
    refine ⟨τ', ?_⟩
    simpa [shP, shapeL, List.lookup_cons] using g
  · obtain ⟨τ', g⟩ := fi1_4 hA hB m (by decide) hd ht hr τ T
    refine ⟨τ', ?_⟩
    simpa [shP, shapeL, List.lookup_cons] using g
  · obtain ⟨τ', g⟩ := fi1_5 hA hB m (by decide) hd ht hr τ T
    refine ⟨τ', ?_⟩
    simpa [shP, shapeL, List.lookup_cons] using g
  · obtain ⟨τ', g⟩ := fi1_6 hA hB m trivial hd ht hr τ T
    refine ⟨τ', ?_⟩
    simpa [shP, shapeL, List.lookup_cons] using g
  · obtain ⟨τ', g⟩ := fi1_0 hA hB m (by decide) hd ht hr τ T
    refine ⟨τ', ?_⟩
    simpa [shP, shapeL, List.lookup_cons] using g
  · obtain ⟨τ', g⟩ := fi1_3 hA hB m trivial hd ht hr τ T
    refine ⟨τ', ?_⟩
    simpa [shP, shapeL, List.lookup_cons] using g
  · obtain ⟨τ', g⟩ := fi1_3 hA hB m trivial hd ht hr τ T
    refine ⟨τ', ?_⟩
    simpa [shP, shapeL, List.lookup_cons] using g
  · obtain ⟨τ', g⟩ := fi1_0 hA hB m (by decide) hd ht hr τ T
    refine ⟨τ', ?_⟩
    simpa [shP, shapeL, List.lookup_cons] using g
  · obtain ⟨τ', g⟩ := fi1_3 hA hB m trivial hd ht hr τ T
    refine ⟨τ', ?_⟩
    simpa [shP, shapeL, List.lookup_cons] using g
  · obtain ⟨τ', g⟩ := fi1_3 hA hB m trivial hd ht hr τ T
    refine ⟨τ', ?_⟩
    simpa [shP, shapeL, List.lookup_cons] using g
  · obtain ⟨τ', g⟩ := fi1_7 hA hB m trivial hd ht hr τ T
    refine ⟨τ', ?_⟩
    simpa [shP, shapeL, List.lookup_cons] using g
  · obtain ⟨τ', g⟩ := fi1_0 hA hB m (by decide) hd ht hr τ T
    refine ⟨τ', ?_⟩
    simpa [shP, shapeL, List.lookup_cons] using g
  · obtain ⟨τ', g⟩ := fi1_5 hA hB m (by decide) hd ht hr τ T
    refine ⟨τ', ?_⟩
    simpa [shP, shapeL, List.lookup_cons] using g
  · obtain ⟨τ', g⟩ := fi1_5 hA hB m (by decide) hd ht hr τ T
    refine ⟨τ', ?_⟩
    simpa [shP, shapeL, List.lookup_cons] using g
  · obtain ⟨τ', g⟩ := fi1_8 hA hB m trivial hd ht hr τ T
    refine ⟨τ', ?_⟩
    simpa [shP, shapeL, List.lookup_cons] using g
  · obtain ⟨τ', g⟩ := fi1_4 hA hB m (by decide) hd ht hr τ T
    refine ⟨τ', ?_⟩
    simpa [shP, shapeL, List.lookup_cons] using g
  · obtain ⟨τ', g⟩ := fi1_1 hA hB m (by decide) hd ht hr τ T
    refine ⟨τ', ?_⟩
    simpa [shP, shapeL, List.lookup_cons] using g
  · obtain ⟨τ', g⟩ := fi1_5 hA hB m (by decide) hd ht hr τ T
    refine ⟨τ', ?_⟩
    simpa [shP, shapeL, List.lookup_cons] using g
theorem fiF_2 {a b c : Int} {fin : Bool} {d t r : AV} {dl : Nat} {rs : List (Int × Int)} {A : Nat} {H H2 : AH}
    (hA : H.get A = some (.cells 72 false (frC 2 a b c fin d t r))) (m : Nat) (τ : Tm) (S : FiS τ A 2 dl) (hr : ∀ h, lenA Try.prog 70 r h = some (.int .i64 rs.length))
    (c4 : ev Try.prog m 139 [r] H = some (.bool (decide (rgOK rs)), H2)) (hK : Kp H H2) :
    ∃ τ' H', Kp H H' ∧ evAt Try.prog (ev Try.prog m) m 50 4075 τ H = some (.ret, τ', H') ∧ τ' 2 = .bool (decide (0 < rs.length ∧ rgOK rs)) := by
  obtain ⟨t1, t5, tk⟩ := S
  simp only [frC] at hA
  rw [at_M Try.func50 4075 (by decide) 12 (by decide) (by kernel_rfl) [16303]]
  by_cases q0 : 0 < rs.length
  · exact ⟨_, _, hK, by simp [Try.f50, t1, t5, tk, hA, ldVar, hr, q0, c4]; rfl, by simp [q0]⟩
  · have q0' : (0 < rs.length) = False := eq_false q0
    exact ⟨_, _, Kp.refl H, by simp [Try.f50, t1, t5, tk, hA, ldVar, hr, q0']; rfl, by simp [q0']⟩
def frY (k a b : Int) (dl tl : Nat) (rs : List (Int × Int)) : Prop :=
  if k = 0 then 1 ≤ a ∧ a ≤ 1500 else if k = 2 then 0 < rs.length ∧ rgOK rs else if k = 6 then (dl : Int) ≤ 1500 ∧ a ≤ 4611686018427387903 - dl else if k = 7 then 1 ≤ (dl : Int) ∧ (dl : Int) ≤ 64
  else if k = 8 then (dl : Int) ≤ 1500 ∧ b ≤ 4611686018427387903 - dl else if k = 18 ∨ k = 22 then a ≤ 1152921504606846976 ∧ b ≤ 1 else if k = 24 then b ≤ a ∧ 1 ≤ (dl : Int) ∧ (dl : Int) ≤ 8 ∧ (tl : Int) = 8
  else if k = 26 ∨ k = 27 then (dl : Int) = 8 else if k = 28 ∨ k = 29 then (dl : Int) ≤ 200 else if k = 48 then (dl : Int) ≤ 1500 else True
noncomputable instance (k a b : Int) (dl tl : Nat) (rs : List (Int × Int)) : Decidable (frY k a b dl tl rs) := Classical.propDecidable _
theorem fiY {k a b c : Int} {fin : Bool} {d t r : AV} {dl tl : Nat} {rs : List (Int × Int)} {A : Nat} {H H2 : AH} (hk : kindIn k)
    (hA : H.get A = some (.cells 72 false (frC k a b c fin d t r))) (m : Nat) (τ : Tm) (S : FiS τ A k dl) (hl : dl ≤ 1048576) (ht : ∀ h, lenA Try.prog 34 t h = some (.int .i64 tl)) (hr : ∀ h, lenA Try.prog 70 r h = some (.int .i64 rs.length))
    (c4 : ev Try.prog m 139 [r] H = some (.bool (decide (rgOK rs)), H2)) (hK : Kp H H2) :
    ∃ e τ' H', Kp H H' ∧ evAt Try.prog (ev Try.prog m) m 50 1018 τ H = some (e, τ', H') ∧ ((e = .ret ∧ τ' 2 = .bool (decide (frY k a b dl tl rs))) ∨ (e = .normal ∧ frY k a b dl tl rs)) := by
  simp only [kindIn] at hk
  rcases hk with rfl | rfl | rfl | rfl | rfl | rfl | rfl | rfl | rfl | rfl | rfl | rfl | rfl | rfl | rfl | rfl | rfl | rfl | rfl | rfl | rfl | rfl
  · obtain ⟨τ', e, g⟩ := fiF_0 hA m τ S hl
    exact ⟨_, τ', H, Kp.refl H, by rw [e], .inl ⟨rfl, by simpa [frY] using g⟩⟩
  · obtain ⟨τ1, e1, S1⟩ := fiS_1018 1 (by decide) m τ H S
    obtain ⟨τ2, e2, S2⟩ := fiS_4075 1 (by decide) m τ1 H S1
    obtain ⟨τ3, e3, S3⟩ := fiS_16303 1 (by decide) m τ2 H S2
    obtain ⟨τ4, e4, S4⟩ := fiS_65215 1 (by decide) m τ3 H S3
    obtain ⟨τ5, e5, S5⟩ := fiS_260863 1 (by decide) m τ4 H S4
    obtain ⟨τ6, e6, S6⟩ := fiS_1043455 1 (by decide) (by decide) m τ5 H S5
    obtain ⟨τ7, e7, S7⟩ := fiS_4173823 1 (by decide) m τ6 H S6
    obtain ⟨τ8, e8, S8⟩ := fiS_16695295 1 (by decide) (by decide) m τ7 H S7
    obtain ⟨τ9, e9, S9⟩ := fiS_66781183 1 (by decide) (by decide) m τ8 H S8
    obtain ⟨τ', e⟩ := fiE 1 (by decide) m τ9 H S9
    exact ⟨_, τ', H, Kp.refl H, by rw [e1, e2, e3, e4, e5, e6, e7, e8, e9, e], .inr ⟨rfl, by simp [frY]⟩⟩
  · obtain ⟨τ1, e1, S1⟩ := fiS_1018 2 (by decide) m τ H S
    obtain ⟨τ', H', kk, e, g⟩ := fiF_2 hA m τ1 S1 hr c4 hK
    exact ⟨_, τ', H', kk, by rw [e1, e], .inl ⟨rfl, by simpa [frY] using g⟩⟩
  · obtain ⟨τ1, e1, S1⟩ := fiS_1018 4 (by decide) m τ H S
    obtain ⟨τ2, e2, S2⟩ := fiS_4075 4 (by decide) m τ1 H S1
    obtain ⟨τ3, e3, S3⟩ := fiS_16303 4 (by decide) m τ2 H S2
    obtain ⟨τ4, e4, S4⟩ := fiS_65215 4 (by decide) m τ3 H S3
    obtain ⟨τ5, e5, S5⟩ := fiS_260863 4 (by decide) m τ4 H S4
    obtain ⟨τ6, e6, S6⟩ := fiS_1043455 4 (by decide) (by decide) m τ5 H S5
    obtain ⟨τ7, e7, S7⟩ := fiS_4173823 4 (by decide) m τ6 H S6
    obtain ⟨τ8, e8, S8⟩ := fiS_16695295 4 (by decide) (by decide) m τ7 H S7
    obtain ⟨τ9, e9, S9⟩ := fiS_66781183 4 (by decide) (by decide) m τ8 H S8
    obtain ⟨τ', e⟩ := fiE 4 (by decide) m τ9 H S9
    exact ⟨_, τ', H, Kp.refl H, by rw [e1, e2, e3, e4, e5, e6, e7, e8, e9, e], .inr ⟨rfl, by simp [frY]⟩⟩
  · obtain ⟨τ1, e1, S1⟩ := fiS_1018 5 (by decide) m τ H S
    obtain ⟨τ2, e2, S2⟩ := fiS_4075 5 (by decide) m τ1 H S1
    obtain ⟨τ3, e3, S3⟩ := fiS_16303 5 (by decide) m τ2 H S2
    obtain ⟨τ4, e4, S4⟩ := fiS_65215 5 (by decide) m τ3 H S3
    obtain ⟨τ5, e5, S5⟩ := fiS_260863 5 (by decide) m τ4 H S4
    obtain ⟨τ6, e6, S6⟩ := fiS_1043455 5 (by decide) (by decide) m τ5 H S5
    obtain ⟨τ7, e7, S7⟩ := fiS_4173823 5 (by decide) m τ6 H S6
    obtain ⟨τ8, e8, S8⟩ := fiS_16695295 5 (by decide) (by decide) m τ7 H S7
    obtain ⟨τ9, e9, S9⟩ := fiS_66781183 5 (by decide) (by decide) m τ8 H S8
    obtain ⟨τ', e⟩ := fiE 5 (by decide) m τ9 H S9
    exact ⟨_, τ', H, Kp.refl H, by rw [e1, e2, e3, e4, e5, e6, e7, e8, e9, e], .inr ⟨rfl, by simp [frY]⟩⟩
  · obtain ⟨τ1, e1, S1⟩ := fiS_1018 6 (by decide) m τ H S
    obtain ⟨τ2, e2, S2⟩ := fiS_4075 6 (by decide) m τ1 H S1
    obtain ⟨τ', e, g⟩ := fiF_6 hA m τ2 S2 hl
    exact ⟨_, τ', H, Kp.refl H, by rw [e1, e2, e], .inl ⟨rfl, by simpa [frY] using g⟩⟩
  · obtain ⟨τ1, e1, S1⟩ := fiS_1018 7 (by decide) m τ H S
    obtain ⟨τ2, e2, S2⟩ := fiS_4075 7 (by decide) m τ1 H S1
    obtain ⟨τ3, e3, S3⟩ := fiS_16303 7 (by decide) m τ2 H S2
    obtain ⟨τ', e, g⟩ := fiF_7 hA m τ3 S3 hl
    exact ⟨_, τ', H, Kp.refl H, by rw [e1, e2, e3, e], .inl ⟨rfl, by simpa [frY] using g⟩⟩
  · obtain ⟨τ1, e1, S1⟩ := fiS_1018 8 (by decide) m τ H S
    obtain ⟨τ2, e2, S2⟩ := fiS_4075 8 (by decide) m τ1 H S1
    obtain ⟨τ3, e3, S3⟩ := fiS_16303 8 (by decide) m τ2 H S2
    obtain ⟨τ4, e4, S4⟩ := fiS_65215 8 (by decide) m τ3 H S3
    obtain ⟨τ', e, g⟩ := fiF_8 hA m τ4 S4 hl
    exact ⟨_, τ', H, Kp.refl H, by rw [e1, e2, e3, e4, e], .inl ⟨rfl, by simpa [frY] using g⟩⟩
  · obtain ⟨τ1, e1, S1⟩ := fiS_1018 16 (by decide) m τ H S
    obtain ⟨τ2, e2, S2⟩ := fiS_4075 16 (by decide) m τ1 H S1
    obtain ⟨τ3, e3, S3⟩ := fiS_16303 16 (by decide) m τ2 H S2
    obtain ⟨τ4, e4, S4⟩ := fiS_65215 16 (by decide) m τ3 H S3
    obtain ⟨τ5, e5, S5⟩ := fiS_260863 16 (by decide) m τ4 H S4
    obtain ⟨τ6, e6, S6⟩ := fiS_1043455 16 (by decide) (by decide) m τ5 H S5
    obtain ⟨τ7, e7, S7⟩ := fiS_4173823 16 (by decide) m τ6 H S6
    obtain ⟨τ8, e8, S8⟩ := fiS_16695295 16 (by decide) (by decide) m τ7 H S7
    obtain ⟨τ9, e9, S9⟩ := fiS_66781183 16 (by decide) (by decide) m τ8 H S8
    obtain ⟨τ', e⟩ := fiE 16 (by decide) m τ9 H S9
    exact ⟨_, τ', H, Kp.refl H, by rw [e1, e2, e3, e4, e5, e6, e7, e8, e9, e], .inr ⟨rfl, by simp [frY]⟩⟩
  · obtain ⟨τ1, e1, S1⟩ := fiS_1018 17 (by decide) m τ H S
    obtain ⟨τ2, e2, S2⟩ := fiS_4075 17 (by decide) m τ1 H S1
    obtain ⟨τ3, e3, S3⟩ := fiS_16303 17 (by decide) m τ2 H S2
    obtain ⟨τ4, e4, S4⟩ := fiS_65215 17 (by decide) m τ3 H S3
    obtain ⟨τ5, e5, S5⟩ := fiS_260863 17 (by decide) m τ4 H S4
    obtain ⟨τ6, e6, S6⟩ := fiS_1043455 17 (by decide) (by decide) m τ5 H S5
    obtain ⟨τ7, e7, S7⟩ := fiS_4173823 17 (by decide) m τ6 H S6
    obtain ⟨τ8, e8, S8⟩ := fiS_16695295 17 (by decide) (by decide) m τ7 H S7
    obtain ⟨τ9, e9, S9⟩ := fiS_66781183 17 (by decide) (by decide) m τ8 H S8
    obtain ⟨τ', e⟩ := fiE 17 (by decide) m τ9 H S9
    exact ⟨_, τ', H, Kp.refl H, by rw [e1, e2, e3, e4, e5, e6, e7, e8, e9, e], .inr ⟨rfl, by simp [frY]⟩⟩
  · obtain ⟨τ1, e1, S1⟩ := fiS_1018 18 (by decide) m τ H S
    obtain ⟨τ2, e2, S2⟩ := fiS_4075 18 (by decide) m τ1 H S1
    obtain ⟨τ3, e3, S3⟩ := fiS_16303 18 (by decide) m τ2 H S2
    obtain ⟨τ4, e4, S4⟩ := fiS_65215 18 (by decide) m τ3 H S3
    obtain ⟨τ5, e5, S5⟩ := fiS_260863 18 (by decide) m τ4 H S4
    obtain ⟨τ', e, g⟩ := fiF_18 hA m τ5 S5 hl
    exact ⟨_, τ', H, Kp.refl H, by rw [e1, e2, e3, e4, e5, e], .inl ⟨rfl, by simpa [frY] using g⟩⟩
  · obtain ⟨τ1, e1, S1⟩ := fiS_1018 20 (by decide) m τ H S
    obtain ⟨τ2, e2, S2⟩ := fiS_4075 20 (by decide) m τ1 H S1
    obtain ⟨τ3, e3, S3⟩ := fiS_16303 20 (by decide) m τ2 H S2
    obtain ⟨τ4, e4, S4⟩ := fiS_65215 20 (by decide) m τ3 H S3
    obtain ⟨τ5, e5, S5⟩ := fiS_260863 20 (by decide) m τ4 H S4
    obtain ⟨τ6, e6, S6⟩ := fiS_1043455 20 (by decide) (by decide) m τ5 H S5
    obtain ⟨τ7, e7, S7⟩ := fiS_4173823 20 (by decide) m τ6 H S6
    obtain ⟨τ8, e8, S8⟩ := fiS_16695295 20 (by decide) (by decide) m τ7 H S7
    obtain ⟨τ9, e9, S9⟩ := fiS_66781183 20 (by decide) (by decide) m τ8 H S8
    obtain ⟨τ', e⟩ := fiE 20 (by decide) m τ9 H S9
    exact ⟨_, τ', H, Kp.refl H, by rw [e1, e2, e3, e4, e5, e6, e7, e8, e9, e], .inr ⟨rfl, by simp [frY]⟩⟩
  · obtain ⟨τ1, e1, S1⟩ := fiS_1018 21 (by decide) m τ H S
    obtain ⟨τ2, e2, S2⟩ := fiS_4075 21 (by decide) m τ1 H S1
    obtain ⟨τ3, e3, S3⟩ := fiS_16303 21 (by decide) m τ2 H S2
    obtain ⟨τ4, e4, S4⟩ := fiS_65215 21 (by decide) m τ3 H S3
    obtain ⟨τ5, e5, S5⟩ := fiS_260863 21 (by decide) m τ4 H S4
    obtain ⟨τ6, e6, S6⟩ := fiS_1043455 21 (by decide) (by decide) m τ5 H S5
    obtain ⟨τ7, e7, S7⟩ := fiS_4173823 21 (by decide) m τ6 H S6
    obtain ⟨τ8, e8, S8⟩ := fiS_16695295 21 (by decide) (by decide) m τ7 H S7
    obtain ⟨τ9, e9, S9⟩ := fiS_66781183 21 (by decide) (by decide) m τ8 H S8
    obtain ⟨τ', e⟩ := fiE 21 (by decide) m τ9 H S9
    exact ⟨_, τ', H, Kp.refl H, by rw [e1, e2, e3, e4, e5, e6, e7, e8, e9, e], .inr ⟨rfl, by simp [frY]⟩⟩
  · obtain ⟨τ1, e1, S1⟩ := fiS_1018 22 (by decide) m τ H S
    obtain ⟨τ2, e2, S2⟩ := fiS_4075 22 (by decide) m τ1 H S1
    obtain ⟨τ3, e3, S3⟩ := fiS_16303 22 (by decide) m τ2 H S2
    obtain ⟨τ4, e4, S4⟩ := fiS_65215 22 (by decide) m τ3 H S3
    obtain ⟨τ5, e5, S5⟩ := fiS_260863 22 (by decide) m τ4 H S4
    obtain ⟨τ', e, g⟩ := fiF_22 hA m τ5 S5 hl
    exact ⟨_, τ', H, Kp.refl H, by rw [e1, e2, e3, e4, e5, e], .inl ⟨rfl, by simpa [frY] using g⟩⟩
  · obtain ⟨τ1, e1, S1⟩ := fiS_1018 24 (by decide) m τ H S
    obtain ⟨τ2, e2, S2⟩ := fiS_4075 24 (by decide) m τ1 H S1
    obtain ⟨τ3, e3, S3⟩ := fiS_16303 24 (by decide) m τ2 H S2
    obtain ⟨τ4, e4, S4⟩ := fiS_65215 24 (by decide) m τ3 H S3
    obtain ⟨τ5, e5, S5⟩ := fiS_260863 24 (by decide) m τ4 H S4
    obtain ⟨τ6, e6, S6⟩ := fiS_1043455 24 (by decide) (by decide) m τ5 H S5
    obtain ⟨τ', e, g⟩ := fiF_24 ht hA m τ6 S6 hl
    exact ⟨_, τ', H, Kp.refl H, by rw [e1, e2, e3, e4, e5, e6, e], .inl ⟨rfl, by simpa [frY] using g⟩⟩
  · obtain ⟨τ1, e1, S1⟩ := fiS_1018 25 (by decide) m τ H S
    obtain ⟨τ2, e2, S2⟩ := fiS_4075 25 (by decide) m τ1 H S1
    obtain ⟨τ3, e3, S3⟩ := fiS_16303 25 (by decide) m τ2 H S2
    obtain ⟨τ4, e4, S4⟩ := fiS_65215 25 (by decide) m τ3 H S3
    obtain ⟨τ5, e5, S5⟩ := fiS_260863 25 (by decide) m τ4 H S4
    obtain ⟨τ6, e6, S6⟩ := fiS_1043455 25 (by decide) (by decide) m τ5 H S5
    obtain ⟨τ7, e7, S7⟩ := fiS_4173823 25 (by decide) m τ6 H S6
    obtain ⟨τ8, e8, S8⟩ := fiS_16695295 25 (by decide) (by decide) m τ7 H S7
    obtain ⟨τ9, e9, S9⟩ := fiS_66781183 25 (by decide) (by decide) m τ8 H S8
    obtain ⟨τ', e⟩ := fiE 25 (by decide) m τ9 H S9
    exact ⟨_, τ', H, Kp.refl H, by rw [e1, e2, e3, e4, e5, e6, e7, e8, e9, e], .inr ⟨rfl, by simp [frY]⟩⟩
  · obtain ⟨τ1, e1, S1⟩ := fiS_1018 26 (by decide) m τ H S
    obtain ⟨τ2, e2, S2⟩ := fiS_4075 26 (by decide) m τ1 H S1
    obtain ⟨τ3, e3, S3⟩ := fiS_16303 26 (by decide) m τ2 H S2
    obtain ⟨τ4, e4, S4⟩ := fiS_65215 26 (by decide) m τ3 H S3
    obtain ⟨τ5, e5, S5⟩ := fiS_260863 26 (by decide) m τ4 H S4
    obtain ⟨τ6, e6, S6⟩ := fiS_1043455 26 (by decide) (by decide) m τ5 H S5
    obtain ⟨τ7, e7, S7⟩ := fiS_4173823 26 (by decide) m τ6 H S6
    obtain ⟨τ', e, g⟩ := fiF_26 hA m τ7 S7 hl
    exact ⟨_, τ', H, Kp.refl H, by rw [e1, e2, e3, e4, e5, e6, e7, e], .inl ⟨rfl, by simpa [frY] using g⟩⟩
  · obtain ⟨τ1, e1, S1⟩ := fiS_1018 27 (by decide) m τ H S
    obtain ⟨τ2, e2, S2⟩ := fiS_4075 27 (by decide) m τ1 H S1
    obtain ⟨τ3, e3, S3⟩ := fiS_16303 27 (by decide) m τ2 H S2
    obtain ⟨τ4, e4, S4⟩ := fiS_65215 27 (by decide) m τ3 H S3
    obtain ⟨τ5, e5, S5⟩ := fiS_260863 27 (by decide) m τ4 H S4
    obtain ⟨τ6, e6, S6⟩ := fiS_1043455 27 (by decide) (by decide) m τ5 H S5
    obtain ⟨τ7, e7, S7⟩ := fiS_4173823 27 (by decide) m τ6 H S6
    obtain ⟨τ', e, g⟩ := fiF_27 hA m τ7 S7 hl
    exact ⟨_, τ', H, Kp.refl H, by rw [e1, e2, e3, e4, e5, e6, e7, e], .inl ⟨rfl, by simpa [frY] using g⟩⟩
  · obtain ⟨τ1, e1, S1⟩ := fiS_1018 28 (by decide) m τ H S
    obtain ⟨τ2, e2, S2⟩ := fiS_4075 28 (by decide) m τ1 H S1
    obtain ⟨τ3, e3, S3⟩ := fiS_16303 28 (by decide) m τ2 H S2
    obtain ⟨τ4, e4, S4⟩ := fiS_65215 28 (by decide) m τ3 H S3
    obtain ⟨τ5, e5, S5⟩ := fiS_260863 28 (by decide) m τ4 H S4
    obtain ⟨τ6, e6, S6⟩ := fiS_1043455 28 (by decide) (by decide) m τ5 H S5
    obtain ⟨τ7, e7, S7⟩ := fiS_4173823 28 (by decide) m τ6 H S6
    obtain ⟨τ8, e8, S8⟩ := fiS_16695295 28 (by decide) (by decide) m τ7 H S7
    obtain ⟨τ', e, g⟩ := fiF_28 hA m τ8 S8 hl
    exact ⟨_, τ', H, Kp.refl H, by rw [e1, e2, e3, e4, e5, e6, e7, e8, e], .inl ⟨rfl, by simpa [frY] using g⟩⟩
  · obtain ⟨τ1, e1, S1⟩ := fiS_1018 29 (by decide) m τ H S
    obtain ⟨τ2, e2, S2⟩ := fiS_4075 29 (by decide) m τ1 H S1
    obtain ⟨τ3, e3, S3⟩ := fiS_16303 29 (by decide) m τ2 H S2
    obtain ⟨τ4, e4, S4⟩ := fiS_65215 29 (by decide) m τ3 H S3
    obtain ⟨τ5, e5, S5⟩ := fiS_260863 29 (by decide) m τ4 H S4
    obtain ⟨τ6, e6, S6⟩ := fiS_1043455 29 (by decide) (by decide) m τ5 H S5
    obtain ⟨τ7, e7, S7⟩ := fiS_4173823 29 (by decide) m τ6 H S6
    obtain ⟨τ8, e8, S8⟩ := fiS_16695295 29 (by decide) (by decide) m τ7 H S7
    obtain ⟨τ', e, g⟩ := fiF_29 hA m τ8 S8 hl
    exact ⟨_, τ', H, Kp.refl H, by rw [e1, e2, e3, e4, e5, e6, e7, e8, e], .inl ⟨rfl, by simpa [frY] using g⟩⟩
  · obtain ⟨τ1, e1, S1⟩ := fiS_1018 30 (by decide) m τ H S
    obtain ⟨τ2, e2, S2⟩ := fiS_4075 30 (by decide) m τ1 H S1
    obtain ⟨τ3, e3, S3⟩ := fiS_16303 30 (by decide) m τ2 H S2
    obtain ⟨τ4, e4, S4⟩ := fiS_65215 30 (by decide) m τ3 H S3
    obtain ⟨τ5, e5, S5⟩ := fiS_260863 30 (by decide) m τ4 H S4
    obtain ⟨τ6, e6, S6⟩ := fiS_1043455 30 (by decide) (by decide) m τ5 H S5
    obtain ⟨τ7, e7, S7⟩ := fiS_4173823 30 (by decide) m τ6 H S6
    obtain ⟨τ8, e8, S8⟩ := fiS_16695295 30 (by decide) (by decide) m τ7 H S7
    obtain ⟨τ9, e9, S9⟩ := fiS_66781183 30 (by decide) (by decide) m τ8 H S8
    obtain ⟨τ', e⟩ := fiE 30 (by decide) m τ9 H S9
    exact ⟨_, τ', H, Kp.refl H, by rw [e1, e2, e3, e4, e5, e6, e7, e8, e9, e], .inr ⟨rfl, by simp [frY]⟩⟩
  · obtain ⟨τ1, e1, S1⟩ := fiS_1018 48 (by decide) m τ H S
    obtain ⟨τ2, e2, S2⟩ := fiS_4075 48 (by decide) m τ1 H S1
    obtain ⟨τ3, e3, S3⟩ := fiS_16303 48 (by decide) m τ2 H S2
    obtain ⟨τ4, e4, S4⟩ := fiS_65215 48 (by decide) m τ3 H S3
    obtain ⟨τ5, e5, S5⟩ := fiS_260863 48 (by decide) m τ4 H S4
    obtain ⟨τ6, e6, S6⟩ := fiS_1043455 48 (by decide) (by decide) m τ5 H S5
    obtain ⟨τ7, e7, S7⟩ := fiS_4173823 48 (by decide) m τ6 H S6
    obtain ⟨τ8, e8, S8⟩ := fiS_16695295 48 (by decide) (by decide) m τ7 H S7
    obtain ⟨τ9, e9, S9⟩ := fiS_66781183 48 (by decide) (by decide) m τ8 H S8
    obtain ⟨τ', e, g⟩ := fiF_48 hA m τ9 S9 hl
    exact ⟨_, τ', H, Kp.refl H, by rw [e1, e2, e3, e4, e5, e6, e7, e8, e9, e], .inl ⟨rfl, by simpa [frY] using g⟩⟩
theorem rgOK_nil {rs : List (Int × Int)} (h : rs.length = 0) : rgOK rs := by
  have : rs = [] := List.length_eq_zero_iff.1 h
  subst this; exact ⟨by simp, trivial⟩
theorem frI (k a b c : Int) (fin : Bool) (dl tl : Nat) (rs : List (Int × Int)) (hk : kindIn k) :
    frOK k a b c fin dl tl rs ↔ (inV a ∧ inV b ∧ inV c) ∧ shP ((shapeL.lookup k).getD shN) a b fin dl tl rs.length ∧ (c = 0 ∨ k = 4) ∧ frY k a b dl tl rs := by
  have hn := rgOK_nil (rs := rs)
  simp only [kindIn] at hk
  rcases hk with rfl | rfl | rfl | rfl | rfl | rfl | rfl | rfl | rfl | rfl | rfl | rfl | rfl | rfl | rfl | rfl | rfl | rfl | rfl | rfl | rfl | rfl
  all_goals
    have hn2 : rs = [] → rgOK rs := fun h => hn (by simp [h])
    simp [frOK, shP, frY, frX, usesL, shapeL, fldOK, List.lookup_cons]
    grind
theorem FrameOKI_ev {rw : Bool} {Hb H : AH} {k a b c : Int} {fin : Bool} {d t r : AV} {dl tl : Nat} {rs : List (Int × Int)} {bs : List Nat} (hr : (Ty.sl 94 tT94).R rw Hb [r] rs bs) (hK : Kp Hb H)
    (hd : ∀ h, lenA Try.prog 34 d h = some (.int .i64 dl)) (ht : ∀ h, lenA Try.prog 34 t h = some (.int .i64 tl)) (od : d.one = true) (ot : t.one = true) (hdl : dl ≤ 1048576) (hrl : rs.length ≤ 1048576) (m : Nat) (hm : 75 ≤ m) :
    ∃ H', ev Try.prog m 50 [.agg (frC k a b c fin d t r)] H = some (.bool (decide (frOK k a b c fin dl tl rs)), H') ∧ Kp H H' := by
  obtain ⟨m, rfl⟩ : ∃ k, m = k + 1 := ⟨m - 1, by omega⟩
  have hrl' := Ty.R.lenA hr (P := Try.prog) (T := 70) (by simp)
  have or_ : r.one = true := hr.sl_one
  rw [ev_M Try.func50 ok50 [7] m _ H (by simp [Try.f50, frC])]
  have k0 : Kp H (H.push (.cells 72 false (frC k a b c fin d t r))) := (Kp.refl H).push _
  obtain ⟨H1, e1, k1⟩ := shapeOf_ev k (H.push (.cells 72 false (frC k a b c fin d t r))) m (by omega)
  simp only [frC] at e1
  have n1 := k1.next
  simp at n1
  obtain ⟨sok, hsok⟩ : ∃ x, x = (shapeL.lookup k).isSome := ⟨_, rfl⟩
  obtain ⟨sh, hsh⟩ : ∃ x, x = (shapeL.lookup k).getD shN := ⟨_, rfl⟩
  rw [← hsok, ← hsh] at e1
  simp only [shC] at e1
  simp (disch := omega) [Try.f50, tm0, frC, od, ot, or_, e1, fillA, stVar, spl, ldVar]
  generalize hτ : upd _ 4 _ = τ1
  generalize hX : AH.push _ _ = X1
  have T1 : FiT τ1 H.next H1.next := ⟨by rw [← hτ]; simp, by rw [← hτ]; simp⟩
  have t4 : τ1 4 = .bool sok := by rw [← hτ]; simp
  have kX : Kp (H.push (.cells 72 false (frC k a b c fin d t r))) X1 := by rw [← hX]; exact k1.push _
  have hA : X1.get H.next = some (.cells 72 false (frC k a b c fin d t r)) := by rw [kX.get _ (by simp)]; simp
  have hB : X1.get H1.next = some (.cells 197 false (shL sh)) := by rw [← hX]; simp [shL]
  have kH := k0.trans kX
  have nX := kX.next
  simp at nX
  obtain ⟨τ2, g | g⟩ := fi0 hA m (by omega) τ1 T1 t4
  · obtain ⟨⟨p0, p1, p2, p3⟩, e2, T2⟩ := g
    have hk : kindIn k := by
      by_cases hk : kindIn k
      · exact hk
      · rw [shape_not hk] at hsok; rw [hsok] at p0; simp at p0
    rw [hsh] at hB
    have hI := frI k a b c fin dl tl rs hk
    obtain ⟨τ3, g | g⟩ := fi1 hk hA hB m hd ht hrl' τ2 T2
    · obtain ⟨q1, e3, T3⟩ := g
      obtain ⟨τ4, g | g⟩ := fi2 hA m hd τ3 T3
      · obtain ⟨q2, e4, T4, t5⟩ := g
        obtain ⟨H2, e5, k5⟩ := rangesOK_ev (H := X1) hr (hK.trans kH) hrl m (by omega)
        have hY : ∃ τ' H', Kp X1 H' ∧ evAt Try.prog (ev Try.prog m) m 50 127 τ4 X1 = some (.ret, τ', H') ∧ τ' 2 = .bool (decide (frY k a b dl tl rs)) := by
          obtain ⟨s1, s3⟩ := T4
          rw [at_M Try.func50 127 (by decide) 7 (by decide) (by kernel_rfl) [1018]]
          have hA' := hA
          simp only [frC] at hA'
          simp [Try.f50, s1, s3, t5, hA', ldVar]
          obtain ⟨e, τ', H', kk, ee, g⟩ := fiY hk hA m (upd (upd τ4 108 (AV.ptr H.next 0)) 109 (AV.int .i64 k)) ⟨by simp [s1], by simp [t5], by simp⟩ hdl ht hrl' e5 k5
          rcases g with ⟨rfl, g⟩ | ⟨rfl, g⟩
          · exact ⟨τ', H', kk, by simp [ee], g⟩
          · exact ⟨_, H', kk, by simp [ee]; rfl, by simp [g]⟩
        obtain ⟨τ5, H5, k6, e6, t6⟩ := hY
        refine ⟨H5, ?_, kH.trans k6⟩
        rw [e2, e3, e4, e6]
        have : frOK k a b c fin dl tl rs ↔ frY k a b dl tl rs := by rw [hI]; exact ⟨fun h => h.2.2.2, fun h => ⟨⟨p1, p2, p3⟩, q1, q2, h⟩⟩
        simp [t6, this]
      · obtain ⟨q, e4, t⟩ := g
        refine ⟨X1, ?_, kH⟩
        have : ¬ frOK k a b c fin dl tl rs := fun h => q (hI.1 h).2.2.1
        rw [e2, e3, e4]
        simp [t, this]
    · obtain ⟨q, e3, t⟩ := g
      refine ⟨X1, ?_, kH⟩
      have : ¬ frOK k a b c fin dl tl rs := fun h => q (hI.1 h).2.1
      rw [e2, e3]
      simp [t, this]
  · obtain ⟨q, e2, t⟩ := g
    refine ⟨X1, ?_, kH⟩
    have : ¬ frOK k a b c fin dl tl rs := fun h => q ⟨by
      rw [hsok]
      by_cases hk : kindIn k
      · simp only [kindIn] at hk
        rcases hk with rfl | rfl | rfl | rfl | rfl | rfl | rfl | rfl | rfl | rfl | rfl | rfl | rfl | rfl | rfl | rfl | rfl | rfl | rfl | rfl | rfl | rfl <;> decide
      · have := h.1.1; rw [uses_not hk] at this; simp at this, h.1.2.1, h.1.2.2.1, h.1.2.2.2.1⟩
    rw [e2]
    simp [t, this]
end Go.Ev

/- The bytes of an acknowledgement. -/
namespace Go.Ev
open Go Go.Proofs
set_option linter.unusedSimpArgs false
set_option linter.unusedVariables false

def inN (x : Int) : Prop := 0 ≤ x ∧ x ≤ 4611686018427387903
def encs (xs : List Int) : List Int := xs.flatMap encV
theorem vL_le (x : Int) : vL x ≤ 8 := by rcases vL_cases x with h | h | h | h <;> omega
theorem encs_len (xs : List Int) : (encs xs).length ≤ 8 * xs.length := by
  induction xs with
  | nil => simp [encs]
  | cons x l ih => simp only [encs, List.flatMap_cons, List.length_append, encV_len, List.length_cons] at ih ⊢; have := vL_le x; omega
def AvI (xs : List Int) (s : AV) (l : List Int) (b0 : Nat) (H : AH) (d : Nat) (τ : Tm) (h : AH) : Prop :=
  ∃ (k : Nat) (v : AV) (b : Nat), k + d = xs.length ∧ τ 0 = v ∧ τ 7 = s ∧ τ 8 = .int .i64 xs.length ∧ τ 9 = .int .i64 k ∧ BO h v (l ++ encs (xs.take k)) b ∧ KoS [b0] H h ∧ (b = b0 ∨ H.next ≤ b)
set_option maxRecDepth 20000 in
theorem addVars_ev {rw : Bool} {H : AH} {v s : AV} {l xs : List Int} {b : Nat} {bs : List Nat} (h : BO H v l b) (hs : (Ty.sl 3 (.int .i64)).R rw H [s] xs bs) (hd : b ∉ bs) (hx : ∀ x ∈ xs, inN x) (hl : l.length ≤ 50000) (hxl : xs.length ≤ 100) (m : Nat) (hm : 120 ≤ m) :
    ∃ v' H' b', ev Try.prog m 224 [v, s] H = some (v', H') ∧ BO H' v' (l ++ encs xs) b' ∧ KoS [b] H H' ∧ (b' = b ∨ H.next ≤ b') := by
  obtain ⟨m, rfl⟩ : ∃ k, m = k + 1 := ⟨m - 1, by omega⟩
  have L1 := Ty.R.lenA hs (P := Try.prog) (T := 60) (by simp)
  rw [ev_M Try.func224 ok224 [] _ _ H (by simp [Try.f224])]
  simp [Try.f224, tm0, L1]
  generalize hLo : evLoop _ _ _ _ _ _ = R
  obtain ⟨e, τ', H', rfl, rfl, g⟩ := loop_at hLo (loop_rule (d := xs.length) (AvI xs s l b H) (fun e τ h => e = .exit 0 ∧ AvI xs s l b H 0 τ h) (by
    rintro d τ hh ⟨k, v, b1, hk, t0, t7, t8, t9, B, K, hb⟩
    rw [lp_M Try.func224 26 (by decide) 5 (by decide) (by kernel_rfl) []]
    by_cases hd0 : d = 0
    · subst hd0
      have hkl : ¬ ((k : Int) < xs.length) := by omega
      simp [Try.f224, t8, t9, hkl]
      exact ⟨k, v, b1, hk, by simp [t0], by simp [t7], by simp [t8], by simp [t9], B, K, hb⟩
    · have hlt : k < xs.length := by omega
      have hlt' : (k : Int) < xs.length := by omega
      have hsK := hs.koS K (fun z hz hz' => hd (by simp at hz'; rw [← hz']; exact hz))
      obtain ⟨bb, o, ro, ys, u1, u2, u3, u4⟩ := intAt hsK hlt
      have htk : encs (xs.take (k + 1)) = encs (xs.take k) ++ encV xs[k] := by rw [List.take_succ_eq_append_getElem hlt]; unfold encs; rw [List.flatMap_append]; simp only [List.flatMap_cons, List.flatMap_nil, List.append_nil]
      have hxx := hx xs[k] (List.getElem_mem hlt)
      have hel := encs_len (xs.take k)
      have htl : (xs.take k).length = k := by simp; omega
      obtain ⟨v', X', b', q1, q2, q3, q4⟩ := addVar_ev B (x := xs[k]) (by simp; omega) hxx.1 hxx.2 m (by omega)
      have w1 : IntKind.i64.wrap ((k : Int) + 1) = (k : Int) + 1 := wrap_i64 (n := (k : Int) + 1) (by omega) (by omega)
      generalize xs[k] = x at *
      simp [Try.f224, t0, t7, t8, t9, hlt, hlt', u1, u3, u4, q1, w1, ldVar]
      refine ⟨d - 1, by omega, k + 1, v', b', by omega, by simp, by simp [t7], by simp [t8], by simp, by rw [htk, ← List.append_assoc]; exact q2, ?_, ?_⟩
      · refine K.trans q3 fun z hz => ?_
        simp at hz; subst hz
        rcases hb with h | h; simp [h]; exact .inr h
      · have := K.next
        rcases q4 with h | h
        · rw [h]; exact hb
        · exact .inr (by omega)) ⟨0, v, b, by simp, by simp, by simp, by simp, by simp, by simpa [encs] using h, KoS.refl _ _, .inl rfl⟩ (by omega))
  obtain ⟨k, v', b', hk, t0, t7, t8, t9, B, K, hb⟩ := g
  rw [List.take_of_length_le (by omega)] at B
  exact ⟨v', H', by simp [Try.f224, t0], b', B, K, hb⟩
/-! an acknowledgement's ranges, falling -/
def tailB (p : Rg) : List Rg → List Int
  | [] => []
  | r :: l => encs [p.1 - r.2 - 2, r.2 - r.1] ++ tailB r l
def ackB (top : Rg) (N : Int) (rest : List Rg) : List Int := [2] ++ encs [top.2, N, rest.length, top.2 - top.1] ++ tailB top rest
theorem rgL_get : ∀ {L : List Rg} {q : Option Rg}, rgL q L → ∀ i (h : i + 1 < L.length), L[i].2 + 1 < L[i + 1].1
  | [x], q, h, i, hi => by simp at hi
  | x :: y :: l, q, h, 0, hi => h.2.1.2.2.2 x rfl
  | x :: y :: l, q, h, i + 1, hi => rgL_get h.2 i (by simpa using hi)
theorem rgL_le {L : List Rg} {q : Option Rg} (h : rgL q L) : ∀ x ∈ L, x.1 ≤ x.2 := by
  induction L generalizing q with
  | nil => simp
  | cons y l ih => intro x hx; rcases List.mem_cons.1 hx with rfl | hx; exact h.1.1; exact ih h.2 x hx
structure AkB (L : List Rg) (p1 : Nat) (v : AV) (H0 h : AH) (τ : Tm) (out : List Int) (b : Nat) : Prop where
  t1 : τ 1 = .ptr p1 0
  t3 : τ 3 = v
  B : BO h v out b
  bp : H0.next ≤ b
  K : Kp H0 h
def AkBL (L : List Rg) (all : List Int) (p1 : Nat) (H0 : AH) (d : Nat) (τ : Tm) (h : AH) : Prop :=
  ∃ (v : AV) (out : List Int) (b : Nat) (hd : d < L.length), τ 6 = .int .i64 ((d : Int) - 1) ∧ AkB L p1 v H0 h τ out b ∧ out ++ tailB L[d] (L.take d).reverse = all ∧ out.length + 16 * d ≤ 1100
set_option maxRecDepth 20000 in
theorem akLoopB {rw : Bool} {Hb H0 h0 : AH} {r : AV} {L : List Rg} {bs : List Nat} {N : Int} {d5 d6 : AV} {p1 : Nat} {all : List Int} (hr : (Ty.sl 94 tT94).R rw Hb [r] L bs) (hKb : Kp Hb H0) (hL : rgOK L) (h0' : L ≠ []) (g1 : H0.get p1 = some (.cells 72 false (frC 2 N 0 0 false d5 d6 r))) (n1 : p1 < H0.next)
    (m : Nat) (hm : 200 ≤ m) (τ : Tm) (hI : AkBL L all p1 H0 (L.length - 1) τ h0) :
    ∃ e τ' H', evLoop Try.prog (ev Try.prog m) m (lp Try.prog 133 30174) τ h0 = some (e, τ', H') ∧ e = .exit 1 ∧ AkBL L all p1 H0 0 τ' H' := by
  have hl := hL.1
  refine loop_rule (d := L.length - 1) (AkBL L all p1 H0) (fun e τ h => e = .exit 1 ∧ AkBL L all p1 H0 0 τ h) ?_ hI (by omega)
  rintro d τ h ⟨v, out, b, hd, t6, ⟨t1, t3, B, bp, K⟩, hall, hol⟩
  rw [lp_M Try.func133 30174 (by decide) 15 (by decide) (by kernel_rfl) []]
  by_cases hd0 : d = 0
  · subst hd0
    have hkl : ¬ (0 ≤ (((0 : Nat) : Int) - 1)) := by omega
    simp [Try.f133, t6, hkl]
    exact ⟨v, out, b, hd, by simp [t6], ⟨by simp [t1], by simp [t3], B, bp, K⟩, hall, hol⟩
  · obtain ⟨j, rfl⟩ : ∃ j, d = j + 1 := ⟨d - 1, by omega⟩
    have e1 : (((j + 1 : Nat) : Int) - 1) = j := by omega
    rw [e1] at t6
    have hj : (0 : Int) ≤ j := by omega
    have KK := hKb.trans K
    obtain ⟨b1, o1, r1, x1, u1, u2, u3, u4, u5, u6, u7, _, _⟩ := rgAt (hr.kp KK) (k := j) (by omega)
    obtain ⟨b2, o2, r2, x2, v1, v2, v3, v4, v5, v6, v7, _, _⟩ := rgAt (hr.kp KK) (k := j + 1) hd
    have hgap := rgL_get hL.2 j hd
    rw [show ((j + 1 : Nat) : Int) = (j : Int) + 1 by omega] at v1
    have i1 := rgL_in hL.2 L[j] (List.getElem_mem (by omega))
    have i2 := rgL_in hL.2 L[j + 1] (List.getElem_mem hd)
    have hle := rgL_le hL.2 L[j] (List.getElem_mem (by omega))
    have hrev : (L.take (j + 1)).reverse = L[j] :: (L.take j).reverse := by rw [List.take_succ_eq_append_getElem (by omega), List.reverse_append]; rfl
    rw [hrev] at hall
    simp only [tailB] at hall
    have goal : ∀ (τ' : Tm) (h' : AH) (v' : AV) (b' : Nat), τ' 6 = .int .i64 ((j : Int) - 1) → AkB L p1 v' H0 h' τ' (out ++ encs [L[j + 1].1 - L[j].2 - 2, L[j].2 - L[j].1]) b' → ∃ d', d' < j + 1 ∧ AkBL L all p1 H0 d' τ' h' := by
      intro τ' h' v' b' s6 X
      refine ⟨j, by omega, v', _, b', by omega, s6, X, by rw [← hall, List.append_assoc], ?_⟩
      have := encs_len [L[j + 1].1 - L[j].2 - 2, L[j].2 - L[j].1]
      simp at this ⊢; omega
    generalize L[j] = x at *
    generalize L[j + 1] = y at *
    obtain ⟨xa, xb⟩ := x
    obtain ⟨ya, yb⟩ := y
    simp only at *
    have gp := (K.get p1 n1).trans g1
    simp only [frC] at gp
    have hp : ¬ (p1 = h.next) := by have := K.next; omega
    have hb1 : ¬ (b1 = h.next) := by omega
    have hb2 : ¬ (b2 = h.next) := by omega
    have w0 : IntKind.i64.wrap ((j : Int) + 1) = ((j + 1 : Nat) : Int) := by rw [wrap_i64 (by omega) (by omega)]; omega
    have w1 : IntKind.i64.wrap ((j : Int) - 1) = (j : Int) - 1 := wrap_i64 (by omega) (by omega)
    simp only [inV] at i1 i2
    have w2 : IntKind.i64.wrap (ya - xb) = ya - xb := wrap_i64 (by omega) (by omega)
    have w3 : IntKind.i64.wrap (ya - xb - 2) = ya - xb - 2 := wrap_i64 (by omega) (by omega)
    have w4 : IntKind.i64.wrap (xb - xa) = xb - xa := wrap_i64 (by omega) (by omega)
    let A : AH := (h.push (.cells 94 false [.int .i64 xa, .int .i64 xb])).push (.cells 3 false [.int .i64 (ya - xb - 2), .int .i64 (xb - xa)])
    have hA : (h.push (.cells 94 false [.int .i64 xa, .int .i64 xb])).push (.cells 3 false [.int .i64 (ya - xb - 2), .int .i64 (xb - xa)]) = A := rfl
    have KA : Kp h A := ((Kp.refl h).push _).push _
    have nA : A.next = h.next + 2 := by simp [A]
    have gA : A.get (h.next + 1) = some (.cells 3 false ([ya - xb - 2, xb - xa].map (.int .i64))) := by simp [A]
    clear_value A
    have RA : (Ty.sl 3 (.int .i64)).R true A [.slice (h.next + 1) 0 2] [ya - xb - 2, xb - xa] [h.next + 1] := ints_one (l := [ya - xb - 2, xb - xa]) (by omega) gA (fun z hz => by simp at hz; rcases hz with rfl | rfl <;> exact ⟨by simp [IntKind.min, IntKind.signed, IntKind.bits]; omega, by simp [IntKind.max, IntKind.signed, IntKind.bits]; omega⟩)
    have hbn := B.2.1
    obtain ⟨v', X', b', q1, q2, q3, q4⟩ := addVars_ev (B.kp KA) RA (by simp; omega) (fun z hz => by simp at hz; rcases hz with rfl | rfl <;> exact ⟨by omega, by omega⟩) (by omega) (by simp) m (by omega)
    simp [Try.f133, t1, t3, t6, hj, gp, hp, hb1, hb2, u1, u3, u4, u5, u6, u7, v1, v3, v6, w0, w1, w2, w3, w4, hA, q1, ldVar, stVar, spl, fillA, zerosA, evHist, ObsOk, ObOk, List.getElem?_cons_zero]
    have hKn := K.next
    refine goal _ _ v' b' (by simp) ⟨by simp [t1], by simp, q2, ?_, ?_⟩
    · rcases q4 with h | h <;> omega
    · exact KoS.kp (K.trans KA) q3 (by simp; exact bp)
end Go.Ev

/- The bytes of an acknowledgement, whole. -/
namespace Go.Ev
open Go Go.Proofs
set_option linter.unusedSimpArgs false
set_option linter.unusedVariables false

theorem ints4 {A : AH} {p : Nat} {a b c d : Int} (hn : p < A.next) (g : A.get p = some (.cells 3 false [.int .i64 a, .int .i64 b, .int .i64 c, .int .i64 d])) (ha : inN a) (hb : inN b) (hc : inN c) (hd : inN d) : (Ty.sl 3 (.int .i64)).R true A [.slice p 0 4] [a, b, c, d] [p] :=
  ints_one (l := [a, b, c, d]) hn g (fun z hz => by
    simp only [inN] at ha hb hc hd
    simp at hz; rcases hz with rfl | rfl | rfl | rfl <;> exact ⟨by simp [IntKind.min, IntKind.signed, IntKind.bits]; omega, by simp [IntKind.max, IntKind.signed, IntKind.bits]; omega⟩)
set_option maxRecDepth 20000 in
theorem ack942 {rw : Bool} {Hb H0 h : AH} {r : AV} {L : List Rg} {bs : List Nat} {N : Int} {d5 d6 : AV} {p1 b : Nat} {v : AV} (hr : (Ty.sl 94 tT94).R rw Hb [r] L bs) (hKb : Kp Hb H0) (hL : rgOK L) (j : Nat) (hj : L.length = j + 1) (g1 : H0.get p1 = some (.cells 72 false (frC 2 N 0 0 false d5 d6 r))) (n1 : p1 < H0.next) (hN : inV N)
    (K : Kp H0 h) (B : BO h v [2] b) (bp : H0.next ≤ b) (m : Nat) (hm : 200 ≤ m) (τ : Tm) (t1 : τ 1 = .ptr p1 0) (t3 : τ 3 = v) :
    ∃ τ' H' v' b', evAt Try.prog (ev Try.prog m) m 133 942 τ h = some (.normal, τ', H') ∧ τ' 3 = v' ∧ BO H' v' (ackB (L[j]'(by omega)) N (L.take j).reverse) b' ∧ H0.next ≤ b' ∧ Kp H0 H' := by
  have KK := hKb.trans K
  have hl := hL.1
  have L1 := Ty.R.lenA hr (P := Try.prog) (T := 70) (by simp)
  rw [hj] at L1
  obtain ⟨b2, o2, r2, x2, v1, v2, v3, v4, v5, v6, v7, _, _⟩ := rgAt (hr.kp KK) (k := j) (by omega)
  have i2 := rgL_in hL.2 (L[j]'(by omega)) (List.getElem_mem (by omega))
  have hle := rgL_le hL.2 (L[j]'(by omega)) (List.getElem_mem (by omega))
  have gp := (K.get p1 n1).trans g1
  simp only [frC] at gp
  have hKn := K.next
  have hp : ¬ (p1 = h.next) := by omega
  have hb2 : ¬ (b2 = h.next) := by omega
  simp only [inV] at i2 hN
  have hbn := B.2.1
  have core : ∃ τ' H' v' b', evAt Try.prog (ev Try.prog m) m 133 942 τ h = evAt Try.prog (ev Try.prog m) m 133 15087 τ' H' ∧ τ' 1 = .ptr p1 0 ∧ τ' 3 = v' ∧ τ' 6 = .int .i64 ((j : Int) - 1) ∧ BO H' v' ([2] ++ encs [(L[j]'(by omega)).2, N, j, (L[j]'(by omega)).2 - (L[j]'(by omega)).1]) b' ∧ H0.next ≤ b' ∧ Kp H0 H' := by
    generalize (L[j]'(by omega)) = y at *
    obtain ⟨ya, yb⟩ := y
    simp only at *
    have w1 : IntKind.i64.wrap ((j : Int)) = j := wrap_i64 (by omega) (by omega)
    have w2 : IntKind.i64.wrap (yb - ya) = yb - ya := wrap_i64 (by omega) (by omega)
    have w3 : IntKind.i64.wrap ((j : Int) + 1 - 2) = (j : Int) - 1 := by rw [wrap_i64 (by omega) (by omega)]; omega
    let A : AH := (h.push (.cells 94 false [.int .i64 ya, .int .i64 yb])).push (.cells 3 false [.int .i64 yb, .int .i64 N, .int .i64 j, .int .i64 (yb - ya)])
    have hA : (h.push (.cells 94 false [.int .i64 ya, .int .i64 yb])).push (.cells 3 false [.int .i64 yb, .int .i64 N, .int .i64 j, .int .i64 (yb - ya)]) = A := rfl
    have KA : Kp h A := ((Kp.refl h).push _).push _
    have nA : A.next = h.next + 2 := by simp [A]
    have gA : A.get (h.next + 1) = some (.cells 3 false [.int .i64 yb, .int .i64 N, .int .i64 j, .int .i64 (yb - ya)]) := by simp [A]
    clear_value A
    have z1 : inN yb := ⟨by omega, by omega⟩
    have z2 : inN N := ⟨by omega, by omega⟩
    have z3 : inN (j : Int) := ⟨by omega, by omega⟩
    have z4 : inN (yb - ya) := ⟨by omega, by omega⟩
    have RA := ints4 (by omega) gA z1 z2 z3 z4
    obtain ⟨v', X', b', q1, q2, q3, q4⟩ := addVars_ev (B.kp KA) RA (by simp; omega) (fun z hz => by simp at hz; rcases hz with rfl | rfl | rfl | rfl <;> assumption) (by simp) (by simp) m (by omega)
    rw [at_M Try.func133 942 (by decide) 10 (by decide) (by kernel_rfl) [15087]]
    refine ⟨_, X', v', b', by simp [Try.f133, t1, t3, gp, hp, hb2, L1, v1, v3, v4, v5, v6, v7, w1, w2, w3, hA, q1, ldVar, stVar, spl, fillA, zerosA]; rfl, by simp [t1], by simp, by simp, q2, ?_, ?_⟩
    · rcases q4 with h | h <;> omega
    · exact KoS.kp (K.trans KA) q3 (by simp; exact bp)
  obtain ⟨τ1, H1, v1', b1, e1, s1, s3, s6, B1, bp1, K1⟩ := core
  have hrl : ((L.take j).reverse.length : Int) = j := by simp; omega
  rw [e1, at_M Try.func133 15087 (by decide) 14 (by decide) (by kernel_rfl) []]
  simp [Try.f133]
  generalize hLo : evLoop _ _ _ _ _ _ = R
  have hel := encs_len [(L[j]'(by omega)).2, N, j, (L[j]'(by omega)).2 - (L[j]'(by omega)).1]
  obtain ⟨e, τ', H', rfl, rfl, v', out, b', hd, t6, X, hall, hol⟩ := loop_at hLo (akLoopB (all := ackB (L[j]'(by omega)) N (L.take j).reverse) hr hKb hL (fun e => by rw [e] at hj; simp at hj) g1 n1 m hm _ (by
    have hj1 : L.length - 1 = j := by omega
    rw [hj1]
    exact ⟨v1', _, b1, by omega, s6, ⟨s1, s3, B1, bp1, K1⟩, by unfold ackB; rw [hrl], by simp at hel ⊢; omega⟩))
  simp [tailB] at hall
  subst hall
  exact ⟨τ', H', by simp, b', by rw [X.t3]; exact X.B, X.bp, X.K⟩
set_option maxRecDepth 20000 in
theorem FrameBytesAck_ev {rw : Bool} {Hb H : AH} {r : AV} {L : List Rg} {bs : List Nat} {N : Int} {d5 d6 : AV} (hr : (Ty.sl 94 tT94).R rw Hb [r] L bs) (hK : Kp Hb H) (hd : ∀ h, lenA Try.prog 34 d5 h = some (.int .i64 0)) (ht : ∀ h, lenA Try.prog 34 d6 h = some (.int .i64 0)) (od : d5.one = true) (ot : d6.one = true) (hL : rgOK L) (j : Nat) (hj : L.length = j + 1) (hN : inV N) (m : Nat) (hm : 300 ≤ m) :
    ∃ v' H' b', ev Try.prog m 48 [.agg (frC 2 N 0 0 false d5 d6 r)] H = some (.tuple [v', .int .i64 0], H') ∧ BO H' v' (ackB (L[j]'(by omega)) N (L.take j).reverse) b' ∧ H.next ≤ b' ∧ Kp H H' := by
  obtain ⟨m, rfl⟩ : ∃ k, m = k + 1 := ⟨m - 1, by omega⟩
  obtain ⟨m, rfl⟩ : ∃ k, m = k + 1 := ⟨m - 1, by omega⟩
  have hl := hL.1
  have h0 : L ≠ [] := fun e => by rw [e] at hj; simp at hj
  have or_ := hr.sl_one
  have hfr : frOK 2 N 0 0 false 0 0 L := by
    have z0 : inV 0 := ⟨by omega, by omega⟩
    have hlp : 0 < L.length := List.length_pos_iff.2 h0
    exact ⟨⟨by decide, hN, z0, z0, by simp [usesL, fldOK], by simp [usesL, fldOK], by simp [usesL, fldOK], by simp [usesL, fldOK]⟩, ⟨by simp [usesL], by simp [usesL], by simp [usesL], by simp [usesL, hlp], hL⟩, by simp [frX]⟩
  let Z : AH := H.push (.cells 72 false (frC 2 N 0 0 false d5 d6 r))
  have hZ : H.push (.cells 72 false (frC 2 N 0 0 false d5 d6 r)) = Z := rfl
  have KZ : Kp H Z := (Kp.refl H).push _
  have nZ : Z.next = H.next + 1 := by simp [Z]
  have gZ : Z.get H.next = some (.cells 72 false (frC 2 N 0 0 false d5 d6 r)) := by simp [Z]
  clear_value Z
  obtain ⟨H1, a1, a2⟩ := FrameOKI_ev (k := 2) (a := N) (b := 0) (c := 0) (fin := false) (dl := 0) (tl := 0) hr (hK.trans KZ) hd ht od ot (by omega) (by omega) (m + 1) (by omega)
  have n1 := a2.next
  have g1 : H1.get H.next = some (.cells 72 false (frC 2 N 0 0 false d5 d6 r)) := (a2.get _ (by omega)).trans gZ
  let A : AH := H1.push (.cells 72 false (frC 2 N 0 0 false d5 d6 r))
  have hA : H1.push (.cells 72 false (frC 2 N 0 0 false d5 d6 r)) = A := rfl
  have KA : Kp H1 A := (Kp.refl H1).push _
  have nA : A.next = H1.next + 1 := by simp [A]
  have gA : A.get H1.next = some (.cells 72 false (frC 2 N 0 0 false d5 d6 r)) := by simp [A]
  clear_value A
  let C : AH := A.push (.cells 5 false [.int .u8 2])
  have hC : A.push (.cells 5 false [.int .u8 2]) = C := rfl
  have KC : Kp A C := (Kp.refl A).push _
  have nC : C.next = A.next + 1 := by simp [C]
  have BC : BO C (.slice A.next 0 1) [2] A.next := ⟨rfl, by omega, by simp [C, u8L]⟩
  clear_value C
  have wk : IntKind.u8.wrap 2 = 2 := by decide
  have inner : ∃ v' H' b', ev Try.prog (m + 1) 133 [.agg (frC 2 N 0 0 false d5 d6 r)] H1 = some (v', H') ∧ BO H' v' (ackB (L[j]'(by omega)) N (L.take j).reverse) b' ∧ A.next ≤ b' ∧ Kp A H' := by
    have key : ∀ τ : Tm, τ 1 = .ptr H1.next 0 → τ 3 = .slice A.next 0 1 → ∃ τ' H' v' b', evAt Try.prog (ev Try.prog m) m 133 942 τ C = some (.normal, τ', H') ∧ τ' 3 = v' ∧ BO H' v' (ackB (L[j]'(by omega)) N (L.take j).reverse) b' ∧ A.next ≤ b' ∧ Kp A H' :=
      fun τ t1 t3 => ack942 hr ((((hK.trans KZ).trans a2).trans KA)) hL j hj gA (by omega) hN KC BC (by omega) m (by omega) τ t1 t3
    have gC := (KC.get H1.next (by omega)).trans gA
    simp only [frC] at hA gA gC ⊢
    rw [ev_M Try.func133 ok133 [942] _ _ H1 (by simp [Try.f133])]
    simp [Try.f133, tm0, hA, gA, gC, hC, wk, od, ot, or_, convA, ldVar, fillA, zerosA, spl]
    generalize hτ : upd _ 19 _ = τ1
    obtain ⟨τ', H', v', b', f1, f2, f3, f4, f5⟩ := key τ1 (by rw [← hτ]; simp) (by rw [← hτ]; simp)
    rw [f1]
    exact ⟨v', H', by simp [Try.f133, f2], b', f3, f4, f5⟩
  obtain ⟨v', H', b', f1, f2, f3, f4⟩ := inner
  refine ⟨v', H', b', ?_, f2, by omega, ((KZ.trans a2).trans KA).trans f4⟩
  simp only [frC] at hZ gZ a1 g1 f1 ⊢
  rw [ev_M Try.func48 ok48 [] _ _ H (by simp [Try.f48])]
  simp [Try.f48, tm0, hZ, gZ, a1, hfr, g1, f1, od, ot, or_, ldVar]
end Go.Ev

/- Bytes put behind bytes: rows of bytes, counted rows; the reference's numbers. -/
namespace Go.Ev
open Go Go.Proofs
set_option linter.unusedSimpArgs false
set_option linter.unusedVariables false

theorem BO.appB {H : AH} {v s : AV} {l D : List Int} {b : Nat} (h : BO H v l b) (hs : Bs H s D) (hl : l.length + D.length ≤ 1000000) :
    ∃ v' X' b', appA Try.prog 34 34 v s H = some (v', X') ∧ BO X' v' (l ++ D) b' ∧ KoS [b] H X' ∧ (b' = b ∨ H.next ≤ b') := by
  have hn := hs.news
  rw [u8L_len] at hn
  have hh := h
  obtain ⟨rfl, h2, h3⟩ := h
  have hw : (u8L l).length = l.length := u8L_len l
  have ht : (u8L l).take l.length = u8L l := by rw [← hw, List.take_length]
  by_cases c : D.length = 0
  · have : D = [] := List.length_eq_zero_iff.1 c
    subst this
    exact ⟨.slice b 0 l.length, H, b, by simp [appA, hn, u8L], by simpa using hh, KoS.refl _ _, .inl rfl⟩
  · have c' : (D = []) = False := eq_false (fun e => c (by rw [e]; rfl))
    refine ⟨.slice H.next 0 (l.length + D.length), (H.kill b).push (.cells 5 false (u8L l ++ u8L D)), H.next, ?_, ⟨by simp, by simp, by rw [u8L_app]; simp⟩, ⟨by simp, fun z hz hzb => ?_⟩, .inr (Nat.le_refl _)⟩
    · simp [appA, hn, h3, hw, ht, c, c']
      omega
    · have : z ≠ b := fun e => hzb (by simp [e])
      rw [AH.push_get, if_neg (by simp; omega), AH.kill_get, if_neg this]
theorem addCounted_ev {H : AH} {v s : AV} {l D : List Int} {b : Nat} (h : BO H v l b) (hs : Bs H s D) (hsb : ∀ H', KoS [b] H H' → Bs H' s D) (hl : l.length ≤ 100000) (hD : D.length ≤ 100000) (m : Nat) (hm : 20 ≤ m) :
    ∃ v' H' b', ev Try.prog m 182 [v, s] H = some (v', H') ∧ BO H' v' (l ++ (encV D.length ++ D)) b' ∧ KoS [b] H H' ∧ (b' = b ∨ H.next ≤ b') := by
  obtain ⟨m, rfl⟩ : ∃ k, m = k + 1 := ⟨m - 1, by omega⟩
  obtain ⟨v1, H1, b1, e1, B1, k1, c1⟩ := addVar_ev h hl (x := (D.length : Int)) (by omega) (by omega) m (by omega)
  have hs1 := hsb H1 k1
  have := encV_len (D.length : Int)
  have := vL_le (D.length : Int)
  obtain ⟨v2, H2, b2, e2, B2, k2, c2⟩ := B1.appB hs1 (by simp; omega)
  have hL := hs.len
  refine ⟨v2, H2, b2, ?_, by rw [← List.append_assoc]; exact B2, k1.trans k2 fun z hz => ?_, ?_⟩
  · rw [ev_M Try.func182 ok182 [] m _ H (by simp [Try.f182])]
    simp [Try.f182, U, tm0, hL, e1, e2]
  · simp at hz; subst hz
    rcases c1 with h | h
    · exact .inl (by simp [h])
    · exact .inr h
  · have := k1.next
    rcases c2 with h | h
    · rw [h]; exact c1
    · exact .inr (by omega)
/-! the reference -/
theorem digitsX : ∀ (n : Nat) (v : Int) (H : AH) (m : Nat), 0 ≤ v → v ≤ 9223372036854775807 → n ≤ 8 → n + 2 ≤ m →
    ∃ (r : AV) (h' : AH) (l : List Int) (b : Nat), ev Try.prog m 191 [.int .i64 v, .int .i64 n] H = some (r, h') ∧ l.length = n ∧ BO h' r l b ∧ H.next ≤ b ∧ Kp H h'
  | 0, v, H, m, h0, h1, hn, hm => by
    obtain ⟨m, rfl⟩ : ∃ k, m = k + 1 := ⟨m - 1, by omega⟩
    refine ⟨.slice H.next 0 0, H.push (.cells 5 false []), [], H.next, ?_, rfl, ⟨rfl, by simp, by simp [u8L]⟩, Nat.le_refl _, (Kp.refl H).push _⟩
    rw [ev_M Try.func191 ok191 [] m _ H (by simp [Try.f191])]
    simp [Try.f191, U, tm0, zerosA, fillA]
  | n + 1, v, H, m, h0, h1, hn, hm => by
    obtain ⟨m, rfl⟩ : ∃ k, m = k + 1 := ⟨m - 1, by omega⟩
    obtain ⟨w, hw⟩ : ∃ w : Int, w = v.tdiv 256 := ⟨_, rfl⟩
    have hwb : 0 ≤ w ∧ w ≤ 9223372036854775807 := by rw [hw, Int.tdiv_eq_ediv_of_nonneg h0]; omega
    obtain ⟨r, h1', l, b, e, hl, B, hb, K⟩ := digitsX n w H m hwb.1 hwb.2 (by omega) (by omega)
    obtain ⟨x, hx⟩ : ∃ x : Int, x = IntKind.u8.wrap (v.tmod 256) := ⟨_, rfl⟩
    obtain ⟨v', X', b', q1, q2, q3, q4⟩ := B.app1 (x := x) (by omega)
    have cx : ∀ h', convA Try.prog 3 5 (.int .i64 (v.tmod 256)) h' = some (.int .u8 x, h') := fun h' => (conv_int (ds := .int .i64) (k := .u8) (by simp) (by simp)).trans (by rw [hx])
    have ww : IntKind.i64.wrap w = w := wrap_i64 (by omega) (by omega)
    have wn : IntKind.i64.wrap (((n + 1 : Nat) : Int) - 1) = (n : Int) := by rw [wrap_i64 (by omega) (by omega)]; omega
    have hw' := hw.symm
    have hne : (((n + 1 : Nat) : Int) == 0) = false := by simp; omega
    obtain ⟨P, hP⟩ : ∃ P : AH, P = h1'.push (.cells 5 false [.int .u8 x]) := ⟨_, rfl⟩
    rw [← hP] at q1
    have hP' := hP.symm
    obtain ⟨N, hN⟩ : ∃ N : Int, N = ((n + 1 : Nat) : Int) := ⟨_, rfl⟩
    rw [← hN] at wn hne ⊢
    have hne2 : (N = 0) = False := eq_false (by omega)
    refine ⟨v', X', l ++ [x], b', ?_, by simp [hl], q2, by have := K.next; omega, KoS.kp K q3 (by simp; exact hb)⟩
    rw [ev_M Try.func191 ok191 [] m _ H (by simp [Try.f191])]
    simp [Try.f191, U, tm0, hne, hne2, hw', ww, wn, e, cx, hP', q1, zerosA, fillA, spl]
theorem VarLenS_ev {v : Int} (hv : inN v) (H : AH) (m : Nat) (hm : 1 ≤ m) : ev Try.prog m 272 [.int .i64 v] H = some (.int .i64 (vL v), H) := by
  obtain ⟨m, rfl⟩ : ∃ k, m = k + 1 := ⟨m - 1, by omega⟩
  obtain ⟨h0, h1⟩ := hv
  have d0 := eq_false (show ¬ v < 0 by omega)
  have d1 := eq_false (show ¬ (4611686018427387903 : Int) < v by omega)
  rw [ev_M Try.func272 ok272 [] m _ H (by simp [Try.f272])]
  unfold vL
  by_cases c1 : v < 64
  · have c1' := eq_true (show v ≤ 63 by omega)
    simp [Try.f272, U, tm0, d0, d1, c1, c1']
  · have c1' := eq_false (show ¬ v ≤ 63 by omega)
    by_cases c2 : v < 16384
    · have c2' := eq_true (show v ≤ 16383 by omega)
      simp [Try.f272, U, tm0, d0, d1, c1, c1', c2, c2']
    · have c2' := eq_false (show ¬ v ≤ 16383 by omega)
      by_cases c3 : v < 1073741824
      · have c3' := eq_true (show v ≤ 1073741823 by omega)
        simp [Try.f272, U, tm0, d0, d1, c1, c1', c2, c2', c3, c3']
      · have c3' := eq_false (show ¬ v ≤ 1073741823 by omega)
        simp [Try.f272, U, tm0, d0, d1, c1, c1', c2, c2', c3, c3']
def PvI (r : AV) (n : Nat) (H : AH) (d : Nat) (τ : Tm) (h : AH) : Prop :=
  ∃ i : Nat, i + d = 4 ∧ τ 4 = .int .i64 n ∧ τ 5 = r ∧ τ 6 = .int .i64 i ∧ τ 7 = .int .i64 (2 ^ i : Nat) ∧ h = H
set_option maxRecDepth 20000 in
theorem PutVarX {v : Int} (hv : inN v) (H : AH) (m : Nat) (hm : 20 ≤ m) :
    ∃ (r : AV) (h' : AH) (l : List Int) (b : Nat), ev Try.prog m 225 [.int .i64 v] H = some (.tuple [r, .int .i64 0], h') ∧ l.length ≤ 8 ∧ BO h' r l b ∧ H.next ≤ b ∧ Kp H h' := by
  obtain ⟨m, rfl⟩ : ∃ k, m = k + 1 := ⟨m - 1, by omega⟩
  have e0 := VarLenS_ev hv H m (by omega)
  have hv8 : vL v = 1 ∨ vL v = 2 ∨ vL v = 4 ∨ vL v = 8 := vL_cases v
  obtain ⟨n, hn⟩ : ∃ n, n = vL v := ⟨_, rfl⟩
  rw [← hn] at e0 hv8
  obtain ⟨r, h1, l, b, e1, hl, B, hb, K⟩ := digitsX n v H m hv.1 (by have := hv.2; omega) (by omega) (by omega)
  have hn0 : ((n : Int) == 0) = false := by simp; omega
  have hn0' : (n = 0) = False := eq_false (by omega)
  rw [ev_M Try.func225 ok225 [127] m _ H (by simp [Try.f225])]
  simp [Try.f225, U, tm0, e0, hn0, hn0', e1]
  generalize hLo : evLoop _ _ _ _ _ _ = R
  obtain ⟨e, τ', H', rfl, rfl, i, hi, t4, t5, t6, rfl⟩ := loop_at hLo (loop_rule (d := 4) (PvI r n h1)
    (fun e τ h => e = .exit 0 ∧ ∃ i : Nat, i ≤ 4 ∧ τ 4 = .int .i64 n ∧ τ 5 = r ∧ τ 6 = .int .i64 i ∧ h = h1)
    (by
      rintro d τ h ⟨i, hi, t4, t5, t6, t7, rfl⟩
      rw [lp_M Try.func225 506 (by decide) 9 (by decide) (by kernel_rfl) []]
      by_cases c : (2 ^ i : Nat) < n
      · have hi3 : i < 3 := by
          rcases Nat.lt_or_ge i 3 with h | h
          · exact h
          · have : 2 ^ 3 ≤ 2 ^ i := Nat.pow_le_pow_right (by omega) h
            omega
        obtain ⟨Q, hQ⟩ : ∃ Q : Nat, Q = 2 ^ i := ⟨_, rfl⟩
        rw [← hQ] at t7 c
        have c1 : ((Q : Int) < (n : Int)) = True := eq_true (by omega)
        have c2 : (Q < n) = True := eq_true c
        obtain ⟨Q2, hQ2⟩ : ∃ Q : Nat, Q = 2 ^ (i + 1) := ⟨_, rfl⟩
        have hq : (2 * (Q : Int)) = Q2 := by rw [hQ2, Nat.pow_succ, hQ]; push_cast; exact Int.mul_comm _ _
        have w1 : IntKind.i64.wrap (2 * (Q : Int)) = (Q2 : Int) := by rw [wrap_i64 (by omega) (by omega)]; exact hq
        have w2 : IntKind.i64.wrap ((i : Int) + 1) = (i : Int) + 1 := wrap_i64 (by omega) (by omega)
        simp [Try.f225, U, t4, t6, t7, c1, c2, w1, w2]
        exact ⟨d - 1, by omega, i + 1, by omega, by simp [t4], by simp [t5], by simp, by simp [hQ2], rfl⟩
      · obtain ⟨Q, hQ⟩ : ∃ Q : Nat, Q = 2 ^ i := ⟨_, rfl⟩
        rw [← hQ] at t7 c
        have c1 : ((Q : Int) < (n : Int)) = False := eq_false (by omega)
        have c2 : (Q < n) = False := eq_false c
        simp [Try.f225, U, t4, t6, t7, c1, c2]
        exact ⟨i, by omega, t5, rfl⟩)
    ⟨0, rfl, by simp, by simp, by simp, by simp, rfl⟩ (by omega))
  obtain ⟨hr, h2, h3⟩ := B
  obtain ⟨x, l', rfl⟩ : ∃ x l', l = x :: l' := by
    cases l with
    | nil => simp at hl; omega
    | cons x l' => exact ⟨x, l', rfl⟩
  have w1 : IntKind.i64.wrap (64 * (i : Int)) = 64 * (i : Int) := wrap_i64 (by omega) (by omega)
  obtain ⟨y, hy⟩ : ∃ y : Int, y = IntKind.u8.wrap (64 * (i : Int)) := ⟨_, rfl⟩
  have cx : ∀ h', convA Try.prog 3 5 (.int .i64 (64 * (i : Int))) h' = some (.int .u8 y, h') := fun h' => (conv_int (ds := .int .i64) (k := .u8) (by simp) (by simp)).trans (by rw [hy])
  obtain ⟨z, hz⟩ : ∃ z : Int, z = IntKind.u8.wrap (x + y) := ⟨_, rfl⟩
  have hz' := hz.symm
  have ix : idxA Try.prog 34 r (.int .i64 0) = some (.ptr b 0) := by rw [hr]; simp [idxA]
  have ld : ldVar Try.prog 5 b 0 H' = some (.int .u8 x) := by simp [ldVar, h3, u8L]
  have st : stVar Try.prog 5 b 0 (.int .u8 z) H' = some (H'.set b (.cells 5 false (u8L (z :: l')))) := by simp [stVar, h3, u8L, spl]
  have ro : r.one = true := by rw [hr]; rfl
  simp
  rw [at_M Try.func225 127 (by decide) 7 (by decide) (by kernel_rfl) []]
  refine ⟨r, H'.set b (.cells 5 false (u8L (z :: l'))), by simp [Try.f225, U, t5, t6, w1, cx, ix, ld, hz', st], z :: l', by simp at hl ⊢; omega, b, ⟨by simpa using hr, by simpa using h2, by simp⟩, hb, ⟨by have := K.next; simpa using this, fun c hc => by rw [AH.set_getN _ _ (by omega)]; exact K.get c hc⟩⟩
end Go.Ev

/- Bytes put behind bytes by the reference; an acknowledgement's bytes. -/
namespace Go.Ev
open Go Go.Proofs
set_option linter.unusedSimpArgs false
set_option linter.unusedVariables false

/-- bytes put behind: what is told -/
def PutR (b : Nat) (H : AH) (v' : AV) (H' : AH) (n : Nat) : Prop := ∃ (l' : List Int) (b' : Nat), BO H' v' l' b' ∧ KoS [b] H H' ∧ (b' = b ∨ H.next ≤ b') ∧ l'.length ≤ n
theorem l05N_ev {H : AH} {v : AV} {l : List Int} {b : Nat} {x : Int} (h : BO H v l b) (hx : inN x) (hl : l.length ≤ 200000) (m : Nat) (hm : 22 ≤ m) :
    ∃ v' H', ev Try.prog m 135 [v, .int .i64 x] H = some (v', H') ∧ PutR b H v' H' (l.length + 8) := by
  obtain ⟨m, rfl⟩ : ∃ k, m = k + 1 := ⟨m - 1, by omega⟩
  obtain ⟨r, h1, l1, b1, e1, hl1, B1, hb1, K1⟩ := PutVarX hx H m (by omega)
  obtain ⟨v2, H2, b2, e2, B2, k2, c2⟩ := (h.kp K1).appB B1.bs (by omega)
  refine ⟨v2, H2, ?_, l ++ l1, b2, B2, K1.koS [b] |>.trans k2 fun z hz => .inl hz, ?_, by simp; omega⟩
  · rw [ev_M Try.func135 ok135 [] m _ H (by simp [Try.f135])]
    simp [Try.f135, U, tm0, e1, e2]
  · have := K1.next
    rcases c2 with h | h
    · exact .inl h
    · exact .inr (by omega)
theorem PutR.trans {b : Nat} {A B C : AH} {v' v'' : AV} {n k : Nat} {l' : List Int} {b' : Nat} (KB : KoS [b] A B) (hb' : b' = b ∨ A.next ≤ b') (P : PutR b' B v'' C k) : PutR b A v'' C k := by
  obtain ⟨l'', b'', B2, k2, c2, hl⟩ := P
  refine ⟨l'', b'', B2, KB.trans k2 fun z hz => ?_, ?_, hl⟩
  · simp at hz; subst hz
    rcases hb' with h | h
    · exact .inl (by simp [h])
    · exact .inr h
  · have := KB.next
    rcases c2 with h | h
    · rw [h]; exact hb'
    · exact .inr (by omega)
theorem l05Counted_ev {H : AH} {v s : AV} {l D : List Int} {b : Nat} (h : BO H v l b) (hs : Bs H s D) (hsb : ∀ H', KoS [b] H H' → Bs H' s D) (hl : l.length ≤ 100000) (hD : D.length ≤ 100000) (m : Nat) (hm : 24 ≤ m) :
    ∃ v' H', ev Try.prog m 136 [v, s] H = some (v', H') ∧ PutR b H v' H' (l.length + 8 + D.length) := by
  obtain ⟨m, rfl⟩ : ∃ k, m = k + 1 := ⟨m - 1, by omega⟩
  obtain ⟨v1, H1, e1, l1, b1, B1, k1, c1, hl1⟩ := l05N_ev h (x := (D.length : Int)) ⟨by omega, by omega⟩ (by omega) m (by omega)
  have hs1 := hsb H1 k1
  obtain ⟨v2, H2, b2, e2, B2, k2, c2⟩ := B1.appB hs1 (by omega)
  have hL := hs.len
  refine ⟨v2, H2, ?_, PutR.trans (v' := v1) (n := 0) (l' := l1) k1 c1 ⟨_, b2, B2, k2, c2, by simp; omega⟩⟩
  rw [ev_M Try.func136 ok136 [] m _ H (by simp [Try.f136])]
  simp [Try.f136, U, tm0, hL, e1, e2]
/-! an acknowledgement's bytes -/
structure AkX (p : Nat) (v : AV) (H0 h : AH) (τ : Tm) (n b : Nat) : Prop where
  t1 : τ 1 = .ptr p 0
  t4 : τ 4 = v
  B : ∃ l, BO h v l b ∧ l.length ≤ n
  bp : H0.next ≤ b
  K : Kp H0 h
def AkXL (N p : Nat) (H0 : AH) (d : Nat) (τ : Tm) (h : AH) : Prop :=
  ∃ (v : AV) (b : Nat), τ 3 = .int .i64 ((d : Int) - 1) ∧ d ≤ N ∧ AkX p v H0 h τ (100 + 16 * (N - d)) b
theorem ld72 {X : AH} {p : Nat} {k a b c : Int} {fin : Bool} {d t r : AV} (g : X.get p = some (.cells 72 false (frC k a b c fin d t r))) : ldVar Try.prog 3 p 0 X = some (.int .i64 k) ∧ ldVar Try.prog 3 p 1 X = some (.int .i64 a) ∧ ldVar Try.prog 3 p 2 X = some (.int .i64 b) ∧ ldVar Try.prog 3 p 3 X = some (.int .i64 c) ∧ ldVar Try.prog 4 p 4 X = some (.bool fin) ∧ ldVar Try.prog 34 p 5 X = some d ∧ ldVar Try.prog 34 p 6 X = some t ∧ ldVar Try.prog 70 p 7 X = some r ∧ ldVar Try.prog 72 p 0 X = some (.agg (frC k a b c fin d t r)) := by
  unfold frC at g
  refine ⟨?_, ?_, ?_, ?_, ?_, ?_, ?_, ?_, ?_⟩ <;> simp [ldVar, g, frC]
/-- a range's bounds read -/
theorem rgLd {rw : Bool} {Hb : AH} {r : AV} {L : List (Int × Int)} {bs : List Nat} (hr : (Ty.sl 94 tT94).R rw Hb [r] L bs) {k : Nat} (hk : k < L.length) :
    ∃ b o, idxA Try.prog 70 r (.int .i64 k) = some (.ptr b o) ∧ (∀ X, Kp Hb X → ldVar Try.prog 3 b o X = some (.int .i64 L[k].1) ∧ ldVar Try.prog 3 b (o + 1) X = some (.int .i64 L[k].2)) := by
  obtain ⟨b, o, ro, cs, u1, u2, u3, u4, u5, u6, u7, _, _⟩ := rgAt hr hk
  refine ⟨b, o, u1, fun X KX => ?_⟩
  have g := (KX.get b u2).trans u3
  exact ⟨by simp [ldVar, g, u6], by simp [ldVar, g, u7]⟩
set_option maxRecDepth 20000 in
theorem akXLoop {rw : Bool} {Hb H0 h0 : AH} {r : AV} {L : List Rg} {bs : List Nat} {k a b c : Int} {fin : Bool} {d5 d6 : AV} {p : Nat} (hr : (Ty.sl 94 tT94).R rw Hb [r] L bs) (hKb : Kp Hb H0) (hL : rgOK L) (g1 : H0.get p = some (.cells 72 false (frC k a b c fin d5 d6 r))) (n1 : p < H0.next)
    (m : Nat) (hm : 200 ≤ m) (τ : Tm) (hI : AkXL (L.length - 1) p H0 (L.length - 1) τ h0) :
    ∃ e τ' H', evLoop Try.prog (ev Try.prog m) m (lp Try.prog 134 1018) τ h0 = some (e, τ', H') ∧ e = .exit 0 ∧ AkXL (L.length - 1) p H0 0 τ' H' := by
  have hl := hL.1
  refine loop_rule (d := L.length - 1) (AkXL (L.length - 1) p H0) (fun e τ h => e = .exit 0 ∧ AkXL (L.length - 1) p H0 0 τ h) ?_ hI (by omega)
  rintro d τ h ⟨v, bb, t3, hd, ⟨t1, t4, ⟨l, B, hln⟩, bp, K⟩⟩
  rw [lp_M Try.func134 1018 (by decide) 10 (by decide) (by kernel_rfl) []]
  by_cases hd0 : d = 0
  · subst hd0
    have hkl : ((0:Int) ≤ (((0 : Nat) : Int) - 1)) = False := eq_false (by omega)
    simp [Try.f134, U, t3, hkl]
    exact ⟨v, bb, by simp [t3], hd, ⟨by simp [t1], by simp [t4], ⟨l, B, hln⟩, bp, K⟩⟩
  · obtain ⟨j, rfl⟩ : ∃ j, d = j + 1 := ⟨d - 1, by omega⟩
    have e1 : (((j + 1 : Nat) : Int) - 1) = j := by omega
    rw [e1] at t3
    have hj : ((0:Int) ≤ (j : Int)) = True := eq_true (by omega)
    have KK := hKb.trans K
    obtain ⟨b1, o1, u1, u2⟩ := rgLd hr (k := j) (by omega)
    obtain ⟨b2, o2, v1, v2⟩ := rgLd hr (k := j + 1) (by omega)
    have hgap := rgL_get hL.2 j (by omega)
    have i1 := rgL_in hL.2 L[j] (List.getElem_mem (by omega))
    have i2 := rgL_in hL.2 L[j + 1] (List.getElem_mem (by omega))
    have hle := rgL_le hL.2 L[j] (List.getElem_mem (by omega))
    obtain ⟨J, hJ⟩ : ∃ J : Int, J = ((j + 1 : Nat) : Int) := ⟨_, rfl⟩
    rw [← hJ] at v1
    generalize L[j] = x at *
    generalize L[j + 1] = y at *
    obtain ⟨xa, xb⟩ := x
    obtain ⟨ya, yb⟩ := y
    simp only at *
    simp only [inV] at i1 i2
    have w0 : IntKind.i64.wrap ((j : Int) + 1) = J := by rw [wrap_i64 (by omega) (by omega)]; omega
    have w1 : IntKind.i64.wrap ((j : Int) - 1) = (j : Int) - 1 := wrap_i64 (by omega) (by omega)
    have w2 : IntKind.i64.wrap (ya - xb) = ya - xb := wrap_i64 (by omega) (by omega)
    have w3 : IntKind.i64.wrap (ya - xb - 2) = ya - xb - 2 := wrap_i64 (by omega) (by omega)
    have w4 : IntKind.i64.wrap (xb - xa) = xb - xa := wrap_i64 (by omega) (by omega)
    have Kn := K.next
    obtain ⟨v3, H3, e3, l3, b3, B3, k3, c3, hl3⟩ := l05N_ev B (x := ya - xb - 2) ⟨by omega, by omega⟩ (by omega) m (by omega)
    have K3 : Kp H0 H3 := KoS.kp K k3 (by simp; exact bp)
    have bp3 : H0.next ≤ b3 := by rcases c3 with h | h <;> omega
    obtain ⟨v4, H4, e4, l4, b4, B4, k4, c4, hl4⟩ := l05N_ev B3 (x := xb - xa) ⟨by omega, by omega⟩ (by omega) m (by omega)
    have K4 : Kp H0 H4 := KoS.kp K3 k4 (by simp; exact bp3)
    have bp4 : H0.next ≤ b4 := by have := K3.next; rcases c4 with h | h <;> omega
    obtain ⟨_, _, _, _, _, _, _, f7, _⟩ := ld72 ((K.get p n1).trans g1)
    obtain ⟨_, _, _, _, _, _, _, g7, _⟩ := ld72 ((K3.get p n1).trans g1)
    obtain ⟨p1, p2⟩ := u2 h KK
    obtain ⟨p3, p4⟩ := v2 h KK
    obtain ⟨q1, q2⟩ := u2 H3 (hKb.trans K3)
    simp [Try.f134, U, t1, t3, t4, hj, f7, g7, u1, v1, p1, p2, p3, p4, q1, q2, w0, w1, w2, w3, w4, e3, e4, evHist, ObsOk, ObOk, List.getElem?_cons_zero]
    exact ⟨j, by omega, v4, b4, by simp, by omega, ⟨by simp [t1], by simp, ⟨l4, B4, by omega⟩, bp4, K4⟩⟩
set_option maxRecDepth 20000 in
theorem AckBytesS_ev {rw : Bool} {Hb H : AH} {r : AV} {L : List Rg} {bs : List Nat} {k a b c : Int} {fin : Bool} {d5 d6 : AV} (hr : (Ty.sl 94 tT94).R rw Hb [r] L bs) (hK : Kp Hb H) (o5 : d5.one = true) (o6 : d6.one = true) (hL : rgOK L) (h0 : 0 < L.length) (ha : inV a) (m : Nat) (hm : 300 ≤ m) :
    ∃ v' H' b' l', ev Try.prog m 134 [.agg (frC k a b c fin d5 d6 r)] H = some (v', H') ∧ BO H' v' l' b' ∧ H.next ≤ b' ∧ Kp H H' := by
  obtain ⟨m, rfl⟩ : ∃ k, m = k + 1 := ⟨m - 1, by omega⟩
  have hl := hL.1
  have or_ := hr.sl_one
  obtain ⟨j, hj⟩ : ∃ j, L.length = j + 1 := ⟨L.length - 1, by omega⟩
  obtain ⟨Z, hZ⟩ : ∃ Z : AH, Z = H.push (.cells 72 false (frC k a b c fin d5 d6 r)) := ⟨_, rfl⟩
  have kZ : Kp H Z := by rw [hZ]; exact (Kp.refl H).push _
  have nZ : Z.next = H.next + 1 := by rw [hZ]; simp
  have gZ : Z.get H.next = some (.cells 72 false (frC k a b c fin d5 d6 r)) := by rw [hZ]; simp
  obtain ⟨C, hC⟩ : ∃ C : AH, C = Z.push (.cells 5 false [.int .u8 2]) := ⟨_, rfl⟩
  have kC : Kp Z C := by rw [hC]; exact (Kp.refl Z).push _
  have nC : C.next = Z.next + 1 := by rw [hC]; simp
  have BC : BO C (.slice Z.next 0 1) [2] Z.next := ⟨rfl, by omega, by rw [hC]; simp [u8L]⟩
  have L1 := Ty.R.lenA hr (P := Try.prog) (T := 70) (by simp)
  rw [hj] at L1
  obtain ⟨b2, o2, v1, v2⟩ := rgLd hr (k := j) (by omega)
  have i2 := rgL_in hL.2 (L[j]'(by omega)) (List.getElem_mem (by omega))
  have hle := rgL_le hL.2 (L[j]'(by omega)) (List.getElem_mem (by omega))
  generalize (L[j]'(by omega)) = y at *
  obtain ⟨ya, yb⟩ := y
  simp only at *
  simp only [inV] at i2 ha
  have w0 : IntKind.i64.wrap (((j + 1 : Nat) : Int) - 1) = (j : Int) := by rw [wrap_i64 (by omega) (by omega)]; omega
  have w1 : IntKind.i64.wrap ((j : Int) - 1) = (j : Int) - 1 := wrap_i64 (by omega) (by omega)
  have w2 : IntKind.i64.wrap (yb - ya) = yb - ya := wrap_i64 (by omega) (by omega)
  have st : ∀ {X X' : AH} {v v' : AV} {l : List Int} {bb n : Nat}, Kp Z X → BO X v l bb → Z.next ≤ bb → PutR bb X v' X' n → ∃ l' b', BO X' v' l' b' ∧ Z.next ≤ b' ∧ l'.length ≤ n ∧ Kp Z X' := by
    rintro X X' v v' l bb n KX BX hb ⟨l', b', B', k', c', hl'⟩
    exact ⟨l', b', B', by have := KX.next; rcases c' with h | h <;> omega, hl', KoS.kp KX k' (by simp; exact hb)⟩
  obtain ⟨va, Ha, ea, Pa⟩ := l05N_ev BC (x := yb) ⟨by omega, by omega⟩ (by simp) m (by omega)
  obtain ⟨la, ba, Ba, hba, hla, Ka⟩ := st kC BC (Nat.le_refl _) Pa
  obtain ⟨vb, Hb', eb, Pb⟩ := l05N_ev Ba (x := a) ⟨by omega, by omega⟩ (by simp at hla; omega) m (by omega)
  obtain ⟨lb, bb, Bb, hbb, hlb, Kb⟩ := st Ka Ba hba Pb
  simp at hla
  obtain ⟨vc, Hc, ec, Pc⟩ := l05N_ev Bb (x := (j : Int)) ⟨by omega, by omega⟩ (by omega) m (by omega)
  obtain ⟨lc, bc, Bc, hbc, hlc, Kc⟩ := st Kb Bb hbb Pc
  obtain ⟨vd, Hd, ed, Pd⟩ := l05N_ev Bc (x := yb - ya) ⟨by omega, by omega⟩ (by omega) m (by omega)
  obtain ⟨ld, bd, Bd, hbd, hld, Kd⟩ := st Kc Bc hbc Pd
  have KZ := hK.trans kZ
  obtain ⟨_, _, _, _, _, _, _, f7, _⟩ := ld72 gZ
  obtain ⟨_, _, _, _, _, _, _, fC, _⟩ := ld72 ((kC.get H.next (by omega)).trans gZ)
  obtain ⟨_, fa1, _, _, _, _, _, fa, _⟩ := ld72 ((Ka.get H.next (by omega)).trans gZ)
  obtain ⟨_, _, _, _, _, _, _, fb, _⟩ := ld72 ((Kb.get H.next (by omega)).trans gZ)
  obtain ⟨_, _, _, _, _, _, _, fc, _⟩ := ld72 ((Kc.get H.next (by omega)).trans gZ)
  obtain ⟨p1, p2⟩ := v2 C (KZ.trans kC)
  obtain ⟨q1, q2⟩ := v2 Hc (KZ.trans Kc)
  have hZ' := hZ.symm
  have hC' := hC.symm
  obtain ⟨J, hJ⟩ : ∃ J : Int, J = ((j + 1 : Nat) : Int) := ⟨_, rfl⟩
  rw [← hJ] at w0 L1
  simp only [frC] at hZ' ⊢
  rw [ev_M Try.func134 ok134 [255] m _ H (by simp [Try.f134])]
  simp [Try.f134, U, tm0, hZ', hC', o5, o6, or_, f7, fC, fa1, fc, L1, v1, p1, p2, q1, q2, w0, w1, w2, ea, eb, ec, ed, zerosA, fillA, spl, evHist, ObsOk, ObOk, List.getElem?_cons_zero]
  generalize hLo : evLoop _ _ _ _ _ _ = R
  obtain ⟨e, τ', H', rfl, rfl, v', b', t3, hd, ⟨t1, t4, ⟨l', B', hln⟩, bp, K'⟩⟩ := loop_at hLo (akXLoop (H0 := Z) hr KZ hL gZ (by omega) m (by omega) _ (by
    have hj1 : L.length - 1 = j := by omega
    rw [hj1]
    exact ⟨vd, bd, by simp, Nat.le_refl _, ⟨by simp, by simp, ⟨ld, Bd, by omega⟩, hbd, Kd⟩⟩))
  simp
  rw [at_M Try.func134 255 (by decide) 8 (by decide) (by kernel_rfl) []]
  exact ⟨v', H', by simp [Try.f134, U, t4], b', ⟨l', B'⟩, by omega, kZ.trans K'⟩
end Go.Ev

/- A frame's bytes by the reference: the steps. -/
namespace Go.Ev
open Go Go.Proofs
set_option linter.unusedSimpArgs false
set_option linter.unusedVariables false

/-- bytes of one's own, made behind Z -/
def BX (Z X : AH) (v : AV) (n : Nat) : Prop := ∃ (l : List Int) (b : Nat), BO X v l b ∧ l.length ≤ n ∧ Z.next ≤ b ∧ Kp Z X
theorem BX.kp {Z X : AH} {v : AV} {n : Nat} (B : BX Z X v n) : Kp Z X := B.choose_spec.choose_spec.2.2.2
theorem BX.one {Z X : AH} {v : AV} {n : Nat} (B : BX Z X v n) : v.one = true := by obtain ⟨l, b, h, _⟩ := B; exact h.bs.one
theorem BX.move {Z X X' : AH} {v : AV} {n : Nat} (B : BX Z X v n) (K : Kp X X') : BX Z X' v n := by
  obtain ⟨l, b, h, h1, h2, h3⟩ := B; exact ⟨l, b, h.kp K, h1, h2, h3.trans K⟩
theorem BX.put {Z X X' : AH} {v v' : AV} {l : List Int} {bb n : Nat} (KX : Kp Z X) (hb : Z.next ≤ bb) (P : PutR bb X v' X' n) : BX Z X' v' n := by
  obtain ⟨l', b', B', k', c', hl'⟩ := P
  exact ⟨l', b', B', hl', by have := KX.next; rcases c' with h | h <;> omega, KoS.kp KX k' (by simp; exact hb)⟩
theorem BX.n {Z X : AH} {v : AV} {n : Nat} (B : BX Z X v n) (hn : n ≤ 100000) {x : Int} (hx : inN x) (m : Nat) (hm : 22 ≤ m) : ∃ v' X', ev Try.prog m 135 [v, .int .i64 x] X = some (v', X') ∧ BX Z X' v' (n + 8) := by
  obtain ⟨l, b, h, h1, h2, h3⟩ := B
  obtain ⟨v', X', e, P⟩ := l05N_ev h hx (by omega) m hm
  obtain ⟨l', b', q1, q2, q3, q4⟩ := BX.put (l := l) (v := v) h3 h2 P
  exact ⟨v', X', e, l', b', q1, by omega, q3, q4⟩
theorem BX.c {Z X : AH} {v s : AV} {n : Nat} {D : List Int} (B : BX Z X v n) (hn : n ≤ 100000) (hs : Bs Z s D) (hD : D.length ≤ 100000) (m : Nat) (hm : 24 ≤ m) : ∃ v' X', ev Try.prog m 136 [v, s] X = some (v', X') ∧ BX Z X' v' (n + 8 + D.length) := by
  obtain ⟨l, b, h, h1, h2, h3⟩ := B
  obtain ⟨v', X', e, P⟩ := l05Counted_ev h (hs.kp h3) (fun H' k => hs.kp (KoS.kp h3 k (by simp; exact h2))) (by omega) hD m hm
  obtain ⟨l', b', q1, q2, q3, q4⟩ := BX.put (l := l) (v := v) h3 h2 P
  exact ⟨v', X', e, l', b', q1, by omega, q3, q4⟩
theorem BX.a {Z X : AH} {v s : AV} {n : Nat} {D : List Int} (B : BX Z X v n) (hn : n ≤ 100000) (hs : Bs Z s D) (hD : D.length ≤ 100000) : ∃ v' X', appA Try.prog 34 34 v s X = some (v', X') ∧ BX Z X' v' (n + D.length) := by
  obtain ⟨l, b, h, h1, h2, h3⟩ := B
  obtain ⟨v', X', b', e, B', k', c'⟩ := h.appB (hs.kp h3) (by omega)
  exact ⟨v', X', e, _, b', B', by simp; omega, by have := h3.next; rcases c' with h | h <;> omega, KoS.kp h3 k' (by simp; exact h2)⟩
/-- a new row of one byte -/
theorem BX.new {Z X : AH} (K : Kp Z X) (x : Int) : BX Z (X.push (.cells 5 false [.int .u8 x])) (.slice X.next 0 1) 1 :=
  ⟨[x], X.next, ⟨rfl, by simp, by simp [u8L]⟩, by simp, K.next, K.push _⟩
end Go.Ev

/- A frame's bytes by the program: printed by a program of this session (gen_zr.py). -/
namespace Go.Ev
open Go Go.Proofs
set_option linter.unusedSimpArgs false
set_option linter.unusedVariables false

/-- bytes of one's own, made behind Z -/
def BE (Z X : AH) (v : AV) (l : List Int) : Prop := ∃ b : Nat, BO X v l b ∧ Z.next ≤ b ∧ Kp Z X
theorem BE.kp {Z X : AH} {v : AV} {l : List Int} (B : BE Z X v l) : Kp Z X := B.choose_spec.2.2
theorem BE.one {Z X : AH} {v : AV} {l : List Int} (B : BE Z X v l) : v.one = true := by obtain ⟨b, h, _⟩ := B; exact h.bs.one
theorem BE.move {Z X X' : AH} {v : AV} {l : List Int} (B : BE Z X v l) (K : Kp X X') : BE Z X' v l := by
  obtain ⟨b, h, h2, h3⟩ := B; exact ⟨b, h.kp K, h2, h3.trans K⟩
theorem BE.n {Z X : AH} {v : AV} {l : List Int} (B : BE Z X v l) (hn : l.length ≤ 50000) {x : Int} (hx : inN x) (m : Nat) (hm : 22 ≤ m) : ∃ v' X', ev Try.prog m 180 [v, .int .i64 x] X = some (v', X') ∧ BE Z X' v' (l ++ encV x) := by
  obtain ⟨b, h, h2, h3⟩ := B
  obtain ⟨v', X', b', e, B', k', c'⟩ := addVar_ev h (by omega) hx.1 hx.2 m (by omega)
  exact ⟨v', X', e, b', B', by have := h3.next; rcases c' with h | h <;> omega, KoS.kp h3 k' (by simp; exact h2)⟩
theorem BE.c {Z X : AH} {v s : AV} {l D : List Int} (B : BE Z X v l) (hn : l.length ≤ 50000) (hs : Bs Z s D) (hD : D.length ≤ 100000) (m : Nat) (hm : 24 ≤ m) : ∃ v' X', ev Try.prog m 182 [v, s] X = some (v', X') ∧ BE Z X' v' (l ++ (encV D.length ++ D)) := by
  obtain ⟨b, h, h2, h3⟩ := B
  obtain ⟨v', X', b', e, B', k', c'⟩ := addCounted_ev h (hs.kp h3) (fun H' k => hs.kp (KoS.kp h3 k (by simp; exact h2))) (by omega) hD m (by omega)
  exact ⟨v', X', e, b', B', by have := h3.next; rcases c' with h | h <;> omega, KoS.kp h3 k' (by simp; exact h2)⟩
theorem BE.a {Z X : AH} {v s : AV} {l D : List Int} (B : BE Z X v l) (hn : l.length ≤ 50000) (hs : Bs Z s D) (hD : D.length ≤ 100000) : ∃ v' X', appA Try.prog 34 34 v s X = some (v', X') ∧ BE Z X' v' (l ++ D) := by
  obtain ⟨b, h, h2, h3⟩ := B
  obtain ⟨v', X', b', e, B', k', c'⟩ := h.appB (hs.kp h3) (by omega)
  exact ⟨v', X', e, b', B', by have := h3.next; rcases c' with h | h <;> omega, KoS.kp h3 k' (by simp; exact h2)⟩
/-- several numbers -/
theorem BE.vs {Z X : AH} {v : AV} {l xs : List Int} (B : BE Z X v l) (hn : l.length ≤ 50000) (hx : ∀ x ∈ xs, inN x) (hxl : xs.length ≤ 100) (m : Nat) (hm : 120 ≤ m) :
    ∃ v' X', ev Try.prog m 224 [v, .slice X.next 0 xs.length] (X.push (.cells 3 false (xs.map (.int .i64)))) = some (v', X') ∧ BE Z X' v' (l ++ encs xs) := by
  obtain ⟨b, h, h2, h3⟩ := B
  have hbn := h.2.1
  have kA : Kp X (X.push (.cells 3 false (xs.map (.int .i64)))) := (Kp.refl X).push _
  have RA : (Ty.sl 3 (.int .i64)).R true (X.push (.cells 3 false (xs.map (.int .i64)))) [.slice X.next 0 xs.length] xs [X.next] := ints_one (by simp) (by simp) (fun z hz => by
    have := hx z hz
    simp only [inN] at this
    exact InK.i64 (by omega) (by omega))
  obtain ⟨v', X', b', e, B', k', c'⟩ := addVars_ev (h.kp kA) RA (by simp; omega) hx (by omega) hxl m hm
  exact ⟨v', X', e, b', B', by have := h3.next; have := kA.next; rcases c' with h | h <;> omega, KoS.kp (h3.trans kA) k' (by simp; exact h2)⟩
/-- a new row of one byte -/
theorem BE.new {Z X : AH} (K : Kp Z X) (x : Int) : BE Z (X.push (.cells 5 false [.int .u8 x])) (.slice X.next 0 1) [x] :=
  ⟨X.next, ⟨rfl, by simp, by simp [u8L]⟩, K.next, K.push _⟩
/-- the first byte read and written -/
theorem BE.fst {Z X : AH} {v : AV} {x : Int} {l : List Int} (B : BE Z X v (x :: l)) : ∃ b, idxA Try.prog 34 v (.int .i64 0) = some (.ptr b 0) ∧ Z.next ≤ b ∧ ldVar Try.prog 5 b 0 X = some (.int .u8 x) ∧ ∀ z, stVar Try.prog 5 b 0 (.int .u8 z) X = some (X.set b (.cells 5 false (u8L (z :: l)))) ∧ BE Z (X.set b (.cells 5 false (u8L (z :: l)))) v (z :: l) := by
  obtain ⟨b, ⟨h0, h1, h2'⟩, h2, h3⟩ := B
  refine ⟨b, by rw [h0]; simp [idxA], h2, by simp [ldVar, h2', u8L], fun z => ⟨by simp [stVar, h2', u8L, spl], b, ⟨by simpa using h0, by simpa using h1, by simp⟩, h2, ⟨by have := h3.next; simpa using this, fun y hy => by rw [AH.set_getN _ _ (by omega)]; exact h3.get y hy⟩⟩⟩
structure ZrT (τ : Tm) (p : Nat) (v : AV) (k : Int) : Prop where
  t1 : τ 1 = .ptr p 0
  t3 : τ 3 = v
  tk : τ 13 = .int .i64 k
structure ZrB (Z C0 : AH) (p : Nat) (k a b c : Int) (fin : Bool) (d t r v0 : AV) (D T : List Int) (rs : List Rg) (bR : List Nat) : Prop where
  g : Z.get p = some (.cells 72 false (frC k a b c fin d t r))
  pn : p < Z.next
  hd : Bs Z d D
  ht : Bs Z t T
  hr : (Ty.sl 94 tT94).R true Z [r] rs bR
  lD : D.length ≤ 1600
  lT : T.length ≤ 20
  ha : inV a
  hb : inV b
  hc : inV c
  B0 : BE Z C0 v0 [k]
def ZrR (Z : AH) (m : Nat) (pl : Nat) (τ : Tm) (C0 : AH) (l : List Int) : Prop := ∃ τ' H', evAt Try.prog (ev Try.prog m) m 133 pl τ C0 = some (.normal, τ', H') ∧ BE Z H' (τ' 3) l
set_option maxRecDepth 20000 in
theorem zrS_58 {p : Nat} {v : AV} (k : Int) (h0 : ¬ (k = 0)) (m : Nat) (τ : Tm) (H : AH) (S : ZrT τ p v k) :
    ∃ τ', evAt Try.prog (ev Try.prog m) m 133 58 τ H = evAt Try.prog (ev Try.prog m) m 133 235 τ' H ∧ ZrT τ' p v k := by
  obtain ⟨t1, t3, tk⟩ := S
  rw [at_M Try.func133 58 (by decide) 6 (by decide) (by kernel_rfl) [235]]
  exact ⟨_, by simp [Try.f133, tk, beqF, h0]; rfl, by simp [t1], by simp [t3], by simp [tk]⟩
set_option maxRecDepth 20000 in
theorem zrS_235 {p : Nat} {v : AV} (k : Int) (h2 : ¬ (k = 2)) (m : Nat) (τ : Tm) (H : AH) (S : ZrT τ p v k) :
    ∃ τ', evAt Try.prog (ev Try.prog m) m 133 235 τ H = evAt Try.prog (ev Try.prog m) m 133 943 τ' H ∧ ZrT τ' p v k := by
  obtain ⟨t1, t3, tk⟩ := S
  rw [at_M Try.func133 235 (by decide) 8 (by decide) (by kernel_rfl) [943]]
  exact ⟨_, by simp [Try.f133, tk, beqF, h2]; rfl, by simp [t1], by simp [t3], by simp [tk]⟩
set_option maxRecDepth 20000 in
theorem zrS_943 {p : Nat} {v : AV} (k : Int) (h4 : ¬ (k = 4)) (m : Nat) (τ : Tm) (H : AH) (S : ZrT τ p v k) :
    ∃ τ', evAt Try.prog (ev Try.prog m) m 133 943 τ H = evAt Try.prog (ev Try.prog m) m 133 3775 τ' H ∧ ZrT τ' p v k := by
  obtain ⟨t1, t3, tk⟩ := S
  rw [at_M Try.func133 943 (by decide) 10 (by decide) (by kernel_rfl) [3775]]
  exact ⟨_, by simp [Try.f133, tk, beqF, h4]; rfl, by simp [t1], by simp [t3], by simp [tk]⟩
set_option maxRecDepth 20000 in
theorem zrS_3775 {p : Nat} {v : AV} (k : Int) (h5 : ¬ (k = 5)) (h17 : ¬ (k = 17)) (h21 : ¬ (k = 21)) (m : Nat) (τ : Tm) (H : AH) (S : ZrT τ p v k) :
    ∃ τ', evAt Try.prog (ev Try.prog m) m 133 3775 τ H = evAt Try.prog (ev Try.prog m) m 133 15103 τ' H ∧ ZrT τ' p v k := by
  obtain ⟨t1, t3, tk⟩ := S
  rw [at_M Try.func133 3775 (by decide) 12 (by decide) (by kernel_rfl) [15103]]
  exact ⟨_, by simp [Try.f133, tk, beqF, h5, h17, h21]; rfl, by simp [t1], by simp [t3], by simp [tk]⟩
set_option maxRecDepth 20000 in
theorem zrS_15103 {p : Nat} {v : AV} (k : Int) (h6 : ¬ (k = 6)) (m : Nat) (τ : Tm) (H : AH) (S : ZrT τ p v k) :
    ∃ τ', evAt Try.prog (ev Try.prog m) m 133 15103 τ H = evAt Try.prog (ev Try.prog m) m 133 60415 τ' H ∧ ZrT τ' p v k := by
  obtain ⟨t1, t3, tk⟩ := S
  rw [at_M Try.func133 15103 (by decide) 14 (by decide) (by kernel_rfl) [60415]]
  exact ⟨_, by simp [Try.f133, tk, beqF, h6]; rfl, by simp [t1], by simp [t3], by simp [tk]⟩
set_option maxRecDepth 20000 in
theorem zrS_60415 {p : Nat} {v : AV} (k : Int) (h7 : ¬ (k = 7)) (m : Nat) (τ : Tm) (H : AH) (S : ZrT τ p v k) :
    ∃ τ', evAt Try.prog (ev Try.prog m) m 133 60415 τ H = evAt Try.prog (ev Try.prog m) m 133 241663 τ' H ∧ ZrT τ' p v k := by
  obtain ⟨t1, t3, tk⟩ := S
  rw [at_M Try.func133 60415 (by decide) 16 (by decide) (by kernel_rfl) [241663]]
  exact ⟨_, by simp [Try.f133, tk, beqF, h7]; rfl, by simp [t1], by simp [t3], by simp [tk]⟩
set_option maxRecDepth 20000 in
theorem zrS_241663 {p : Nat} {v : AV} (k : Int) (h8 : ¬ (k = 8)) (m : Nat) (τ : Tm) (H : AH) (S : ZrT τ p v k) :
    ∃ τ', evAt Try.prog (ev Try.prog m) m 133 241663 τ H = evAt Try.prog (ev Try.prog m) m 133 966655 τ' H ∧ ZrT τ' p v k := by
  obtain ⟨t1, t3, tk⟩ := S
  rw [at_M Try.func133 241663 (by decide) 18 (by decide) (by kernel_rfl) [966655]]
  exact ⟨_, by simp [Try.f133, tk, beqF, h8]; rfl, by simp [t1], by simp [t3], by simp [tk]⟩
set_option maxRecDepth 20000 in
theorem zrS_966655 {p : Nat} {v : AV} (k : Int) (h18 : ¬ (k = 18)) (h22 : ¬ (k = 22)) (m : Nat) (τ : Tm) (H : AH) (S : ZrT τ p v k) :
    ∃ τ', evAt Try.prog (ev Try.prog m) m 133 966655 τ H = evAt Try.prog (ev Try.prog m) m 133 3866623 τ' H ∧ ZrT τ' p v k := by
  obtain ⟨t1, t3, tk⟩ := S
  rw [at_M Try.func133 966655 (by decide) 20 (by decide) (by kernel_rfl) [3866623]]
  exact ⟨_, by simp [Try.f133, tk, beqF, h18, h22]; rfl, by simp [t1], by simp [t3], by simp [tk]⟩
set_option maxRecDepth 20000 in
theorem zrS_3866623 {p : Nat} {v : AV} (k : Int) (h16 : ¬ (k = 16)) (h20 : ¬ (k = 20)) (h25 : ¬ (k = 25)) (m : Nat) (τ : Tm) (H : AH) (S : ZrT τ p v k) :
    ∃ τ', evAt Try.prog (ev Try.prog m) m 133 3866623 τ H = evAt Try.prog (ev Try.prog m) m 133 15466495 τ' H ∧ ZrT τ' p v k := by
  obtain ⟨t1, t3, tk⟩ := S
  rw [at_M Try.func133 3866623 (by decide) 22 (by decide) (by kernel_rfl) [15466495]]
  exact ⟨_, by simp [Try.f133, tk, beqF, h16, h20, h25]; rfl, by simp [t1], by simp [t3], by simp [tk]⟩
set_option maxRecDepth 20000 in
theorem zrS_15466495 {p : Nat} {v : AV} (k : Int) (h24 : ¬ (k = 24)) (m : Nat) (τ : Tm) (H : AH) (S : ZrT τ p v k) :
    ∃ τ', evAt Try.prog (ev Try.prog m) m 133 15466495 τ H = evAt Try.prog (ev Try.prog m) m 133 61865983 τ' H ∧ ZrT τ' p v k := by
  obtain ⟨t1, t3, tk⟩ := S
  rw [at_M Try.func133 15466495 (by decide) 24 (by decide) (by kernel_rfl) [61865983]]
  exact ⟨_, by simp [Try.f133, tk, beqF, h24]; rfl, by simp [t1], by simp [t3], by simp [tk]⟩
set_option maxRecDepth 20000 in
theorem zrS_61865983 {p : Nat} {v : AV} (k : Int) (h26 : ¬ (k = 26)) (h27 : ¬ (k = 27)) (m : Nat) (τ : Tm) (H : AH) (S : ZrT τ p v k) :
    ∃ τ', evAt Try.prog (ev Try.prog m) m 133 61865983 τ H = evAt Try.prog (ev Try.prog m) m 133 247463935 τ' H ∧ ZrT τ' p v k := by
  obtain ⟨t1, t3, tk⟩ := S
  rw [at_M Try.func133 61865983 (by decide) 26 (by decide) (by kernel_rfl) [247463935]]
  exact ⟨_, by simp [Try.f133, tk, beqF, h26, h27]; rfl, by simp [t1], by simp [t3], by simp [tk]⟩
set_option maxRecDepth 20000 in
theorem zrS_247463935 {p : Nat} {v : AV} (k : Int) (h28 : ¬ (k = 28)) (m : Nat) (τ : Tm) (H : AH) (S : ZrT τ p v k) :
    ∃ τ', evAt Try.prog (ev Try.prog m) m 133 247463935 τ H = evAt Try.prog (ev Try.prog m) m 133 989855743 τ' H ∧ ZrT τ' p v k := by
  obtain ⟨t1, t3, tk⟩ := S
  rw [at_M Try.func133 247463935 (by decide) 28 (by decide) (by kernel_rfl) [989855743]]
  exact ⟨_, by simp [Try.f133, tk, beqF, h28]; rfl, by simp [t1], by simp [t3], by simp [tk]⟩
set_option maxRecDepth 20000 in
theorem zrS_989855743 {p : Nat} {v : AV} (k : Int) (h29 : ¬ (k = 29)) (m : Nat) (τ : Tm) (H : AH) (S : ZrT τ p v k) :
    ∃ τ', evAt Try.prog (ev Try.prog m) m 133 989855743 τ H = evAt Try.prog (ev Try.prog m) m 133 3959422975 τ' H ∧ ZrT τ' p v k := by
  obtain ⟨t1, t3, tk⟩ := S
  rw [at_M Try.func133 989855743 (by decide) 30 (by decide) (by kernel_rfl) [3959422975]]
  exact ⟨_, by simp [Try.f133, tk, beqF, h29]; rfl, by simp [t1], by simp [t3], by simp [tk]⟩
end Go.Ev

/- A frame's bytes by the program: printed by a program of this session (gen_zr.py). -/
namespace Go.Ev
open Go Go.Proofs
set_option linter.unusedSimpArgs false
set_option linter.unusedVariables false

set_option maxRecDepth 20000 in
set_option maxHeartbeats 2000000 in
theorem zrK_1 {Z C0 : AH} {p : Nat} {a b c : Int} {fin : Bool} {d t r v0 : AV} {D T : List Int} {rs : List Rg} {bR : List Nat} (B : ZrB Z C0 p 1 a b c fin d t r v0 D T rs bR) (m : Nat) (hm : 320 ≤ m) (τ : Tm) (S : ZrT τ p v0 1) : ZrR Z m 3959422975 τ C0 ([1]) := by
  obtain ⟨t1, t3, tk⟩ := S
  obtain ⟨g, pn, hd, ht, hr, lD, lT, ha, hb, hc, B0⟩ := B
  have K0 := B0.kp
  simp only [inV] at ha hb hc
  have va := vL_le a; have vb := vL_le b; have vc := vL_le c
  obtain ⟨f0_0, f0_1, f0_2, f0_3, f0_4, f0_5, f0_6, f0_7, f0_8⟩ := ld72 ((K0.get p pn).trans g)
  unfold ZrR
  rw [at_M Try.func133 3959422975 (by decide) 32 (by decide) (by kernel_rfl) []]
  refine ⟨_, _, by simp [Try.f133, U, t1, t3, tk, f0_1, f0_2, f0_3, f0_4, f0_5, f0_6, f0_0, evHist, ObsOk, ObOk, List.getElem?_cons_zero]; first | rfl | exact ⟨rfl, rfl⟩, ?_⟩
  simpa [t3] using B0
set_option maxRecDepth 20000 in
set_option maxHeartbeats 2000000 in
theorem zrK_30 {Z C0 : AH} {p : Nat} {a b c : Int} {fin : Bool} {d t r v0 : AV} {D T : List Int} {rs : List Rg} {bR : List Nat} (B : ZrB Z C0 p 30 a b c fin d t r v0 D T rs bR) (m : Nat) (hm : 320 ≤ m) (τ : Tm) (S : ZrT τ p v0 30) : ZrR Z m 3959422975 τ C0 ([30]) := by
  obtain ⟨t1, t3, tk⟩ := S
  obtain ⟨g, pn, hd, ht, hr, lD, lT, ha, hb, hc, B0⟩ := B
  have K0 := B0.kp
  simp only [inV] at ha hb hc
  have va := vL_le a; have vb := vL_le b; have vc := vL_le c
  obtain ⟨f0_0, f0_1, f0_2, f0_3, f0_4, f0_5, f0_6, f0_7, f0_8⟩ := ld72 ((K0.get p pn).trans g)
  unfold ZrR
  rw [at_M Try.func133 3959422975 (by decide) 32 (by decide) (by kernel_rfl) []]
  refine ⟨_, _, by simp [Try.f133, U, t1, t3, tk, f0_1, f0_2, f0_3, f0_4, f0_5, f0_6, f0_0, evHist, ObsOk, ObOk, List.getElem?_cons_zero]; first | rfl | exact ⟨rfl, rfl⟩, ?_⟩
  simpa [t3] using B0
set_option maxRecDepth 20000 in
set_option maxHeartbeats 2000000 in
theorem zrK_4 {Z C0 : AH} {p : Nat} {a b c : Int} {fin : Bool} {d t r v0 : AV} {D T : List Int} {rs : List Rg} {bR : List Nat} (B : ZrB Z C0 p 4 a b c fin d t r v0 D T rs bR) (m : Nat) (hm : 320 ≤ m) (τ : Tm) (S : ZrT τ p v0 4) : ZrR Z m 943 τ C0 ([4] ++ encs [a, b, c]) := by
  obtain ⟨t1, t3, tk⟩ := S
  obtain ⟨g, pn, hd, ht, hr, lD, lT, ha, hb, hc, B0⟩ := B
  have K0 := B0.kp
  simp only [inV] at ha hb hc
  have va := vL_le a; have vb := vL_le b; have vc := vL_le c
  obtain ⟨f0_0, f0_1, f0_2, f0_3, f0_4, f0_5, f0_6, f0_7, f0_8⟩ := ld72 ((K0.get p pn).trans g)
  have hxs : ∀ x ∈ ([a, b, c] : List Int), inN x := fun x hx => by simp at hx; rcases hx with rfl | rfl | rfl; exact ⟨ha.1, ha.2⟩; exact ⟨hb.1, hb.2⟩; exact ⟨hc.1, hc.2⟩
  have hel := encs_len [a, b, c]
  simp at hel
  obtain ⟨v1, X1, e1, B1⟩ := B0.vs (xs := [a, b, c]) (by simp) hxs (by simp) m (by omega)
  obtain ⟨A, hA⟩ : ∃ A : AH, A = C0.push (.cells 3 false (([a, b, c] : List Int).map (.int .i64))) := ⟨_, rfl⟩
  rw [← hA] at e1
  have KA : Kp C0 A := by rw [hA]; exact (Kp.refl C0).push _
  have hA' := hA.symm
  simp only [List.map_cons, List.map_nil] at hA'
  simp only [List.length_cons, List.length_nil] at e1
  obtain ⟨a0_0, a0_1, a0_2, a0_3, a0_4, a0_5, a0_6, a0_7, a0_8⟩ := ld72 (((K0.trans KA).get p pn).trans g)
  have K1 := B1.kp
  obtain ⟨f1_0, f1_1, f1_2, f1_3, f1_4, f1_5, f1_6, f1_7, f1_8⟩ := ld72 ((K1.get p pn).trans g)
  unfold ZrR
  rw [at_M Try.func133 943 (by decide) 10 (by decide) (by kernel_rfl) []]
  refine ⟨_, _, by simp [Try.f133, U, t1, t3, tk, hA', a0_5, zerosA, fillA, spl, e1, f0_1, f0_2, f0_3, f0_4, f0_5, f0_6, f0_0, f1_1, f1_2, f1_3, f1_4, f1_5, f1_6, f1_0, evHist, ObsOk, ObOk, List.getElem?_cons_zero]; first | rfl | exact ⟨rfl, rfl⟩, ?_⟩
  simpa [t3] using B1
set_option maxRecDepth 20000 in
set_option maxHeartbeats 2000000 in
theorem zrK_5 {Z C0 : AH} {p : Nat} {a b c : Int} {fin : Bool} {d t r v0 : AV} {D T : List Int} {rs : List Rg} {bR : List Nat} (B : ZrB Z C0 p 5 a b c fin d t r v0 D T rs bR) (m : Nat) (hm : 320 ≤ m) (τ : Tm) (S : ZrT τ p v0 5) : ZrR Z m 3775 τ C0 ([5] ++ encs [a, b]) := by
  obtain ⟨t1, t3, tk⟩ := S
  obtain ⟨g, pn, hd, ht, hr, lD, lT, ha, hb, hc, B0⟩ := B
  have K0 := B0.kp
  simp only [inV] at ha hb hc
  have va := vL_le a; have vb := vL_le b; have vc := vL_le c
  obtain ⟨f0_0, f0_1, f0_2, f0_3, f0_4, f0_5, f0_6, f0_7, f0_8⟩ := ld72 ((K0.get p pn).trans g)
  have hxs : ∀ x ∈ ([a, b] : List Int), inN x := fun x hx => by simp at hx; rcases hx with rfl | rfl; exact ⟨ha.1, ha.2⟩; exact ⟨hb.1, hb.2⟩
  have hel := encs_len [a, b]
  simp at hel
  obtain ⟨v1, X1, e1, B1⟩ := B0.vs (xs := [a, b]) (by simp) hxs (by simp) m (by omega)
  obtain ⟨A, hA⟩ : ∃ A : AH, A = C0.push (.cells 3 false (([a, b] : List Int).map (.int .i64))) := ⟨_, rfl⟩
  rw [← hA] at e1
  have KA : Kp C0 A := by rw [hA]; exact (Kp.refl C0).push _
  have hA' := hA.symm
  simp only [List.map_cons, List.map_nil] at hA'
  simp only [List.length_cons, List.length_nil] at e1
  obtain ⟨a0_0, a0_1, a0_2, a0_3, a0_4, a0_5, a0_6, a0_7, a0_8⟩ := ld72 (((K0.trans KA).get p pn).trans g)
  have K1 := B1.kp
  obtain ⟨f1_0, f1_1, f1_2, f1_3, f1_4, f1_5, f1_6, f1_7, f1_8⟩ := ld72 ((K1.get p pn).trans g)
  unfold ZrR
  rw [at_M Try.func133 3775 (by decide) 12 (by decide) (by kernel_rfl) []]
  refine ⟨_, _, by simp [Try.f133, U, t1, t3, tk, hA', a0_5, zerosA, fillA, spl, e1, f0_1, f0_2, f0_3, f0_4, f0_5, f0_6, f0_0, f1_1, f1_2, f1_3, f1_4, f1_5, f1_6, f1_0, evHist, ObsOk, ObOk, List.getElem?_cons_zero]; first | rfl | exact ⟨rfl, rfl⟩, ?_⟩
  simpa [t3] using B1
set_option maxRecDepth 20000 in
set_option maxHeartbeats 2000000 in
theorem zrK_17 {Z C0 : AH} {p : Nat} {a b c : Int} {fin : Bool} {d t r v0 : AV} {D T : List Int} {rs : List Rg} {bR : List Nat} (B : ZrB Z C0 p 17 a b c fin d t r v0 D T rs bR) (m : Nat) (hm : 320 ≤ m) (τ : Tm) (S : ZrT τ p v0 17) : ZrR Z m 3775 τ C0 ([17] ++ encs [a, b]) := by
  obtain ⟨t1, t3, tk⟩ := S
  obtain ⟨g, pn, hd, ht, hr, lD, lT, ha, hb, hc, B0⟩ := B
  have K0 := B0.kp
  simp only [inV] at ha hb hc
  have va := vL_le a; have vb := vL_le b; have vc := vL_le c
  obtain ⟨f0_0, f0_1, f0_2, f0_3, f0_4, f0_5, f0_6, f0_7, f0_8⟩ := ld72 ((K0.get p pn).trans g)
  have hxs : ∀ x ∈ ([a, b] : List Int), inN x := fun x hx => by simp at hx; rcases hx with rfl | rfl; exact ⟨ha.1, ha.2⟩; exact ⟨hb.1, hb.2⟩
  have hel := encs_len [a, b]
  simp at hel
  obtain ⟨v1, X1, e1, B1⟩ := B0.vs (xs := [a, b]) (by simp) hxs (by simp) m (by omega)
  obtain ⟨A, hA⟩ : ∃ A : AH, A = C0.push (.cells 3 false (([a, b] : List Int).map (.int .i64))) := ⟨_, rfl⟩
  rw [← hA] at e1
  have KA : Kp C0 A := by rw [hA]; exact (Kp.refl C0).push _
  have hA' := hA.symm
  simp only [List.map_cons, List.map_nil] at hA'
  simp only [List.length_cons, List.length_nil] at e1
  obtain ⟨a0_0, a0_1, a0_2, a0_3, a0_4, a0_5, a0_6, a0_7, a0_8⟩ := ld72 (((K0.trans KA).get p pn).trans g)
  have K1 := B1.kp
  obtain ⟨f1_0, f1_1, f1_2, f1_3, f1_4, f1_5, f1_6, f1_7, f1_8⟩ := ld72 ((K1.get p pn).trans g)
  unfold ZrR
  rw [at_M Try.func133 3775 (by decide) 12 (by decide) (by kernel_rfl) []]
  refine ⟨_, _, by simp [Try.f133, U, t1, t3, tk, hA', a0_5, zerosA, fillA, spl, e1, f0_1, f0_2, f0_3, f0_4, f0_5, f0_6, f0_0, f1_1, f1_2, f1_3, f1_4, f1_5, f1_6, f1_0, evHist, ObsOk, ObOk, List.getElem?_cons_zero]; first | rfl | exact ⟨rfl, rfl⟩, ?_⟩
  simpa [t3] using B1
set_option maxRecDepth 20000 in
set_option maxHeartbeats 2000000 in
theorem zrK_21 {Z C0 : AH} {p : Nat} {a b c : Int} {fin : Bool} {d t r v0 : AV} {D T : List Int} {rs : List Rg} {bR : List Nat} (B : ZrB Z C0 p 21 a b c fin d t r v0 D T rs bR) (m : Nat) (hm : 320 ≤ m) (τ : Tm) (S : ZrT τ p v0 21) : ZrR Z m 3775 τ C0 ([21] ++ encs [a, b]) := by
  obtain ⟨t1, t3, tk⟩ := S
  obtain ⟨g, pn, hd, ht, hr, lD, lT, ha, hb, hc, B0⟩ := B
  have K0 := B0.kp
  simp only [inV] at ha hb hc
  have va := vL_le a; have vb := vL_le b; have vc := vL_le c
  obtain ⟨f0_0, f0_1, f0_2, f0_3, f0_4, f0_5, f0_6, f0_7, f0_8⟩ := ld72 ((K0.get p pn).trans g)
  have hxs : ∀ x ∈ ([a, b] : List Int), inN x := fun x hx => by simp at hx; rcases hx with rfl | rfl; exact ⟨ha.1, ha.2⟩; exact ⟨hb.1, hb.2⟩
  have hel := encs_len [a, b]
  simp at hel
  obtain ⟨v1, X1, e1, B1⟩ := B0.vs (xs := [a, b]) (by simp) hxs (by simp) m (by omega)
  obtain ⟨A, hA⟩ : ∃ A : AH, A = C0.push (.cells 3 false (([a, b] : List Int).map (.int .i64))) := ⟨_, rfl⟩
  rw [← hA] at e1
  have KA : Kp C0 A := by rw [hA]; exact (Kp.refl C0).push _
  have hA' := hA.symm
  simp only [List.map_cons, List.map_nil] at hA'
  simp only [List.length_cons, List.length_nil] at e1
  obtain ⟨a0_0, a0_1, a0_2, a0_3, a0_4, a0_5, a0_6, a0_7, a0_8⟩ := ld72 (((K0.trans KA).get p pn).trans g)
  have K1 := B1.kp
  obtain ⟨f1_0, f1_1, f1_2, f1_3, f1_4, f1_5, f1_6, f1_7, f1_8⟩ := ld72 ((K1.get p pn).trans g)
  unfold ZrR
  rw [at_M Try.func133 3775 (by decide) 12 (by decide) (by kernel_rfl) []]
  refine ⟨_, _, by simp [Try.f133, U, t1, t3, tk, hA', a0_5, zerosA, fillA, spl, e1, f0_1, f0_2, f0_3, f0_4, f0_5, f0_6, f0_0, f1_1, f1_2, f1_3, f1_4, f1_5, f1_6, f1_0, evHist, ObsOk, ObOk, List.getElem?_cons_zero]; first | rfl | exact ⟨rfl, rfl⟩, ?_⟩
  simpa [t3] using B1
set_option maxRecDepth 20000 in
set_option maxHeartbeats 2000000 in
theorem zrK_16 {Z C0 : AH} {p : Nat} {a b c : Int} {fin : Bool} {d t r v0 : AV} {D T : List Int} {rs : List Rg} {bR : List Nat} (B : ZrB Z C0 p 16 a b c fin d t r v0 D T rs bR) (m : Nat) (hm : 320 ≤ m) (τ : Tm) (S : ZrT τ p v0 16) : ZrR Z m 3866623 τ C0 ([16] ++ encV a) := by
  obtain ⟨t1, t3, tk⟩ := S
  obtain ⟨g, pn, hd, ht, hr, lD, lT, ha, hb, hc, B0⟩ := B
  have K0 := B0.kp
  simp only [inV] at ha hb hc
  have va := vL_le a; have vb := vL_le b; have vc := vL_le c
  obtain ⟨f0_0, f0_1, f0_2, f0_3, f0_4, f0_5, f0_6, f0_7, f0_8⟩ := ld72 ((K0.get p pn).trans g)
  obtain ⟨v1, X1, e1, B1⟩ := B0.n (by simp [encV_len]; try omega) (x := a) ⟨ha.1, ha.2⟩ m (by omega)
  have K1 := B1.kp
  obtain ⟨f1_0, f1_1, f1_2, f1_3, f1_4, f1_5, f1_6, f1_7, f1_8⟩ := ld72 ((K1.get p pn).trans g)
  unfold ZrR
  rw [at_M Try.func133 3866623 (by decide) 22 (by decide) (by kernel_rfl) []]
  refine ⟨_, _, by simp [Try.f133, U, t1, t3, tk, e1, f0_1, f0_2, f0_3, f0_4, f0_5, f0_6, f0_0, f1_1, f1_2, f1_3, f1_4, f1_5, f1_6, f1_0, evHist, ObsOk, ObOk, List.getElem?_cons_zero]; first | rfl | exact ⟨rfl, rfl⟩, ?_⟩
  simpa [t3] using B1
set_option maxRecDepth 20000 in
set_option maxHeartbeats 2000000 in
theorem zrK_20 {Z C0 : AH} {p : Nat} {a b c : Int} {fin : Bool} {d t r v0 : AV} {D T : List Int} {rs : List Rg} {bR : List Nat} (B : ZrB Z C0 p 20 a b c fin d t r v0 D T rs bR) (m : Nat) (hm : 320 ≤ m) (τ : Tm) (S : ZrT τ p v0 20) : ZrR Z m 3866623 τ C0 ([20] ++ encV a) := by
  obtain ⟨t1, t3, tk⟩ := S
  obtain ⟨g, pn, hd, ht, hr, lD, lT, ha, hb, hc, B0⟩ := B
  have K0 := B0.kp
  simp only [inV] at ha hb hc
  have va := vL_le a; have vb := vL_le b; have vc := vL_le c
  obtain ⟨f0_0, f0_1, f0_2, f0_3, f0_4, f0_5, f0_6, f0_7, f0_8⟩ := ld72 ((K0.get p pn).trans g)
  obtain ⟨v1, X1, e1, B1⟩ := B0.n (by simp [encV_len]; try omega) (x := a) ⟨ha.1, ha.2⟩ m (by omega)
  have K1 := B1.kp
  obtain ⟨f1_0, f1_1, f1_2, f1_3, f1_4, f1_5, f1_6, f1_7, f1_8⟩ := ld72 ((K1.get p pn).trans g)
  unfold ZrR
  rw [at_M Try.func133 3866623 (by decide) 22 (by decide) (by kernel_rfl) []]
  refine ⟨_, _, by simp [Try.f133, U, t1, t3, tk, e1, f0_1, f0_2, f0_3, f0_4, f0_5, f0_6, f0_0, f1_1, f1_2, f1_3, f1_4, f1_5, f1_6, f1_0, evHist, ObsOk, ObOk, List.getElem?_cons_zero]; first | rfl | exact ⟨rfl, rfl⟩, ?_⟩
  simpa [t3] using B1
set_option maxRecDepth 20000 in
set_option maxHeartbeats 2000000 in
theorem zrK_25 {Z C0 : AH} {p : Nat} {a b c : Int} {fin : Bool} {d t r v0 : AV} {D T : List Int} {rs : List Rg} {bR : List Nat} (B : ZrB Z C0 p 25 a b c fin d t r v0 D T rs bR) (m : Nat) (hm : 320 ≤ m) (τ : Tm) (S : ZrT τ p v0 25) : ZrR Z m 3866623 τ C0 ([25] ++ encV a) := by
  obtain ⟨t1, t3, tk⟩ := S
  obtain ⟨g, pn, hd, ht, hr, lD, lT, ha, hb, hc, B0⟩ := B
  have K0 := B0.kp
  simp only [inV] at ha hb hc
  have va := vL_le a; have vb := vL_le b; have vc := vL_le c
  obtain ⟨f0_0, f0_1, f0_2, f0_3, f0_4, f0_5, f0_6, f0_7, f0_8⟩ := ld72 ((K0.get p pn).trans g)
  obtain ⟨v1, X1, e1, B1⟩ := B0.n (by simp [encV_len]; try omega) (x := a) ⟨ha.1, ha.2⟩ m (by omega)
  have K1 := B1.kp
  obtain ⟨f1_0, f1_1, f1_2, f1_3, f1_4, f1_5, f1_6, f1_7, f1_8⟩ := ld72 ((K1.get p pn).trans g)
  unfold ZrR
  rw [at_M Try.func133 3866623 (by decide) 22 (by decide) (by kernel_rfl) []]
  refine ⟨_, _, by simp [Try.f133, U, t1, t3, tk, e1, f0_1, f0_2, f0_3, f0_4, f0_5, f0_6, f0_0, f1_1, f1_2, f1_3, f1_4, f1_5, f1_6, f1_0, evHist, ObsOk, ObOk, List.getElem?_cons_zero]; first | rfl | exact ⟨rfl, rfl⟩, ?_⟩
  simpa [t3] using B1
set_option maxRecDepth 20000 in
set_option maxHeartbeats 2000000 in
theorem zrK_6 {Z C0 : AH} {p : Nat} {a b c : Int} {fin : Bool} {d t r v0 : AV} {D T : List Int} {rs : List Rg} {bR : List Nat} (B : ZrB Z C0 p 6 a b c fin d t r v0 D T rs bR) (m : Nat) (hm : 320 ≤ m) (τ : Tm) (S : ZrT τ p v0 6) : ZrR Z m 15103 τ C0 ([6] ++ encV a ++ (encV (D.length : Int) ++ D)) := by
  obtain ⟨t1, t3, tk⟩ := S
  obtain ⟨g, pn, hd, ht, hr, lD, lT, ha, hb, hc, B0⟩ := B
  have K0 := B0.kp
  simp only [inV] at ha hb hc
  have va := vL_le a; have vb := vL_le b; have vc := vL_le c
  obtain ⟨f0_0, f0_1, f0_2, f0_3, f0_4, f0_5, f0_6, f0_7, f0_8⟩ := ld72 ((K0.get p pn).trans g)
  obtain ⟨v1, X1, e1, B1⟩ := B0.n (by simp [encV_len]; try omega) (x := a) ⟨ha.1, ha.2⟩ m (by omega)
  have K1 := B1.kp
  obtain ⟨f1_0, f1_1, f1_2, f1_3, f1_4, f1_5, f1_6, f1_7, f1_8⟩ := ld72 ((K1.get p pn).trans g)
  obtain ⟨v2, X2, e2, B2⟩ := B1.c (by simp [encV_len]; try omega) hd (by omega) m (by omega)
  have K2 := B2.kp
  obtain ⟨f2_0, f2_1, f2_2, f2_3, f2_4, f2_5, f2_6, f2_7, f2_8⟩ := ld72 ((K2.get p pn).trans g)
  unfold ZrR
  rw [at_M Try.func133 15103 (by decide) 14 (by decide) (by kernel_rfl) []]
  refine ⟨_, _, by simp [Try.f133, U, t1, t3, tk, e1, e2, f0_1, f0_2, f0_3, f0_4, f0_5, f0_6, f0_0, f1_1, f1_2, f1_3, f1_4, f1_5, f1_6, f1_0, f2_1, f2_2, f2_3, f2_4, f2_5, f2_6, f2_0, evHist, ObsOk, ObOk, List.getElem?_cons_zero]; first | rfl | exact ⟨rfl, rfl⟩, ?_⟩
  simpa [t3] using B2
set_option maxRecDepth 20000 in
set_option maxHeartbeats 2000000 in
theorem zrK_29 {Z C0 : AH} {p : Nat} {a b c : Int} {fin : Bool} {d t r v0 : AV} {D T : List Int} {rs : List Rg} {bR : List Nat} (B : ZrB Z C0 p 29 a b c fin d t r v0 D T rs bR) (m : Nat) (hm : 320 ≤ m) (τ : Tm) (S : ZrT τ p v0 29) : ZrR Z m 989855743 τ C0 ([29] ++ encV a ++ (encV (D.length : Int) ++ D)) := by
  obtain ⟨t1, t3, tk⟩ := S
  obtain ⟨g, pn, hd, ht, hr, lD, lT, ha, hb, hc, B0⟩ := B
  have K0 := B0.kp
  simp only [inV] at ha hb hc
  have va := vL_le a; have vb := vL_le b; have vc := vL_le c
  obtain ⟨f0_0, f0_1, f0_2, f0_3, f0_4, f0_5, f0_6, f0_7, f0_8⟩ := ld72 ((K0.get p pn).trans g)
  obtain ⟨v1, X1, e1, B1⟩ := B0.n (by simp [encV_len]; try omega) (x := a) ⟨ha.1, ha.2⟩ m (by omega)
  have K1 := B1.kp
  obtain ⟨f1_0, f1_1, f1_2, f1_3, f1_4, f1_5, f1_6, f1_7, f1_8⟩ := ld72 ((K1.get p pn).trans g)
  obtain ⟨v2, X2, e2, B2⟩ := B1.c (by simp [encV_len]; try omega) hd (by omega) m (by omega)
  have K2 := B2.kp
  obtain ⟨f2_0, f2_1, f2_2, f2_3, f2_4, f2_5, f2_6, f2_7, f2_8⟩ := ld72 ((K2.get p pn).trans g)
  unfold ZrR
  rw [at_M Try.func133 989855743 (by decide) 30 (by decide) (by kernel_rfl) []]
  refine ⟨_, _, by simp [Try.f133, U, t1, t3, tk, e1, e2, f0_1, f0_2, f0_3, f0_4, f0_5, f0_6, f0_0, f1_1, f1_2, f1_3, f1_4, f1_5, f1_6, f1_0, f2_1, f2_2, f2_3, f2_4, f2_5, f2_6, f2_0, evHist, ObsOk, ObOk, List.getElem?_cons_zero]; first | rfl | exact ⟨rfl, rfl⟩, ?_⟩
  simpa [t3] using B2
set_option maxRecDepth 20000 in
set_option maxHeartbeats 2000000 in
theorem zrK_7 {Z C0 : AH} {p : Nat} {a b c : Int} {fin : Bool} {d t r v0 : AV} {D T : List Int} {rs : List Rg} {bR : List Nat} (B : ZrB Z C0 p 7 a b c fin d t r v0 D T rs bR) (m : Nat) (hm : 320 ≤ m) (τ : Tm) (S : ZrT τ p v0 7) : ZrR Z m 60415 τ C0 ([7] ++ (encV (D.length : Int) ++ D)) := by
  obtain ⟨t1, t3, tk⟩ := S
  obtain ⟨g, pn, hd, ht, hr, lD, lT, ha, hb, hc, B0⟩ := B
  have K0 := B0.kp
  simp only [inV] at ha hb hc
  have va := vL_le a; have vb := vL_le b; have vc := vL_le c
  obtain ⟨f0_0, f0_1, f0_2, f0_3, f0_4, f0_5, f0_6, f0_7, f0_8⟩ := ld72 ((K0.get p pn).trans g)
  obtain ⟨v1, X1, e1, B1⟩ := B0.c (by simp [encV_len]; try omega) hd (by omega) m (by omega)
  have K1 := B1.kp
  obtain ⟨f1_0, f1_1, f1_2, f1_3, f1_4, f1_5, f1_6, f1_7, f1_8⟩ := ld72 ((K1.get p pn).trans g)
  unfold ZrR
  rw [at_M Try.func133 60415 (by decide) 16 (by decide) (by kernel_rfl) []]
  refine ⟨_, _, by simp [Try.f133, U, t1, t3, tk, e1, f0_1, f0_2, f0_3, f0_4, f0_5, f0_6, f0_0, f1_1, f1_2, f1_3, f1_4, f1_5, f1_6, f1_0, evHist, ObsOk, ObOk, List.getElem?_cons_zero]; first | rfl | exact ⟨rfl, rfl⟩, ?_⟩
  simpa [t3] using B1
set_option maxRecDepth 20000 in
set_option maxHeartbeats 2000000 in
theorem zrK_26 {Z C0 : AH} {p : Nat} {a b c : Int} {fin : Bool} {d t r v0 : AV} {D T : List Int} {rs : List Rg} {bR : List Nat} (B : ZrB Z C0 p 26 a b c fin d t r v0 D T rs bR) (m : Nat) (hm : 320 ≤ m) (τ : Tm) (S : ZrT τ p v0 26) : ZrR Z m 61865983 τ C0 ([26] ++ D) := by
  obtain ⟨t1, t3, tk⟩ := S
  obtain ⟨g, pn, hd, ht, hr, lD, lT, ha, hb, hc, B0⟩ := B
  have K0 := B0.kp
  simp only [inV] at ha hb hc
  have va := vL_le a; have vb := vL_le b; have vc := vL_le c
  obtain ⟨f0_0, f0_1, f0_2, f0_3, f0_4, f0_5, f0_6, f0_7, f0_8⟩ := ld72 ((K0.get p pn).trans g)
  obtain ⟨v1, X1, e1, B1⟩ := B0.a (by simp [encV_len]; try omega) hd (by omega)
  have K1 := B1.kp
  obtain ⟨f1_0, f1_1, f1_2, f1_3, f1_4, f1_5, f1_6, f1_7, f1_8⟩ := ld72 ((K1.get p pn).trans g)
  unfold ZrR
  rw [at_M Try.func133 61865983 (by decide) 26 (by decide) (by kernel_rfl) []]
  refine ⟨_, _, by simp [Try.f133, U, t1, t3, tk, e1, f0_1, f0_2, f0_3, f0_4, f0_5, f0_6, f0_0, f1_1, f1_2, f1_3, f1_4, f1_5, f1_6, f1_0, evHist, ObsOk, ObOk, List.getElem?_cons_zero]; first | rfl | exact ⟨rfl, rfl⟩, ?_⟩
  simpa [t3] using B1
set_option maxRecDepth 20000 in
set_option maxHeartbeats 2000000 in
theorem zrK_27 {Z C0 : AH} {p : Nat} {a b c : Int} {fin : Bool} {d t r v0 : AV} {D T : List Int} {rs : List Rg} {bR : List Nat} (B : ZrB Z C0 p 27 a b c fin d t r v0 D T rs bR) (m : Nat) (hm : 320 ≤ m) (τ : Tm) (S : ZrT τ p v0 27) : ZrR Z m 61865983 τ C0 ([27] ++ D) := by
  obtain ⟨t1, t3, tk⟩ := S
  obtain ⟨g, pn, hd, ht, hr, lD, lT, ha, hb, hc, B0⟩ := B
  have K0 := B0.kp
  simp only [inV] at ha hb hc
  have va := vL_le a; have vb := vL_le b; have vc := vL_le c
  obtain ⟨f0_0, f0_1, f0_2, f0_3, f0_4, f0_5, f0_6, f0_7, f0_8⟩ := ld72 ((K0.get p pn).trans g)
  obtain ⟨v1, X1, e1, B1⟩ := B0.a (by simp [encV_len]; try omega) hd (by omega)
  have K1 := B1.kp
  obtain ⟨f1_0, f1_1, f1_2, f1_3, f1_4, f1_5, f1_6, f1_7, f1_8⟩ := ld72 ((K1.get p pn).trans g)
  unfold ZrR
  rw [at_M Try.func133 61865983 (by decide) 26 (by decide) (by kernel_rfl) []]
  refine ⟨_, _, by simp [Try.f133, U, t1, t3, tk, e1, f0_1, f0_2, f0_3, f0_4, f0_5, f0_6, f0_0, f1_1, f1_2, f1_3, f1_4, f1_5, f1_6, f1_0, evHist, ObsOk, ObOk, List.getElem?_cons_zero]; first | rfl | exact ⟨rfl, rfl⟩, ?_⟩
  simpa [t3] using B1
set_option maxRecDepth 20000 in
set_option maxHeartbeats 2000000 in
theorem zrK_28 {Z C0 : AH} {p : Nat} {a b c : Int} {fin : Bool} {d t r v0 : AV} {D T : List Int} {rs : List Rg} {bR : List Nat} (B : ZrB Z C0 p 28 a b c fin d t r v0 D T rs bR) (m : Nat) (hm : 320 ≤ m) (τ : Tm) (S : ZrT τ p v0 28) : ZrR Z m 247463935 τ C0 ([28] ++ encs [a, b] ++ (encV (D.length : Int) ++ D)) := by
  obtain ⟨t1, t3, tk⟩ := S
  obtain ⟨g, pn, hd, ht, hr, lD, lT, ha, hb, hc, B0⟩ := B
  have K0 := B0.kp
  simp only [inV] at ha hb hc
  have va := vL_le a; have vb := vL_le b; have vc := vL_le c
  obtain ⟨f0_0, f0_1, f0_2, f0_3, f0_4, f0_5, f0_6, f0_7, f0_8⟩ := ld72 ((K0.get p pn).trans g)
  have hxs : ∀ x ∈ ([a, b] : List Int), inN x := fun x hx => by simp at hx; rcases hx with rfl | rfl; exact ⟨ha.1, ha.2⟩; exact ⟨hb.1, hb.2⟩
  have hel := encs_len [a, b]
  simp at hel
  obtain ⟨v1, X1, e1, B1⟩ := B0.vs (xs := [a, b]) (by simp) hxs (by simp) m (by omega)
  obtain ⟨A, hA⟩ : ∃ A : AH, A = C0.push (.cells 3 false (([a, b] : List Int).map (.int .i64))) := ⟨_, rfl⟩
  rw [← hA] at e1
  have KA : Kp C0 A := by rw [hA]; exact (Kp.refl C0).push _
  have hA' := hA.symm
  simp only [List.map_cons, List.map_nil] at hA'
  simp only [List.length_cons, List.length_nil] at e1
  obtain ⟨a0_0, a0_1, a0_2, a0_3, a0_4, a0_5, a0_6, a0_7, a0_8⟩ := ld72 (((K0.trans KA).get p pn).trans g)
  have K1 := B1.kp
  obtain ⟨f1_0, f1_1, f1_2, f1_3, f1_4, f1_5, f1_6, f1_7, f1_8⟩ := ld72 ((K1.get p pn).trans g)
  obtain ⟨v2, X2, e2, B2⟩ := B1.c (by simp; omega) hd (by omega) m (by omega)
  have K2 := B2.kp
  obtain ⟨f2_0, f2_1, f2_2, f2_3, f2_4, f2_5, f2_6, f2_7, f2_8⟩ := ld72 ((K2.get p pn).trans g)
  unfold ZrR
  rw [at_M Try.func133 247463935 (by decide) 28 (by decide) (by kernel_rfl) []]
  refine ⟨_, _, by simp [Try.f133, U, t1, t3, tk, hA', a0_5, zerosA, fillA, spl, e1, e2, f0_1, f0_2, f0_3, f0_4, f0_5, f0_6, f0_0, f1_1, f1_2, f1_3, f1_4, f1_5, f1_6, f1_0, f2_1, f2_2, f2_3, f2_4, f2_5, f2_6, f2_0, evHist, ObsOk, ObOk, List.getElem?_cons_zero]; first | rfl | exact ⟨rfl, rfl⟩, ?_⟩
  simpa [t3] using B2
end Go.Ev

/- A frame's bytes by the program: the other kinds. -/
namespace Go.Ev
open Go Go.Proofs
set_option linter.unusedSimpArgs false
set_option linter.unusedVariables false

theorem zerosA_rep (n : Nat) : zerosA [.int .u8 0] n = u8L (List.replicate n 0) := by
  induction n with
  | zero => rfl
  | succ n ih => simp only [zerosA, ih, u8L, List.replicate_succ, List.map_cons]; rfl
theorem BO.fst {X : AH} {v : AV} {x : Int} {l : List Int} {b : Nat} (B : BO X v (x :: l) b) : idxA Try.prog 34 v (.int .i64 0) = some (.ptr b 0) ∧ ldVar Try.prog 5 b 0 X = some (.int .u8 x) ∧ (∀ z, stVar Try.prog 5 b 0 (.int .u8 z) X = some (X.set b (.cells 5 false (u8L (z :: l))))) ∧ ∀ z, BO (X.set b (.cells 5 false (u8L (z :: l)))) v (z :: l) b := by
  obtain ⟨h0, h1, h2⟩ := B
  exact ⟨by rw [h0]; simp [idxA], by simp [ldVar, h2, u8L], fun z => by simp [stVar, h2, u8L, spl], fun z => ⟨by simpa using h0, by simpa using h1, by simp⟩⟩
theorem Kp.setb {Z X : AH} (K : Kp Z X) {b : Nat} (hb : Z.next ≤ b) (x : Blk) : Kp Z (X.set b x) := ⟨by have := K.next; simpa using this, fun y hy => by rw [AH.set_getN _ _ (by omega)]; exact K.get y hy⟩
set_option maxRecDepth 20000 in
theorem zrK_0 {Z C0 : AH} {p : Nat} {a b c : Int} {fin : Bool} {d t r v0 : AV} {D T : List Int} {rs : List Rg} {bR : List Nat} (B : ZrB Z C0 p 0 a b c fin d t r v0 D T rs bR) (hx : 1 ≤ a ∧ a ≤ 1500) (m : Nat) (hm : 320 ≤ m) (τ : Tm) (S : ZrT τ p v0 0) :
    ∃ τ' H', evAt Try.prog (ev Try.prog m) m 133 58 τ C0 = some (.ret, τ', H') ∧ BE Z H' (τ' 2) (List.replicate a.toNat 0) := by
  obtain ⟨t1, t3, tk⟩ := S
  obtain ⟨g, pn, hd, ht, hr, lD, lT, ha, hb, hc, B0⟩ := B
  have K0 := B0.kp
  obtain ⟨f0, f1, f2, f3, f4, f5, f6, f7, f8⟩ := ld72 ((K0.get p pn).trans g)
  obtain ⟨A, rfl⟩ : ∃ A : Nat, a = A := ⟨a.toNat, by omega⟩
  obtain ⟨N, hN⟩ : ∃ N : AH, N = C0.push (.cells 5 false (zerosA [.int .u8 0] A)) := ⟨_, rfl⟩
  have hA : (A : Int) ≤ 281474976710656 := by omega
  have hA2 : A ≤ 281474976710656 := by omega
  have hN' := hN.symm
  have BN : BE Z N (.slice C0.next 0 A) (List.replicate A 0) := ⟨C0.next, ⟨by simp, by rw [hN]; simp, by rw [hN, zerosA_rep]; simp⟩, K0.next, by rw [hN]; exact K0.push _⟩
  rw [at_M Try.func133 58 (by decide) 6 (by decide) (by kernel_rfl) []]
  refine ⟨_, N, by simp [Try.f133, U, t1, tk, f1, hA, hA2, hN']; rfl, by simpa using BN⟩
set_option maxRecDepth 20000 in
theorem zrK_2 {Z C0 : AH} {p : Nat} {a : Int} {d t r v0 : AV} {D T : List Int} {rs : List Rg} {bR : List Nat} (B : ZrB Z C0 p 2 a 0 0 false d t r v0 D T rs bR) (hL : rgOK rs) (j : Nat) (hj : rs.length = j + 1) (m : Nat) (hm : 320 ≤ m) (τ : Tm) (S : ZrT τ p v0 2) : ZrR Z m 235 τ C0 (ackB (rs[j]'(by omega)) a (rs.take j).reverse) := by
  obtain ⟨t1, t3, tk⟩ := S
  obtain ⟨g, pn, hd, ht, hr, lD, lT, ha, hb, hc, b0, BO0, hb0, K0⟩ := B
  have key : ∀ τ : Tm, τ 1 = .ptr p 0 → τ 3 = v0 → _ := fun τ t1 t3 => ack942 hr (Kp.refl Z) hL j hj g pn ha K0 BO0 hb0 m (by omega) τ t1 t3
  unfold ZrR
  rw [at_M Try.func133 235 (by decide) 8 (by decide) (by kernel_rfl) [942]]
  simp [Try.f133, U, t1, t3, tk]
  generalize hτ : upd _ 19 _ = τ1
  obtain ⟨τ', H', v', b', q, q3, BO', hb', K'⟩ := key τ1 (by rw [← hτ]; simp [t1]) (by rw [← hτ]; simp [t3])
  rw [q]
  exact ⟨τ', H', by simp, b', by rw [q3]; exact BO', hb', K'⟩
set_option maxRecDepth 20000 in
theorem zrK_18 {Z C0 : AH} {p : Nat} (k : Int) (hk : k = 18 ∨ k = 22) {a b c : Int} {fin : Bool} {d t r v0 : AV} {D T : List Int} {rs : List Rg} {bR : List Nat} (B : ZrB Z C0 p k a b c fin d t r v0 D T rs bR) (hx : a ≤ 1152921504606846976 ∧ b ≤ 1) (m : Nat) (hm : 320 ≤ m) (τ : Tm) (S : ZrT τ p v0 k) : ZrR Z m 966655 τ C0 ([k + b] ++ encV a) := by
  obtain ⟨t1, t3, tk⟩ := S
  obtain ⟨g, pn, hd, ht, hr, lD, lT, ha, hb, hc, b0, BO0, hb0, K0⟩ := B
  simp only [inV] at ha hb
  obtain ⟨f0, f1, f2, f3, f4, f5, f6, f7, f8⟩ := ld72 ((K0.get p pn).trans g)
  obtain ⟨ix, ld, st, BO1⟩ := BO0.fst
  have w2 : IntKind.u8.wrap b = b := by rw [IntKind.wrap_u8]; omega
  have cx : ∀ h', convA Try.prog 3 5 (.int .i64 b) h' = some (.int .u8 b, h') := fun h' => (conv_int (ds := .int .i64) (k := .u8) (by simp) (by simp)).trans (by rw [w2])
  have w3 : IntKind.u8.wrap (k + b) = k + b := by rw [IntKind.wrap_u8]; omega
  have st := st (k + b)
  have BO1 := BO1 (k + b)
  have K1 := K0.setb hb0 (.cells 5 false (u8L [k + b]))
  have B1 : BE Z (C0.set b0 (.cells 5 false (u8L [k + b]))) v0 [k + b] := ⟨b0, BO1, hb0, K1⟩
  generalize hX : C0.set b0 (.cells 5 false (u8L [k + b])) = X1 at *
  obtain ⟨_, g1, _⟩ := ld72 ((K1.get p pn).trans g)
  obtain ⟨v2, X2, e2, B2⟩ := B1.n (by simp) (x := a) ⟨ha.1, ha.2⟩ m (by omega)
  unfold ZrR
  rw [at_M Try.func133 966655 (by decide) 20 (by decide) (by kernel_rfl) []]
  rcases hk with rfl | rfl
  · exact ⟨_, X2, by simp [Try.f133, U, t1, t3, tk, ix, ld, f2, cx, w3, st, g1, e2, evHist, ObsOk, ObOk, List.getElem?_cons_zero]; rfl, by simpa using B2⟩
  · exact ⟨_, X2, by simp [Try.f133, U, t1, t3, tk, ix, ld, f2, cx, w3, st, g1, e2, evHist, ObsOk, ObOk, List.getElem?_cons_zero]; rfl, by simpa using B2⟩
set_option maxRecDepth 20000 in
theorem zrK_48 {Z C0 : AH} {p : Nat} {a b c : Int} {fin : Bool} {d t r v0 : AV} {D T : List Int} {rs : List Rg} {bR : List Nat} (B : ZrB Z C0 p 48 a b c fin d t r v0 D T rs bR) (m : Nat) (hm : 320 ≤ m) (τ : Tm) (S : ZrT τ p v0 48) : ZrR Z m 3959422975 τ C0 ([49] ++ (encV (D.length : Int) ++ D)) := by
  obtain ⟨t1, t3, tk⟩ := S
  obtain ⟨g, pn, hd, ht, hr, lD, lT, ha, hb, hc, b0, BO0, hb0, K0⟩ := B
  obtain ⟨ix, ld, st, BO1⟩ := BO0.fst
  have st := st 49
  have BO1 := BO1 49
  have K1 := K0.setb hb0 (.cells 5 false (u8L [49]))
  have B1 : BE Z (C0.set b0 (.cells 5 false (u8L [49]))) v0 [49] := ⟨b0, BO1, hb0, K1⟩
  generalize hX : C0.set b0 (.cells 5 false (u8L [49])) = X1 at *
  obtain ⟨_, _, _, _, _, g5, _⟩ := ld72 ((K1.get p pn).trans g)
  obtain ⟨v2, X2, e2, B2⟩ := B1.c (by simp) hd (by omega) m (by omega)
  unfold ZrR
  rw [at_M Try.func133 3959422975 (by decide) 32 (by decide) (by kernel_rfl) []]
  exact ⟨_, X2, by simp [Try.f133, U, t1, t3, tk, ix, st, g5, e2]; rfl, by simpa using B2⟩
def stB (b : Int) (fin : Bool) : Int := 10 + (if b = 0 then 0 else 4) + (if fin = true then 1 else 0)
set_option maxRecDepth 20000 in
theorem zrK_8 {Z C0 : AH} {p : Nat} {a b c : Int} {fin : Bool} {d t r v0 : AV} {D T : List Int} {rs : List Rg} {bR : List Nat} (B : ZrB Z C0 p 8 a b c fin d t r v0 D T rs bR) (m : Nat) (hm : 320 ≤ m) (τ : Tm) (S : ZrT τ p v0 8) : ZrR Z m 241663 τ C0 ([stB b fin] ++ encV a ++ (if b = 0 then [] else encV b) ++ (encV (D.length : Int) ++ D)) := by
  obtain ⟨t1, t3, tk⟩ := S
  obtain ⟨g, pn, hd, ht, hr, lD, lT, ha, hb, hc, b0, BO0, hb0, K0⟩ := B
  simp only [inV] at ha hb
  have va := vL_le a; have vb := vL_le b
  have o1 : bits .or .u8 10 4 = 14 := by decide
  have o2 : bits .or .u8 14 1 = 15 := by decide
  have o3 : bits .or .u8 10 1 = 11 := by decide
  obtain ⟨ix, ld0, st0, BO1⟩ := BO0.fst
  have st0 := st0 10
  have BO1 := BO1 10
  have K1 := K0.setb hb0 (.cells 5 false (u8L [10]))
  generalize hX1 : C0.set b0 (.cells 5 false (u8L [10])) = X1 at *
  obtain ⟨_, _, f2, _, f4, _⟩ := ld72 ((K1.get p pn).trans g)
  obtain ⟨_, ld1, st1, BO2⟩ := BO1.fst
  -- the stage with B
  have stage : ∃ X2, (b = 0 ∧ X2 = X1 ∨ b ≠ 0 ∧ stVar Try.prog 5 b0 0 (.int .u8 14) X1 = some X2) ∧ BO X2 v0 [if b = 0 then 10 else 14] b0 ∧ Kp Z X2 := by
    by_cases c0 : b = 0
    · exact ⟨X1, .inl ⟨c0, rfl⟩, by rw [if_pos c0]; exact BO1, K1⟩
    · exact ⟨_, .inr ⟨c0, st1 14⟩, by rw [if_neg c0]; exact BO2 14, K1.setb hb0 _⟩
  obtain ⟨X2, s2, BX2, K2⟩ := stage
  obtain ⟨_, ld2, st2, BO3⟩ := BX2.fst
  obtain ⟨_, _, g2, _, g4, _⟩ := ld72 ((K2.get p pn).trans g)
  have stage3 : ∃ X3, (fin = false ∧ X3 = X2 ∨ fin = true ∧ stVar Try.prog 5 b0 0 (.int .u8 (stB b fin)) X2 = some X3) ∧ BE Z X3 v0 [stB b fin] := by
    cases fin with
    | false => exact ⟨X2, .inl ⟨rfl, rfl⟩, b0, by have : stB b false = if b = 0 then 10 else 14 := by unfold stB; split <;> rfl
                                                  rw [this]; exact BX2, hb0, K2⟩
    | true => exact ⟨_, .inr ⟨rfl, st2 _⟩, b0, BO3 _, hb0, K2.setb hb0 _⟩
  obtain ⟨X3, s3, B3⟩ := stage3
  obtain ⟨_, h1, h2, _, _, h5, _⟩ := ld72 ((B3.kp.get p pn).trans g)
  obtain ⟨v4, X4, e4, B4⟩ := B3.n (by simp) (x := a) ⟨ha.1, ha.2⟩ m (by omega)
  obtain ⟨_, i1, i2, _, _, i5, _⟩ := ld72 ((B4.kp.get p pn).trans g)
  have goal : ∃ τ' H', evAt Try.prog (ev Try.prog m) m 133 241663 τ C0 = some (.normal, τ', H') ∧ BE Z H' (τ' 3) ([stB b fin] ++ encV a ++ (if b = 0 then [] else encV b) ++ (encV (D.length : Int) ++ D)) := by
    rw [at_M Try.func133 241663 (by decide) 18 (by decide) (by kernel_rfl) []]
    by_cases c0 : b = 0
    · have c0' : (b != 0) = false := by simpa using c0
      obtain ⟨v5, X5, e5, B5⟩ := B4.c (by simp [encV_len]; omega) hd (by omega) m (by omega)
      rw [if_pos c0]
      have hX2 : X2 = X1 := by rcases s2 with ⟨_, h⟩ | ⟨h, _⟩; exact h; exact absurd c0 h
      subst hX2
      cases fin with
      | false =>
        have hX3 : X3 = X2 := by rcases s3 with ⟨_, h⟩ | ⟨h, _⟩; exact h; cases h
        subst hX3
        exact ⟨_, X5, by simp [Try.f133, U, t1, t3, tk, ix, st0, f2, f4, c0, c0', h1, e4, i2, i5, e5]; rfl, by simpa using B5⟩
      | true =>
        have st3 : stVar Try.prog 5 b0 0 (.int .u8 11) X2 = some X3 := by rcases s3 with ⟨h, _⟩ | ⟨_, h⟩; cases h; (have e : stB b true = 11 := by unfold stB; rw [if_pos c0]; rfl); rw [e] at h; exact h
        exact ⟨_, X5, by simp [Try.f133, U, t1, t3, tk, ix, st0, f2, f4, c0, c0', ld1, o3, st3, h1, e4, i2, i5, e5]; rfl, by simpa using B5⟩
    · have c0' : (b != 0) = true := by simpa using c0
      obtain ⟨v5, X5, e5, B5⟩ := B4.n (by simp [encV_len]; omega) (x := b) ⟨hb.1, hb.2⟩ m (by omega)
      obtain ⟨_, j1, j2, _, _, j5, _⟩ := ld72 ((B5.kp.get p pn).trans g)
      obtain ⟨v6, X6, e6, B6⟩ := B5.c (by simp [encV_len]; omega) hd (by omega) m (by omega)
      rw [if_neg c0]
      have st2' : stVar Try.prog 5 b0 0 (.int .u8 14) X1 = some X2 := by rcases s2 with ⟨h, _⟩ | ⟨_, h⟩; exact absurd h c0; exact h
      rw [if_neg c0] at ld2
      cases fin with
      | false =>
        have hX3 : X3 = X2 := by rcases s3 with ⟨_, h⟩ | ⟨h, _⟩; exact h; cases h
        subst hX3
        exact ⟨_, X6, by simp [Try.f133, U, t1, t3, tk, ix, st0, f2, f4, g4, c0, c0', ld1, o1, st2', h1, e4, i2, e5, j5, e6]; rfl, by simpa using B6⟩
      | true =>
        have st3 : stVar Try.prog 5 b0 0 (.int .u8 15) X2 = some X3 := by rcases s3 with ⟨h, _⟩ | ⟨_, h⟩; cases h; (have e : stB b true = 15 := by unfold stB; rw [if_neg c0]; rfl); rw [e] at h; exact h
        exact ⟨_, X6, by simp [Try.f133, U, t1, t3, tk, ix, st0, f2, f4, g4, c0, c0', ld1, ld2, o1, o2, st2', st3, h1, e4, i2, e5, j5, e6]; rfl, by simpa using B6⟩
  exact goal
end Go.Ev

/- A frame's bytes by the program: the kind 24, the whole function. -/
namespace Go.Ev
open Go Go.Proofs
set_option linter.unusedSimpArgs false
set_option linter.unusedVariables false

set_option maxRecDepth 20000 in
theorem zrK_24 {Z C0 : AH} {p : Nat} {a b c : Int} {fin : Bool} {d t r v0 : AV} {D T : List Int} {rs : List Rg} {bR : List Nat} (B : ZrB Z C0 p 24 a b c fin d t r v0 D T rs bR) (hDl : D.length ≤ 8) (m : Nat) (hm : 320 ≤ m) (τ : Tm) (S : ZrT τ p v0 24) : ZrR Z m 15466495 τ C0 ([24] ++ encs [a, b] ++ [(D.length : Int)] ++ D ++ T) := by
  obtain ⟨t1, t3, tk⟩ := S
  obtain ⟨g, pn, hd, ht, hr, lD, lT, ha, hb, hc, b0, BO0, hb0, K0⟩ := B
  simp only [inV] at ha hb
  have K0n := K0.next
  have b0n := BO0.2.1
  obtain ⟨Y, hY⟩ : ∃ Y : AH, Y = C0.res 2 := ⟨_, rfl⟩
  have nY : Y.next = C0.next + 2 := by rw [hY]; rfl
  have KY : Kp C0 Y := ⟨by omega, fun x hx => by rw [hY, res_get, if_neg (by omega)]⟩
  have hY' := hY.symm
  obtain ⟨_, f1, f2, _, _, f5, f6, _⟩ := ld72 (((K0.trans KY).get p pn).trans g)
  -- the row of numbers
  obtain ⟨G1, hG1⟩ : ∃ G : AH, G = Y.set C0.next (.cells 3 false [.int .i64 a, .int .i64 b]) := ⟨_, rfl⟩
  have nG1 : G1.next = Y.next := by rw [hG1]; simp
  have KG1 : Kp C0 G1 := ⟨by omega, fun x hx => by rw [hG1, AH.set_getN _ _ (by omega)]; exact KY.get x hx⟩
  have RA : (Ty.sl 3 (.int .i64)).R true G1 [.slice C0.next 0 2] [a, b] [C0.next] := ints_one (l := [a, b]) (by omega) (by rw [hG1]; simp) (fun z hz => by
    simp at hz; rcases hz with rfl | rfl <;> exact InK.i64 (by omega) (by omega))
  obtain ⟨v1, X1, b1, e1, BO1, k1, c1⟩ := addVars_ev (BO0.kp KG1) RA (by simp; omega) (fun z hz => by simp at hz; rcases hz with rfl | rfl; exact ⟨ha.1, ha.2⟩; exact ⟨hb.1, hb.2⟩) (by simp) (by simp) m (by omega)
  have hel := encs_len [a, b]
  simp at hel
  rw [hG1] at e1
  have k1n := k1.next
  have K1 : Kp Z X1 := KoS.kp (K0.trans KG1) k1 (by simp; exact hb0)
  have b1w : Z.next ≤ b1 ∧ b1 ≠ C0.next + 1 := by rcases c1 with h | h <;> omega
  obtain ⟨_, h1, h2, _, _, h5, h6, _⟩ := ld72 ((K1.get p pn).trans g)
  have hL := hd.len
  obtain ⟨N, hN⟩ : ∃ N : Int, N = (D.length : Int) := ⟨_, rfl⟩
  rw [← hN] at hL ⊢
  have wn : IntKind.u8.wrap N = N := by rw [IntKind.wrap_u8]; omega
  have cx : ∀ h', convA Try.prog 3 5 (.int .i64 N) h' = some (.int .u8 N, h') := fun h' => (conv_int (ds := .int .i64) (k := .u8) (by simp) (by simp)).trans (by rw [wn])
  obtain ⟨G, hG⟩ : ∃ G : AH, G = X1.set (C0.next + 1) (.cells 5 false [.int .u8 N]) := ⟨_, rfl⟩
  have nG : G.next = X1.next := by rw [hG]; simp
  have BG : BO G v1 ([24] ++ encs [a, b]) b1 := ⟨BO1.1, by rw [nG]; exact BO1.2.1, by rw [hG, AH.set_getN _ _ b1w.2]; exact BO1.2.2⟩
  have BsG : Bs G (.slice (C0.next + 1) 0 1) [N] := Bs.mk' (l := [N]) (ro := false) (by rw [hG]; simp [u8L]) (by omega)
  have KG : Kp Z G := ⟨by have := K1.next; omega, fun x hx => by rw [hG, AH.set_getN _ _ (by omega)]; exact K1.get x hx⟩
  obtain ⟨v3, X3, b3, e3, BO3, k3, c3⟩ := BG.appB BsG (by simp; omega)
  have K3 : Kp Z X3 := KoS.kp KG k3 (by simp; exact b1w.1)
  have b3w : Z.next ≤ b3 := by have := KG.next; rcases c3 with h | h <;> omega
  rw [hG] at e3
  obtain ⟨_, i1, i2, _, _, i5, i6, _⟩ := ld72 ((K3.get p pn).trans g)
  have B3 : BE Z X3 v3 ([24] ++ encs [a, b] ++ [N]) := ⟨b3, BO3, b3w, K3⟩
  obtain ⟨v4, X4, e4, B4⟩ := B3.a (by simp; omega) hd (by omega)
  obtain ⟨_, j1, j2, _, _, j5, j6, _⟩ := ld72 ((B4.kp.get p pn).trans g)
  obtain ⟨v5, X5, e5, B5⟩ := B4.a (by simp; omega) ht (by omega)
  unfold ZrR
  rw [at_M Try.func133 15466495 (by decide) 24 (by decide) (by kernel_rfl) []]
  exact ⟨_, X5, by simp [Try.f133, U, t1, t3, tk, hY', f1, f2, f5, e1, h1, h2, h5, hL, cx, e3, i5, i6, e4, j5, j6, e5, zerosA, fillA, spl, evHist, ObsOk, ObOk, List.getElem?_cons_zero]; rfl, by simpa using B5⟩
/-- a frame's bytes -/
def fyB (k a b : Int) (fin : Bool) (D T : List Int) (rs : List Rg) : List Int :=
  if k = 0 then List.replicate a.toNat 0 else if k = 2 then ackB (rs.getD (rs.length - 1) (0, 0)) a (rs.take (rs.length - 1)).reverse
  else if k = 5 ∨ k = 17 ∨ k = 21 then [k] ++ encs [a, b]
  else if k = 6 ∨ k = 29 then [k] ++ encV a ++ (encV (D.length : Int) ++ D)
  else if k = 7 then [7] ++ (encV (D.length : Int) ++ D)
  else if k = 8 then [stB b fin] ++ encV a ++ (if b = 0 then [] else encV b) ++ (encV (D.length : Int) ++ D)
  else if k = 18 ∨ k = 22 then [k + b] ++ encV a
  else if k = 16 ∨ k = 20 ∨ k = 25 then [k] ++ encV a
  else if k = 24 then [24] ++ encs [a, b] ++ [(D.length : Int)] ++ D ++ T
  else if k = 26 ∨ k = 27 then [k] ++ D
  else if k = 28 then [28] ++ encs [a, b] ++ (encV (D.length : Int) ++ D)
  else if k = 48 then [49] ++ (encV (D.length : Int) ++ D)
  else [k]
def fyB4 (k a b c : Int) (fin : Bool) (D T : List Int) (rs : List Rg) : List Int := if k = 4 then [4] ++ encs [a, b, c] else fyB k a b fin D T rs
end Go.Ev

/- The readers of counted bytes and of the rest, both sides. -/
namespace Go.Ev
open Go Go.Proofs
set_option linter.unusedSimpArgs false
set_option linter.unusedVariables false

theorem numberI_nn (l : List Int) (a : Nat) (c : Int) : 0 ≤ (numberI l a c).1 := by
  unfold numberI
  split
  · simp
  · split
    · simp
    · exact getVarP_nn a
def countedI (l : List Int) (a : Nat) (c : Int) : List Int × Nat × Int := takeI l (numberI l a c).2.1 (numberI l a c).2.2 (numberI l a c).1
def restI (l : List Int) (a : Nat) (c : Int) : List Int × Nat × Int := takeI l a c ((l.length : Int) - a)
theorem counted_ev {Hb H : AH} {q a : Nat} {s : AV} {l : List Int} {c : Int} (hs : Bs Hb s l) (hb : By l) (hK : Kp Hb H) (hqb : Hb.next ≤ q) (hq : H.get q = some (scB s a c)) (ha : a ≤ l.length) (hl : l.length ≤ 65536) (m : Nat) (hm : 22 ≤ m) :
    ∃ r H', ev Try.prog m 166 [.ptr q 0] H = some (r, H') ∧ Kx q H H' ∧ H'.next = H.next ∧ Bs Hb r (countedI l a c).1 ∧ H'.get q = some (scB s (countedI l a c).2.1 (countedI l a c).2.2) ∧ (countedI l a c).2.1 ≤ l.length := by
  obtain ⟨m, rfl⟩ : ∃ k, m = k + 1 := ⟨m - 1, by omega⟩
  obtain ⟨H1, e1, k1, n1, g1, l1⟩ := number_ev hs hb hK hqb hq ha hl m (by omega)
  obtain ⟨r, H2, e2, k2, n2, b2, g2, l2⟩ := take_ev hs (k1.kp hK hqb) hqb g1 l1 hl (numberI l a c).1 (by have := numberI_nn l a c; omega) m (by omega)
  refine ⟨r, H2, ?_, k1.trans k2, by rw [n2, n1], b2, g2, l2⟩
  rw [ev_M Try.func166 ok166 [] m _ H (by simp [Try.f166])]
  simp [Try.f166, tm0, e1, e2]
theorem rest_ev {Hb H : AH} {q a : Nat} {s : AV} {l : List Int} {c : Int} (hs : Bs Hb s l) (hK : Kp Hb H) (hqb : Hb.next ≤ q) (hq : H.get q = some (scB s a c)) (ha : a ≤ l.length) (hl : l.length ≤ 65536) (m : Nat) (hm : 3 ≤ m) :
    ∃ r H', ev Try.prog m 167 [.ptr q 0] H = some (r, H') ∧ Kx q H H' ∧ H'.next = H.next ∧ Bs Hb r (restI l a c).1 ∧ H'.get q = some (scB s (restI l a c).2.1 (restI l a c).2.2) ∧ (restI l a c).2.1 ≤ l.length := by
  obtain ⟨m, rfl⟩ : ∃ k, m = k + 1 := ⟨m - 1, by omega⟩
  obtain ⟨r, H2, e2, k2, n2, b2, g2, l2⟩ := take_ev hs hK hqb hq ha hl ((l.length : Int) - a) (by omega) m (by omega)
  refine ⟨r, H2, ?_, k2, n2, b2, g2, l2⟩
  unfold scB at hq
  have w0 : IntKind.i64.wrap ((l.length : Int) - a) = l.length - a := wrap_i64 (n := (l.length : Int) - a) (by omega) (by omega)
  have hL := (hs.kp hK).len
  rw [ev_M Try.func167 ok167 [] m _ H (by simp [Try.f167])]
  simp [Try.f167, tm0, hq, ldVar, hL, w0, e2]
def countedS (l : List Int) (a : Nat) (sh : Bool) : List Int × Nat × Bool := takeS l (varS l a sh).2.1 (varS l a sh).2.2 (varS l a sh).1
def restS (l : List Int) (a : Nat) (sh : Bool) : List Int × Nat × Bool := takeS l a sh ((l.length : Int) - a)
theorem countedS_ev {Hb H : AH} {q a : Nat} {s : AV} {l : List Int} {sh : Bool} (hs : Bs Hb s l) (hb : By l) (hK : Kp Hb H) (hqb : Hb.next ≤ q) (hqn : q < H.next) (hq : H.get q = some (rdB s a sh)) (ha : a ≤ l.length) (hl : l.length ≤ 65536) (m : Nat) (hm : 22 ≤ m) :
    ∃ r H', ev Try.prog m 158 [.ptr q 0] H = some (r, H') ∧ Kx q H H' ∧ Ow H.next H'.next H' r (countedS l a sh).1 ∧ H'.get q = some (rdB s (countedS l a sh).2.1 (countedS l a sh).2.2) ∧ (countedS l a sh).2.1 ≤ l.length := by
  obtain ⟨m, rfl⟩ : ∃ k, m = k + 1 := ⟨m - 1, by omega⟩
  obtain ⟨H1, e1, k1, n1, g1, l1⟩ := var_ev hs hb hK hqb hqn hq ha hl m (by omega)
  have hv := varS_rng hb a sh
  obtain ⟨r, H2, e2, k2, b2, g2, l2⟩ := takeR_ev hs (k1.kp hK hqb) hqb (by omega) g1 l1 hl (varS l a sh).1 hv.1 hv.2 m (by omega)
  refine ⟨r, H2, ?_, k1.trans k2, by rw [← n1]; exact b2, g2, l2⟩
  rw [ev_M Try.func158 ok158 [] m _ H (by simp [Try.f158])]
  simp [Try.f158, tm0, e1, e2]
theorem restS_ev {Hb H : AH} {q a : Nat} {s : AV} {l : List Int} {sh : Bool} (hs : Bs Hb s l) (hK : Kp Hb H) (hqb : Hb.next ≤ q) (hqn : q < H.next) (hq : H.get q = some (rdB s a sh)) (ha : a ≤ l.length) (hl : l.length ≤ 65536) (m : Nat) (hm : 3 ≤ m) :
    ∃ r H', ev Try.prog m 159 [.ptr q 0] H = some (r, H') ∧ Kx q H H' ∧ Ow H.next H'.next H' r (restS l a sh).1 ∧ H'.get q = some (rdB s (restS l a sh).2.1 (restS l a sh).2.2) ∧ (restS l a sh).2.1 ≤ l.length := by
  obtain ⟨m, rfl⟩ : ∃ k, m = k + 1 := ⟨m - 1, by omega⟩
  obtain ⟨r, H2, e2, k2, b2, g2, l2⟩ := takeR_ev hs hK hqb hqn hq ha hl ((l.length : Int) - a) (by omega) (by omega) m (by omega)
  refine ⟨r, H2, ?_, k2, b2, g2, l2⟩
  unfold rdB at hq
  have w0 : IntKind.i64.wrap ((l.length : Int) - a) = l.length - a := wrap_i64 (n := (l.length : Int) - a) (by omega) (by omega)
  have hL := (hs.kp hK).len
  rw [ev_M Try.func159 ok159 [] m _ H (by simp [Try.f159])]
  simp [Try.f159, tm0, hq, ldVar, hL, w0, e2]
theorem counted49_ev {Hb H : AH} {q a : Nat} {s : AV} {l : List Int} {sh : Bool} (hs : Bs Hb s l) (hb : By l) (hK : Kp Hb H) (hqb : Hb.next ≤ q) (hqn : q < H.next) (hq : H.get q = some (rdB s a sh)) (ha : a ≤ l.length) (hl : l.length ≤ 65536) (x : Int) (m : Nat) (hm : 23 ≤ m) :
    ∃ r H', ev Try.prog m 218 [.ptr q 0, .int .i64 x] H = some (r, H') ∧ Kx q H H' ∧ Ow H.next H'.next H' r (if x = 49 then countedS l a sh else restS l a sh).1 ∧
      H'.get q = some (rdB s (if x = 49 then countedS l a sh else restS l a sh).2.1 (if x = 49 then countedS l a sh else restS l a sh).2.2) ∧ (if x = 49 then countedS l a sh else restS l a sh).2.1 ≤ l.length := by
  obtain ⟨m, rfl⟩ : ∃ k, m = k + 1 := ⟨m - 1, by omega⟩
  by_cases h : x = 49
  · subst h
    obtain ⟨r, H2, e2, k2, b2, g2, l2⟩ := countedS_ev hs hb hK hqb hqn hq ha hl m (by omega)
    refine ⟨r, H2, ?_, k2, by simpa using b2, by simpa using g2, by simpa using l2⟩
    rw [ev_M Try.func218 ok218 [] m _ H (by simp [Try.f218])]
    simp [Try.f218, tm0, e2]
  · obtain ⟨r, H2, e2, k2, b2, g2, l2⟩ := restS_ev hs hK hqb hqn hq ha hl m (by omega)
    have hx : (x == 49) = false := by simpa using h
    refine ⟨r, H2, ?_, k2, by simpa [h] using b2, by simpa [h] using g2, by simpa [h] using l2⟩
    rw [ev_M Try.func218 ok218 [] m _ H (by simp [Try.f218])]
    simp [Try.f218, tm0, hx, e2]
end Go.Ev

/- The kind that a first byte tells, in the reference. -/
namespace Go.Ev
open Go Go.Proofs
set_option linter.unusedSimpArgs false
set_option linter.unusedVariables false

def markK (k : Int) : Int := if 8 ≤ k ∧ k ≤ 15 then 8 else if k = 19 ∨ k = 23 then k - 1 else if k = 49 then 48 else if (usesL.lookup k).isSome = true then k else -1
theorem l05Mark_ev (k : Int) (h0 : 0 ≤ k) (h1 : k < 256) (H : AH) (m : Nat) (hm : 2 ≤ m) : ∃ H', ev Try.prog m 123 [.int .i64 k] H = some (.int .i64 (markK k), H') ∧ Kp H H' := by
  obtain ⟨m, rfl⟩ : ∃ k, m = k + 1 := ⟨m - 1, by omega⟩
  obtain ⟨H1, e1, k1⟩ := l05Kind_ev k H m (by omega)
  simp only [usC] at e1
  have w1 : IntKind.i64.wrap (k - 1) = k - 1 := wrap_i64 (n := k - 1) (by omega) (by omega)
  rw [ev_M Try.func123 ok123 [] m _ H (by simp [Try.f123])]
  by_cases a0 : 8 ≤ k ∧ k ≤ 15
  · obtain ⟨a1, a2⟩ := a0
    exact ⟨H, by simp [Try.f123, tm0, markK, a1, a2], Kp.refl H⟩
  · by_cases b0 : k = 19
    · subst b0; exact ⟨H, by simp [Try.f123, tm0, markK]; decide, Kp.refl H⟩
    · by_cases b1 : k = 23
      · subst b1; exact ⟨H, by simp [Try.f123, tm0, markK]; decide, Kp.refl H⟩
      · by_cases b2 : k = 49
        · subst b2; exact ⟨H, by simp [Try.f123, tm0, markK], Kp.refl H⟩
        · have c0 : (k == 19) = false := by simpa using b0
          have c1 : (k == 23) = false := by simpa using b1
          have c2 : (k == 49) = false := by simpa using b2
          refine ⟨H1, ?_, k1⟩
          by_cases a1 : 8 ≤ k
          · have a2 : (k ≤ 15) = False := eq_false (by omega)
            cases hi : (usesL.lookup k).isSome <;> rw [hi] at e1 <;> simp [Try.f123, tm0, markK, a1, a2, b0, b1, b2, c0, c1, c2, e1, hi]
          · have a1' : (8 ≤ k) = False := eq_false a1
            cases hi : (usesL.lookup k).isSome <;> rw [hi] at e1 <;> simp [Try.f123, tm0, markK, a1', b0, b1, b2, c0, c1, c2, e1, hi]
end Go.Ev

/- A stream frame read by the reference. -/
namespace Go.Ev
open Go Go.Proofs
set_option linter.unusedSimpArgs false
set_option linter.unusedVariables false

theorem Kx.push {q : Nat} {A B : AH} (h : Kx q A B) (x : Blk) : Kx q A (B.push x) := h.trans (Kx.of ((Kp.refl B).push x))
theorem Kx.set2 {A B : AH} {q p : Nat} (h : Kx q A B) (x : Blk) (hp : A.next ≤ p) : Kx q A (B.set p x) := ⟨h.next, fun c hc hq => by
  rw [AH.set_getN _ _ (by omega)]; exact h.get c hc hq⟩
/-- the first number and the head of a stream frame -/
theorem rs0 {Hb H : AH} {q a : Nat} {s : AV} {l : List Int} {sh : Bool} (hs : Bs Hb s l) (hb : By l) (hK : Kp Hb H) (hqb : Hb.next ≤ q) (hqn : q < H.next) (hq : H.get q = some (rdB s a sh)) (ha : a ≤ l.length) (hl : l.length ≤ 65536) (x : Int) (hx : 0 ≤ x ∧ x ≤ 7) (m : Nat) (hm : 21 ≤ m) :
    ∃ τ' H', ev Try.prog (m + 1) 217 [.ptr q 0, .int .i64 x] H = resM Try.prog [.cell 4 72] (evAt Try.prog (ev Try.prog m) m 217 7 τ' H') ∧ τ' 0 = .ptr q 0 ∧ τ' 1 = .int .i64 x ∧ τ' 4 = .ptr H.next 0 ∧ τ' 5 = .ptr (H.next + 1) 0 ∧
      H'.get H.next = some (.cells 72 false (frC 0 0 0 0 false .nilSlice .nilSlice .nilSlice)) ∧ H'.get (H.next + 1) = some (.cells 72 false (frC 8 (varS l a sh).1 0 0 (x.tmod 2 == 1) .nilSlice .nilSlice .nilSlice)) ∧
      H'.get q = some (rdB s (varS l a sh).2.1 (varS l a sh).2.2) ∧ Kx q H H' ∧ H'.next = H.next + 2 := by
  let A0 : AH := H.push (.cells 72 false (frC 0 0 0 0 false .nilSlice .nilSlice .nilSlice))
  have nq : ¬ (q = H.next) := by omega
  have kA : Kp H A0 := (Kp.refl H).push _
  obtain ⟨H1, e1, k1, n1, g1, l1⟩ := var_ev (H := A0) (sh := sh) (a := a) hs hb (hK.trans kA) hqb (by simp [A0]; omega) (by simp [A0, nq, hq]) ha hl m (by omega)
  have b1 := k1.get H.next (by simp [A0]) (by omega)
  simp [A0] at b1 n1
  simp only [A0, frC] at e1
  have nq1 : ¬ (q = H1.next) := by omega
  have nb1 : ¬ (H.next = H1.next) := by omega
  have w1 : IntKind.i64.wrap (x.tmod 2) = x.tmod 2 := by
    have : x = 0 ∨ x = 1 ∨ x = 2 ∨ x = 3 ∨ x = 4 ∨ x = 5 ∨ x = 6 ∨ x = 7 := by omega
    rcases this with rfl | rfl | rfl | rfl | rfl | rfl | rfl | rfl <;> decide
  rw [ev_M Try.func217 ok217 [7] m _ H (by simp [Try.f217])]
  refine ⟨_, _, by simp [Try.f217, tm0, fillA, stVar, spl, e1, tmodI, w1]; rfl, ?_⟩
  simp [n1, nq, nq1, nb1, b1, g1, frC, tm0]
  exact ⟨fun e => absurd e (by omega), ((Kx.of kA).trans k1).push _⟩
structure RsT (τ : Tm) (q p4 p5 : Nat) (x : Int) : Prop where
  t0 : τ 0 = .ptr q 0
  t1 : τ 1 = .int .i64 x
  t4 : τ 4 = .ptr p4 0
  t5 : τ 5 = .ptr p5 0
theorem x8 {x : Int} (hx : 0 ≤ x ∧ x ≤ 7) : x = 0 ∨ x = 1 ∨ x = 2 ∨ x = 3 ∨ x = 4 ∨ x = 5 ∨ x = 6 ∨ x = 7 := by omega
theorem rs1 {Hb h : AH} {q a p4 p5 : Nat} {s : AV} {l : List Int} {sh : Bool} {A : Int} {f : Bool} (hs : Bs Hb s l) (hb : By l) (hK : Kp Hb h) (hqb : Hb.next ≤ q) (hqn : q < h.next) (hq : h.get q = some (rdB s a sh)) (ha : a ≤ l.length) (hl : l.length ≤ 65536)
    (x : Int) (hx : 0 ≤ x ∧ x ≤ 7) (n5 : p5 ≠ q) (l5 : p5 < h.next) (g5 : h.get p5 = some (.cells 72 false (frC 8 A 0 0 f .nilSlice .nilSlice .nilSlice))) (m : Nat) (hm : 21 ≤ m) (τ : Tm) (T : RsT τ q p4 p5 x) :
    ∃ τ' H', evAt Try.prog (ev Try.prog m) m 217 7 τ h = evAt Try.prog (ev Try.prog m) m 217 15 τ' H' ∧ RsT τ' q p4 p5 x ∧
      H'.get p5 = some (.cells 72 false (frC 8 A (if (x.tdiv 4).tmod 2 = 1 then (varS l a sh).1 else 0) 0 f .nilSlice .nilSlice .nilSlice)) ∧
      H'.get q = some (if (x.tdiv 4).tmod 2 = 1 then rdB s (varS l a sh).2.1 (varS l a sh).2.2 else rdB s a sh) ∧ H'.next = h.next ∧ ∀ b, b < h.next → b ≠ q → b ≠ p5 → H'.get b = h.get b := by
  obtain ⟨t0, t1, t4, t5⟩ := T
  obtain ⟨H1, e1, k1, n1, g1, l1⟩ := var_ev (sh := sh) (a := a) hs hb hK hqb hqn hq ha hl m (by omega)
  have c5 := (k1.get p5 l5 n5).trans g5
  simp only [frC] at c5 g5
  have w1 : IntKind.i64.wrap (x.tdiv 4) = x.tdiv 4 := by rcases x8 hx with rfl | rfl | rfl | rfl | rfl | rfl | rfl | rfl <;> decide
  have w2 : IntKind.i64.wrap ((x.tdiv 4).tmod 2) = (x.tdiv 4).tmod 2 := by rcases x8 hx with rfl | rfl | rfl | rfl | rfl | rfl | rfl | rfl <;> decide
  rw [at_M Try.func217 7 (by decide) 3 (by decide) (by kernel_rfl) [15]]
  by_cases b4 : (x.tdiv 4).tmod 2 = 1
  · have n5' : ¬ (q = p5) := fun e => n5 e.symm
    refine ⟨_, _, by simp [Try.f217, t0, t1, t5, e1, tmodI, tdivI, w1, w2, b4, c5, stVar, spl]; rfl, ⟨by simp [t0], by simp [t1], by simp [t4], by simp [t5]⟩, by simp [b4, frC], by simp [b4, n5', g1], by simp [n1], fun b hb h1 h2 => ?_⟩
    simp [h2]; exact k1.get b hb h1
  · have b4' : ((x.tdiv 4).tmod 2 == 1) = false := by simpa using b4
    exact ⟨_, h, by simp [Try.f217, t0, t1, t5, tmodI, tdivI, w1, w2, b4']; rfl, ⟨by simp [t0], by simp [t1], by simp [t4], by simp [t5]⟩, by simp [b4, frC, g5], by simp [b4, hq], rfl, fun b hb _ _ => rfl⟩
def dataS (l : List Int) (a : Nat) (sh : Bool) (x : Int) : List Int × Nat × Bool := if (x.tdiv 2).tmod 2 = 1 then countedS l a sh else restS l a sh
theorem rs2 {Hb h : AH} {q a p4 p5 : Nat} {s : AV} {l : List Int} {sh : Bool} {A B : Int} {f : Bool} (hs : Bs Hb s l) (hb : By l) (hK : Kp Hb h) (hqb : Hb.next ≤ q) (hqn : q < h.next) (hq : h.get q = some (rdB s a sh)) (ha : a ≤ l.length) (hl : l.length ≤ 65536)
    (x : Int) (hx : 0 ≤ x ∧ x ≤ 7) (n5 : p5 ≠ q) (l5 : p5 < h.next) (g5 : h.get p5 = some (.cells 72 false (frC 8 A B 0 f .nilSlice .nilSlice .nilSlice))) (m : Nat) (hm : 22 ≤ m) (τ : Tm) (T : RsT τ q p4 p5 x) :
    ∃ τ' H' r, evAt Try.prog (ev Try.prog m) m 217 15 τ h = evAt Try.prog (ev Try.prog m) m 217 31 τ' H' ∧ RsT τ' q p4 p5 x ∧
      H'.get p5 = some (.cells 72 false (frC 8 A B 0 f r .nilSlice .nilSlice)) ∧ Ow h.next H'.next H' r (dataS l a sh x).1 ∧
      H'.get q = some (rdB s (dataS l a sh x).2.1 (dataS l a sh x).2.2) ∧ (dataS l a sh x).2.1 ≤ l.length ∧ h.next ≤ H'.next ∧ ∀ b, b < h.next → b ≠ q → b ≠ p5 → H'.get b = h.get b := by
  obtain ⟨t0, t1, t4, t5⟩ := T
  have w1 : IntKind.i64.wrap (x.tdiv 2) = x.tdiv 2 := by rcases x8 hx with rfl | rfl | rfl | rfl | rfl | rfl | rfl | rfl <;> decide
  have w2 : IntKind.i64.wrap ((x.tdiv 2).tmod 2) = (x.tdiv 2).tmod 2 := by rcases x8 hx with rfl | rfl | rfl | rfl | rfl | rfl | rfl | rfl <;> decide
  have n5' : ¬ (q = p5) := fun e => n5 e.symm
  rw [at_M Try.func217 15 (by decide) 4 (by decide) (by kernel_rfl) [31]]
  unfold dataS
  by_cases b2 : (x.tdiv 2).tmod 2 = 1
  · obtain ⟨r, H1, e1, k1, o1, g1, l1⟩ := countedS_ev (sh := sh) (a := a) hs hb hK hqb hqn hq ha hl m (by omega)
    have c5 := (k1.get p5 l5 n5).trans g5
    simp only [frC] at c5
    have or_ := o1.bs.one
    have orc := cells_one or_
    have o2 := o1.kx ((Kx.refl p5 H1).set (.cells 72 false (frC 8 A B 0 f r .nilSlice .nilSlice))) (.inl l5)
    simp only [frC] at o2
    rw [if_pos b2]
    refine ⟨_, _, r, by simp [Try.f217, t0, t1, t5, e1, tmodI, tdivI, w1, w2, b2, c5, stVar, spl, or_, orc]; rfl, ⟨by simp [t0], by simp [t1], by simp [t4], by simp [t5]⟩, by simp [frC], by simpa using o2, by simp [n5', g1], l1, by simpa using k1.next, fun b hb h1 h2 => ?_⟩
    simp [h2]; exact k1.get b hb h1
  · have b2' : ((x.tdiv 2).tmod 2 == 1) = false := by simpa using b2
    obtain ⟨r, H1, e1, k1, o1, g1, l1⟩ := restS_ev (sh := sh) (a := a) hs hK hqb hqn hq ha hl m (by omega)
    have c5 := (k1.get p5 l5 n5).trans g5
    simp only [frC] at c5
    have or_ := o1.bs.one
    have orc := cells_one or_
    have o2 := o1.kx ((Kx.refl p5 H1).set (.cells 72 false (frC 8 A B 0 f r .nilSlice .nilSlice))) (.inl l5)
    simp only [frC] at o2
    rw [if_neg b2]
    refine ⟨_, _, r, by simp [Try.f217, t0, t1, t5, e1, tmodI, tdivI, w1, w2, b2', c5, stVar, spl, or_, orc]; rfl, ⟨by simp [t0], by simp [t1], by simp [t4], by simp [t5]⟩, by simp [frC], by simpa using o2, by simp [n5', g1], l1, by simpa using k1.next, fun b hb h1 h2 => ?_⟩
    simp [h2]; exact k1.get b hb h1
theorem rs3 {h : AH} {q p4 p5 : Nat} {x : Int} {A B : Int} {f : Bool} {r : AV} (or_ : r.one = true) (n4 : p4 ≠ p5) (g4 : h.get p4 = some (.cells 72 false (frC 0 0 0 0 false .nilSlice .nilSlice .nilSlice))) (g5 : h.get p5 = some (.cells 72 false (frC 8 A B 0 f r .nilSlice .nilSlice)))
    (m : Nat) (τ : Tm) (T : RsT τ q p4 p5 x) : resM Try.prog [.cell 4 72] (evAt Try.prog (ev Try.prog m) m 217 31 τ h) = some (.agg (frC 8 A B 0 f r .nilSlice .nilSlice), h.set p4 (.cells 72 false (frC 8 A B 0 f r .nilSlice .nilSlice))) := by
  obtain ⟨t0, t1, t4, t5⟩ := T
  simp only [frC] at g4 g5 ⊢
  rw [at_M Try.func217 31 (by decide) 5 (by decide) (by kernel_rfl) []]
  simp [Try.f217, t4, t5, g4, g5, ldVar, stVar, spl, or_]
theorem varS_le {l : List Int} {a : Nat} (h : a ≤ l.length) (sh : Bool) : (varS l a sh).2.1 ≤ l.length := by
  unfold varS
  split
  · exact h
  · split
    · exact h
    · rename_i h2
      obtain ⟨e, h3, h4, h5⟩ := getVarP_end (l := l) (a := a) (by simpa using h2)
      simp [h3, h5]
def offS (l : List Int) (a : Nat) (sh : Bool) (x : Int) : Int × Nat × Bool := if (x.tdiv 4).tmod 2 = 1 then varS l a sh else (0, a, sh)
/-- a stream frame: the stream, the offset, the data -/
def streamS (l : List Int) (a : Nat) (sh : Bool) (x : Int) : Int × Int × (List Int × Nat × Bool) :=
  ((varS l a sh).1, (offS l (varS l a sh).2.1 (varS l a sh).2.2 x).1, dataS l (offS l (varS l a sh).2.1 (varS l a sh).2.2 x).2.1 (offS l (varS l a sh).2.1 (varS l a sh).2.2 x).2.2 x)
theorem readStreamS_ev {Hb H : AH} {q a : Nat} {s : AV} {l : List Int} {sh : Bool} (hs : Bs Hb s l) (hb : By l) (hK : Kp Hb H) (hqb : Hb.next ≤ q) (hqn : q < H.next) (hq : H.get q = some (rdB s a sh)) (ha : a ≤ l.length) (hl : l.length ≤ 65536) (x : Int) (hx : 0 ≤ x ∧ x ≤ 7) (m : Nat) (hm : 23 ≤ m) :
    ∃ r H', ev Try.prog m 217 [.ptr q 0, .int .i64 x] H = some (.agg (frC 8 (streamS l a sh x).1 (streamS l a sh x).2.1 0 (x.tmod 2 == 1) r .nilSlice .nilSlice), H') ∧ Kx q H H' ∧ Ow H.next H'.next H' r (streamS l a sh x).2.2.1 ∧
      H'.get q = some (rdB s (streamS l a sh x).2.2.2.1 (streamS l a sh x).2.2.2.2) ∧ (streamS l a sh x).2.2.2.1 ≤ l.length := by
  obtain ⟨m, rfl⟩ : ∃ k, m = k + 1 := ⟨m - 1, by omega⟩
  obtain ⟨τ0, H0, e0, t0, t1, t4, t5, g4, g5, gq, k0, n0⟩ := rs0 hs hb hK hqb hqn hq ha hl x hx m (by omega)
  have l0 := varS_le ha sh
  have K0 := k0.kp hK hqb
  obtain ⟨τ1, H1, e1, T1, c5, cq, n1, r1⟩ := rs1 hs hb K0 hqb (by omega) gq l0 hl x hx (p4 := H.next) (p5 := H.next + 1) (by omega) (by omega) g5 m (by omega) τ0 ⟨t0, t1, t4, t5⟩
  have hoff : (if (x.tdiv 4).tmod 2 = 1 then rdB s (varS l (varS l a sh).2.1 (varS l a sh).2.2).2.1 (varS l (varS l a sh).2.1 (varS l a sh).2.2).2.2 else rdB s (varS l a sh).2.1 (varS l a sh).2.2) = rdB s (offS l (varS l a sh).2.1 (varS l a sh).2.2 x).2.1 (offS l (varS l a sh).2.1 (varS l a sh).2.2 x).2.2 := by
    unfold offS; split <;> rfl
  have hoff1 : (if (x.tdiv 4).tmod 2 = 1 then (varS l (varS l a sh).2.1 (varS l a sh).2.2).1 else 0) = (offS l (varS l a sh).2.1 (varS l a sh).2.2 x).1 := by
    unfold offS; split <;> rfl
  have l1 : (offS l (varS l a sh).2.1 (varS l a sh).2.2 x).2.1 ≤ l.length := by
    unfold offS; split
    · exact varS_le l0 _
    · exact l0
  rw [hoff] at cq
  rw [hoff1] at c5
  have k1 : Kx q H H1 := ⟨by omega, fun b hb h => by rw [r1 b (by omega) h (by omega)]; exact k0.get b hb h⟩
  have K1 := k1.kp hK hqb
  obtain ⟨τ2, H2, r, e2, T2, d5, o2, dq, l2, n2, r2⟩ := rs2 hs hb K1 hqb (by omega) cq l1 hl x hx (p4 := H.next) (p5 := H.next + 1) (by omega) (by omega) c5 m (by omega) τ1 T1
  have d4 : H2.get H.next = some (.cells 72 false (frC 0 0 0 0 false .nilSlice .nilSlice .nilSlice)) := by rw [r2 _ (by omega) (by omega) (by omega), r1 _ (by omega) (by omega) (by omega), g4]
  have e3 := rs3 o2.bs.one (by omega) d4 d5 m τ2 T2
  have o3 := o2.kx ((Kx.refl H.next H2).set (.cells 72 false (frC 8 (varS l a sh).1 (offS l (varS l a sh).2.1 (varS l a sh).2.2 x).1 0 (x.tmod 2 == 1) r .nilSlice .nilSlice))) (.inl (by omega))
  refine ⟨r, _, by rw [e0, e1, e2, e3]; rfl, ?_, Ow.wide o3 (by omega) (by simp) (by simp), ?_, l2⟩
  · refine ⟨by simp; omega, fun b hb h => ?_⟩
    rw [AH.set_getN _ _ (by omega), r2 b (by omega) h (by omega)]
    exact k1.get b hb h
  · rw [AH.set_getN _ _ (by omega)]; exact dq
end Go.Ev

/- A frame read by the program: the head, the end. -/
namespace Go.Ev
open Go Go.Proofs
set_option linter.unusedSimpArgs false
set_option linter.unusedVariables false

structure FrT (τ : Tm) (q p2 p4 : Nat) (k : Int) : Prop where
  t0 : τ 0 = .ptr q 0
  t2 : τ 2 = .ptr p2 0
  t3 : τ 3 = .int .i64 k
  t4 : τ 4 = .ptr p4 0
theorem fr0 {Hb H : AH} {q a : Nat} {s : AV} {l : List Int} {c : Int} (hs : Bs Hb s l) (hb : By l) (hK : Kp Hb H) (hqb : Hb.next ≤ q) (hqn : q < H.next) (hq : H.get q = some (scB s a c)) (ha : a ≤ l.length) (hl : l.length ≤ 65536) (m : Nat) (hm : 4 ≤ m) :
    ∃ τ' H', ev Try.prog (m + 1) 126 [.ptr q 0] H = resM Try.prog [.cell 2 72] (evAt Try.prog (ev Try.prog m) m 126 15 τ' H') ∧ FrT τ' q H.next (H.next + 1) (octetI l a c).1 ∧
      H'.get H.next = some (.cells 72 false (frC 0 0 0 0 false .nilSlice .nilSlice .nilSlice)) ∧ H'.get (H.next + 1) = some (.cells 72 false (frC (octetI l a c).1 0 0 0 false .nilSlice .nilSlice .nilSlice)) ∧
      H'.get q = some (scB s (octetI l a c).2.1 (octetI l a c).2.2) ∧ Kx q H H' ∧ H'.next = H.next + 2 ∧ (octetI l a c).2.1 ≤ l.length := by
  let A0 : AH := H.push (.cells 72 false (frC 0 0 0 0 false .nilSlice .nilSlice .nilSlice))
  have nq : ¬ (q = H.next) := by omega
  have kA : Kp H A0 := (Kp.refl H).push _
  obtain ⟨H1, e1, k1, n1, g1, l1⟩ := octet_ev (H := A0) (c := c) (a := a) hs hb (hK.trans kA) hqb (by simp [A0, nq, hq]) ha hl m (by omega)
  have b1 := k1.get H.next (by simp [A0]) (by omega)
  simp [A0] at b1 n1
  simp only [A0, frC] at e1
  have nq1 : ¬ (q = H1.next) := by omega
  have nb1 : ¬ (H.next = H1.next) := by omega
  rw [ev_M Try.func126 ok126 [15] m _ H (by simp [Try.f126])]
  refine ⟨_, _, by simp [Try.f126, tm0, fillA, stVar, spl, e1]; rfl, ⟨by simp [tm0], by simp, by simp, by simp [n1]⟩, ?_⟩
  simp [n1, nq, nq1, nb1, b1, g1, frC, tm0, l1]
  exact ⟨fun e => absurd e (by omega), ((Kx.of kA).trans k1).push _⟩
/-- the head: the code stops it -/
theorem fr1 {h : AH} {q p2 p4 a : Nat} {s : AV} {k c : Int} (hq : h.get q = some (scB s a c)) (n42 : p2 ≠ p4) (g2 : h.get p2 = some (.cells 72 false (frC 0 0 0 0 false .nilSlice .nilSlice .nilSlice))) (g4 : h.get p4 = some (.cells 72 false (frC k 0 0 0 false .nilSlice .nilSlice .nilSlice)))
    (m : Nat) (τ : Tm) (T : FrT τ q p2 p4 k) : (c ≠ 0 → resM Try.prog [.cell 2 72] (evAt Try.prog (ev Try.prog m) m 126 15 τ h) = some (.agg (frC k 0 0 0 false .nilSlice .nilSlice .nilSlice), h.set p2 (.cells 72 false (frC k 0 0 0 false .nilSlice .nilSlice .nilSlice)))) ∧
      (c = 0 → ∃ τ', evAt Try.prog (ev Try.prog m) m 126 15 τ h = evAt Try.prog (ev Try.prog m) m 126 31 τ' h ∧ FrT τ' q p2 p4 k) := by
  obtain ⟨t0, t2, t3, t4⟩ := T
  unfold scB at hq
  simp only [frC] at g2 g4 ⊢
  rw [at_M Try.func126 15 (by decide) 4 (by decide) (by kernel_rfl) [31]]
  refine ⟨fun hc => ?_, fun hc => ?_⟩
  · have hc' : (c != 0) = true := by simpa using hc
    simp [Try.f126, t0, t2, t4, hq, g2, g4, ldVar, stVar, spl, hc']
  · subst hc
    exact ⟨_, by simp [Try.f126, t0, t2, t4, hq, g2, g4, ldVar]; rfl, by simp [t0], by simp [t2], by simp [t3], by simp [t4]⟩
/-- the end: whether the frame is right -/
theorem fr8 {rw : Bool} {Hb h : AH} {q p2 p4 a : Nat} {s : AV} {c k k' A B C : Int} {f : Bool} {d t r : AV} {dl tl : Nat} {rs : List (Int × Int)} {bs : List Nat} (hr : (Ty.sl 94 tT94).R rw Hb [r] rs bs) (hK : Kp Hb h)
    (hd : ∀ h, lenA Try.prog 34 d h = some (.int .i64 dl)) (ht : ∀ h, lenA Try.prog 34 t h = some (.int .i64 tl)) (od : d.one = true) (ot : t.one = true) (hdl : dl ≤ 1048576) (hrl : rs.length ≤ 1048576)
    (hq : h.get q = some (scB s a c)) (hqn : q < h.next) (n4 : p4 ≠ q) (l4 : p4 < h.next) (g4 : h.get p4 = some (.cells 72 false (frC k A B C f d t r))) (m : Nat) (hm : 75 ≤ m) (τ : Tm) (T : FrT τ q p2 p4 k') :
    ∃ τ' H', evAt Try.prog (ev Try.prog m) m 126 63 τ h = evAt Try.prog (ev Try.prog m) m 126 127 τ' H' ∧ FrT τ' q p2 p4 k' ∧ H'.get q = some (scB s a (if c = 0 ∧ ¬ frOK k A B C f dl tl rs then 3 else c)) ∧ Kx q h H' := by
  obtain ⟨t0, t2, t3, t4⟩ := T
  have or_ : r.one = true := hr.sl_one
  have hq0 := hq
  unfold scB at hq
  obtain ⟨H1, e1, k1⟩ := FrameOKI_ev (k := k) (a := A) (b := B) (c := C) (fin := f) hr hK hd ht od ot hdl hrl m hm
  have hq1 := (k1.get q hqn).trans hq0
  have ef := fail_ev (e := 3) hq1 m (by omega)
  simp only [frC] at e1 g4
  rw [at_M Try.func126 63 (by decide) 6 (by decide) (by kernel_rfl) [127]]
  by_cases c0 : c = 0
  · subst c0
    by_cases ok : frOK k A B C f dl tl rs
    · simp only [ok, decide_true] at e1
      exact ⟨_, H1, by simp [Try.f126, t0, t4, hq, g4, ldVar, e1]; rfl, ⟨by simp [t0], by simp [t2], by simp [t3], by simp [t4]⟩, by simpa [ok] using hq1, Kx.of k1⟩
    · simp only [ok, decide_false] at e1
      rw [if_pos rfl] at ef
      exact ⟨_, _, by simp [Try.f126, t0, t4, hq, g4, ldVar, e1, ef]; rfl, ⟨by simp [t0], by simp [t2], by simp [t3], by simp [t4]⟩, by simp [ok], (Kx.of k1).set _⟩
  · have c0' : (c == 0) = false := by simpa using c0
    exact ⟨_, h, by simp [Try.f126, t0, t4, hq, g4, ldVar, c0']; rfl, ⟨by simp [t0], by simp [t2], by simp [t3], by simp [t4]⟩, by simpa [c0] using hq0, Kx.refl q h⟩
theorem fr9 {h : AH} {q p2 p4 : Nat} {k k' A B C : Int} {f : Bool} {d t r : AV} (od : d.one = true) (ot : t.one = true) (or_ : r.one = true) (g2 : h.get p2 = some (.cells 72 false (frC 0 0 0 0 false .nilSlice .nilSlice .nilSlice))) (g4 : h.get p4 = some (.cells 72 false (frC k A B C f d t r)))
    (m : Nat) (τ : Tm) (T : FrT τ q p2 p4 k') : resM Try.prog [.cell 2 72] (evAt Try.prog (ev Try.prog m) m 126 127 τ h) = some (.agg (frC k A B C f d t r), h.set p2 (.cells 72 false (frC k A B C f d t r))) := by
  obtain ⟨t0, t2, t3, t4⟩ := T
  simp only [frC] at g2 g4 ⊢
  rw [at_M Try.func126 127 (by decide) 7 (by decide) (by kernel_rfl) []]
  simp [Try.f126, t2, t4, g2, g4, ldVar, stVar, spl, od, ot, or_]
end Go.Ev

/- A frame read by the program: the way to a kind's place. -/
namespace Go.Ev
open Go Go.Proofs
set_option linter.unusedSimpArgs false
set_option linter.unusedVariables false

structure FrU (τ : Tm) (q p2 p4 : Nat) (k : Int) : Prop where
  T : FrT τ q p2 p4 k
  t15 : τ 15 = .int .i64 k
set_option maxRecDepth 20000 in
theorem frS_250 {q p2 p4 : Nat} (k : Int) (h0 : ¬ (k = 0)) (m : Nat) (τ : Tm) (H : AH) (S : FrU τ q p2 p4 k) :
    ∃ τ', evAt Try.prog (ev Try.prog m) m 126 250 τ H = evAt Try.prog (ev Try.prog m) m 126 1003 τ' H ∧ FrU τ' q p2 p4 k := by
  obtain ⟨⟨t0, t2, t3, t4⟩, tk⟩ := S
  rw [at_M Try.func126 250 (by decide) 8 (by decide) (by kernel_rfl) [1003]]
  exact ⟨_, by simp [Try.f126, tk, beqF, h0]; rfl, ⟨by simp [t0], by simp [t2], by simp [t3], by simp [t4]⟩, by simp [tk]⟩
set_option maxRecDepth 20000 in
theorem frS_1003 {q p2 p4 : Nat} (k : Int) (h1 : ¬ (k = 1)) (h30 : ¬ (k = 30)) (m : Nat) (τ : Tm) (H : AH) (S : FrU τ q p2 p4 k) :
    ∃ τ', evAt Try.prog (ev Try.prog m) m 126 1003 τ H = evAt Try.prog (ev Try.prog m) m 126 4015 τ' H ∧ FrU τ' q p2 p4 k := by
  obtain ⟨⟨t0, t2, t3, t4⟩, tk⟩ := S
  rw [at_M Try.func126 1003 (by decide) 10 (by decide) (by kernel_rfl) [4015]]
  exact ⟨_, by simp [Try.f126, tk, beqF, h1, h30]; rfl, ⟨by simp [t0], by simp [t2], by simp [t3], by simp [t4]⟩, by simp [tk]⟩
set_option maxRecDepth 20000 in
theorem frS_4015 {q p2 p4 : Nat} (k : Int) (h2 : ¬ (k = 2)) (m : Nat) (τ : Tm) (H : AH) (S : FrU τ q p2 p4 k) :
    ∃ τ', evAt Try.prog (ev Try.prog m) m 126 4015 τ H = evAt Try.prog (ev Try.prog m) m 126 16063 τ' H ∧ FrU τ' q p2 p4 k := by
  obtain ⟨⟨t0, t2, t3, t4⟩, tk⟩ := S
  rw [at_M Try.func126 4015 (by decide) 12 (by decide) (by kernel_rfl) [16063]]
  exact ⟨_, by simp [Try.f126, tk, beqF, h2]; rfl, ⟨by simp [t0], by simp [t2], by simp [t3], by simp [t4]⟩, by simp [tk]⟩
set_option maxRecDepth 20000 in
theorem frS_16063 {q p2 p4 : Nat} (k : Int) (h4 : ¬ (k = 4)) (m : Nat) (τ : Tm) (H : AH) (S : FrU τ q p2 p4 k) :
    ∃ τ', evAt Try.prog (ev Try.prog m) m 126 16063 τ H = evAt Try.prog (ev Try.prog m) m 126 64255 τ' H ∧ FrU τ' q p2 p4 k := by
  obtain ⟨⟨t0, t2, t3, t4⟩, tk⟩ := S
  rw [at_M Try.func126 16063 (by decide) 14 (by decide) (by kernel_rfl) [64255]]
  exact ⟨_, by simp [Try.f126, tk, beqF, h4]; rfl, ⟨by simp [t0], by simp [t2], by simp [t3], by simp [t4]⟩, by simp [tk]⟩
set_option maxRecDepth 20000 in
theorem frS_64255 {q p2 p4 : Nat} (k : Int) (h5 : ¬ (k = 5)) (h17 : ¬ (k = 17)) (h21 : ¬ (k = 21)) (m : Nat) (τ : Tm) (H : AH) (S : FrU τ q p2 p4 k) :
    ∃ τ', evAt Try.prog (ev Try.prog m) m 126 64255 τ H = evAt Try.prog (ev Try.prog m) m 126 257023 τ' H ∧ FrU τ' q p2 p4 k := by
  obtain ⟨⟨t0, t2, t3, t4⟩, tk⟩ := S
  rw [at_M Try.func126 64255 (by decide) 16 (by decide) (by kernel_rfl) [257023]]
  exact ⟨_, by simp [Try.f126, tk, beqF, h5, h17, h21]; rfl, ⟨by simp [t0], by simp [t2], by simp [t3], by simp [t4]⟩, by simp [tk]⟩
set_option maxRecDepth 20000 in
theorem frS_257023 {q p2 p4 : Nat} (k : Int) (h6 : ¬ (k = 6)) (h29 : ¬ (k = 29)) (m : Nat) (τ : Tm) (H : AH) (S : FrU τ q p2 p4 k) :
    ∃ τ', evAt Try.prog (ev Try.prog m) m 126 257023 τ H = evAt Try.prog (ev Try.prog m) m 126 1028095 τ' H ∧ FrU τ' q p2 p4 k := by
  obtain ⟨⟨t0, t2, t3, t4⟩, tk⟩ := S
  rw [at_M Try.func126 257023 (by decide) 18 (by decide) (by kernel_rfl) [1028095]]
  exact ⟨_, by simp [Try.f126, tk, beqF, h6, h29]; rfl, ⟨by simp [t0], by simp [t2], by simp [t3], by simp [t4]⟩, by simp [tk]⟩
set_option maxRecDepth 20000 in
theorem frS_1028095 {q p2 p4 : Nat} (k : Int) (h7 : ¬ (k = 7)) (m : Nat) (τ : Tm) (H : AH) (S : FrU τ q p2 p4 k) :
    ∃ τ', evAt Try.prog (ev Try.prog m) m 126 1028095 τ H = evAt Try.prog (ev Try.prog m) m 126 4112383 τ' H ∧ FrU τ' q p2 p4 k := by
  obtain ⟨⟨t0, t2, t3, t4⟩, tk⟩ := S
  rw [at_M Try.func126 1028095 (by decide) 20 (by decide) (by kernel_rfl) [4112383]]
  exact ⟨_, by simp [Try.f126, tk, beqF, h7]; rfl, ⟨by simp [t0], by simp [t2], by simp [t3], by simp [t4]⟩, by simp [tk]⟩
set_option maxRecDepth 20000 in
theorem frS_4112383 {q p2 p4 : Nat} (k : Int) (h8 : ¬ (k = 8)) (h9 : ¬ (k = 9)) (h10 : ¬ (k = 10)) (h11 : ¬ (k = 11)) (h12 : ¬ (k = 12)) (h13 : ¬ (k = 13)) (h14 : ¬ (k = 14)) (h15 : ¬ (k = 15)) (m : Nat) (τ : Tm) (H : AH) (S : FrU τ q p2 p4 k) :
    ∃ τ', evAt Try.prog (ev Try.prog m) m 126 4112383 τ H = evAt Try.prog (ev Try.prog m) m 126 16449535 τ' H ∧ FrU τ' q p2 p4 k := by
  obtain ⟨⟨t0, t2, t3, t4⟩, tk⟩ := S
  rw [at_M Try.func126 4112383 (by decide) 22 (by decide) (by kernel_rfl) [16449535]]
  exact ⟨_, by simp [Try.f126, tk, beqF, h8, h9, h10, h11, h12, h13, h14, h15]; rfl, ⟨by simp [t0], by simp [t2], by simp [t3], by simp [t4]⟩, by simp [tk]⟩
set_option maxRecDepth 20000 in
theorem frS_16449535 {q p2 p4 : Nat} (k : Int) (h18 : ¬ (k = 18)) (h19 : ¬ (k = 19)) (m : Nat) (τ : Tm) (H : AH) (S : FrU τ q p2 p4 k) :
    ∃ τ', evAt Try.prog (ev Try.prog m) m 126 16449535 τ H = evAt Try.prog (ev Try.prog m) m 126 65798143 τ' H ∧ FrU τ' q p2 p4 k := by
  obtain ⟨⟨t0, t2, t3, t4⟩, tk⟩ := S
  rw [at_M Try.func126 16449535 (by decide) 24 (by decide) (by kernel_rfl) [65798143]]
  exact ⟨_, by simp [Try.f126, tk, beqF, h18, h19]; rfl, ⟨by simp [t0], by simp [t2], by simp [t3], by simp [t4]⟩, by simp [tk]⟩
set_option maxRecDepth 20000 in
theorem frS_65798143 {q p2 p4 : Nat} (k : Int) (h22 : ¬ (k = 22)) (h23 : ¬ (k = 23)) (m : Nat) (τ : Tm) (H : AH) (S : FrU τ q p2 p4 k) :
    ∃ τ', evAt Try.prog (ev Try.prog m) m 126 65798143 τ H = evAt Try.prog (ev Try.prog m) m 126 263192575 τ' H ∧ FrU τ' q p2 p4 k := by
  obtain ⟨⟨t0, t2, t3, t4⟩, tk⟩ := S
  rw [at_M Try.func126 65798143 (by decide) 26 (by decide) (by kernel_rfl) [263192575]]
  exact ⟨_, by simp [Try.f126, tk, beqF, h22, h23]; rfl, ⟨by simp [t0], by simp [t2], by simp [t3], by simp [t4]⟩, by simp [tk]⟩
set_option maxRecDepth 20000 in
theorem frS_263192575 {q p2 p4 : Nat} (k : Int) (h16 : ¬ (k = 16)) (h20 : ¬ (k = 20)) (h25 : ¬ (k = 25)) (m : Nat) (τ : Tm) (H : AH) (S : FrU τ q p2 p4 k) :
    ∃ τ', evAt Try.prog (ev Try.prog m) m 126 263192575 τ H = evAt Try.prog (ev Try.prog m) m 126 1052770303 τ' H ∧ FrU τ' q p2 p4 k := by
  obtain ⟨⟨t0, t2, t3, t4⟩, tk⟩ := S
  rw [at_M Try.func126 263192575 (by decide) 28 (by decide) (by kernel_rfl) [1052770303]]
  exact ⟨_, by simp [Try.f126, tk, beqF, h16, h20, h25]; rfl, ⟨by simp [t0], by simp [t2], by simp [t3], by simp [t4]⟩, by simp [tk]⟩
set_option maxRecDepth 20000 in
theorem frS_1052770303 {q p2 p4 : Nat} (k : Int) (h24 : ¬ (k = 24)) (m : Nat) (τ : Tm) (H : AH) (S : FrU τ q p2 p4 k) :
    ∃ τ', evAt Try.prog (ev Try.prog m) m 126 1052770303 τ H = evAt Try.prog (ev Try.prog m) m 126 4211081215 τ' H ∧ FrU τ' q p2 p4 k := by
  obtain ⟨⟨t0, t2, t3, t4⟩, tk⟩ := S
  rw [at_M Try.func126 1052770303 (by decide) 30 (by decide) (by kernel_rfl) [4211081215]]
  exact ⟨_, by simp [Try.f126, tk, beqF, h24]; rfl, ⟨by simp [t0], by simp [t2], by simp [t3], by simp [t4]⟩, by simp [tk]⟩
set_option maxRecDepth 20000 in
theorem frS_4211081215 {q p2 p4 : Nat} (k : Int) (h26 : ¬ (k = 26)) (h27 : ¬ (k = 27)) (m : Nat) (τ : Tm) (H : AH) (S : FrU τ q p2 p4 k) :
    ∃ τ', evAt Try.prog (ev Try.prog m) m 126 4211081215 τ H = evAt Try.prog (ev Try.prog m) m 126 16844324863 τ' H ∧ FrU τ' q p2 p4 k := by
  obtain ⟨⟨t0, t2, t3, t4⟩, tk⟩ := S
  rw [at_M Try.func126 4211081215 (by decide) 32 (by decide) (by kernel_rfl) [16844324863]]
  exact ⟨_, by simp [Try.f126, tk, beqF, h26, h27]; rfl, ⟨by simp [t0], by simp [t2], by simp [t3], by simp [t4]⟩, by simp [tk]⟩
set_option maxRecDepth 20000 in
theorem frS_16844324863 {q p2 p4 : Nat} (k : Int) (h28 : ¬ (k = 28)) (m : Nat) (τ : Tm) (H : AH) (S : FrU τ q p2 p4 k) :
    ∃ τ', evAt Try.prog (ev Try.prog m) m 126 16844324863 τ H = evAt Try.prog (ev Try.prog m) m 126 67377299455 τ' H ∧ FrU τ' q p2 p4 k := by
  obtain ⟨⟨t0, t2, t3, t4⟩, tk⟩ := S
  rw [at_M Try.func126 16844324863 (by decide) 34 (by decide) (by kernel_rfl) [67377299455]]
  exact ⟨_, by simp [Try.f126, tk, beqF, h28]; rfl, ⟨by simp [t0], by simp [t2], by simp [t3], by simp [t4]⟩, by simp [tk]⟩
set_option maxRecDepth 20000 in
theorem frS_67377299455 {q p2 p4 : Nat} (k : Int) (h48 : ¬ (k = 48)) (m : Nat) (τ : Tm) (H : AH) (S : FrU τ q p2 p4 k) :
    ∃ τ', evAt Try.prog (ev Try.prog m) m 126 67377299455 τ H = evAt Try.prog (ev Try.prog m) m 126 269509197823 τ' H ∧ FrU τ' q p2 p4 k := by
  obtain ⟨⟨t0, t2, t3, t4⟩, tk⟩ := S
  rw [at_M Try.func126 67377299455 (by decide) 36 (by decide) (by kernel_rfl) [269509197823]]
  exact ⟨_, by simp [Try.f126, tk, beqF, h48]; rfl, ⟨by simp [t0], by simp [t2], by simp [t3], by simp [t4]⟩, by simp [tk]⟩
end Go.Ev

/- A frame read by the program: the kinds of numbers alone. -/
namespace Go.Ev
open Go Go.Proofs
set_option linter.unusedSimpArgs false
set_option linter.unusedVariables false

/-- what a kind's place leaves: the frame, the scanner -/
structure FrE (q p2 p4 : Nat) (s : AV) (k : Int) (h H' : AH) (τ' : Tm) (fr : List AV) (st : Nat × Int) : Prop where
  T : FrT τ' q p2 p4 k
  g4 : H'.get p4 = some (.cells 72 false fr)
  gq : H'.get q = some (scB s st.1 st.2)
  next : h.next ≤ H'.next
  rest : ∀ b, b < h.next → b ≠ q → b ≠ p4 → H'.get b = h.get b
set_option maxRecDepth 20000 in
theorem frK_A {Hb h : AH} {q p2 p4 a : Nat} {s : AV} {l : List Int} {c : Int} (hs : Bs Hb s l) (hb : By l) (hK : Kp Hb h) (hqb : Hb.next ≤ q) (hq : h.get q = some (scB s a c)) (hqn : q < h.next) (ha : a ≤ l.length) (hl : l.length ≤ 65536)
    (k : Int) (hk : k = 16 ∨ k = 20 ∨ k = 25) (n4 : p4 ≠ q) (l4 : p4 < h.next) (g4 : h.get p4 = some (.cells 72 false (frC k 0 0 0 false .nilSlice .nilSlice .nilSlice))) (m : Nat) (hm : 21 ≤ m) (τ : Tm) (S : FrU τ q p2 p4 k) :
    ∃ τ' H', evAt Try.prog (ev Try.prog m) m 126 263192575 τ h = some (.normal, τ', H') ∧ FrE q p2 p4 s k h H' τ' (frC k (numberI l a c).1 0 0 false .nilSlice .nilSlice .nilSlice) (numberI l a c).2 := by
  obtain ⟨⟨t0, t2, t3, t4⟩, tk⟩ := S
  obtain ⟨H1, e1, k1, n1, g1, l1⟩ := number_ev (c := c) (a := a) hs hb hK hqb hq ha hl m hm
  have c4 := (k1.get p4 l4 n4).trans g4
  have n4' : ¬ (q = p4) := fun e => n4 e.symm
  simp only [frC] at c4 ⊢
  rw [at_M Try.func126 263192575 (by decide) 28 (by decide) (by kernel_rfl) [1052770303]]
  rcases hk with rfl | rfl | rfl
  all_goals
    refine ⟨_, _, by simp [Try.f126, tk, t0, t4, e1, c4, stVar, spl]; exact ⟨rfl, rfl⟩, ⟨by simp [t0], by simp [t2], by simp [t3], by simp [t4]⟩, by simp, by simp [n4', g1], by simp [n1], fun b hb h1 h2 => ?_⟩
    simp [h2]; exact k1.get b hb h1
set_option maxRecDepth 20000 in
theorem frK_AB {Hb h : AH} {q p2 p4 a : Nat} {s : AV} {l : List Int} {c : Int} (hs : Bs Hb s l) (hb : By l) (hK : Kp Hb h) (hqb : Hb.next ≤ q) (hq : h.get q = some (scB s a c)) (hqn : q < h.next) (ha : a ≤ l.length) (hl : l.length ≤ 65536)
    (k : Int) (hk : k = 5 ∨ k = 17 ∨ k = 21) (n4 : p4 ≠ q) (l4 : p4 < h.next) (g4 : h.get p4 = some (.cells 72 false (frC k 0 0 0 false .nilSlice .nilSlice .nilSlice))) (m : Nat) (hm : 21 ≤ m) (τ : Tm) (S : FrU τ q p2 p4 k) :
    ∃ τ' H', evAt Try.prog (ev Try.prog m) m 126 64255 τ h = some (.normal, τ', H') ∧ FrE q p2 p4 s k h H' τ' (frC k (numberI l a c).1 (numberI l (numberI l a c).2.1 (numberI l a c).2.2).1 0 false .nilSlice .nilSlice .nilSlice) (numberI l (numberI l a c).2.1 (numberI l a c).2.2).2 := by
  obtain ⟨⟨t0, t2, t3, t4⟩, tk⟩ := S
  obtain ⟨H1, e1, k1, n1, g1, l1⟩ := number_ev (c := c) (a := a) hs hb hK hqb hq ha hl m hm
  obtain ⟨H2, e2, k2, n2, g2, l2⟩ := number_ev hs hb (k1.kp hK hqb) hqb g1 l1 hl m hm
  have k12 := k1.trans k2
  have c4 := (k12.get p4 l4 n4).trans g4
  have n4' : ¬ (q = p4) := fun e => n4 e.symm
  simp only [frC] at c4 ⊢
  rw [at_M Try.func126 64255 (by decide) 16 (by decide) (by kernel_rfl) [257023]]
  rcases hk with rfl | rfl | rfl
  all_goals
    refine ⟨_, _, by simp [Try.f126, tk, t0, t4, e1, e2, c4, stVar, spl]; exact ⟨rfl, rfl⟩, ⟨by simp [t0], by simp [t2], by simp [t3], by simp [t4]⟩, by simp, by simp [n4', g2], by simp [n1, n2], fun b hb h1 h2 => ?_⟩
    simp [h2]; exact k12.get b hb h1
set_option maxRecDepth 20000 in
theorem frK_ABC {Hb h : AH} {q p2 p4 a : Nat} {s : AV} {l : List Int} {c : Int} (hs : Bs Hb s l) (hb : By l) (hK : Kp Hb h) (hqb : Hb.next ≤ q) (hq : h.get q = some (scB s a c)) (hqn : q < h.next) (ha : a ≤ l.length) (hl : l.length ≤ 65536)
     (n4 : p4 ≠ q) (l4 : p4 < h.next) (g4 : h.get p4 = some (.cells 72 false (frC 4 0 0 0 false .nilSlice .nilSlice .nilSlice))) (m : Nat) (hm : 21 ≤ m) (τ : Tm) (S : FrU τ q p2 p4 4) :
    ∃ τ' H', evAt Try.prog (ev Try.prog m) m 126 16063 τ h = some (.normal, τ', H') ∧ FrE q p2 p4 s 4 h H' τ' (frC 4 (numberI l a c).1 (numberI l (numberI l a c).2.1 (numberI l a c).2.2).1 (numberI l (numberI l (numberI l a c).2.1 (numberI l a c).2.2).2.1 (numberI l (numberI l a c).2.1 (numberI l a c).2.2).2.2).1 false .nilSlice .nilSlice .nilSlice) (numberI l (numberI l (numberI l a c).2.1 (numberI l a c).2.2).2.1 (numberI l (numberI l a c).2.1 (numberI l a c).2.2).2.2).2 := by
  obtain ⟨⟨t0, t2, t3, t4⟩, tk⟩ := S
  obtain ⟨H1, e1, k1, n1, g1, l1⟩ := number_ev (c := c) (a := a) hs hb hK hqb hq ha hl m hm
  obtain ⟨H2, e2, k2, n2, g2, l2⟩ := number_ev hs hb (k1.kp hK hqb) hqb g1 l1 hl m hm
  have k12 := k1.trans k2
  obtain ⟨H3, e3, k3, n3, g3, l3⟩ := number_ev hs hb (k12.kp hK hqb) hqb g2 l2 hl m hm
  have k13 := k12.trans k3
  have c4 := (k13.get p4 l4 n4).trans g4
  have n4' : ¬ (q = p4) := fun e => n4 e.symm
  simp only [frC] at c4 ⊢
  rw [at_M Try.func126 16063 (by decide) 14 (by decide) (by kernel_rfl) [64255]]
  refine ⟨_, _, by simp [Try.f126, tk, t0, t4, e1, e2, e3, c4, stVar, spl]; exact ⟨rfl, rfl⟩, ⟨by simp [t0], by simp [t2], by simp [t3], by simp [t4]⟩, by simp, by simp [n4', g3], by simp [n1, n2, n3], fun b hb h1 h2 => ?_⟩
  simp [h2]; exact k13.get b hb h1
set_option maxRecDepth 20000 in
theorem frK_18 {Hb h : AH} {q p2 p4 a : Nat} {s : AV} {l : List Int} {c : Int} (hs : Bs Hb s l) (hb : By l) (hK : Kp Hb h) (hqb : Hb.next ≤ q) (hq : h.get q = some (scB s a c)) (hqn : q < h.next) (ha : a ≤ l.length) (hl : l.length ≤ 65536)
    (k : Int) (hk : k = 18 ∨ k = 19) (n4 : p4 ≠ q) (l4 : p4 < h.next) (b4 : Hb.next ≤ p4) (g4 : h.get p4 = some (.cells 72 false (frC k 0 0 0 false .nilSlice .nilSlice .nilSlice))) (m : Nat) (hm : 21 ≤ m) (τ : Tm) (S : FrU τ q p2 p4 k) :
    ∃ τ' H', evAt Try.prog (ev Try.prog m) m 126 16449535 τ h = some (.normal, τ', H') ∧ FrE q p2 p4 s k h H' τ' (frC 18 (numberI l a c).1 (k - 18) 0 false .nilSlice .nilSlice .nilSlice) (numberI l a c).2 := by
  obtain ⟨⟨t0, t2, t3, t4⟩, tk⟩ := S
  have n4' : ¬ (q = p4) := fun e => n4 e.symm
  have K1 : Kp Hb (h.set p4 (.cells 72 false (frC 18 0 (k - 18) 0 false .nilSlice .nilSlice .nilSlice))) := ⟨hK.next, fun b hb' => by rw [AH.set_getN _ _ (by omega)]; exact hK.get b hb'⟩
  obtain ⟨H1, e1, k1, n1, g1, l1⟩ := number_ev (c := c) (a := a) hs hb K1 hqb (by rw [AH.set_getN _ _ (by omega)]; exact hq) ha hl m hm
  have c4 := k1.get p4 (by simpa using l4) n4
  simp only [frC] at c4 g4 e1 ⊢
  simp at c4 n1
  have w1 : IntKind.i64.wrap (k - 18) = k - 18 := wrap_i64 (n := k - 18) (by omega) (by omega)
  rw [at_M Try.func126 16449535 (by decide) 24 (by decide) (by kernel_rfl) [65798143]]
  rcases hk with rfl | rfl
  all_goals
    have z0 : IntKind.i64.wrap 0 = 0 := by decide
    have z1 : IntKind.i64.wrap 1 = 1 := by decide
    simp at e1 c4
    refine ⟨_, _, by simp [Try.f126, tk, t0, t3, t4, e1, z0, z1, c4, g4, stVar, spl]; exact ⟨rfl, rfl⟩, ⟨by simp [t0], by simp [t2], by simp [t3], by simp [t4]⟩, by simp, by simp [n4', g1], by simp [n1], fun b hb h1 h2 => ?_⟩
    simp [h2]; rw [k1.get b (by simpa using hb) h1, AH.set_getN _ _ h2]

set_option maxRecDepth 20000 in
theorem frK_22 {Hb h : AH} {q p2 p4 a : Nat} {s : AV} {l : List Int} {c : Int} (hs : Bs Hb s l) (hb : By l) (hK : Kp Hb h) (hqb : Hb.next ≤ q) (hq : h.get q = some (scB s a c)) (hqn : q < h.next) (ha : a ≤ l.length) (hl : l.length ≤ 65536)
    (k : Int) (hk : k = 22 ∨ k = 23) (n4 : p4 ≠ q) (l4 : p4 < h.next) (b4 : Hb.next ≤ p4) (g4 : h.get p4 = some (.cells 72 false (frC k 0 0 0 false .nilSlice .nilSlice .nilSlice))) (m : Nat) (hm : 21 ≤ m) (τ : Tm) (S : FrU τ q p2 p4 k) :
    ∃ τ' H', evAt Try.prog (ev Try.prog m) m 126 65798143 τ h = some (.normal, τ', H') ∧ FrE q p2 p4 s k h H' τ' (frC 22 (numberI l a c).1 (k - 22) 0 false .nilSlice .nilSlice .nilSlice) (numberI l a c).2 := by
  obtain ⟨⟨t0, t2, t3, t4⟩, tk⟩ := S
  have n4' : ¬ (q = p4) := fun e => n4 e.symm
  have K1 : Kp Hb (h.set p4 (.cells 72 false (frC 22 0 (k - 22) 0 false .nilSlice .nilSlice .nilSlice))) := ⟨hK.next, fun b hb' => by rw [AH.set_getN _ _ (by omega)]; exact hK.get b hb'⟩
  obtain ⟨H1, e1, k1, n1, g1, l1⟩ := number_ev (c := c) (a := a) hs hb K1 hqb (by rw [AH.set_getN _ _ (by omega)]; exact hq) ha hl m hm
  have c4 := k1.get p4 (by simpa using l4) n4
  simp only [frC] at c4 g4 e1 ⊢
  simp at c4 n1
  have w1 : IntKind.i64.wrap (k - 22) = k - 22 := wrap_i64 (n := k - 22) (by omega) (by omega)
  rw [at_M Try.func126 65798143 (by decide) 26 (by decide) (by kernel_rfl) [263192575]]
  rcases hk with rfl | rfl
  all_goals
    have z0 : IntKind.i64.wrap 0 = 0 := by decide
    have z1 : IntKind.i64.wrap 1 = 1 := by decide
    simp at e1 c4
    refine ⟨_, _, by simp [Try.f126, tk, t0, t3, t4, e1, z0, z1, c4, g4, stVar, spl]; exact ⟨rfl, rfl⟩, ⟨by simp [t0], by simp [t2], by simp [t3], by simp [t4]⟩, by simp, by simp [n4', g1], by simp [n1], fun b hb h1 h2 => ?_⟩
    simp [h2]; rw [k1.get b (by simpa using hb) h1, AH.set_getN _ _ h2]

end Go.Ev

/- A frame read by the program: kinds of bytes alone. -/
namespace Go.Ev
open Go Go.Proofs
set_option linter.unusedSimpArgs false
set_option linter.unusedVariables false

set_option maxRecDepth 20000 in
theorem frK_7 {Hb h : AH} {q p2 p4 a : Nat} {s : AV} {l : List Int} {c : Int} (hs : Bs Hb s l) (hb : By l) (hK : Kp Hb h) (hqb : Hb.next ≤ q) (hq : h.get q = some (scB s a c)) (hqn : q < h.next) (ha : a ≤ l.length) (hl : l.length ≤ 65536)
    (n4 : p4 ≠ q) (l4 : p4 < h.next) (b4 : Hb.next ≤ p4) (g4 : h.get p4 = some (.cells 72 false (frC 7 0 0 0 false .nilSlice .nilSlice .nilSlice))) (m : Nat) (hm : 22 ≤ m) (τ : Tm) (S : FrU τ q p2 p4 7) :
    ∃ τ' H' r, evAt Try.prog (ev Try.prog m) m 126 1028095 τ h = some (.normal, τ', H') ∧ FrE q p2 p4 s 7 h H' τ' (frC 7 0 0 0 false r .nilSlice .nilSlice) (countedI l a c).2 ∧ Ow h.next H'.next H' r (countedI l a c).1 := by
  obtain ⟨⟨t0, t2, t3, t4⟩, tk⟩ := S
  have n4' : ¬ (q = p4) := fun e => n4 e.symm
  obtain ⟨r1, H1, e1, k1, n1, o1, g1, l1⟩ := counted_ev (c := c) (a := a) hs hb hK hqb hq ha hl m (by omega)
  have hlen : (countedI l a c).1.length ≤ 70368744177664 := by
    have := (takeI_len l (numberI l a c).2.1 (numberI l a c).2.2 (numberI l a c).1).2
    unfold countedI; omega
  obtain ⟨r, H2, e2, k2, o2⟩ := copied_ev o1 (k1.kp hK hqb) hlen m (by omega)
  have n2 := k2.next
  have c4 := (k2.get p4 (by omega)).trans ((k1.get p4 l4 n4).trans g4)
  have cq := (k2.get q (by omega)).trans g1
  have or_ := o2.bs.one
  have orc := cells_one or_
  have o3 := o2.kx ((Kx.refl p4 H2).set (.cells 72 false (frC 7 0 0 0 false r .nilSlice .nilSlice))) (.inl (by omega))
  simp only [frC] at c4 o3 ⊢
  rw [at_M Try.func126 1028095 (by decide) 20 (by decide) (by kernel_rfl) [4112383]]
  refine ⟨_, _, r, by simp [Try.f126, tk, t0, t4, e1, e2, c4, stVar, spl, or_, orc]; first | exact ⟨rfl, rfl⟩ | rfl, ⟨⟨by simp [t0], by simp [t2], by simp [t3], by simp [t4]⟩, by simp, by simp [n4', cq], by simp; omega, fun b hb h1 h2 => ?_⟩, Ow.wide o3 (by omega) (by simp) (by simp)⟩
  simp [h2]; rw [k2.get b (by omega)]; exact k1.get b hb h1
set_option maxRecDepth 20000 in
theorem frK_48 {Hb h : AH} {q p2 p4 a : Nat} {s : AV} {l : List Int} {c : Int} (hs : Bs Hb s l) (hb : By l) (hK : Kp Hb h) (hqb : Hb.next ≤ q) (hq : h.get q = some (scB s a c)) (hqn : q < h.next) (ha : a ≤ l.length) (hl : l.length ≤ 65536)
    (n4 : p4 ≠ q) (l4 : p4 < h.next) (b4 : Hb.next ≤ p4) (g4 : h.get p4 = some (.cells 72 false (frC 48 0 0 0 false .nilSlice .nilSlice .nilSlice))) (m : Nat) (hm : 22 ≤ m) (τ : Tm) (S : FrU τ q p2 p4 48) :
    ∃ τ' H' r, evAt Try.prog (ev Try.prog m) m 126 67377299455 τ h = some (.normal, τ', H') ∧ FrE q p2 p4 s 48 h H' τ' (frC 48 0 0 0 false r .nilSlice .nilSlice) (restI l a c).2 ∧ Ow h.next H'.next H' r (restI l a c).1 := by
  obtain ⟨⟨t0, t2, t3, t4⟩, tk⟩ := S
  have n4' : ¬ (q = p4) := fun e => n4 e.symm
  obtain ⟨r1, H1, e1, k1, n1, o1, g1, l1⟩ := rest_ev (c := c) (a := a) hs hK hqb hq ha hl m (by omega)
  have hlen : (restI l a c).1.length ≤ 70368744177664 := by
    have := (takeI_len l a c ((l.length : Int) - a)).2
    unfold restI; omega
  obtain ⟨r, H2, e2, k2, o2⟩ := copied_ev o1 (k1.kp hK hqb) hlen m (by omega)
  have n2 := k2.next
  have c4 := (k2.get p4 (by omega)).trans ((k1.get p4 l4 n4).trans g4)
  have cq := (k2.get q (by omega)).trans g1
  have or_ := o2.bs.one
  have orc := cells_one or_
  have o3 := o2.kx ((Kx.refl p4 H2).set (.cells 72 false (frC 48 0 0 0 false r .nilSlice .nilSlice))) (.inl (by omega))
  simp only [frC] at c4 o3 ⊢
  rw [at_M Try.func126 67377299455 (by decide) 36 (by decide) (by kernel_rfl) [269509197823]]
  refine ⟨_, _, r, by simp [Try.f126, tk, t0, t4, e1, e2, c4, stVar, spl, or_, orc]; first | exact ⟨rfl, rfl⟩ | rfl, ⟨⟨by simp [t0], by simp [t2], by simp [t3], by simp [t4]⟩, by simp, by simp [n4', cq], by simp; omega, fun b hb h1 h2 => ?_⟩, Ow.wide o3 (by omega) (by simp) (by simp)⟩
  simp [h2]; rw [k2.get b (by omega)]; exact k1.get b hb h1
end Go.Ev
