/- Lemmas of an evaluator of the given code and of what the functions answer; no condition of its own. -/
import Derived.Test.YtnoacfilglgbgaaEv10
/- Congestion: rows that grow in the specification's object. -/
namespace Go.Ev
open Go Go.Proofs
set_option linter.unusedSimpArgs false
set_option linter.unusedVariables false

theorem app_int {X : AH} {v : AV} {l : List Int} {bs : List Nat} {x : Int} (h : tI.R true X [v] l bs) (hnd : bs.Nodup) (hx : InK .i64 x) (hl : l.length ≤ 1000000) :
    ∃ v' X' bs', appA Try.prog 60 60 v (.slice X.next 0 1) (X.push (.cells 3 false [.int .i64 x])) = some (v', X') ∧ tI.R true X' [v'] (l ++ [x]) bs' ∧ bs'.Nodup ∧ (∀ b ∈ bs', b ∈ bs ∨ X.next ≤ b) ∧ KoS bs X X' := by
  obtain ⟨v', X', bs', h1, h2, h3, h4, h5⟩ := Ty.R.app1 (P := Try.prog) (T := 60) h (Ty.R.int (rw := true) (H := X) hx) (by simpa using hnd) (by simp) (by simp) (by simp [Ty.n]) (by_ := 8) (by simp) (z := [.int .i64 0]) (by simp) (by simp [Ty.n]) (by omega) (by omega)
  exact ⟨v', X', bs', h1, h2, h3, fun b hb => by rcases h4 b hb with h | h | h <;> simp_all, h5⟩
def ccB (q : Nat) (bs bt bb : List Nat) : List Nat := q :: (bs ++ (bt ++ bb))
theorem CcS.appT {X : AH} {q : Nat} {k : Int} {S : Cc} {vs vt vb : AV} {bs bt bb : List Nat} (h : CcS X q k S vs vt vb bs bt bb) {x : Int} (hx : InK .i64 x) (hl : S.times.length ≤ 1000000) :
    ∃ v' X' bt', appA Try.prog 60 60 vt (.slice X.next 0 1) (X.push (.cells 3 false [.int .i64 x])) = some (v', X') ∧ v'.one = true ∧ (∀ b, b < X.next → b ∉ bt → X'.get b = X.get b) ∧
      CcS (X'.set q (.cells 141 false (ccC k { S with times := S.times ++ [x] } vs v' vb))) q k { S with times := S.times ++ [x] } vs v' vb bs bt' bb ∧
      KoS (ccB q bs bt bb) X (X'.set q (.cells 141 false (ccC k { S with times := S.times ++ [x] } vs v' vb))) ∧ (∀ b ∈ ccB q bs bt' bb, b ∈ ccB q bs bt bb ∨ X.next ≤ b) := by
  have hnd := h.nd
  have m1 := h.rs.mem
  have m2 := h.rt.mem
  have m3 := h.rb.mem
  have hq := h.lt
  simp only [List.nodup_cons, List.nodup_append, List.mem_append] at hnd
  obtain ⟨v', X', bt', h1, h2, h3, h4, h5⟩ := app_int h.rt (by grind) hx hl
  have hn := h5.next
  refine ⟨v', X', bt', h1, h2.sl_one, fun b hb hn => h5.get b hb hn, ⟨AH.set_getS _ _ _, ?_, ?_, ?_, ?_, by simp; omega⟩, ⟨by simp; omega, fun b hb hb2 => ?_⟩, fun b hb => ?_⟩
  · exact (h.rs.koS h5 (by grind)).stay (by simp) fun b hb => AH.set_getN _ _ (by grind)
  · exact h2.stay (by simp) fun b hb => AH.set_getN _ _ (by grind)
  · exact (h.rb.koS h5 (by grind)).stay (by simp) fun b hb => AH.set_getN _ _ (by grind)
  · simp only [List.nodup_cons, List.nodup_append, List.mem_append]; grind
  · simp only [ccB, List.mem_cons, List.mem_append, not_or] at hb2
    rw [AH.set_getN _ _ hb2.1]; exact h5.get b hb hb2.2.2.1
  · simp only [ccB, List.mem_cons, List.mem_append] at hb ⊢; grind
theorem CcS.appB {X : AH} {q : Nat} {k : Int} {S : Cc} {vs vt vb : AV} {bs bt bb : List Nat} (h : CcS X q k S vs vt vb bs bt bb) {x : Int} (hx : InK .i64 x) (hl : S.bytes.length ≤ 1000000) :
    ∃ v' X' bb', appA Try.prog 60 60 vb (.slice X.next 0 1) (X.push (.cells 3 false [.int .i64 x])) = some (v', X') ∧ v'.one = true ∧ (∀ b, b < X.next → b ∉ bb → X'.get b = X.get b) ∧
      CcS (X'.set q (.cells 141 false (ccC k { S with bytes := S.bytes ++ [x] } vs vt v'))) q k { S with bytes := S.bytes ++ [x] } vs vt v' bs bt bb' ∧
      KoS (ccB q bs bt bb) X (X'.set q (.cells 141 false (ccC k { S with bytes := S.bytes ++ [x] } vs vt v'))) ∧ (∀ b ∈ ccB q bs bt bb', b ∈ ccB q bs bt bb ∨ X.next ≤ b) := by
  have hnd := h.nd
  have m1 := h.rs.mem
  have m2 := h.rt.mem
  have m3 := h.rb.mem
  have hq := h.lt
  simp only [List.nodup_cons, List.nodup_append, List.mem_append] at hnd
  obtain ⟨v', X', bb', h1, h2, h3, h4, h5⟩ := app_int h.rb (by grind) hx hl
  have hn := h5.next
  refine ⟨v', X', bb', h1, h2.sl_one, fun b hb hn => h5.get b hb hn, ⟨AH.set_getS _ _ _, ?_, ?_, ?_, ?_, by simp; omega⟩, ⟨by simp; omega, fun b hb hb2 => ?_⟩, fun b hb => ?_⟩
  · exact (h.rs.koS h5 (by grind)).stay (by simp) fun b hb => AH.set_getN _ _ (by grind)
  · exact (h.rt.koS h5 (by grind)).stay (by simp) fun b hb => AH.set_getN _ _ (by grind)
  · exact h2.stay (by simp) fun b hb => AH.set_getN _ _ (by grind)
  · simp only [List.nodup_cons, List.nodup_append, List.mem_append]; grind
  · simp only [ccB, List.mem_cons, List.mem_append, not_or] at hb2
    rw [AH.set_getN _ _ hb2.1]; exact h5.get b hb hb2.2.2.2
  · simp only [ccB, List.mem_cons, List.mem_append] at hb ⊢; grind
theorem CcS.appS {X : AH} {q : Nat} {k : Int} {S : Cc} {vs vt vb : AV} {bs bt bb : List Nat} (h : CcS X q k S vs vt vb bs bt bb) {x : Int} (hx : InK .i64 x) (hl : S.samples.length ≤ 1000000) :
    ∃ v' X' bs', appA Try.prog 60 60 vs (.slice X.next 0 1) (X.push (.cells 3 false [.int .i64 x])) = some (v', X') ∧ v'.one = true ∧ (∀ b, b < X.next → b ∉ bs → X'.get b = X.get b) ∧
      CcS (X'.set q (.cells 141 false (ccC k { S with samples := S.samples ++ [x] } v' vt vb))) q k { S with samples := S.samples ++ [x] } v' vt vb bs' bt bb ∧
      KoS (ccB q bs bt bb) X (X'.set q (.cells 141 false (ccC k { S with samples := S.samples ++ [x] } v' vt vb))) ∧ (∀ b ∈ ccB q bs' bt bb, b ∈ ccB q bs bt bb ∨ X.next ≤ b) := by
  have hnd := h.nd
  have m1 := h.rs.mem
  have m2 := h.rt.mem
  have m3 := h.rb.mem
  have hq := h.lt
  simp only [List.nodup_cons, List.nodup_append, List.mem_append] at hnd
  obtain ⟨v', X', bs', h1, h2, h3, h4, h5⟩ := app_int h.rs (by grind) hx hl
  have hn := h5.next
  refine ⟨v', X', bs', h1, h2.sl_one, fun b hb hn => h5.get b hb hn, ⟨AH.set_getS _ _ _, ?_, ?_, ?_, ?_, by simp; omega⟩, ⟨by simp; omega, fun b hb hb2 => ?_⟩, fun b hb => ?_⟩
  · exact h2.stay (by simp) fun b hb => AH.set_getN _ _ (by grind)
  · exact (h.rt.koS h5 (by grind)).stay (by simp) fun b hb => AH.set_getN _ _ (by grind)
  · exact (h.rb.koS h5 (by grind)).stay (by simp) fun b hb => AH.set_getN _ _ (by grind)
  · simp only [List.nodup_cons, List.nodup_append, List.mem_append]; grind
  · simp only [ccB, List.mem_cons, List.mem_append, not_or] at hb2
    rw [AH.set_getN _ _ hb2.1]; exact h5.get b hb hb2.2.1
  · simp only [ccB, List.mem_cons, List.mem_append] at hb ⊢; grind

theorem allP_take (s : Int) : ∀ (ts bs : List Int) (a : Int) (i : Nat), ts.length = bs.length → (hi : i < ts.length) → (hb : i < bs.length) →
    allP s (ts.drop i) (bs.drop i) a = allP s (ts.drop (i + 1)) (bs.drop (i + 1)) (if ts[i] > s then a + bs[i] else a) := by
  intro ts bs a i _ hi hb
  rw [List.drop_eq_getElem_cons hi, List.drop_eq_getElem_cons hb]; rfl
end Go.Ev
