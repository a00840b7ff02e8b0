/- Lemmas of an evaluator of the given code and of what the functions answer; no condition of its own. -/
import Derived.Test.YtnoacfilglgbgaaEv12
import Derived.Test.YtnoacfilglgbgaaEv13
import Derived.Test.YtnoacfilglgbgaaEv7
import Derived.WideShapes
/- A frame read by the reference: the way to a kind's place. -/
namespace Go.Ev
open Go Go.Proofs
set_option linter.unusedSimpArgs false
set_option linter.unusedVariables false

structure FsU (τ : Tm) (q p6 p8 : Nat) (k x : Int) : Prop where
  t0 : τ 0 = .ptr q 0
  t1 : τ 1 = .int .i64 k
  t2 : τ 2 = .int .i64 x
  t6 : τ 6 = .ptr p6 0
  t8 : τ 8 = .ptr p8 0
  tk : τ 11 = .int .i64 k
set_option maxRecDepth 20000 in
theorem fsS_58 {q p6 p8 : Nat} {x : Int} (k : Int) (h0 : ¬ (k = 0)) (m : Nat) (τ : Tm) (H : AH) (S : FsU τ q p6 p8 k x) :
    ∃ τ', evAt Try.prog (ev Try.prog m) m 124 58 τ H = evAt Try.prog (ev Try.prog m) m 124 235 τ' H ∧ FsU τ' q p6 p8 k x := by
  obtain ⟨t0, t1, t2, t6, t8, tk⟩ := S
  rw [at_M Try.func124 58 (by decide) 6 (by decide) (by kernel_rfl) [235]]
  exact ⟨_, by simp [Try.f124, tk, beqF, h0]; rfl, by simp [t0], by simp [t1], by simp [t2], by simp [t6], by simp [t8], by simp [tk]⟩
set_option maxRecDepth 20000 in
theorem fsS_235 {q p6 p8 : Nat} {x : Int} (k : Int) (h2 : ¬ (k = 2)) (m : Nat) (τ : Tm) (H : AH) (S : FsU τ q p6 p8 k x) :
    ∃ τ', evAt Try.prog (ev Try.prog m) m 124 235 τ H = evAt Try.prog (ev Try.prog m) m 124 943 τ' H ∧ FsU τ' q p6 p8 k x := by
  obtain ⟨t0, t1, t2, t6, t8, tk⟩ := S
  rw [at_M Try.func124 235 (by decide) 8 (by decide) (by kernel_rfl) [943]]
  exact ⟨_, by simp [Try.f124, tk, beqF, h2]; rfl, by simp [t0], by simp [t1], by simp [t2], by simp [t6], by simp [t8], by simp [tk]⟩
set_option maxRecDepth 20000 in
theorem fsS_943 {q p6 p8 : Nat} {x : Int} (k : Int) (h4 : ¬ (k = 4)) (m : Nat) (τ : Tm) (H : AH) (S : FsU τ q p6 p8 k x) :
    ∃ τ', evAt Try.prog (ev Try.prog m) m 124 943 τ H = evAt Try.prog (ev Try.prog m) m 124 3775 τ' H ∧ FsU τ' q p6 p8 k x := by
  obtain ⟨t0, t1, t2, t6, t8, tk⟩ := S
  rw [at_M Try.func124 943 (by decide) 10 (by decide) (by kernel_rfl) [3775]]
  exact ⟨_, by simp [Try.f124, tk, beqF, h4]; rfl, by simp [t0], by simp [t1], by simp [t2], by simp [t6], by simp [t8], by simp [tk]⟩
set_option maxRecDepth 20000 in
theorem fsS_3775 {q p6 p8 : Nat} {x : Int} (k : Int) (h5 : ¬ (k = 5)) (h17 : ¬ (k = 17)) (h21 : ¬ (k = 21)) (m : Nat) (τ : Tm) (H : AH) (S : FsU τ q p6 p8 k x) :
    ∃ τ', evAt Try.prog (ev Try.prog m) m 124 3775 τ H = evAt Try.prog (ev Try.prog m) m 124 15103 τ' H ∧ FsU τ' q p6 p8 k x := by
  obtain ⟨t0, t1, t2, t6, t8, tk⟩ := S
  rw [at_M Try.func124 3775 (by decide) 12 (by decide) (by kernel_rfl) [15103]]
  exact ⟨_, by simp [Try.f124, tk, beqF, h5, h17, h21]; rfl, by simp [t0], by simp [t1], by simp [t2], by simp [t6], by simp [t8], by simp [tk]⟩
set_option maxRecDepth 20000 in
theorem fsS_15103 {q p6 p8 : Nat} {x : Int} (k : Int) (h18 : ¬ (k = 18)) (h22 : ¬ (k = 22)) (m : Nat) (τ : Tm) (H : AH) (S : FsU τ q p6 p8 k x) :
    ∃ τ', evAt Try.prog (ev Try.prog m) m 124 15103 τ H = evAt Try.prog (ev Try.prog m) m 124 60415 τ' H ∧ FsU τ' q p6 p8 k x := by
  obtain ⟨t0, t1, t2, t6, t8, tk⟩ := S
  rw [at_M Try.func124 15103 (by decide) 14 (by decide) (by kernel_rfl) [60415]]
  exact ⟨_, by simp [Try.f124, tk, beqF, h18, h22]; rfl, by simp [t0], by simp [t1], by simp [t2], by simp [t6], by simp [t8], by simp [tk]⟩
set_option maxRecDepth 20000 in
theorem fsS_60415 {q p6 p8 : Nat} {x : Int} (k : Int) (h16 : ¬ (k = 16)) (h20 : ¬ (k = 20)) (h25 : ¬ (k = 25)) (m : Nat) (τ : Tm) (H : AH) (S : FsU τ q p6 p8 k x) :
    ∃ τ', evAt Try.prog (ev Try.prog m) m 124 60415 τ H = evAt Try.prog (ev Try.prog m) m 124 241663 τ' H ∧ FsU τ' q p6 p8 k x := by
  obtain ⟨t0, t1, t2, t6, t8, tk⟩ := S
  rw [at_M Try.func124 60415 (by decide) 16 (by decide) (by kernel_rfl) [241663]]
  exact ⟨_, by simp [Try.f124, tk, beqF, h16, h20, h25]; rfl, by simp [t0], by simp [t1], by simp [t2], by simp [t6], by simp [t8], by simp [tk]⟩
set_option maxRecDepth 20000 in
theorem fsS_241663 {q p6 p8 : Nat} {x : Int} (k : Int) (h6 : ¬ (k = 6)) (h29 : ¬ (k = 29)) (m : Nat) (τ : Tm) (H : AH) (S : FsU τ q p6 p8 k x) :
    ∃ τ', evAt Try.prog (ev Try.prog m) m 124 241663 τ H = evAt Try.prog (ev Try.prog m) m 124 966655 τ' H ∧ FsU τ' q p6 p8 k x := by
  obtain ⟨t0, t1, t2, t6, t8, tk⟩ := S
  rw [at_M Try.func124 241663 (by decide) 18 (by decide) (by kernel_rfl) [966655]]
  exact ⟨_, by simp [Try.f124, tk, beqF, h6, h29]; rfl, by simp [t0], by simp [t1], by simp [t2], by simp [t6], by simp [t8], by simp [tk]⟩
set_option maxRecDepth 20000 in
theorem fsS_966655 {q p6 p8 : Nat} {x : Int} (k : Int) (h7 : ¬ (k = 7)) (m : Nat) (τ : Tm) (H : AH) (S : FsU τ q p6 p8 k x) :
    ∃ τ', evAt Try.prog (ev Try.prog m) m 124 966655 τ H = evAt Try.prog (ev Try.prog m) m 124 3866623 τ' H ∧ FsU τ' q p6 p8 k x := by
  obtain ⟨t0, t1, t2, t6, t8, tk⟩ := S
  rw [at_M Try.func124 966655 (by decide) 20 (by decide) (by kernel_rfl) [3866623]]
  exact ⟨_, by simp [Try.f124, tk, beqF, h7]; rfl, by simp [t0], by simp [t1], by simp [t2], by simp [t6], by simp [t8], by simp [tk]⟩
set_option maxRecDepth 20000 in
theorem fsS_3866623 {q p6 p8 : Nat} {x : Int} (k : Int) (h8 : ¬ (k = 8)) (m : Nat) (τ : Tm) (H : AH) (S : FsU τ q p6 p8 k x) :
    ∃ τ', evAt Try.prog (ev Try.prog m) m 124 3866623 τ H = evAt Try.prog (ev Try.prog m) m 124 15466495 τ' H ∧ FsU τ' q p6 p8 k x := by
  obtain ⟨t0, t1, t2, t6, t8, tk⟩ := S
  rw [at_M Try.func124 3866623 (by decide) 22 (by decide) (by kernel_rfl) [15466495]]
  exact ⟨_, by simp [Try.f124, tk, beqF, h8]; rfl, by simp [t0], by simp [t1], by simp [t2], by simp [t6], by simp [t8], by simp [tk]⟩
set_option maxRecDepth 20000 in
theorem fsS_15466495 {q p6 p8 : Nat} {x : Int} (k : Int) (h24 : ¬ (k = 24)) (m : Nat) (τ : Tm) (H : AH) (S : FsU τ q p6 p8 k x) :
    ∃ τ', evAt Try.prog (ev Try.prog m) m 124 15466495 τ H = evAt Try.prog (ev Try.prog m) m 124 61865983 τ' H ∧ FsU τ' q p6 p8 k x := by
  obtain ⟨t0, t1, t2, t6, t8, tk⟩ := S
  rw [at_M Try.func124 15466495 (by decide) 24 (by decide) (by kernel_rfl) [61865983]]
  exact ⟨_, by simp [Try.f124, tk, beqF, h24]; rfl, by simp [t0], by simp [t1], by simp [t2], by simp [t6], by simp [t8], by simp [tk]⟩
set_option maxRecDepth 20000 in
theorem fsS_61865983 {q p6 p8 : Nat} {x : Int} (k : Int) (h26 : ¬ (k = 26)) (h27 : ¬ (k = 27)) (m : Nat) (τ : Tm) (H : AH) (S : FsU τ q p6 p8 k x) :
    ∃ τ', evAt Try.prog (ev Try.prog m) m 124 61865983 τ H = evAt Try.prog (ev Try.prog m) m 124 247463935 τ' H ∧ FsU τ' q p6 p8 k x := by
  obtain ⟨t0, t1, t2, t6, t8, tk⟩ := S
  rw [at_M Try.func124 61865983 (by decide) 26 (by decide) (by kernel_rfl) [247463935]]
  exact ⟨_, by simp [Try.f124, tk, beqF, h26, h27]; rfl, by simp [t0], by simp [t1], by simp [t2], by simp [t6], by simp [t8], by simp [tk]⟩
set_option maxRecDepth 20000 in
theorem fsS_247463935 {q p6 p8 : Nat} {x : Int} (k : Int) (h28 : ¬ (k = 28)) (m : Nat) (τ : Tm) (H : AH) (S : FsU τ q p6 p8 k x) :
    ∃ τ', evAt Try.prog (ev Try.prog m) m 124 247463935 τ H = evAt Try.prog (ev Try.prog m) m 124 989855743 τ' H ∧ FsU τ' q p6 p8 k x := by
  obtain ⟨t0, t1, t2, t6, t8, tk⟩ := S
  rw [at_M Try.func124 247463935 (by decide) 28 (by decide) (by kernel_rfl) [989855743]]
  exact ⟨_, by simp [Try.f124, tk, beqF, h28]; rfl, by simp [t0], by simp [t1], by simp [t2], by simp [t6], by simp [t8], by simp [tk]⟩
set_option maxRecDepth 20000 in
/-- the head -/
theorem fs0 (q : Nat) (k x : Int) (H : AH) (m : Nat) : ∃ τ' H', ev Try.prog (m + 1) 124 [.ptr q 0, .int .i64 k, .int .i64 x] H = resM Try.prog [.cell 6 72, .tmp 7] (bindM Try.prog (ev Try.prog m) m 124 [58, 15] 15 (sub (Try.f124.body.getD .skip) 200 15) (unblk 0 (evAt Try.prog (ev Try.prog m) m 124 58 τ' H'))) ∧ FsU τ' q H.next (H.next + 1) k x ∧
    H'.get H.next = some (.cells 72 false (frC 0 0 0 0 false .nilSlice .nilSlice .nilSlice)) ∧ H'.get (H.next + 1) = some (.cells 72 false (frC k 0 0 0 false .nilSlice .nilSlice .nilSlice)) ∧ Kp H H' ∧ H'.next = H.next + 2 := by
  rw [ev_M Try.func124 ok124 [58, 15] m _ H (by simp [Try.f124])]
  refine ⟨_, _, by simp [Try.f124, tm0, fillA, stVar, spl]; rfl, ?_⟩
  have n0 : ¬ (H.next = H.next + 1) := by omega
  refine ⟨⟨by simp [tm0], by simp [tm0], by simp [tm0], by simp, by simp, by simp⟩, by simp [frC, n0], by simp [frC], ⟨by simp <;> omega, fun b hb => ?_⟩, by simp⟩
  have n1 : ¬ (b = H.next) := by omega
  have n2 : ¬ (b = H.next + 1) := by omega
  simp [n1, n2]
end Go.Ev

/- A frame's fields read by the reference: each kind. -/
namespace Go.Ev
open Go Go.Proofs
set_option linter.unusedSimpArgs false
set_option linter.unusedVariables false

/-- the reader and the frame on the way -/
structure FsG (Hb h0 h : AH) (q p8 : Nat) (s : AV) (l : List Int) (fr : List AV) (a : Nat) (sh : Bool) : Prop where
  hs : Bs Hb s l
  hb : By l
  hl : l.length ≤ 65536
  hK : Kp Hb h
  hqb : Hb.next ≤ q
  hpb : Hb.next ≤ p8
  qn : q < h0.next
  pn : p8 < h0.next
  ne : p8 ≠ q
  gq : h.get q = some (rdB s a sh)
  g8 : h.get p8 = some (.cells 72 false fr)
  le : a ≤ l.length
  nx : h0.next ≤ h.next
  rest : ∀ b, b < h0.next → b ≠ q → b ≠ p8 → h.get b = h0.get b
theorem FsG.next {Hb h0 h H1 : AH} {q p8 : Nat} {s : AV} {l : List Int} {fr : List AV} {a a' : Nat} {sh sh' : Bool} (G : FsG Hb h0 h q p8 s l fr a sh) (k : Kx q h H1) (g : H1.get q = some (rdB s a' sh')) (le : a' ≤ l.length) :
    H1.get p8 = some (.cells 72 false fr) ∧ ∀ fr', FsG Hb h0 (H1.set p8 (.cells 72 false fr')) q p8 s l fr' a' sh' := by
  have hp := G.pn; have hn := G.nx; have hne := G.ne; have kn := k.next
  refine ⟨(k.get p8 (by omega) hne).trans G.g8, fun fr' => ⟨G.hs, G.hb, G.hl, (k.kp G.hK G.hqb).set G.hpb _, G.hqb, G.hpb, G.qn, G.pn, G.ne, by rw [AH.set_getN _ _ (fun e => hne e.symm)]; exact g, by simp, le, by simp; omega, fun b hb h1 h2 => ?_⟩⟩
  rw [AH.set_getN _ _ h2, k.get b (by omega) h1]; exact G.rest b hb h1 h2
theorem FsG.mid {Hb h0 h H1 : AH} {q p8 : Nat} {s : AV} {l : List Int} {fr : List AV} {a a' : Nat} {sh sh' : Bool} (G : FsG Hb h0 h q p8 s l fr a sh) (k : Kx q h H1) (g : H1.get q = some (rdB s a' sh')) (le : a' ≤ l.length) : FsG Hb h0 H1 q p8 s l fr a' sh' := by
  have hp := G.pn; have hn := G.nx; have hne := G.ne; have kn := k.next
  refine ⟨G.hs, G.hb, G.hl, k.kp G.hK G.hqb, G.hqb, G.hpb, G.qn, G.pn, G.ne, g, (k.get p8 (by omega) hne).trans G.g8, le, by omega, fun b hb h1 h2 => ?_⟩
  rw [k.get b (by omega) h1]; exact G.rest b hb h1 h2
theorem FsG.var {Hb h0 h : AH} {q p8 : Nat} {s : AV} {l : List Int} {fr : List AV} {a : Nat} {sh : Bool} (G : FsG Hb h0 h q p8 s l fr a sh) (m : Nat) (hm : 21 ≤ m) :
    ∃ H1, ev Try.prog m 216 [.ptr q 0] h = some (.int .i64 (varS l a sh).1, H1) ∧ H1.get p8 = some (.cells 72 false fr) ∧ ∀ fr', FsG Hb h0 (H1.set p8 (.cells 72 false fr')) q p8 s l fr' (varS l a sh).2.1 (varS l a sh).2.2 := by
  obtain ⟨H1, e1, k1, n1, g1, l1⟩ := var_ev G.hs G.hb G.hK G.hqb (by have := G.qn; have := G.nx; omega) G.gq G.le G.hl m hm
  obtain ⟨c, g⟩ := G.next k1 g1 l1
  exact ⟨H1, e1, c, g⟩
theorem Ow.setp {lo hi p : Nat} {H : AH} {r : AV} {D : List Int} (h : Ow lo hi H r D) (x : Blk) (hp : p < lo) : Ow lo hi (H.set p x) r D := h.kx ((Kx.refl p H).set x) (.inl hp)
theorem FsG.data {Hb h0 h H1 : AH} {q p8 : Nat} {s : AV} {l : List Int} {fr : List AV} {a a' : Nat} {sh sh' : Bool} {r : AV} {D : List Int} (G : FsG Hb h0 h q p8 s l fr a sh) (k : Kx q h H1) (o : Ow h.next H1.next H1 r D) (g : H1.get q = some (rdB s a' sh')) (le : a' ≤ l.length) :
    H1.get p8 = some (.cells 72 false fr) ∧ (∀ fr', FsG Hb h0 (H1.set p8 (.cells 72 false fr')) q p8 s l fr' a' sh') ∧ (∀ fr', Ow h.next H1.next (H1.set p8 (.cells 72 false fr')) r D) ∧ r.one = true ∧ r.cells = [r] ∧ h.next ≤ H1.next := by
  obtain ⟨c, g'⟩ := G.next k g le
  exact ⟨c, g', fun fr' => o.setp _ (by have := G.pn; have := G.nx; omega), o.bs.one, cells_one o.bs.one, k.next⟩
theorem FsG.cnt {Hb h0 h : AH} {q p8 : Nat} {s : AV} {l : List Int} {fr : List AV} {a : Nat} {sh : Bool} (G : FsG Hb h0 h q p8 s l fr a sh) (m : Nat) (hm : 22 ≤ m) :
    ∃ r H1, ev Try.prog m 158 [.ptr q 0] h = some (r, H1) ∧ H1.get p8 = some (.cells 72 false fr) ∧ (∀ fr', FsG Hb h0 (H1.set p8 (.cells 72 false fr')) q p8 s l fr' (countedS l a sh).2.1 (countedS l a sh).2.2) ∧ (∀ fr', Ow h.next H1.next (H1.set p8 (.cells 72 false fr')) r (countedS l a sh).1) ∧ r.one = true ∧ r.cells = [r] ∧ h.next ≤ H1.next := by
  obtain ⟨r, H1, e1, k1, o1, g1, l1⟩ := countedS_ev G.hs G.hb G.hK G.hqb (by have := G.qn; have := G.nx; omega) G.gq G.le G.hl m hm
  exact ⟨r, H1, e1, G.data k1 o1 g1 l1⟩
theorem FsG.take {Hb h0 h : AH} {q p8 : Nat} {s : AV} {l : List Int} {fr : List AV} {a : Nat} {sh : Bool} (G : FsG Hb h0 h q p8 s l fr a sh) (n : Int) (hn : 0 ≤ n ∧ n ≤ 1000) (m : Nat) (hm : 22 ≤ m) :
    ∃ r H1, ev Try.prog m 157 [.ptr q 0, .int .i64 n] h = some (r, H1) ∧ H1.get p8 = some (.cells 72 false fr) ∧ (∀ fr', FsG Hb h0 (H1.set p8 (.cells 72 false fr')) q p8 s l fr' (takeS l a sh n).2.1 (takeS l a sh n).2.2) ∧ (∀ fr', Ow h.next H1.next (H1.set p8 (.cells 72 false fr')) r (takeS l a sh n).1) ∧ r.one = true ∧ r.cells = [r] ∧ h.next ≤ H1.next := by
  obtain ⟨r, H1, e1, k1, o1, g1, l1⟩ := takeR_ev G.hs G.hK G.hqb (by have := G.qn; have := G.nx; omega) G.gq G.le G.hl n hn.1 (by omega) m (by omega)
  exact ⟨r, H1, e1, G.data k1 o1 g1 l1⟩
theorem FsG.cnt49 {Hb h0 h : AH} {q p8 : Nat} {s : AV} {l : List Int} {fr : List AV} {a : Nat} {sh : Bool} (G : FsG Hb h0 h q p8 s l fr a sh) (x : Int) (m : Nat) (hm : 23 ≤ m) :
    ∃ r H1, ev Try.prog m 218 [.ptr q 0, .int .i64 x] h = some (r, H1) ∧ H1.get p8 = some (.cells 72 false fr) ∧ (∀ fr', FsG Hb h0 (H1.set p8 (.cells 72 false fr')) q p8 s l fr' (if x = 49 then countedS l a sh else restS l a sh).2.1 (if x = 49 then countedS l a sh else restS l a sh).2.2) ∧
      (∀ fr', Ow h.next H1.next (H1.set p8 (.cells 72 false fr')) r (if x = 49 then countedS l a sh else restS l a sh).1) ∧ r.one = true ∧ r.cells = [r] ∧ h.next ≤ H1.next := by
  obtain ⟨r, H1, e1, k1, o1, g1, l1⟩ := counted49_ev G.hs G.hb G.hK G.hqb (by have := G.qn; have := G.nx; omega) G.gq G.le G.hl x m hm
  exact ⟨r, H1, e1, G.data k1 o1 g1 l1⟩
theorem FsG.fix1 {Hb h0 h : AH} {q p8 : Nat} {s : AV} {l : List Int} {fr : List AV} {a : Nat} {sh : Bool} (G : FsG Hb h0 h q p8 s l fr a sh) (m : Nat) (hm : 22 ≤ m) :
    ∃ H1, ev Try.prog m 122 [.ptr q 0, .int .i64 1] h = some (.int .i64 (valP (takeS l a sh 1).1), H1) ∧ FsG Hb h0 H1 q p8 s l fr (takeS l a sh 1).2.1 (takeS l a sh 1).2.2 ∧ h.next ≤ H1.next := by
  obtain ⟨H1, e1, k1, g1, l1⟩ := fixed_ev G.hs G.hb G.hK G.hqb (by have := G.qn; have := G.nx; omega) G.gq G.le G.hl 1 (by omega) (by omega) m (by omega)
  exact ⟨H1, e1, G.mid k1 g1 l1, k1.next⟩
/-- the outcome of a kind's place -/
structure FsO (l : List Int) (a : Nat) (x : Int) (q p6 p8 : Nat) (s : AV) (h H' : AH) (τ' : Tm) (e : Ex) (fr : List AV) (d : tT72.D) (bs : List Nat) (good : Bool) (a' : Nat) (sh' : Bool) : Prop where
  R : tT72.R true H' fr d bs
  nd : bs.Nodup
  lo : ∀ b ∈ bs, h.next ≤ b
  hf : (fldP l a x).K = d.1 ∧ (fldP l a x).A = d.2.1 ∧ (fldP l a x).B = d.2.2.1 ∧ (fldP l a x).C = d.2.2.2.1 ∧ (fldP l a x).f = d.2.2.2.2.1 ∧ (fldP l a x).D = d.2.2.2.2.2.1 ∧ (fldP l a x).T = d.2.2.2.2.2.2.1 ∧ (fldP l a x).rs = d.2.2.2.2.2.2.2 ∧ (fldP l a x).good = good ∧ (fldP l a x).a = a' ∧ (fldP l a x).sh = sh'
  lD : d.2.2.2.2.2.1.length ≤ 65536
  lT : d.2.2.2.2.2.2.1.length ≤ 65536
  lr : d.2.2.2.2.2.2.2.length ≤ 65
  gq : H'.get q = some (rdB s a' sh')
  le : a' ≤ l.length
  nx : h.next ≤ H'.next
  rest : ∀ b, b < h.next → b ≠ q → b ≠ p6 → b ≠ p8 → H'.get b = h.get b
  t6 : τ' 6 = .ptr p6 0
  out : (e = .normal ∧ good = true ∧ τ' 8 = .ptr p8 0 ∧ H'.get p8 = some (.cells 72 false fr) ∧ H'.get p6 = h.get p6) ∨ (e = .ret ∧ τ' 7 = .bool good ∧ H'.get p6 = some (.cells 72 false fr))
theorem mkS {Hb h H' : AH} {l : List Int} {a : Nat} {x : Int} {q p6 p8 : Nat} {s : AV} {τ' : Tm} {K A B C : Int} {f : Bool} {r t : AV} {D T : List Int} {a' : Nat} {sh' : Bool} {mid : Nat} (G : FsG Hb h H' q p8 s l (frC K A B C f r t .nilSlice) a' sh')
    (p6q : p6 ≠ q) (p68 : p6 ≠ p8) (l6 : p6 < h.next) (o1 : Ow h.next mid H' r D) (o2 : Ow mid H'.next H' t T) (bD : By D) (bT : By T) (hf : fldP l a x = ⟨K, A, B, C, f, D, T, [], true, a', sh'⟩) (lD : D.length ≤ 65536) (lT : T.length ≤ 65536)
    (iK : InK .i64 K) (iA : InK .i64 A) (iB : InK .i64 B) (iC : InK .i64 C) (hm : h.next ≤ mid) (t6 : τ' 6 = .ptr p6 0) (t8 : τ' 8 = .ptr p8 0) :
    ∃ fr d bs good a' sh', FsO l a x q p6 p8 s h H' τ' .normal fr d bs good a' sh' := by
  obtain ⟨b1, r1, d1, x1⟩ := ow_tB o1 bD
  obtain ⟨b2, r2, d2, x2⟩ := ow_tB o2 bT
  refine ⟨_, (K, A, B, C, f, D, T, []), _, true, a', sh', i72 r1 r2 nil94 iK iA iB iC, ?_, ?_, by rw [hf]; simp, lD, lT, by simp, G.gq, G.le, G.nx, fun b h0 h1 h2 h3 => G.rest b h0 h1 h3, t6, .inl ⟨rfl, rfl, t8, G.g8, G.rest p6 l6 p6q p68⟩⟩
  · simp only [List.append_nil]
    rw [List.nodup_append]
    exact ⟨d1, d2, fun x hx y hy e => by have := x1 x hx; have := x2 y hy; omega⟩
  · intro b hb
    simp only [List.append_nil, List.mem_append] at hb
    rcases hb with hb | hb
    · exact (x1 b hb).1
    · exact Nat.le_trans hm (x2 b hb).1

set_option maxRecDepth 20000 in
theorem fsK_A {Hb h : AH} {q p6 p8 a : Nat} {s : AV} {l : List Int} (k x : Int) (hk : (k = 16 ∨ k = 20 ∨ k = 25) ∧ x = k) (G : FsG Hb h h q p8 s l (frC k 0 0 0 false .nilSlice .nilSlice .nilSlice) a false) (p6q : p6 ≠ q) (p68 : p6 ≠ p8) (l6 : p6 < h.next) (m : Nat) (hm : 1500 ≤ m) (τ : Tm) (S : FsU τ q p6 p8 k x) :
    ∃ e τ' H', evAt Try.prog (ev Try.prog m) m 124 60415 τ h = some (e, τ', H') ∧ ∃ fr d bs good a' sh', FsO l a x q p6 p8 s h H' τ' e fr d bs good a' sh' := by
  obtain ⟨t0, t1, t2, t6, t8, tk⟩ := S
  have hb := G.hb
  have hl := G.hl
  obtain ⟨hk, hx⟩ := hk
  subst hx
  obtain ⟨H1, e1, c1, N1⟩ := G.var m (by omega)
  have G1 := N1 (frC x (varS l a false).1 0 0 false .nilSlice .nilSlice .nilSlice)
  simp only [frC] at e1 c1
  rcases hk with rfl | rfl | rfl
  all_goals
    rw [at_M Try.func124 60415 (by decide) 16 (by decide) (by kernel_rfl) [241663]]
    exact ⟨_, _, _, by simp [Try.f124, tk, t0, t1, t2, t8, e1, c1, stVar, spl]; first | exact ⟨rfl, rfl⟩ | exact ⟨rfl, rfl, rfl⟩ | rfl, mkS G1 p6q p68 l6 (Ow.nil _ _ _) (Ow.nil _ _ _) By.nil By.nil (by simp [fldP]) (by simp) (by simp) (i64n _ (by omega) (by omega)) (i64v hb _ _) (i64n _ (by omega) (by omega)) (i64n _ (by omega) (by omega)) G1.nx (by simp [t6]) (by simp [t8])⟩

set_option maxRecDepth 20000 in
theorem fsK_AB {Hb h : AH} {q p6 p8 a : Nat} {s : AV} {l : List Int} (k x : Int) (hk : (k = 5 ∨ k = 17 ∨ k = 21) ∧ x = k) (G : FsG Hb h h q p8 s l (frC k 0 0 0 false .nilSlice .nilSlice .nilSlice) a false) (p6q : p6 ≠ q) (p68 : p6 ≠ p8) (l6 : p6 < h.next) (m : Nat) (hm : 1500 ≤ m) (τ : Tm) (S : FsU τ q p6 p8 k x) :
    ∃ e τ' H', evAt Try.prog (ev Try.prog m) m 124 3775 τ h = some (e, τ', H') ∧ ∃ fr d bs good a' sh', FsO l a x q p6 p8 s h H' τ' e fr d bs good a' sh' := by
  obtain ⟨t0, t1, t2, t6, t8, tk⟩ := S
  have hb := G.hb
  have hl := G.hl
  obtain ⟨hk, hx⟩ := hk
  subst hx
  obtain ⟨H1, e1, c1, N1⟩ := G.var m (by omega)
  have G1 := N1 (frC x (varS l a false).1 0 0 false .nilSlice .nilSlice .nilSlice)
  obtain ⟨H2, e2, c2, N2⟩ := G1.var m (by omega)
  have G2 := N2 (frC x (varS l a false).1 (varS l (varS l a false).2.1 (varS l a false).2.2).1 0 false .nilSlice .nilSlice .nilSlice)
  simp only [frC] at e1 c1 e2 c2
  rcases hk with rfl | rfl | rfl
  all_goals
    rw [at_M Try.func124 3775 (by decide) 12 (by decide) (by kernel_rfl) [15103]]
    exact ⟨_, _, _, by simp [Try.f124, tk, t0, t1, t2, t8, e1, c1, e2, c2, stVar, spl]; first | exact ⟨rfl, rfl⟩ | exact ⟨rfl, rfl, rfl⟩ | rfl, mkS G2 p6q p68 l6 (Ow.nil _ _ _) (Ow.nil _ _ _) By.nil By.nil (by simp [fldP]) (by simp) (by simp) (i64n _ (by omega) (by omega)) (i64v hb _ _) (i64v hb _ _) (i64n _ (by omega) (by omega)) G2.nx (by simp [t6]) (by simp [t8])⟩

set_option maxRecDepth 20000 in
theorem fsK_ABC {Hb h : AH} {q p6 p8 a : Nat} {s : AV} {l : List Int} (k x : Int) (hk : (k = 4) ∧ x = k) (G : FsG Hb h h q p8 s l (frC k 0 0 0 false .nilSlice .nilSlice .nilSlice) a false) (p6q : p6 ≠ q) (p68 : p6 ≠ p8) (l6 : p6 < h.next) (m : Nat) (hm : 1500 ≤ m) (τ : Tm) (S : FsU τ q p6 p8 k x) :
    ∃ e τ' H', evAt Try.prog (ev Try.prog m) m 124 943 τ h = some (e, τ', H') ∧ ∃ fr d bs good a' sh', FsO l a x q p6 p8 s h H' τ' e fr d bs good a' sh' := by
  obtain ⟨t0, t1, t2, t6, t8, tk⟩ := S
  have hb := G.hb
  have hl := G.hl
  obtain ⟨hk, hx⟩ := hk
  subst hx
  obtain ⟨H1, e1, c1, N1⟩ := G.var m (by omega)
  have G1 := N1 (frC x (varS l a false).1 0 0 false .nilSlice .nilSlice .nilSlice)
  obtain ⟨H2, e2, c2, N2⟩ := G1.var m (by omega)
  have G2 := N2 (frC x (varS l a false).1 (varS l (varS l a false).2.1 (varS l a false).2.2).1 0 false .nilSlice .nilSlice .nilSlice)
  obtain ⟨H3, e3, c3, N3⟩ := G2.var m (by omega)
  have G3 := N3 (frC x (varS l a false).1 (varS l (varS l a false).2.1 (varS l a false).2.2).1 (varS l (varS l (varS l a false).2.1 (varS l a false).2.2).2.1 (varS l (varS l a false).2.1 (varS l a false).2.2).2.2).1 false .nilSlice .nilSlice .nilSlice)
  simp only [frC] at e1 c1 e2 c2 e3 c3
  subst hk
  rw [at_M Try.func124 943 (by decide) 10 (by decide) (by kernel_rfl) [3775]]
  exact ⟨_, _, _, by simp [Try.f124, tk, t0, t1, t2, t8, e1, c1, e2, c2, e3, c3, stVar, spl]; first | exact ⟨rfl, rfl⟩ | exact ⟨rfl, rfl, rfl⟩ | rfl, mkS G3 p6q p68 l6 (Ow.nil _ _ _) (Ow.nil _ _ _) By.nil By.nil (by simp [fldP]) (by simp) (by simp) (i64n _ (by omega) (by omega)) (i64v hb _ _) (i64v hb _ _) (i64v hb _ _) G3.nx (by simp [t6]) (by simp [t8])⟩

set_option maxRecDepth 20000 in
theorem fsK_6 {Hb h : AH} {q p6 p8 a : Nat} {s : AV} {l : List Int} (k x : Int) (hk : (k = 6 ∨ k = 29) ∧ x = k) (G : FsG Hb h h q p8 s l (frC k 0 0 0 false .nilSlice .nilSlice .nilSlice) a false) (p6q : p6 ≠ q) (p68 : p6 ≠ p8) (l6 : p6 < h.next) (m : Nat) (hm : 1500 ≤ m) (τ : Tm) (S : FsU τ q p6 p8 k x) :
    ∃ e τ' H', evAt Try.prog (ev Try.prog m) m 124 241663 τ h = some (e, τ', H') ∧ ∃ fr d bs good a' sh', FsO l a x q p6 p8 s h H' τ' e fr d bs good a' sh' := by
  obtain ⟨t0, t1, t2, t6, t8, tk⟩ := S
  have hb := G.hb
  have hl := G.hl
  obtain ⟨hk, hx⟩ := hk
  subst hx
  obtain ⟨H1, e1, c1, N1⟩ := G.var m (by omega)
  have G1 := N1 (frC x (varS l a false).1 0 0 false .nilSlice .nilSlice .nilSlice)
  obtain ⟨r2, H2, e2, c2, N2, O2, or2, oc2, on2⟩ := G1.cnt m (by omega)
  have G2 := N2 (frC x (varS l a false).1 0 0 false r2 .nilSlice .nilSlice)
  have P2 := O2 (frC x (varS l a false).1 0 0 false r2 .nilSlice .nilSlice)
  simp only [frC] at e1 c1 e2 c2
  rcases hk with rfl | rfl
  all_goals
    rw [at_M Try.func124 241663 (by decide) 18 (by decide) (by kernel_rfl) [966655]]
    exact ⟨_, _, _, by simp [Try.f124, tk, t0, t1, t2, t8, e1, c1, e2, c2, or2, oc2, stVar, spl]; first | exact ⟨rfl, rfl⟩ | exact ⟨rfl, rfl, rfl⟩ | rfl, mkS G2 p6q p68 l6 (Ow.wide P2 (by have := G1.nx; simp at * <;> omega) (Nat.le_refl _) (by simp)) (Ow.nil _ _ _) (takeS_by hb _ _ _) By.nil (by simp [fldP]) (Nat.le_trans (takeS_in l _ _ _) hl) (by simp) (i64n _ (by omega) (by omega)) (i64v hb _ _) (i64n _ (by omega) (by omega)) (i64n _ (by omega) (by omega)) G2.nx (by simp [t6]) (by simp [t8])⟩

set_option maxRecDepth 20000 in
theorem fsK_7 {Hb h : AH} {q p6 p8 a : Nat} {s : AV} {l : List Int} (k x : Int) (hk : (k = 7) ∧ x = k) (G : FsG Hb h h q p8 s l (frC k 0 0 0 false .nilSlice .nilSlice .nilSlice) a false) (p6q : p6 ≠ q) (p68 : p6 ≠ p8) (l6 : p6 < h.next) (m : Nat) (hm : 1500 ≤ m) (τ : Tm) (S : FsU τ q p6 p8 k x) :
    ∃ e τ' H', evAt Try.prog (ev Try.prog m) m 124 966655 τ h = some (e, τ', H') ∧ ∃ fr d bs good a' sh', FsO l a x q p6 p8 s h H' τ' e fr d bs good a' sh' := by
  obtain ⟨t0, t1, t2, t6, t8, tk⟩ := S
  have hb := G.hb
  have hl := G.hl
  obtain ⟨hk, hx⟩ := hk
  subst hx
  obtain ⟨r1, H1, e1, c1, N1, O1, or1, oc1, on1⟩ := G.cnt m (by omega)
  have G1 := N1 (frC x 0 0 0 false r1 .nilSlice .nilSlice)
  have P1 := O1 (frC x 0 0 0 false r1 .nilSlice .nilSlice)
  simp only [frC] at e1 c1
  subst hk
  rw [at_M Try.func124 966655 (by decide) 20 (by decide) (by kernel_rfl) [3866623]]
  exact ⟨_, _, _, by simp [Try.f124, tk, t0, t1, t2, t8, e1, c1, or1, oc1, stVar, spl]; first | exact ⟨rfl, rfl⟩ | exact ⟨rfl, rfl, rfl⟩ | rfl, mkS G1 p6q p68 l6 (Ow.wide P1 (by have := G.nx; simp at * <;> omega) (Nat.le_refl _) (by simp)) (Ow.nil _ _ _) (takeS_by hb _ _ _) By.nil (by simp [fldP]) (Nat.le_trans (takeS_in l _ _ _) hl) (by simp) (i64n _ (by omega) (by omega)) (i64n _ (by omega) (by omega)) (i64n _ (by omega) (by omega)) (i64n _ (by omega) (by omega)) G1.nx (by simp [t6]) (by simp [t8])⟩

set_option maxRecDepth 20000 in
theorem fsK_26 {Hb h : AH} {q p6 p8 a : Nat} {s : AV} {l : List Int} (k x : Int) (hk : (k = 26 ∨ k = 27) ∧ x = k) (G : FsG Hb h h q p8 s l (frC k 0 0 0 false .nilSlice .nilSlice .nilSlice) a false) (p6q : p6 ≠ q) (p68 : p6 ≠ p8) (l6 : p6 < h.next) (m : Nat) (hm : 1500 ≤ m) (τ : Tm) (S : FsU τ q p6 p8 k x) :
    ∃ e τ' H', evAt Try.prog (ev Try.prog m) m 124 61865983 τ h = some (e, τ', H') ∧ ∃ fr d bs good a' sh', FsO l a x q p6 p8 s h H' τ' e fr d bs good a' sh' := by
  obtain ⟨t0, t1, t2, t6, t8, tk⟩ := S
  have hb := G.hb
  have hl := G.hl
  obtain ⟨hk, hx⟩ := hk
  subst hx
  obtain ⟨r1, H1, e1, c1, N1, O1, or1, oc1, on1⟩ := G.take 8 (by omega) m (by omega)
  have G1 := N1 (frC x 0 0 0 false r1 .nilSlice .nilSlice)
  have P1 := O1 (frC x 0 0 0 false r1 .nilSlice .nilSlice)
  simp only [frC] at e1 c1
  rcases hk with rfl | rfl
  all_goals
    rw [at_M Try.func124 61865983 (by decide) 26 (by decide) (by kernel_rfl) [247463935]]
    exact ⟨_, _, _, by simp [Try.f124, tk, t0, t1, t2, t8, e1, c1, or1, oc1, stVar, spl]; first | exact ⟨rfl, rfl⟩ | exact ⟨rfl, rfl, rfl⟩ | rfl, mkS G1 p6q p68 l6 (Ow.wide P1 (by have := G.nx; simp at * <;> omega) (Nat.le_refl _) (by simp)) (Ow.nil _ _ _) (takeS_by hb _ _ _) By.nil (by simp [fldP]) (Nat.le_trans (takeS_in l _ _ _) hl) (by simp) (i64n _ (by omega) (by omega)) (i64n _ (by omega) (by omega)) (i64n _ (by omega) (by omega)) (i64n _ (by omega) (by omega)) G1.nx (by simp [t6]) (by simp [t8])⟩

set_option maxRecDepth 20000 in
theorem fsK_28 {Hb h : AH} {q p6 p8 a : Nat} {s : AV} {l : List Int} (k x : Int) (hk : (k = 28) ∧ x = k) (G : FsG Hb h h q p8 s l (frC k 0 0 0 false .nilSlice .nilSlice .nilSlice) a false) (p6q : p6 ≠ q) (p68 : p6 ≠ p8) (l6 : p6 < h.next) (m : Nat) (hm : 1500 ≤ m) (τ : Tm) (S : FsU τ q p6 p8 k x) :
    ∃ e τ' H', evAt Try.prog (ev Try.prog m) m 124 247463935 τ h = some (e, τ', H') ∧ ∃ fr d bs good a' sh', FsO l a x q p6 p8 s h H' τ' e fr d bs good a' sh' := by
  obtain ⟨t0, t1, t2, t6, t8, tk⟩ := S
  have hb := G.hb
  have hl := G.hl
  obtain ⟨hk, hx⟩ := hk
  subst hx
  obtain ⟨H1, e1, c1, N1⟩ := G.var m (by omega)
  have G1 := N1 (frC x (varS l a false).1 0 0 false .nilSlice .nilSlice .nilSlice)
  obtain ⟨H2, e2, c2, N2⟩ := G1.var m (by omega)
  have G2 := N2 (frC x (varS l a false).1 (varS l (varS l a false).2.1 (varS l a false).2.2).1 0 false .nilSlice .nilSlice .nilSlice)
  obtain ⟨r3, H3, e3, c3, N3, O3, or3, oc3, on3⟩ := G2.cnt m (by omega)
  have G3 := N3 (frC x (varS l a false).1 (varS l (varS l a false).2.1 (varS l a false).2.2).1 0 false r3 .nilSlice .nilSlice)
  have P3 := O3 (frC x (varS l a false).1 (varS l (varS l a false).2.1 (varS l a false).2.2).1 0 false r3 .nilSlice .nilSlice)
  simp only [frC] at e1 c1 e2 c2 e3 c3
  subst hk
  rw [at_M Try.func124 247463935 (by decide) 28 (by decide) (by kernel_rfl) [989855743]]
  exact ⟨_, _, _, by simp [Try.f124, tk, t0, t1, t2, t8, e1, c1, e2, c2, e3, c3, or3, oc3, stVar, spl]; first | exact ⟨rfl, rfl⟩ | exact ⟨rfl, rfl, rfl⟩ | rfl, mkS G3 p6q p68 l6 (Ow.wide P3 (by have := G2.nx; simp at * <;> omega) (Nat.le_refl _) (by simp)) (Ow.nil _ _ _) (takeS_by hb _ _ _) By.nil (by simp [fldP]) (Nat.le_trans (takeS_in l _ _ _) hl) (by simp) (i64n _ (by omega) (by omega)) (i64v hb _ _) (i64v hb _ _) (i64n _ (by omega) (by omega)) G3.nx (by simp [t6]) (by simp [t8])⟩

theorem FsG.setf {Hb h0 h : AH} {q p8 : Nat} {s : AV} {l : List Int} {fr : List AV} {a : Nat} {sh : Bool} (G : FsG Hb h0 h q p8 s l fr a sh) (fr' : List AV) : FsG Hb h0 (h.set p8 (.cells 72 false fr')) q p8 s l fr' a sh :=
  (G.next (Kx.refl q h) G.gq G.le).2 fr'

set_option maxRecDepth 20000 in
theorem fsK_18 {Hb h : AH} {q p6 p8 a : Nat} {s : AV} {l : List Int} (k x : Int) (hk : k = 18 ∧ (x = 18 ∨ x = 19)) (G : FsG Hb h h q p8 s l (frC k 0 0 0 false .nilSlice .nilSlice .nilSlice) a false) (p6q : p6 ≠ q) (p68 : p6 ≠ p8) (l6 : p6 < h.next) (m : Nat) (hm : 1500 ≤ m) (τ : Tm) (S : FsU τ q p6 p8 k x) :
    ∃ e τ' H', evAt Try.prog (ev Try.prog m) m 124 15103 τ h = some (e, τ', H') ∧ ∃ fr d bs good a' sh', FsO l a x q p6 p8 s h H' τ' e fr d bs good a' sh' := by
  obtain ⟨t0, t1, t2, t6, t8, tk⟩ := S
  obtain ⟨rfl, hx⟩ := hk
  have hb := G.hb
  have hl := G.hl
  have g80 := G.g8
  have G1 := G.setf (frC 18 0 (x - 18) 0 false .nilSlice .nilSlice .nilSlice)
  obtain ⟨H1, e1, c1, N1⟩ := G1.var m (by omega)
  have G2 := N1 (frC 18 (varS l a false).1 (x - 18) 0 false .nilSlice .nilSlice .nilSlice)
  have w1 : IntKind.i64.wrap (x - 18) = x - 18 := wrap_i64 (n := x - 18) (by omega) (by omega)
  simp only [frC] at g80 e1 c1
  rw [at_M Try.func124 15103 (by decide) 14 (by decide) (by kernel_rfl) [60415]]
  refine ⟨_, _, _, by simp [Try.f124, tk, t0, t1, t2, t8, g80, w1, e1, c1, stVar, spl]; first | exact ⟨rfl, rfl⟩ | exact ⟨rfl, rfl, rfl⟩ | rfl, mkS G2 p6q p68 l6 (Ow.nil _ _ _) (Ow.nil _ _ _) By.nil By.nil ?_ (by simp) (by simp) (i64n _ (by omega) (by omega)) (i64v hb _ _) (i64n _ (by omega) (by omega)) (i64n _ (by omega) (by omega)) G2.nx (by simp [t6]) (by simp [t8])⟩
  rcases hx with rfl | rfl <;> simp [fldP]

set_option maxRecDepth 20000 in
theorem fsK_22 {Hb h : AH} {q p6 p8 a : Nat} {s : AV} {l : List Int} (k x : Int) (hk : k = 22 ∧ (x = 22 ∨ x = 23)) (G : FsG Hb h h q p8 s l (frC k 0 0 0 false .nilSlice .nilSlice .nilSlice) a false) (p6q : p6 ≠ q) (p68 : p6 ≠ p8) (l6 : p6 < h.next) (m : Nat) (hm : 1500 ≤ m) (τ : Tm) (S : FsU τ q p6 p8 k x) :
    ∃ e τ' H', evAt Try.prog (ev Try.prog m) m 124 15103 τ h = some (e, τ', H') ∧ ∃ fr d bs good a' sh', FsO l a x q p6 p8 s h H' τ' e fr d bs good a' sh' := by
  obtain ⟨t0, t1, t2, t6, t8, tk⟩ := S
  obtain ⟨rfl, hx⟩ := hk
  have hb := G.hb
  have hl := G.hl
  have g80 := G.g8
  have G1 := G.setf (frC 22 0 (x - 22) 0 false .nilSlice .nilSlice .nilSlice)
  obtain ⟨H1, e1, c1, N1⟩ := G1.var m (by omega)
  have G2 := N1 (frC 22 (varS l a false).1 (x - 22) 0 false .nilSlice .nilSlice .nilSlice)
  have w1 : IntKind.i64.wrap (x - 22) = x - 22 := wrap_i64 (n := x - 22) (by omega) (by omega)
  simp only [frC] at g80 e1 c1
  rw [at_M Try.func124 15103 (by decide) 14 (by decide) (by kernel_rfl) [60415]]
  refine ⟨_, _, _, by simp [Try.f124, tk, t0, t1, t2, t8, g80, w1, e1, c1, stVar, spl]; first | exact ⟨rfl, rfl⟩ | exact ⟨rfl, rfl, rfl⟩ | rfl, mkS G2 p6q p68 l6 (Ow.nil _ _ _) (Ow.nil _ _ _) By.nil By.nil ?_ (by simp) (by simp) (i64n _ (by omega) (by omega)) (i64v hb _ _) (i64n _ (by omega) (by omega)) (i64n _ (by omega) (by omega)) G2.nx (by simp [t6]) (by simp [t8])⟩
  rcases hx with rfl | rfl <;> simp [fldP]

set_option maxRecDepth 20000 in
theorem fsK_48 {Hb h : AH} {q p6 p8 a : Nat} {s : AV} {l : List Int} (k x : Int) (hk : k = 48 ∧ (x = 48 ∨ x = 49)) (G : FsG Hb h h q p8 s l (frC k 0 0 0 false .nilSlice .nilSlice .nilSlice) a false) (p6q : p6 ≠ q) (p68 : p6 ≠ p8) (l6 : p6 < h.next) (m : Nat) (hm : 1500 ≤ m) (τ : Tm) (S : FsU τ q p6 p8 k x) :
    ∃ e τ' H', evAt Try.prog (ev Try.prog m) m 124 989855743 τ h = some (e, τ', H') ∧ ∃ fr d bs good a' sh', FsO l a x q p6 p8 s h H' τ' e fr d bs good a' sh' := by
  obtain ⟨t0, t1, t2, t6, t8, tk⟩ := S
  obtain ⟨rfl, hx⟩ := hk
  have hb := G.hb
  have hl := G.hl
  obtain ⟨r1, H1, e1, c1, N1, O1, or1, oc1, on1⟩ := G.cnt49 x m (by omega)
  have G1 := N1 (frC 48 0 0 0 false r1 .nilSlice .nilSlice)
  have P1 := O1 (frC 48 0 0 0 false r1 .nilSlice .nilSlice)
  simp only [frC] at e1 c1
  rw [at_M Try.func124 989855743 (by decide) 30 (by decide) (by kernel_rfl) []]
  have hby : By (if x = 49 then countedS l a false else restS l a false).1 := by split <;> exact takeS_by hb _ _ _
  have hln : (if x = 49 then countedS l a false else restS l a false).1.length ≤ 65536 := by split <;> exact Nat.le_trans (takeS_in l _ _ _) hl
  refine ⟨_, _, _, by simp [Try.f124, tk, t0, t1, t2, t8, e1, c1, or1, oc1, stVar, spl]; first | exact ⟨rfl, rfl⟩ | exact ⟨rfl, rfl, rfl⟩ | rfl, mkS G1 p6q p68 l6 (Ow.wide P1 (Nat.le_refl _) (Nat.le_refl _) (by simp)) (Ow.nil _ _ _) hby By.nil ?_ hln (by simp) (i64n _ (by omega) (by omega)) (i64n _ (by omega) (by omega)) (i64n _ (by omega) (by omega)) (i64n _ (by omega) (by omega)) G1.nx (by simp [t6]) (by simp [t8])⟩
  rcases hx with rfl | rfl <;> simp [fldP]

set_option maxRecDepth 20000 in
theorem fsK_24 {Hb h : AH} {q p6 p8 a : Nat} {s : AV} {l : List Int} (k x : Int) (hk : k = 24 ∧ x = k) (G : FsG Hb h h q p8 s l (frC k 0 0 0 false .nilSlice .nilSlice .nilSlice) a false) (p6q : p6 ≠ q) (p68 : p6 ≠ p8) (l6 : p6 < h.next) (m : Nat) (hm : 1500 ≤ m) (τ : Tm) (S : FsU τ q p6 p8 k x) :
    ∃ e τ' H', evAt Try.prog (ev Try.prog m) m 124 15466495 τ h = some (e, τ', H') ∧ ∃ fr d bs good a' sh', FsO l a x q p6 p8 s h H' τ' e fr d bs good a' sh' := by
  obtain ⟨t0, t1, t2, t6, t8, tk⟩ := S
  obtain ⟨rfl, rfl⟩ := hk
  have hb := G.hb
  have hl := G.hl
  obtain ⟨H1, e1, c1, N1⟩ := G.var m (by omega)
  have G1 := N1 (frC 24 (varS l a false).1 0 0 false .nilSlice .nilSlice .nilSlice)
  obtain ⟨H2, e2, c2, N2⟩ := G1.var m (by omega)
  have G2 := N2 (frC 24 (varS l a false).1 (varS l (varS l a false).2.1 (varS l a false).2.2).1 0 false .nilSlice .nilSlice .nilSlice)
  obtain ⟨Y, y1, YG, yn⟩ := G2.fix1 m (by omega)
  have hv : 0 ≤ valP (takeS l (varS l (varS l a false).2.1 (varS l a false).2.2).2.1 (varS l (varS l a false).2.1 (varS l a false).2.2).2.2 1).1 ∧ valP (takeS l (varS l (varS l a false).2.1 (varS l a false).2.2).2.1 (varS l (varS l a false).2.1 (varS l a false).2.2).2.2 1).1 ≤ 1000 := by
    have h1 := valP_lt _ (takeS_by hb (varS l (varS l a false).2.1 (varS l a false).2.2).2.1 (varS l (varS l a false).2.1 (varS l a false).2.2).2.2 1)
    have h2 := (takeS_len l (varS l (varS l a false).2.1 (varS l a false).2.2).2.1 (varS l (varS l a false).2.1 (varS l a false).2.2).2.2 1).1
    have h3 : (takeS l (varS l (varS l a false).2.1 (varS l a false).2.2).2.1 (varS l (varS l a false).2.1 (varS l a false).2.2).2.2 1).1.length = 0 ∨ (takeS l (varS l (varS l a false).2.1 (varS l a false).2.2).2.1 (varS l (varS l a false).2.1 (varS l a false).2.2).2.2 1).1.length = 1 := by omega
    rcases h3 with h | h <;> rw [h] at h1 <;> simp at h1 <;> omega
  obtain ⟨r3, H3, e3, c3, N3, O3, or3, oc3, on3⟩ := YG.take _ hv m (by omega)
  have G3 := N3 (frC 24 (varS l a false).1 (varS l (varS l a false).2.1 (varS l a false).2.2).1 0 false r3 .nilSlice .nilSlice)
  have P3 := O3 (frC 24 (varS l a false).1 (varS l (varS l a false).2.1 (varS l a false).2.2).1 0 false r3 .nilSlice .nilSlice)
  obtain ⟨r4, H4, e4, k4, o4, g4, l4⟩ := takeR_ev G3.hs G3.hK G3.hqb (by have := G3.qn; have := G3.nx; omega) G3.gq G3.le G3.hl 8 (by omega) (by omega) m (by omega)
  obtain ⟨c4, N4, O4, or4, oc4, on4⟩ := G3.data k4 o4 g4 l4
  have G4 := N4 (frC 24 (varS l a false).1 (varS l (varS l a false).2.1 (varS l a false).2.2).1 0 false r3 r4 .nilSlice)
  have P4 := O4 (frC 24 (varS l a false).1 (varS l (varS l a false).2.1 (varS l a false).2.2).1 0 false r3 r4 .nilSlice)
  have hq0 := G.qn
  have hp0 := G.pn
  have ny := YG.nx
  have n3 : H3.next ≤ H4.next := by simpa using k4.next
  have Q3 := (P3.kx k4 (.inl (by omega))).setp (.cells 72 false (frC 24 (varS l a false).1 (varS l (varS l a false).2.1 (varS l a false).2.2).1 0 false r3 r4 .nilSlice)) (p := p8) (by omega)
  simp only [frC] at e1 c1 e2 c2 y1 e3 c3 e4 c4
  rw [at_M Try.func124 15466495 (by decide) 24 (by decide) (by kernel_rfl) [61865983]]
  exact ⟨_, _, _, by simp [Try.f124, tk, t0, t1, t2, t8, e1, c1, e2, c2, y1, e3, c3, or3, oc3, e4, c4, or4, oc4, stVar, spl]; first | exact ⟨rfl, rfl⟩ | exact ⟨rfl, rfl, rfl⟩ | rfl, mkS (mid := H3.next) G4 p6q p68 l6 (Ow.wide Q3 (by omega) (Nat.le_refl _) (by simp; omega)) (Ow.wide P4 (by simp) (by simp) (by simp)) (takeS_by hb _ _ _) (takeS_by hb _ _ _) (by simp [fldP]) (Nat.le_trans (takeS_in l _ _ _) hl) (Nat.le_trans (takeS_in l _ _ _) hl) (i64n _ (by omega) (by omega)) (i64v hb _ _) (i64v hb _ _) (i64n _ (by omega) (by omega)) (by omega) (by simp [t6]) (by simp [t8])⟩

end Go.Ev

/- A frame's fields read by the reference: acknowledgements, streams, padding; all. -/
namespace Go.Ev
open Go Go.Proofs
set_option linter.unusedSimpArgs false
set_option linter.unusedVariables false

set_option maxRecDepth 20000 in
theorem fsK_8 {Hb h : AH} {q p6 p8 a : Nat} {s : AV} {l : List Int} (k x : Int) (hk : k = 8 ∧ 8 ≤ x ∧ x ≤ 15) (G : FsG Hb h h q p8 s l (frC k 0 0 0 false .nilSlice .nilSlice .nilSlice) a false) (p6q : p6 ≠ q) (p68 : p6 ≠ p8) (l6 : p6 < h.next) (g6 : h.get p6 = some (.cells 72 false (frC 0 0 0 0 false .nilSlice .nilSlice .nilSlice))) (m : Nat) (hm : 1500 ≤ m) (τ : Tm) (S : FsU τ q p6 p8 k x) :
    ∃ e τ' H', evAt Try.prog (ev Try.prog m) m 124 3866623 τ h = some (e, τ', H') ∧ ∃ fr d bs good a' sh', FsO l a x q p6 p8 s h H' τ' e fr d bs good a' sh' := by
  obtain ⟨t0, t1, t2, t6, t8, tk⟩ := S
  obtain ⟨rfl, hx⟩ := hk
  obtain ⟨r, H1, e1, k1, o1, g1, l1⟩ := readStreamS_ev (sh := false) (a := a) G.hs G.hb G.hK G.hqb G.qn G.gq G.le G.hl (x - 8) (by omega) m (by omega)
  have n1 := k1.next
  have c6 := (k1.get p6 l6 p6q).trans g6
  have hby : By (streamS l a false (x - 8)).2.2.1 := dataS_by G.hb _ _ _
  have hln : (streamS l a false (x - 8)).2.2.1.length ≤ 65536 := Nat.le_trans (dataS_len l _ _ _) G.hl
  have o2 := o1.setp (.cells 72 false (frC 8 (streamS l a false (x - 8)).1 (streamS l a false (x - 8)).2.1 0 ((x - 8).tmod 2 == 1) r .nilSlice .nilSlice)) (p := p6) l6
  obtain ⟨b1, r1, d1, x1⟩ := ow_tB o2 hby
  have or_ := o1.bs.one
  have w1 : IntKind.i64.wrap (x - 8) = x - 8 := wrap_i64 (n := x - 8) (by omega) (by omega)
  have iA : InK .i64 (streamS l a false (x - 8)).1 := i64v G.hb _ _
  have iB : InK .i64 (streamS l a false (x - 8)).2.1 := offS_i64 G.hb _ _ _
  have hf : fldP l a x = ⟨8, (streamS l a false (x - 8)).1, (streamS l a false (x - 8)).2.1, 0, (x - 8).tmod 2 == 1, (streamS l a false (x - 8)).2.2.1, [], [], true, (streamS l a false (x - 8)).2.2.2.1, (streamS l a false (x - 8)).2.2.2.2⟩ := by
    rcases k8 hx with rfl | rfl | rfl | rfl | rfl | rfl | rfl | rfl <;> simp [fldP]
  generalize streamS l a false (x - 8) = W at *
  simp only [frC] at e1 c6 o2 r1
  rw [at_M Try.func124 3866623 (by decide) 22 (by decide) (by kernel_rfl) [15466495]]
  refine ⟨_, _, _, by simp [Try.f124, tk, t0, t1, t2, t6, t8, w1, e1, c6, or_, stVar, spl]; first | rfl | exact ⟨rfl, rfl⟩ | exact ⟨rfl, rfl, rfl⟩, frC 8 W.1 W.2.1 0 ((x - 8).tmod 2 == 1) r .nilSlice .nilSlice, (8, W.1, W.2.1, 0, ((x - 8).tmod 2 == 1), W.2.2.1, [], []), _, true, W.2.2.2.1, W.2.2.2.2, i72 r1 (bx_6 := []) (.inl ⟨rfl, rfl, rfl⟩) nil94 (i64n _ (by omega) (by omega)) iA iB (i64n _ (by omega) (by omega)), by simpa using d1, fun b hb => ?_, by rw [hf]; simp, hln, by simp, by simp, ?_, l1, by simp; omega, fun b h0 h1 h2 h3 => ?_, by simp [t6], .inr ⟨rfl, by simp, by simp [frC]⟩⟩
  · simp at hb; exact (x1 b hb).1
  · rw [AH.set_getN _ _ (fun e => p6q e.symm)]; exact g1
  · rw [AH.set_getN _ _ h2]; exact k1.get b h0 h1
set_option maxRecDepth 20000 in
theorem fsK_2 {Hb h : AH} {q p6 p8 a : Nat} {s : AV} {l : List Int} (k x : Int) (hk : k = 2 ∧ x = k) (G : FsG Hb h h q p8 s l (frC k 0 0 0 false .nilSlice .nilSlice .nilSlice) a false) (p6q : p6 ≠ q) (p68 : p6 ≠ p8) (l6 : p6 < h.next) (g6 : h.get p6 = some (.cells 72 false (frC 0 0 0 0 false .nilSlice .nilSlice .nilSlice))) (m : Nat) (hm : 1500 ≤ m) (τ : Tm) (S : FsU τ q p6 p8 k x) :
    ∃ e τ' H', evAt Try.prog (ev Try.prog m) m 124 235 τ h = some (e, τ', H') ∧ ∃ fr d bs good a' sh', FsO l a x q p6 p8 s h H' τ' e fr d bs good a' sh' := by
  obtain ⟨t0, t1, t2, t6, t8, tk⟩ := S
  obtain ⟨rfl, rfl⟩ := hk
  obtain ⟨rv, H1, bo, e1, hR, hnd, hlo, hlen, g1, l1, k1⟩ := readAckS_ev (a := a) G.hs G.hb G.hK G.hqb G.qn G.gq G.le G.hl m (by omega)
  have n1 := k1.next
  have c6 := (k1.get p6 l6 p6q).trans g6
  have or_ := hR.sl_one
  have iA : InK .i64 (ackS l a).1 := by
    simp only [ackS]
    split
    · exact i64v G.hb _ _
    · split <;> exact i64v G.hb _ _
  have hf : fldP l a 2 = ⟨2, (ackS l a).1, 0, 0, false, [], [], (ackS l a).2.1.reverse, (ackS l a).2.2.1, (ackS l a).2.2.2.1, (ackS l a).2.2.2.2⟩ := by simp [fldP]
  generalize ackS l a = W at *
  have hR2 : (Ty.sl 94 tT94).R true (H1.set p6 (.cells 72 false (frC 2 W.1 0 0 false .nilSlice .nilSlice rv))) [rv] W.2.1.reverse bo := hR.stay (by simp) fun b hb => AH.set_getN _ _ (by have := hlo b hb; omega)
  simp only [frC] at e1 c6 hR2
  rw [at_M Try.func124 235 (by decide) 8 (by decide) (by kernel_rfl) [943]]
  refine ⟨_, _, _, by simp [Try.f124, tk, t0, t1, t2, t6, t8, e1, c6, or_, stVar, spl]; first | rfl | exact ⟨rfl, rfl⟩ | exact ⟨rfl, rfl, rfl⟩, frC 2 W.1 0 0 false .nilSlice .nilSlice rv, (2, W.1, 0, 0, false, [], [], W.2.1.reverse), _, W.2.2.1, W.2.2.2.1, W.2.2.2.2, i72 (bx_5 := []) (bx_6 := []) (.inl ⟨rfl, rfl, rfl⟩) (.inl ⟨rfl, rfl, rfl⟩) hR2 (i64n _ (by omega) (by omega)) iA (i64n _ (by omega) (by omega)) (i64n _ (by omega) (by omega)), by simpa using hnd, fun b hb => ?_, by rw [hf]; simp, by simp, by simp, by simpa using hlen, ?_, l1, by simp; omega, fun b h0 h1 h2 h3 => ?_, by simp [t6], .inr ⟨rfl, by simp, by simp [frC]⟩⟩
  · simp at hb; exact hlo b hb
  · rw [AH.set_getN _ _ (fun e => p6q e.symm)]; exact g1
  · rw [AH.set_getN _ _ h2]; exact k1.get b h0 h1
/-! padding -/
structure PsT (τ : Tm) (q p6 p8 : Nat) (h : AH) (s : AV) (a j : Nat) : Prop where
  t0 : τ 0 = .ptr q 0
  t6 : τ 6 = .ptr p6 0
  t8 : τ 8 = .ptr p8 0
  gq : h.get q = some (rdB s (a + j) false)
  g8 : h.get p8 = some (.cells 72 false (frC 0 (1 + j : Nat) 0 0 false .nilSlice .nilSlice .nilSlice))
def PsI (q p6 p8 : Nat) (s : AV) (l : List Int) (a : Nat) (H : AH) (d : Nat) (τ : Tm) (h : AH) : Prop :=
  ∃ j, j + d = 1499 ∧ PsT τ q p6 p8 h s a j ∧ j + padN l (a + j) (1499 - j) = padN l a 1499 ∧ a + j ≤ l.length ∧ H.next ≤ h.next ∧ ∀ b, b < H.next → b ≠ q → b ≠ p8 → h.get b = H.get b
set_option maxRecDepth 20000 in
theorem padLoopS {Hb H h0 : AH} {q p6 p8 a : Nat} {s : AV} {l : List Int} (hs : Bs Hb s l) (hK : Kp Hb H) (hqb : Hb.next ≤ q) (b8 : Hb.next ≤ p8) (n8 : p8 ≠ q) (hl : l.length ≤ 65536) (m : Nat) (hm : 1500 ≤ m) (τ : Tm) (hI : PsI q p6 p8 s l a H 1499 τ h0) :
    ∃ e τ' H', evLoop Try.prog (ev Try.prog m) m (lp Try.prog 124 938) τ h0 = some (e, τ', H') ∧ e = .exit 1 ∧ PsT τ' q p6 p8 H' s a (padN l a 1499) ∧ a + padN l a 1499 ≤ l.length ∧ H.next ≤ H'.next ∧ ∀ b, b < H.next → b ≠ q → b ≠ p8 → H'.get b = H.get b := by
  refine loop_rule (d := 1499) (PsI q p6 p8 s l a H) (fun e τ h => e = .exit 1 ∧ PsT τ q p6 p8 h s a (padN l a 1499) ∧ a + padN l a 1499 ≤ l.length ∧ H.next ≤ h.next ∧ ∀ b, b < H.next → b ≠ q → b ≠ p8 → h.get b = H.get b) ?_ hI (by omega)
  rintro d τ h ⟨j, hj, ⟨t0, t6, t8, gq, g8⟩, hp, hin, hn, hr⟩
  have hL := hs.len
  have n8' : ¬ (q = p8) := fun e => n8 e.symm
  have gq0 := gq
  have g80 := g8
  simp only [rdB, frC] at gq g8
  rw [lp_M Try.func124 938 (by decide) 10 (by decide) (by kernel_rfl) []]
  by_cases hlt : a + j < l.length
  · obtain ⟨b, o, ro, xs, i1, i2, i3, i4⟩ := hs.idx hlt
    have gb := i3 h ⟨by have := hK.next; omega, fun x hx => (hr x (by have := hK.next; omega) (by omega) (by omega)).trans (hK.get x hx)⟩
    have c2 : (((a + j : Nat) : Int) < (l.length : Int)) = True := eq_true (by omega)
    by_cases hz : l[a + j] = 0
    · rw [hz] at i4
      by_cases hd : d = 0
      · subst hd
        have hj' : j = 1499 := by omega
        have c1 : (((1 + j : Nat) : Int) < 1500) = False := eq_false (by omega)
        have e0 : padN l (a + j) (1499 - j) = 0 := by rw [hj']; rfl
        rw [e0] at hp
        generalize hx1 : ((1 + j : Nat) : Int) = x1 at *
        generalize hx2 : ((a + j : Nat) : Int) = x2 at *
        simp [Try.f124, t0, t8, g8, gq, hL, c1, c2, i1, gb, i4, ldVar, stVar, spl, n8', evHist, ObsOk, ObOk, List.getElem?_cons_zero]
        rw [← hp]
        exact ⟨⟨by simp [t0], by simp [t6], by simp [t8], gq0, by subst hx1; exact g80⟩, by omega, hn, hr⟩
      · have c1 : (((1 + j : Nat) : Int) < 1500) = True := eq_true (by omega)
        have ex : 1499 - j = (1499 - (j + 1)) + 1 := by omega
        have w1 : IntKind.i64.wrap (((1 + j : Nat) : Int) + 1) = ((1 + (j + 1) : Nat) : Int) := by rw [wrap_i64 (n := ((1 + j : Nat) : Int) + 1) (by omega) (by omega)]; omega
        have w2 : IntKind.i64.wrap (((a + j : Nat) : Int) + 1) = ((a + (j + 1) : Nat) : Int) := by rw [wrap_i64 (n := ((a + j : Nat) : Int) + 1) (by omega) (by omega)]; omega
        generalize hx1 : ((1 + j : Nat) : Int) = x1 at *
        generalize hx2 : ((a + j : Nat) : Int) = x2 at *
        generalize hx3 : ((1 + (j + 1) : Nat) : Int) = x3 at *
        generalize hx4 : ((a + (j + 1) : Nat) : Int) = x4 at *
        simp [Try.f124, t0, t8, g8, gq, hL, c1, c2, i1, gb, i4, w1, w2, ldVar, stVar, spl, n8', evHist, ObsOk, ObOk, List.getElem?_cons_zero]
        refine ⟨d - 1, by omega, j + 1, by omega, ⟨by simp [t0], by simp [t6], by simp [t8], by simp [rdB, hx4], by simp [n8, frC, hx3]⟩, ?_, by omega, by simpa using hn, fun b hb h1 h2 => ?_⟩
        · rw [← hp, ex, padN, if_pos (by simp [hlt, hz])]
          have : a + (j + 1) = a + j + 1 := by omega
          rw [this]; omega
        · simp [h1, h2]; exact hr b hb h1 h2
    · have hz' : (l[a + j] == 0) = false := by simpa using hz
      have e0 : padN l (a + j) (1499 - j) = 0 := by
        cases hq : 1499 - j with
        | zero => rfl
        | succ n => rw [padN, if_neg (by simp [hlt, hz])]
      rw [e0] at hp
      generalize hx1 : ((1 + j : Nat) : Int) = x1 at *
      generalize hx2 : ((a + j : Nat) : Int) = x2 at *
      simp [Try.f124, t0, t8, g8, gq, hL, c2, i1, gb, i4, hz', ldVar, stVar, spl, n8', evHist, ObsOk, ObOk, List.getElem?_cons_zero]
      rw [← hp]
      exact ⟨⟨by simp [t0], by simp [t6], by simp [t8], gq0, by subst hx1; exact g80⟩, by omega, hn, hr⟩
  · have c2 : (((a + j : Nat) : Int) < (l.length : Int)) = False := eq_false (by omega)
    have e0 : padN l (a + j) (1499 - j) = 0 := by
      cases hq : 1499 - j with
      | zero => rfl
      | succ n => rw [padN, if_neg (by simp [hlt])]
    rw [e0] at hp
    generalize hx1 : ((1 + j : Nat) : Int) = x1 at *
    generalize hx2 : ((a + j : Nat) : Int) = x2 at *
    simp [Try.f124, t0, t8, g8, gq, hL, c2, ldVar, stVar, spl, n8', evHist, ObsOk, ObOk, List.getElem?_cons_zero]
    rw [← hp]
    exact ⟨⟨by simp [t0], by simp [t6], by simp [t8], gq0, by subst hx1; exact g80⟩, by omega, hn, hr⟩
set_option maxRecDepth 20000 in
theorem fsK_0 {Hb h : AH} {q p6 p8 a : Nat} {s : AV} {l : List Int} (k x : Int) (hk : k = 0 ∧ x = k) (G : FsG Hb h h q p8 s l (frC k 0 0 0 false .nilSlice .nilSlice .nilSlice) a false) (p6q : p6 ≠ q) (p68 : p6 ≠ p8) (l6 : p6 < h.next) (m : Nat) (hm : 1500 ≤ m) (τ : Tm) (S : FsU τ q p6 p8 k x) :
    ∃ e τ' H', evAt Try.prog (ev Try.prog m) m 124 58 τ h = some (e, τ', H') ∧ ∃ fr d bs good a' sh', FsO l a x q p6 p8 s h H' τ' e fr d bs good a' sh' := by
  obtain ⟨t0, t1, t2, t6, t8, tk⟩ := S
  obtain ⟨rfl, rfl⟩ := hk
  have g8 := G.g8
  have n8' : ¬ (q = p8) := fun e => G.ne e.symm
  have hgq := G.gq
  have hlp := padN_le l 1499 a
  have key : ∃ τ' H', evAt Try.prog (ev Try.prog m) m 124 58 τ h = some (.normal, τ', H') ∧ PsT τ' q p6 p8 H' s a (padN l a 1499) ∧ a + padN l a 1499 ≤ l.length ∧ h.next ≤ H'.next ∧ ∀ b, b < h.next → b ≠ q → b ≠ p8 → H'.get b = h.get b := by
    simp only [frC] at g8
    rw [at_M Try.func124 58 (by decide) 6 (by decide) (by kernel_rfl) [235]]
    simp [Try.f124, tk, t0, t1, t2, t6, t8, g8, stVar, spl]
    generalize hLo : evLoop _ _ _ _ _ _ = R
    obtain ⟨e, τ', H', rfl, rfl, g⟩ := loop_at hLo (padLoopS (p6 := p6) (a := a) G.hs G.hK G.hqb G.hpb G.ne G.hl m hm _ ⟨0, by omega, ⟨by simp [t0], by simp [t6], by simp [t8], by simpa [n8'] using hgq, by simp [frC]⟩, by simp, G.le, by simp, fun b hb h1 h2 => by simp [h2]⟩)
    exact ⟨τ', H', by simp, g⟩
  obtain ⟨τ', H', e1, ⟨u0, u6, u8, gq, gp⟩, hin, hn, hr⟩ := key
  have G1 : FsG Hb h H' q p8 s l (frC 0 (1 + padN l a 1499 : Nat) 0 0 false .nilSlice .nilSlice .nilSlice) (a + padN l a 1499) false := ⟨G.hs, G.hb, G.hl, ⟨Nat.le_trans G.hK.next hn, fun b hb => (hr b (by have := G.hK.next; omega) (by have := G.hqb; omega) (by have := G.hpb; omega)).trans (G.hK.get b hb)⟩, G.hqb, G.hpb, G.qn, G.pn, G.ne, gq, gp, hin, hn, hr⟩
  exact ⟨_, τ', H', e1, mkS G1 p6q p68 l6 (Ow.nil _ H'.next _) (Ow.nil _ _ _) By.nil By.nil (by simp [fldP]) (by simp) (by simp) (i64n _ (by omega) (by omega)) (InK.i64 (by omega) (by omega)) (i64n _ (by omega) (by omega)) (i64n _ (by omega) (by omega)) hn u6 u8⟩
set_option maxRecDepth 20000 in
theorem fsK_1 {Hb h : AH} {q p6 p8 a : Nat} {s : AV} {l : List Int} (k x : Int) (hk : (k = 1 ∨ k = 30) ∧ x = k) (G : FsG Hb h h q p8 s l (frC k 0 0 0 false .nilSlice .nilSlice .nilSlice) a false) (p6q : p6 ≠ q) (p68 : p6 ≠ p8) (l6 : p6 < h.next) (m : Nat) (hm : 1500 ≤ m) (τ : Tm) (S : FsU τ q p6 p8 k x) :
    ∃ e τ' H', evAt Try.prog (ev Try.prog m) m 124 989855743 τ h = some (e, τ', H') ∧ ∃ fr d bs good a' sh', FsO l a x q p6 p8 s h H' τ' e fr d bs good a' sh' := by
  obtain ⟨t0, t1, t2, t6, t8, tk⟩ := S
  obtain ⟨hk, rfl⟩ := hk
  rw [at_M Try.func124 989855743 (by decide) 30 (by decide) (by kernel_rfl) []]
  rcases hk with rfl | rfl
  all_goals
    exact ⟨_, _, _, by simp [Try.f124, tk, t0, t1, t2, t6, t8]; first | exact ⟨rfl, rfl⟩ | exact ⟨rfl, rfl, rfl⟩ | rfl, mkS G p6q p68 l6 (Ow.nil _ _ _) (Ow.nil _ _ _) By.nil By.nil (by simp [fldP]) (by simp) (by simp) (i64n _ (by omega) (by omega)) (i64n _ (by omega) (by omega)) (i64n _ (by omega) (by omega)) (i64n _ (by omega) (by omega)) G.nx (by simp [t6]) (by simp [t8])⟩
end Go.Ev

/- A frame read by the reference. -/
namespace Go.Ev
open Go Go.Proofs
set_option linter.unusedSimpArgs false
set_option linter.unusedVariables false

def kmOK (k x : Int) : Prop := (k = 8 ∧ 8 ≤ x ∧ x ≤ 15) ∨ (k = 18 ∧ x = 19) ∨ (k = 22 ∧ x = 23) ∨ (k = 48 ∧ x = 49) ∨ (k = x ∧ (x = 0 ∨ x = 1 ∨ x = 2 ∨ x = 4 ∨ x = 5 ∨ x = 6 ∨ x = 7 ∨ x = 16 ∨ x = 17 ∨ x = 18 ∨ x = 20 ∨ x = 21 ∨ x = 22 ∨ x = 24 ∨ x = 25 ∨ x = 26 ∨ x = 27 ∨ x = 28 ∨ x = 29 ∨ x = 30 ∨ x = 48))
theorem markK_ok {x : Int} (h : ¬ (markK x < 0)) : kmOK (markK x) x := by
  unfold markK at h ⊢
  unfold kmOK
  by_cases a0 : 8 ≤ x ∧ x ≤ 15
  · rw [if_pos a0]; omega
  · rw [if_neg a0] at h ⊢
    by_cases a1 : x = 19 ∨ x = 23
    · rw [if_pos a1]; omega
    · rw [if_neg a1] at h ⊢
      by_cases a2 : x = 49
      · rw [if_pos a2]; omega
      · rw [if_neg a2] at h ⊢
        by_cases a3 : (usesL.lookup x).isSome = true
        · rw [if_pos a3]
          by_cases a4 : kindIn x
          · unfold kindIn at a4; omega
          · rw [uses_not a4] at a3; simp at a3
        · rw [if_neg a3] at h; omega
theorem markK_no {x : Int} (h : markK x < 0) : ¬ kmOK (-1) x ∧ ¬ (8 ≤ x ∧ x ≤ 15) ∧ ¬ (x = 19) ∧ ¬ (x = 23) ∧ ¬ (x = 49) ∧ ¬ kindIn x := by
  unfold markK at h
  have hx : ¬ (8 ≤ x ∧ x ≤ 15) ∧ ¬ (x = 19) ∧ ¬ (x = 23) ∧ ¬ (x = 49) ∧ ¬ kindIn x := by
    by_cases a0 : 8 ≤ x ∧ x ≤ 15
    · rw [if_pos a0] at h; omega
    · rw [if_neg a0] at h
      by_cases a1 : x = 19 ∨ x = 23
      · rw [if_pos a1] at h; omega
      · rw [if_neg a1] at h
        by_cases a2 : x = 49
        · rw [if_pos a2] at h; omega
        · rw [if_neg a2] at h
          by_cases a4 : kindIn x
          · have hs : (usesL.lookup x).isSome = true := by
              unfold kindIn at a4
              rcases a4 with rfl | rfl | rfl | rfl | rfl | rfl | rfl | rfl | rfl | rfl | rfl | rfl | rfl | rfl | rfl | rfl | rfl | rfl | rfl | rfl | rfl | rfl <;> rfl
            rw [if_pos hs] at h
            unfold kindIn at a4; omega
          · exact ⟨a0, fun e => a1 (.inl e), fun e => a1 (.inr e), a2, a4⟩
  refine ⟨?_, hx⟩
  unfold kmOK
  intro hk
  have := hx.2.2.2.2
  unfold kindIn at this
  omega
theorem fldP_no {l : List Int} {a : Nat} {x : Int} (h : markK x < 0) : (fldP l a x).good = false ∧ (fldP l a x).sh = false := by
  obtain ⟨_, h8, h19, h23, h49, hk⟩ := markK_no h
  unfold kindIn at hk
  simp only [not_or] at hk
  obtain ⟨h0, h1, h2, h4, h5, h6, h7, h8', h16, h17, h18, h20, h21, h22, h24, h25, h26, h27, h28, h29, h30, h48⟩ := hk
  simp [fldP, h0, h1, h2, h4, h5, h6, h7, h8, h16, h17, h18, h19, h20, h21, h22, h23, h24, h25, h26, h27, h28, h29, h30, h48, h49]
theorem fsAll {Hb h : AH} {q p6 p8 a : Nat} {s : AV} {l : List Int} (k x : Int) (hk : kmOK k x) (G : FsG Hb h h q p8 s l (frC k 0 0 0 false .nilSlice .nilSlice .nilSlice) a false) (p6q : p6 ≠ q) (p68 : p6 ≠ p8) (l6 : p6 < h.next) (g6 : h.get p6 = some (.cells 72 false (frC 0 0 0 0 false .nilSlice .nilSlice .nilSlice))) (m : Nat) (hm : 1500 ≤ m) (τ : Tm) (S : FsU τ q p6 p8 k x) :
    ∃ e τ' H', evAt Try.prog (ev Try.prog m) m 124 58 τ h = some (e, τ', H') ∧ ∃ fr d bs good a' sh', FsO l a x q p6 p8 s h H' τ' e fr d bs good a' sh' := by
  unfold kmOK at hk
  by_cases c0 : k = 0
  ·  exact fsK_0 k x (by omega) G p6q p68 l6 m hm τ S
  obtain ⟨τ0, e0, S0⟩ := fsS_58 k (by omega) m τ h S
  by_cases c1 : k = 2
  · rw [e0]; exact fsK_2 k x (by omega) G p6q p68 l6 g6 m hm τ0 S0
  obtain ⟨τ1, e1, S1⟩ := fsS_235 k (by omega) m τ0 h S0
  by_cases c2 : k = 4
  · rw [e0]; rw [e1]; exact fsK_ABC k x (by omega) G p6q p68 l6 m hm τ1 S1
  obtain ⟨τ2, e2, S2⟩ := fsS_943 k (by omega) m τ1 h S1
  by_cases c3 : k = 5 ∨ k = 17 ∨ k = 21
  · rw [e0]; rw [e1]; rw [e2]; exact fsK_AB k x (by omega) G p6q p68 l6 m hm τ2 S2
  obtain ⟨τ3, e3, S3⟩ := fsS_3775 k (by omega) (by omega) (by omega) m τ2 h S2
  by_cases c18 : k = 18
  · rw [e0]; rw [e1]; rw [e2]; rw [e3]; exact fsK_18 k x (by omega) G p6q p68 l6 m hm τ3 S3
  by_cases c22 : k = 22
  · rw [e0]; rw [e1]; rw [e2]; rw [e3]; exact fsK_22 k x (by omega) G p6q p68 l6 m hm τ3 S3
  obtain ⟨τ4, e4, S4⟩ := fsS_15103 k (by omega) (by omega) m τ3 h S3
  by_cases c5 : k = 16 ∨ k = 20 ∨ k = 25
  · rw [e0]; rw [e1]; rw [e2]; rw [e3]; rw [e4]; exact fsK_A k x (by omega) G p6q p68 l6 m hm τ4 S4
  obtain ⟨τ5, e5, S5⟩ := fsS_60415 k (by omega) (by omega) (by omega) m τ4 h S4
  by_cases c6 : k = 6 ∨ k = 29
  · rw [e0]; rw [e1]; rw [e2]; rw [e3]; rw [e4]; rw [e5]; exact fsK_6 k x (by omega) G p6q p68 l6 m hm τ5 S5
  obtain ⟨τ6, e6, S6⟩ := fsS_241663 k (by omega) (by omega) m τ5 h S5
  by_cases c7 : k = 7
  · rw [e0]; rw [e1]; rw [e2]; rw [e3]; rw [e4]; rw [e5]; rw [e6]; exact fsK_7 k x (by omega) G p6q p68 l6 m hm τ6 S6
  obtain ⟨τ7, e7, S7⟩ := fsS_966655 k (by omega) m τ6 h S6
  by_cases c8 : k = 8
  · rw [e0]; rw [e1]; rw [e2]; rw [e3]; rw [e4]; rw [e5]; rw [e6]; rw [e7]; exact fsK_8 k x (by omega) G p6q p68 l6 g6 m hm τ7 S7
  obtain ⟨τ8, e8, S8⟩ := fsS_3866623 k (by omega) m τ7 h S7
  by_cases c9 : k = 24
  · rw [e0]; rw [e1]; rw [e2]; rw [e3]; rw [e4]; rw [e5]; rw [e6]; rw [e7]; rw [e8]; exact fsK_24 k x (by omega) G p6q p68 l6 m hm τ8 S8
  obtain ⟨τ9, e9, S9⟩ := fsS_15466495 k (by omega) m τ8 h S8
  by_cases c10 : k = 26 ∨ k = 27
  · rw [e0]; rw [e1]; rw [e2]; rw [e3]; rw [e4]; rw [e5]; rw [e6]; rw [e7]; rw [e8]; rw [e9]; exact fsK_26 k x (by omega) G p6q p68 l6 m hm τ9 S9
  obtain ⟨τ10, e10, S10⟩ := fsS_61865983 k (by omega) (by omega) m τ9 h S9
  by_cases c11 : k = 28
  · rw [e0]; rw [e1]; rw [e2]; rw [e3]; rw [e4]; rw [e5]; rw [e6]; rw [e7]; rw [e8]; rw [e9]; rw [e10]; exact fsK_28 k x (by omega) G p6q p68 l6 m hm τ10 S10
  obtain ⟨τ11, e11, S11⟩ := fsS_247463935 k (by omega) m τ10 h S10
  by_cases c12 : k = 48
  · rw [e0]; rw [e1]; rw [e2]; rw [e3]; rw [e4]; rw [e5]; rw [e6]; rw [e7]; rw [e8]; rw [e9]; rw [e10]; rw [e11]; exact fsK_48 k x (by omega) G p6q p68 l6 m hm τ11 S11
  rw [e0]; rw [e1]; rw [e2]; rw [e3]; rw [e4]; rw [e5]; rw [e6]; rw [e7]; rw [e8]; rw [e9]; rw [e10]; rw [e11]; exact fsK_1 k x (by omega) G p6q p68 l6 m hm τ11 S11
theorem fieldsS_ev {Hb H : AH} {q a : Nat} {s : AV} {l : List Int} (k x : Int) (hk : kmOK k x) (hs : Bs Hb s l) (hb : By l) (hK : Kp Hb H) (hqb : Hb.next ≤ q) (hqn : q < H.next) (hq : H.get q = some (rdB s a false)) (ha : a ≤ l.length) (hl : l.length ≤ 65536) (m : Nat) (hm : 1501 ≤ m) :
    ∃ (fr : List AV) (H' : AH) (d : tT72.D) (bs : List Nat), ev Try.prog m 124 [.ptr q 0, .int .i64 k, .int .i64 x] H = some (.tuple [.agg fr, .bool (fldP l a x).good], H') ∧ Kx q H H' ∧ tT72.R true H' fr d bs ∧ bs.Nodup ∧ (∀ b ∈ bs, H.next ≤ b) ∧ d = ((fldP l a x).K, (fldP l a x).A, (fldP l a x).B, (fldP l a x).C, (fldP l a x).f, (fldP l a x).D, (fldP l a x).T, (fldP l a x).rs) ∧
      (fldP l a x).D.length ≤ 65536 ∧ (fldP l a x).T.length ≤ 65536 ∧ (fldP l a x).rs.length ≤ 65 ∧ H'.get q = some (rdB s (fldP l a x).a (fldP l a x).sh) ∧ (fldP l a x).a ≤ l.length := by
  obtain ⟨m, rfl⟩ : ∃ k, m = k + 1 := ⟨m - 1, by omega⟩
  have hKn := hK.next
  obtain ⟨τ0, H0, e0, S0, g6, g8, k0, n0⟩ := fs0 q k x H m
  have gq0 : H0.get q = some (rdB s a false) := (k0.get q hqn).trans hq
  have G : FsG Hb H0 H0 q (H.next + 1) s l (frC k 0 0 0 false .nilSlice .nilSlice .nilSlice) a false := ⟨hs, hb, hl, hK.trans k0, hqb, by omega, by omega, by omega, by omega, gq0, g8, ha, Nat.le_refl _, fun b _ _ _ => rfl⟩
  obtain ⟨e, τ1, H1, e1, fr, d, bs, good, a', sh', O⟩ := fsAll (p6 := H.next) k x hk G (by omega) (by omega) (by omega) g6 m (by omega) τ0 S0
  have f1 := O.hf
  obtain ⟨f1, f2, f3, f4, f5, f6, f7, f8, f9, f10, f11⟩ := O.hf
  have x1 := O.nx
  have hlo : ∀ b ∈ bs, H.next ≤ b := fun b hb => by have := O.lo b hb; omega
  obtain ⟨d1, d2, d3, d4, d5, d6, d7, d8⟩ := d
  simp only at f1 f2 f3 f4 f5 f6 f7 f8
  have lD := O.lD; have lT := O.lT; have lr := O.lr
  simp only at lD lT lr
  rw [f1, f2, f3, f4, f5, f6, f7, f8, f9, f10, f11]
  rcases O.out with ⟨rfl, rfl, u8, u1, u2⟩ | ⟨rfl, u7, u1⟩
  · obtain ⟨vx5, vx6, vx7, bx5, bx6, bx7, hcs, hbs, r5, r6, r7, iK, iA, iB, iC⟩ := o72 O.R
    have o5 := r5.sl_one; have o6 := r6.sl_one; have o7 := r7.sl_one
    have u6 := O.t6
    have u3 := u2.trans g6
    have hR : tT72.R true (H1.set H.next (.cells 72 false fr)) fr (d1, d2, d3, d4, d5, d6, d7, d8) bs := O.R.stay (by simp) fun b hb => AH.set_getN _ _ (by have := O.lo b hb; omega)
    subst hcs
    simp only [frC] at u3
    refine ⟨_, H1.set H.next (.cells 72 false [.int .i64 d1, .int .i64 d2, .int .i64 d3, .int .i64 d4, .bool d5, vx5, vx6, vx7]), _, bs, ?_, ⟨by simp; omega, fun b hb h1 => ?_⟩, hR, O.nd, hlo, rfl, lD, lT, lr, ?_, O.le⟩
    · rw [e0, e1]
      simp [Try.f124]
      rw [at_M Try.func124 15 (by decide) 4 (by decide) (by kernel_rfl) []]
      simp [Try.f124, u1, u3, u6, u8, ldVar, stVar, spl, o5, o6, o7]
    · rw [AH.set_getN _ _ (by omega), O.rest b (by omega) h1 (by omega) (by omega)]; exact k0.get b hb
    · rw [AH.set_getN _ _ (by omega)]; exact O.gq
  · obtain ⟨vx5, vx6, vx7, bx5, bx6, bx7, hcs, hbs, r5, r6, r7, iK, iA, iB, iC⟩ := o72 O.R
    have u6 := O.t6
    have hR := O.R
    subst hcs
    refine ⟨_, H1, _, bs, ?_, ⟨by omega, fun b hb h1 => ?_⟩, hR, O.nd, hlo, rfl, lD, lT, lr, O.gq, O.le⟩
    · rw [e0, e1]
      simp [Try.f124, u1, u6, u7, ldVar]
    · rw [O.rest b (by omega) h1 (by omega) (by omega)]; exact k0.get b hb
end Go.Ev

/- ReadFrame of the reference. -/
namespace Go.Ev
open Go Go.Proofs
set_option linter.unusedSimpArgs false
set_option linter.unusedVariables false

abbrev resFr : List ResultVar := [.cell 4 72, .tmp 5, .tmp 6]
abbrev zC : Blk := .cells 72 false (frC 0 0 0 0 false .nilSlice .nilSlice .nilSlice)
abbrev zF : List AV := frC 0 0 0 0 false .nilSlice .nilSlice .nilSlice
structure SrT (τ : Tm) (q p : Nat) (x : Int) : Prop where
  t4 : τ 4 = .ptr p 0
  t7 : τ 7 = .ptr q 0
  t8 : τ 8 = .int .i64 x
theorem sr0 {Hb H : AH} {s : AV} {l : List Int} {a : Nat} (hs : Bs Hb s l) (hb : By l) (hK : Kp Hb H) (c1 : ¬ 65536 < l.length) (ha : a ≤ l.length) (m : Nat) (hm : 12 ≤ m) :
    ∃ τ' H', ev Try.prog (m + 1) 39 [s, .int .i64 a] H = resM Try.prog resFr (evAt Try.prog (ev Try.prog m) m 39 63 τ' H') ∧ SrT τ' (H.next + 1) H.next (valP (takeS l a false 1).1) ∧ H'.get H.next = some zC ∧
      H'.get (H.next + 1) = some (rdB s (takeS l a false 1).2.1 (takeS l a false 1).2.2) ∧ (takeS l a false 1).2.1 ≤ l.length ∧ Kp H H' ∧ H.next + 2 ≤ H'.next := by
  have hL := hs.len
  have c1' : (65536 < (l.length : Int)) = False := eq_false (by omega)
  have c3 : ((a : Int) < 0) = False := eq_false (by omega)
  have c4 : ((l.length : Int) < a) = False := eq_false (by omega)
  have hKn := hK.next
  let H2 : AH := (H.push zC).push (rdB s a false)
  have K2 : Kp H H2 := ((Kp.refl H).push _).push _
  obtain ⟨H3, e1, k1, g1, l1⟩ := fixed_ev (q := H.next + 1) (a := a) (sh := false) hs hb (hK.trans K2) (by omega) (by simp [H2]) (by simp [H2]) ha (by omega) 1 (by omega) (by omega) m (by omega)
  have n1 := k1.next
  simp [H2] at n1
  have g0 : H3.get H.next = some zC := by rw [k1.get _ (by simp [H2]; omega) (by omega)]; simp [H2]
  have os := hs.one
  have osc := cells_one os
  simp only [H2, zC, frC, rdB] at e1
  rw [ev_M Try.func39 ok39 [63] m _ H (by simp [Try.f39])]
  exact ⟨_, _, by simp [Try.f39, tm0, hL, c1', c3, c4, ldVar, stVar, spl, os, osc, e1]; rfl, ⟨by simp, by simp, by simp⟩, g0, g1, l1, ⟨by omega, fun b hb => by rw [k1.get b (by simp [H2]; omega) (by omega)]; exact K2.get b hb⟩, by omega⟩
theorem sr1 {h : AH} {q p a : Nat} {s : AV} {x : Int} {sh : Bool} (hx : 0 ≤ x) (hx1 : x < 256) (hpn : p < h.next) (hqn : q < h.next) (npq : p ≠ q) (hq : h.get q = some (rdB s a sh)) (hp : h.get p = some zC) (m : Nat) (hm : 2 ≤ m) (τ : Tm) (T : SrT τ q p x) :
    (sh = true → resM Try.prog resFr (evAt Try.prog (ev Try.prog m) m 39 63 τ h) = some (.tuple [.agg zF, .int .i64 0, .int .i64 2], h.set p zC)) ∧
    (sh = false → markK x < 0 → ∃ H', resM Try.prog resFr (evAt Try.prog (ev Try.prog m) m 39 63 τ h) = some (.tuple [.agg zF, .int .i64 0, .int .i64 3], H') ∧ h.next ≤ H'.next ∧ ∀ b, b < h.next → b ≠ p → H'.get b = h.get b) ∧
    (sh = false → ¬ markK x < 0 → ∃ τ' H', evAt Try.prog (ev Try.prog m) m 39 63 τ h = evAt Try.prog (ev Try.prog m) m 39 511 τ' H' ∧ SrT τ' q p x ∧ τ' 9 = .int .i64 (markK x) ∧ Kp h H') := by
  obtain ⟨t4, t7, t8⟩ := T
  simp only [rdB] at hq
  simp only [zC, frC] at hp
  obtain ⟨H1, e1, k1⟩ := l05Mark_ev x hx hx1 h m hm
  have p1 := (k1.get p hpn).trans hp
  have n1 := k1.next
  rw [at_M Try.func39 63 (by decide) 6 (by decide) (by kernel_rfl) [511]]
  refine ⟨fun h1 => ?_, fun h1 h2 => ?_, fun h1 h2 => ?_⟩
  · subst h1
    simp [Try.f39, t4, t7, t8, hq, hp, ldVar, stVar, spl, zC, zF, frC]
  · subst h1
    refine ⟨H1.set p zC, ?_, by simpa using n1, fun b hb hbp => by rw [AH.set_getN _ _ hbp]; exact k1.get b hb⟩
    simp [Try.f39, t4, t7, t8, hq, hp, p1, e1, h2, ldVar, stVar, spl, zC, zF, frC]
  · subst h1
    have h2' : (markK x < 0) = False := eq_false h2
    exact ⟨_, H1, by simp [Try.f39, t4, t7, t8, hq, e1, h2', ldVar]; rfl, ⟨by simp [t4], by simp [t7], by simp [t8]⟩, by simp, k1⟩
theorem cntL0 {α : Type} (c : α → Nat) (h : ∀ x, c x = 0) : ∀ l : List α, cntL c l = 0
  | [] => rfl
  | x :: l => by simp only [cntL, h, cntL0 c h l]
theorem sz94 (d : tT94.D) : tT94.sz d = 0 := by obtain ⟨x, y⟩ := d; rfl
theorem sz72 (d : tT72.D) : tT72.sz d = d.2.2.2.2.2.1.length + d.2.2.2.2.2.2.1.length + d.2.2.2.2.2.2.2.length := by
  obtain ⟨x0, x1, x2, x3, x4, x5, x6, x7⟩ := d
  have h5 := cntL0 (Ty.int .u8).sz (fun _ => rfl) x5
  have h6 := cntL0 (Ty.int .u8).sz (fun _ => rfl) x6
  have h7 := cntL0 tT94.sz sz94 x7
  simp only [Ty.sz] at *
  omega
theorem sr2 {Hb h : AH} {q p a : Nat} {s : AV} {l : List Int} {x : Int} (hs : Bs Hb s l) (hb : By l) (hK : Kp Hb h) (hl : l.length ≤ 65536) (ha : a ≤ l.length) (hx : ¬ markK x < 0) (hpb : Hb.next ≤ p) (hqb : Hb.next ≤ q) (hpn : p < h.next) (hqn : q < h.next) (npq : p ≠ q) (hq : h.get q = some (rdB s a false)) (hp : h.get p = some zC) (m : Nat) (hm : 1501 ≤ m) (τ : Tm) (T : SrT τ q p x) (t9 : τ 9 = .int .i64 (markK x)) :
    ∃ (fr : List AV) (H' : AH) (bs : List Nat), resM Try.prog resFr (evAt Try.prog (ev Try.prog m) m 39 511 τ h) = some (.tuple [.agg fr, .int .i64 (if fpC (fldP l a x) = 0 ∧ frOK (fldP l a x).K (fldP l a x).A (fldP l a x).B (fldP l a x).C (fldP l a x).f (fldP l a x).D.length (fldP l a x).T.length (fldP l a x).rs then ((fldP l a x).a : Int) else 0),
        .int .i64 (if fpC (fldP l a x) = 0 ∧ ¬ frOK (fldP l a x).K (fldP l a x).A (fldP l a x).B (fldP l a x).C (fldP l a x).f (fldP l a x).D.length (fldP l a x).T.length (fldP l a x).rs then 3 else fpC (fldP l a x))], H') ∧
      tT72.R true H' fr (if fpC (fldP l a x) = 0 ∧ frOK (fldP l a x).K (fldP l a x).A (fldP l a x).B (fldP l a x).C (fldP l a x).f (fldP l a x).D.length (fldP l a x).T.length (fldP l a x).rs then fpD (fldP l a x) else fpD fpZ) bs ∧ bs.Nodup ∧ (∀ b ∈ bs, h.next ≤ b) ∧ tT72.sz (if fpC (fldP l a x) = 0 ∧ frOK (fldP l a x).K (fldP l a x).A (fldP l a x).B (fldP l a x).C (fldP l a x).f (fldP l a x).D.length (fldP l a x).T.length (fldP l a x).rs then fpD (fldP l a x) else fpD fpZ) ≤ 200000 ∧
      h.next ≤ H'.next ∧ ∀ b, b < h.next → b ≠ p → b ≠ q → H'.get b = h.get b := by
  obtain ⟨t4, t7, t8⟩ := T
  obtain ⟨fr, H1, d, bs, e1, k1, hR, hnd, hlo, hd, lD, lT, lr, gq, le⟩ := fieldsS_ev (markK x) x (markK_ok hx) hs hb hK hqb hqn hq ha hl m hm
  generalize fldP l a x = P at *
  obtain ⟨K, A, B, C, f, D, T, rs, good, a', sh⟩ := P
  simp only at *
  subst hd
  obtain ⟨vx5, vx6, vx7, bx5, bx6, bx7, hcs, hbs, r5, r6, r7, iK, iA, iB, iC⟩ := o72 hR
  subst hcs
  have o5 := r5.sl_one; have o6 := r6.sl_one; have o7 := r7.sl_one
  have n1 := k1.next
  have c0 := (k1.get p hpn npq).trans hp
  have npq' : ¬ (q = p) := fun e => npq e.symm
  have nx1 : ¬ (p = H1.next) := by omega
  have nx2 : ¬ (H1.next = p) := by omega
  have nx3 : ¬ (q = H1.next) := by omega
  let A1 : AH := H1.push (.cells 72 false [.int .i64 K, .int .i64 A, .int .i64 B, .int .i64 C, .bool f, vx5, vx6, vx7])
  have kA : Kp H1 A1 := (Kp.refl H1).push _
  obtain ⟨H2, e2, k2⟩ := FrameOKS_ev (H := A1) (k := K) (a := A) (b := B) (c := C) (fin := f) r7 kA (tB_lenA r5) (tB_lenA r6) o5 o6 (by omega) (by omega) m (by omega)
  have n2 := k2.next
  simp [A1] at n2
  have hz : ∀ h : AH, tT72.R true h zF (fpD fpZ) [] := fun h => zero72
  have c2 : H2.get p = some zC := by rw [k2.get p (by simp [A1]; omega)]; simp [A1, nx1, c0]
  have gq2 : H2.get q = some (rdB s a' sh) := by rw [k2.get q (by simp [A1]; omega)]; simp [A1, nx3, gq]
  have gf2 : H2.get H1.next = some (.cells 72 false [.int .i64 K, .int .i64 A, .int .i64 B, .int .i64 C, .bool f, vx5, vx6, vx7]) := by rw [k2.get _ (by simp [A1])]; simp [A1]
  have hR2 : tT72.R true (H2.set p (.cells 72 false [.int .i64 K, .int .i64 A, .int .i64 B, .int .i64 C, .bool f, vx5, vx6, vx7])) [.int .i64 K, .int .i64 A, .int .i64 B, .int .i64 C, .bool f, vx5, vx6, vx7] (K, A, B, C, f, D, T, rs) bs :=
    ((hR.kp kA).kp k2).stay (by simp) fun b hb => AH.set_getN _ _ (by have := hlo b hb; omega)
  have rA : ∀ b, b < h.next → b ≠ p → b ≠ q → (A1.set p zC).get b = h.get b := fun b h0 h1 h2 => by
    rw [AH.set_getN _ _ h1]; simp only [A1]; rw [AH.push_get, if_neg (by omega)]; exact k1.get b h0 h2
  have rB : ∀ x b, b < h.next → b ≠ p → b ≠ q → (H2.set p x).get b = h.get b := fun x b h0 h1 h2 => by
    rw [AH.set_getN _ _ h1, k2.get b (by simp [A1]; omega)]; simp only [A1]; rw [AH.push_get, if_neg (by omega)]; exact k1.get b h0 h2
  simp only [A1, frC] at e2
  simp only [rdB] at gq gq2
  simp only [zC, frC] at c0 c2
  have hzs : ∀ (p : Prop) [Decidable p], (p → True = True) → tT72.sz (if p then fpD ⟨K, A, B, C, f, D, T, rs, good, a', sh⟩ else fpD fpZ) ≤ 200000 := by
    intro p _ _
    split
    · rw [sz72]; simp only [fpD]; omega
    · rw [sz72]; simp [fpD, fpZ]
  rw [at_M Try.func39 511 (by decide) 9 (by decide) (by kernel_rfl) []]
  cases sh with
  | true =>
    have hc : fpC ⟨K, A, B, C, f, D, T, rs, good, a', true⟩ = 2 := rfl
    rw [hc]
    refine ⟨zF, A1.set p zC, [], ?_, by simpa using hz _, by simp, by simp, hzs _ (fun _ => rfl), by simp [A1]; omega, rA⟩
    simp [Try.f39, t4, t7, t8, t9, e1, gq, c0, nx1, nx2, nx3, ldVar, stVar, spl, o5, o6, o7, A1, zC, zF, frC]
  | false =>
    cases good with
    | false =>
      have hc : fpC ⟨K, A, B, C, f, D, T, rs, false, a', false⟩ = 3 := rfl
      rw [hc]
      refine ⟨zF, A1.set p zC, [], ?_, by simpa using hz _, by simp, by simp, hzs _ (fun _ => rfl), by simp [A1]; omega, rA⟩
      simp [Try.f39, t4, t7, t8, t9, e1, gq, c0, nx1, nx2, nx3, ldVar, stVar, spl, o5, o6, o7, A1, zC, zF, frC]
    | true =>
      have hc : fpC ⟨K, A, B, C, f, D, T, rs, true, a', false⟩ = 0 := rfl
      rw [hc]
      by_cases hok : frOK K A B C f D.length T.length rs
      · simp only [hok, decide_true] at e2
        refine ⟨[.int .i64 K, .int .i64 A, .int .i64 B, .int .i64 C, .bool f, vx5, vx6, vx7], _, bs, ?_, by simpa [hok, fpD] using hR2, hnd, hlo, hzs _ (fun _ => rfl), by simp; omega, rB _⟩
        simp [Try.f39, t4, t7, t8, t9, e1, e2, gq, gq2, gf2, c0, c2, nx1, nx2, nx3, ldVar, stVar, spl, o5, o6, o7, hok, npq', evHist, ObsOk, ObOk, List.getElem?_cons_zero]
      · simp only [hok, decide_false] at e2
        refine ⟨zF, H2.set p zC, [], ?_, by simpa [hok] using hz _, by simp, by simp, hzs _ (fun _ => rfl), by simp; omega, rB _⟩
        simp [Try.f39, t4, t7, t8, t9, e1, e2, gq, gq2, gf2, c0, c2, nx1, nx2, nx3, ldVar, stVar, spl, o5, o6, o7, hok, zC, zF, frC]
theorem readS_ev {Hb H : AH} {s : AV} {l : List Int} {x : Int} (hs : Bs Hb s l) (hb : By l) (hK : Kp Hb H) (m : Nat) (hm : 1503 ≤ m) :
    ∃ (fr : List AV) (H' : AH) (bs : List Nat), ev Try.prog m 39 [s, .int .i64 x] H = some (.tuple [.agg fr, .int .i64 (rfP l x).2.1, .int .i64 (rfP l x).2.2], H') ∧ Kp H H' ∧ tT72.R true H' fr (fpD (rfP l x).1) bs ∧ bs.Nodup ∧ (∀ b ∈ bs, H.next ≤ b) ∧ tT72.sz (fpD (rfP l x).1) ≤ 200000 := by
  obtain ⟨m, rfl⟩ : ∃ k, m = k + 1 := ⟨m - 1, by omega⟩
  have hL := hs.len
  have hz : ∀ h : AH, tT72.R true h zF (fpD fpZ) [] := fun h => zero72
  have hzz : tT72.sz (fpD fpZ) ≤ 200000 := by rw [sz72]; simp [fpD, fpZ]
  by_cases c1 : 65536 < l.length
  · have c1' : 65536 < (l.length : Int) := by omega
    refine ⟨zF, H.push zC, [], ?_, (Kp.refl H).push _, by rw [rfP, if_pos c1]; exact hz _, by simp, by simp, by rw [rfP, if_pos c1]; exact hzz⟩
    rw [rfP, if_pos c1]
    rw [ev_M Try.func39 ok39 [] m _ H (by simp [Try.f39])]
    simp [Try.f39, tm0, hL, c1', ldVar, stVar, spl, frC, zF, zC]
  · have c1' : (65536 < (l.length : Int)) = False := eq_false (by omega)
    by_cases c2 : x < 0 ∨ (l.length : Int) < x
    · refine ⟨zF, H.push zC, [], ?_, (Kp.refl H).push _, by rw [rfP, if_neg c1, if_pos c2]; exact hz _, by simp, by simp, by rw [rfP, if_neg c1, if_pos c2]; exact hzz⟩
      rw [rfP, if_neg c1, if_pos c2]
      rw [ev_M Try.func39 ok39 [] m _ H (by simp [Try.f39])]
      by_cases c3 : x < 0
      · simp [Try.f39, tm0, c1', c3, hL, ldVar, stVar, spl, frC, zF, zC]
      · have c4 : (l.length : Int) < x := by omega
        simp [Try.f39, tm0, c1', c3, c4, hL, ldVar, stVar, spl, frC, zF, zC]
    · obtain ⟨a, rfl⟩ := Int.eq_ofNat_of_zero_le (by omega : 0 ≤ x)
      have ha : a ≤ l.length := by omega
      have hKn := hK.next
      obtain ⟨τ0, H0, e0, T0, g0, gq, l0, k0, n0⟩ := sr0 hs hb hK c1 ha m (by omega)
      have hv : 0 ≤ valP (takeS l a false 1).1 := valP_nn (takeS_by hb _ _ _)
      have hv2 : valP (takeS l a false 1).1 < 256 := by
        have h1 := valP_lt _ (takeS_by hb a false 1)
        have h2 := (takeS_len l a false 1).1
        have : (takeS l a false 1).1.length = 0 ∨ (takeS l a false 1).1.length = 1 := by omega
        rcases this with h | h <;> rw [h] at h1 <;> simp at h1 <;> omega
      obtain ⟨f1, f2, f3⟩ := sr1 hv hv2 (by omega) (by omega) (by omega) gq g0 m (by omega) τ0 T0
      rw [rfP, if_neg c1, if_neg c2]
      simp only [Int.toNat_natCast]
      unfold frP
      generalize takeS l a false 1 = o at *
      obtain ⟨o1, a1, sh⟩ := o
      simp only at *
      cases sh with
      | true =>
        have e1 := f1 rfl
        rw [if_pos rfl]
        exact ⟨zF, H0.set H.next zC, [], by rw [e0, e1]; rfl, ⟨by simp; omega, fun b hb => by rw [AH.set_getN _ _ (by omega)]; exact k0.get b hb⟩, hz _, by simp, by simp, hzz⟩
      | false =>
        simp only [Bool.false_eq_true, if_false]
        by_cases hm0 : markK (valP o1) < 0
        · obtain ⟨H1, e1, n1, r1⟩ := f2 rfl hm0
          obtain ⟨p1, p2⟩ := fldP_no (l := l) (a := a1) hm0
          have hc : fpC (fldP l a1 (valP o1)) = 3 := by simp [fpC, p1, p2]
          simp only [hc]
          exact ⟨zF, H1, [], by rw [e0, e1]; simp, ⟨by omega, fun b hb => by rw [r1 b (by omega) (by omega)]; exact k0.get b hb⟩, by simpa using hz _, by simp, by simp, by simpa using hzz⟩
        · obtain ⟨τ1, H1, e1, T1, t9, k1⟩ := f3 rfl hm0
          have n1 := k1.next
          obtain ⟨fr, H2, bs, e2, hR, hnd, hlo, hsz, n2, r2⟩ := sr2 hs hb ((hK.trans k0).trans k1) (by omega) l0 hm0 (by omega) (by omega) (by omega) (by omega) (by omega) ((k1.get _ (by omega)).trans gq) ((k1.get _ (by omega)).trans g0) m (by omega) τ1 T1 t9
          generalize fldP l a1 (valP o1) = P at *
          have kp : Kp H H2 := ⟨by omega, fun b hb => by rw [r2 b (by omega) (by omega) (by omega), k1.get b (by omega)]; exact k0.get b hb⟩
          refine ⟨fr, H2, bs, ?_, kp, ?_, hnd, fun b hb => by have := hlo b hb; omega, ?_⟩
          · rw [e0, e1, e2]
            by_cases h0 : fpC P = 0 <;> by_cases h1 : frOK P.K P.A P.B P.C P.f P.D.length P.T.length P.rs <;> simp [h0, h1]
          · by_cases h0 : fpC P = 0 <;> by_cases h1 : frOK P.K P.A P.B P.C P.f P.D.length P.T.length P.rs <;> simpa [h0, h1] using hR
          · by_cases h0 : fpC P = 0 <;> by_cases h1 : frOK P.K P.A P.B P.C P.f P.D.length P.T.length P.rs <;> simpa [h0, h1] using hsz
end Go.Ev

/- From what came in to the evaluator: a call's arguments. -/
namespace Go.Ev
open Go Go.RowKit
set_option linter.unusedSimpArgs false
set_option linter.unusedVariables false

section
variable {P : Program} {w : World} {Hd : Type} {enc : TypeId × Value → Hd} {held : Bool} {r : Reach} {base : Nat}

def HE : AH := { get := fun _ => none, next := 0 }
theorem rel_empty (P : Program) (w : World) : Rel P w HE (fun _ => none) w :=
  ⟨Below.refl _ _, fun _ _ => rfl, fun b x h => by simp [HE] at h, fun b x h => by simp [HE] at h, fun b x h => by simp [HE] at h⟩

/-- an argument: its abstract value, in the memory that its rows lie in -/
def ArgRes (P : Program) (w : World) (t : Ty) (v : Value) (H : AH) (μ : Mu) : Prop :=
  ∃ H' μ' a c d bs, Ext μ μ' ∧ Rel P w H' μ' w ∧ Kp H H' ∧ VR μ' a v ∧ t.R false H' c d bs ∧ t.sm d ∧ (a = .agg c ∨ c = [a])

theorem arg1 {T : TypeId} {t : Ty} {v : Value} {d : DataW Hd} {p : List MemPlace} {H : AH} {μ : Mu} (hf : Fits P T t) (h : DataW.Trod enc P w 0 (fun _ => true) held T v d p) (hR : Rel P w H μ w) (hv : v.cells.toList = [v]) :
    ∃ H' μ' a d bs, Ext μ μ' ∧ Rel P w H' μ' w ∧ Kp H H' ∧ VR μ' a v ∧ t.R false H' [a] d bs ∧ t.sm d := by
  obtain ⟨fuel, hf'⟩ := h
  rw [hv] at hf'
  obtain ⟨H', μ', c, d, bs, e, r1, k, hV, hr, hs⟩ := in_ty fuel hf hf' hR
  match c, hV with
  | [], hV => simp [VRs] at hV
  | [a], hV =>
    simp only [VRs] at hV
    obtain ⟨u, us, hu, hV, _⟩ := hV
    simp only [List.cons.injEq] at hu
    obtain ⟨rfl, _⟩ := hu
    exact ⟨H', μ', a, d, bs, e, r1, k, hV, hr, hs⟩
  | a :: b :: c, hV =>
    simp only [VRs] at hV
    obtain ⟨u, us, hu, hV, u2, us2, hu2, _⟩ := hV
    simp only [List.cons.injEq] at hu
    rw [hu2] at hu; simp at hu
theorem argSl {T e : TypeId} {t : Ty} {v : Value} {d : DataW Hd} {p : List MemPlace} {H : AH} {μ : Mu} (hf : Fits P T t) (hT : P.underlying T = some (.slice e)) (hval : Value.okWide P w r base T v) (h : DataW.Trod enc P w 0 (fun _ => true) held T v d p) (hR : Rel P w H μ w) :
    ∃ H' μ' a d bs, Ext μ μ' ∧ Rel P w H' μ' w ∧ Kp H H' ∧ VR μ' a v ∧ t.R false H' [a] d bs ∧ t.sm d := by
  obtain ⟨a, l, c, rfl⟩ := Go.WideShapes.okWide_slice hT hval
  exact arg1 hf h hR rfl
theorem argInt {T : TypeId} {k : IntKind} {t : Ty} {v : Value} {d : DataW Hd} {p : List MemPlace} {H : AH} {μ : Mu} (hf : Fits P T t) (hT : P.underlying T = some (.int k)) (hval : Value.okWide P w r base T v) (h : DataW.Trod enc P w 0 (fun _ => true) held T v d p) (hR : Rel P w H μ w) :
    ∃ H' μ' a d bs, Ext μ μ' ∧ Rel P w H' μ' w ∧ Kp H H' ∧ VR μ' a v ∧ t.R false H' [a] d bs ∧ t.sm d := by
  obtain ⟨n, rfl⟩ := Go.WideShapes.okWide_int hT hval
  exact arg1 hf h hR rfl
theorem argBool {T : TypeId} {t : Ty} {v : Value} {d : DataW Hd} {p : List MemPlace} {H : AH} {μ : Mu} (hf : Fits P T t) (hT : P.underlying T = some .bool) (hval : Value.okWide P w r base T v) (h : DataW.Trod enc P w 0 (fun _ => true) held T v d p) (hR : Rel P w H μ w) :
    ∃ H' μ' a d bs, Ext μ μ' ∧ Rel P w H' μ' w ∧ Kp H H' ∧ VR μ' a v ∧ t.R false H' [a] d bs ∧ t.sm d := by
  obtain ⟨n, rfl⟩ := Go.WideShapes.okWide_bool hT hval
  exact arg1 hf h hR rfl
theorem argStr {T : TypeId} {t : Ty} {v : Value} {d : DataW Hd} {p : List MemPlace} {H : AH} {μ : Mu} (hf : Fits P T t) (hT : P.underlying T = some .string) (hval : Value.okWide P w r base T v) (h : DataW.Trod enc P w 0 (fun _ => true) held T v d p) (hR : Rel P w H μ w) :
    ∃ H' μ' a d bs, Ext μ μ' ∧ Rel P w H' μ' w ∧ Kp H H' ∧ VR μ' a v ∧ t.R false H' [a] d bs ∧ t.sm d := by
  obtain ⟨n, rfl⟩ := Go.WideShapes.okWide_string hT hval
  exact arg1 hf h hR rfl
/-- a struct by value -/
theorem argAgg {T : TypeId} {fs : Array Field} {t : Ty} {v : Value} {d : DataW Hd} {p : List MemPlace} {H : AH} {μ : Mu} (hf : Fits P T t) (hT : P.underlying T = some (.struct fs)) (hval : Value.okWide P w r base T v) (h : DataW.Trod enc P w 0 (fun _ => true) held T v d p) (hR : Rel P w H μ w) :
    ∃ H' μ' c d bs, Ext μ μ' ∧ Rel P w H' μ' w ∧ Kp H H' ∧ VR μ' (.agg c) v ∧ t.R false H' c d bs ∧ t.sm d := by
  obtain ⟨cs, rfl, _⟩ := Go.WideShapes.okWide_struct hT hval
  obtain ⟨fuel, hf'⟩ := h
  obtain ⟨H', μ', c, d, bs, e, r1, k, hV, hr, hs⟩ := in_ty fuel hf hf' hR
  exact ⟨H', μ', c, d, bs, e, r1, k, by simp only [VR]; exact ⟨cs, rfl, hV⟩, hr, hs⟩

theorem law_run2 (hm : P.follows .mixedOrders = true) {H : AH} {μ : Mu} {n : Nat} {f : FuncId} {args : List AV} {vs : Array Value} {H' : AH} (hR : Rel P w H μ w)
    (h : ev P n f args H = some (.bool true, H')) (hv : VRs μ args vs.toList) :
    Calls P f vs w fun e w' => e = .returned (.bool true) ∧ Below w.heap.size w w' := by
  refine (ev_sound hm n f args H (.bool true) H' μ w vs h hR hv).2.mono ?_
  rintro e w' ⟨v, μ', rfl, hx, hR, hv⟩
  simp only [VR] at hv
  subst hv
  exact ⟨rfl, hR.below⟩
end
end Go.Ev

/- The law FnExactReadFrame by the evaluator. -/
namespace Go.Ev
open Go Go.Proofs
set_option linter.unusedSimpArgs false
set_option linter.unusedVariables false

theorem lawRF {H : AH} {s s1 : AV} {l : List Int} {x : Int} {b0 b1 : List Nat} (hd : (Ty.sl 5 (.int .u8)).R false H [s] l b0) (h1 : (Ty.int .i64).R false H [s1] x b1) (hs : (Ty.sl 5 (.int .u8)).sm l) (_ : (Ty.int .i64).sm x) (m : Nat) (hm : 2000000 ≤ m) :
    ∃ H', ev Try.prog m 8 [s, s1] H = some (.bool true, H') := by
  obtain ⟨m, rfl⟩ : ∃ k, m = k + 1 := ⟨m - 1, by omega⟩
  obtain rfl : s1 = .int .i64 x := by obtain ⟨h, _⟩ := h1; simpa using h
  obtain ⟨hbs, hby⟩ := tB_bs hd
  have hL := hbs.len
  by_cases hl : 1048576 < l.length
  · have hl' : 1048576 < (l.length : Int) := by omega
    rw [ev_M Try.func8 ok8 [] m _ H (by simp [Try.f8])]
    exact ⟨H, by simp [Try.f8, tm0, hL, hl']⟩
  · have hl' : (1048576 < (l.length : Int)) = False := eq_false (by omega)
    have hb : (Ty.sl 5 (Ty.int .u8)).bd 1048576 l := ⟨by omega, fun _ _ => trivial⟩
    have hcx : (Ty.sl 5 (Ty.int .u8)).cnt true l ≤ 1073741824 := Ty.cnt_bound (A := 1048576) (by
      have := cntL0 (Ty.int .u8).sz (fun _ => rfl) l
      simp only [Ty.sz] at *; omega) (by simp [Ty.w])
    obtain ⟨r1, H1, bb1, a1, a2, a3, a4, a5⟩ := toByteS_h hd (Kp.refl H) hb m (by omega)
    obtain ⟨w, H2, bw, c1, c2, c3, c4, c5, csz⟩ := readS_ev (x := x) (tB_bs a3).1 hby (Kp.refl H1) m (by omega)
    obtain ⟨w5, w6, w7, _, _, _, hw, _, wr5, wr6, wr7, _, _, _, _⟩ := o72 c3
    have wo5 := wr5.sl_one; have wo6 := wr6.sl_one; have wo7 := wr7.sl_one
    clear wr5 wr6 wr7
    obtain ⟨A2, hA2⟩ : ∃ A : AH, A = H2.push (.cells 72 false w) := ⟨_, rfl⟩
    have kA2 : Kp H2 A2 := by rw [hA2]; exact (Kp.refl H2).push _
    have K2 : Kp H A2 := (a2.trans c2).trans kA2
    obtain ⟨x0, H3, bx, d1, d2, d3, d4, d5⟩ := toByteS_h hd K2 hb m (by omega)
    obtain ⟨g, H4, bg, e1, e2, e3, e4, e5⟩ := readI_ev (x := x) (tB_bs d3).1 hby (Kp.refl H3) m (by omega)
    obtain ⟨g5, g6, g7, _, _, _, hg, _, gr5, gr6, gr7, _, _, _, _⟩ := o72 e3
    have go5 := gr5.sl_one; have go6 := gr6.sl_one; have go7 := gr7.sl_one
    clear gr5 gr6 gr7
    generalize hRR : rfP l x = R at *
    obtain ⟨P, at_, cd_⟩ := R
    simp only at c1 c3 csz e1 e3 hw hg
    have hbF : tT72.bd 1048576 (fpD P) := Ty.sz_bd (by omega)
    have hcF : tT72.cnt false (fpD P) ≤ 1073741824 := Ty.cnt_bound csz (by simp [Ty.w])
    obtain ⟨A4, hA4⟩ : ∃ A : AH, A = H4.push (.cells 72 false g) := ⟨_, rfl⟩
    have kA4 : Kp H4 A4 := by rw [hA4]; exact (Kp.refl H4).push _
    have K4 : Kp A2 A4 := (d2.trans e2).trans kA4
    have n1 := a2.next; have n2 := c2.next; have n3 := d2.next; have n4 := e2.next
    have nA2 : A2.next = H2.next + 1 := by simp [hA2]
    have nA4 : A4.next = H4.next + 1 := by simp [hA4]
    obtain ⟨H5, f1, f2⟩ := eqFrame_h (e3.kp kA4) (c3.kp (kA2.trans K4)) (Kp.refl A4) hbF m (by omega)
    have K5 := (K2.trans K4).trans f2
    obtain ⟨x1, H6, b7, g1, g2, g3, g4, _⟩ := toByteS_h hd K5 hb m (by omega)
    obtain ⟨H7, i1, i2⟩ := eqByteS_h (d3.kp (((e2.trans kA4).trans f2).trans g2)) g3 (Kp.refl H6) hb m (by omega)
    have K37 : Kp H3 H7 := ((((e2.trans kA4).trans f2).trans g2).trans i2)
    have K47 : Kp A4 H7 := (f2.trans g2).trans i2
    obtain ⟨H8, j1, j2, _⟩ := markByteS_h (d3.kp K37) d4 hb (k0 := 1) (by omega) (by omega) m (by omega)
    have n5 := K47.next
    have hbx : ∀ b ∈ bx, A2.next ≤ b ∧ b < H3.next := fun b hb => ⟨d5 b hb, d3.mem b hb⟩
    have hbg : ∀ b ∈ bg, H3.next ≤ b ∧ b < H4.next := fun b hb => ⟨e5 b hb, e3.mem b hb⟩
    have w8 := (c3.kp (kA2.trans (K4.trans K47))).koL j2 fun b hb hx => by have := c3.mem b hb; have := hbx b hx; omega
    have r8 := (e3.kp (kA4.trans K47)).koL j2 fun b hb hx => by have := hbx b hx; have := hbg b hb; omega
    obtain ⟨H9, k1, k2⟩ := eqFrame_h r8 w8 (Kp.refl H8) hbF m (by omega)
    have K8 : Kp A2 H8 := j2.kp (K4.trans K47) fun b hb => (hbx b hb).1
    have K48 : Kp H3 H8 ∨ True := .inr trivial
    obtain ⟨H10, l1, l2, l3⟩ := markFrame_h (r8.kp k2) e4 (Kp.refl H9) hbF (k0 := 1) (by omega) (by omega) m (by omega)
    obtain ⟨H11, o1, o2⟩ := heldFrame_h l3 (Kp.refl H10) hbF (by omega) (by omega) m (by omega)
    have K9 := K8.trans k2
    have n8 := K8.next; have n9 := k2.next
    have nn8 := j2.next; have nn10 := l2.next
    have K10 : Kp A2 H10 := l2.kp K9 fun b hb => by have := hbg b hb; omega
    have K11 := K10.trans o2
    have n11 := o2.next
    obtain ⟨x2, H12, b12, p1, p2, p3, p4, _⟩ := toByteS_h hd (K2.trans K11) hb m (by omega)
    obtain ⟨h0, H13, b13, q1, q2, q3, q4, _⟩ := readI_ev (x := x) (tB_bs p3).1 hby (Kp.refl H12) m (by omega)
    obtain ⟨v5, v6, v7, _, _, _, hv, _, vr5, vr6, vr7, _, _, _, _⟩ := o72 q3
    have vo5 := vr5.sl_one; have vo6 := vr6.sl_one; have vo7 := vr7.sl_one
    clear vr5 vr6 vr7
    rw [hRR] at q1 q3 hv
    simp only at q1 q3 hv
    obtain ⟨A13, hA13⟩ : ∃ A : AH, A = H13.push (.cells 72 false h0) := ⟨_, rfl⟩
    have kA13 : Kp H13 A13 := by rw [hA13]; exact (Kp.refl H13).push _
    have n12 := p2.next; have n13 := q2.next
    have w11 := ((w8.kp k2).koS l2 fun b hb hx => by have := c3.mem b hb; have := hbg b hx; omega).kp o2
    obtain ⟨H14, t1, t2⟩ := eqFrame_h (q3.kp kA13) (w11.kp ((p2.trans q2).trans kA13)) (Kp.refl A13) hbF m (by omega)
    have K1114 := ((p2.trans q2).trans kA13).trans t2
    obtain ⟨H15, u1, u2⟩ := heldFrame_h (l3.kp (o2.trans K1114)) (Kp.refl H14) hbF (by omega) (by omega) m (by omega)
    -- the frames' blocks
    have cw2 : A2.get H2.next = some (.cells 72 false w) := by simp [hA2]
    have cg4 : A4.get H4.next = some (.cells 72 false g) := by simp [hA4]
    have cw4 := (K4.get H2.next (by omega)).trans cw2
    have cw4' := ((d2.trans e2).get H2.next (by omega)).trans cw2
    have nw4 : ¬ (H2.next = H4.next) := by omega
    have nw13 : ¬ (H2.next = H13.next) := by omega
    have nw4' : ¬ (H4.next = H2.next) := by omega
    have cw8 := (K8.get H2.next (by omega)).trans cw2
    have cg7 := (K47.get H4.next (by omega)).trans cg4
    have cg8 : H8.get H4.next = some (.cells 72 false g) := by
      rw [j2.get _ (by omega) (fun h => by have := hbx _ h; omega)]; exact cg7
    have cg9 := (k2.get H4.next (by omega)).trans cg8
    have cg10 : H10.get H4.next = some (.cells 72 false g) := by
      rw [l2.get _ (by omega) (fun h => by have := hbg _ h; omega)]; exact cg9
    have cg11 := (o2.get H4.next (by omega)).trans cg10
    have cg14 := (K1114.get H4.next (by omega)).trans cg11
    have cw11 := (K11.get H2.next (by omega)).trans cw2
    have cw13' := ((p2.trans q2).get H2.next (by omega)).trans cw11
    have cw13 := (((p2.trans q2).trans kA13).get H2.next (by omega)).trans cw11
    have cv13 : A13.get H13.next = some (.cells 72 false h0) := by simp [hA13]
    generalize hN1 : (Ty.sl 5 (Ty.int .u8)).cnt true l = N1 at *
    generalize hN2 : tT72.cnt false (fpD P) = N2 at *
    have y1 : ¬ (1 + (N1 : Int) < (0 : Int)) := by omega
    have y2 : ¬ (1 + (N2 : Int) < (0 : Int)) := by omega
    subst hw hg hv
    subst hA2 hA4 hA13
    refine ⟨H15, ?_⟩
    rw [ev_M Try.func8 ok8 [] m _ H (by simp [Try.f8])]
    simp [Try.f8, tm0, hL, hl', a1, c1, d1, e1, f1, g1, i1, j1, k1, l1, o1, p1, q1, t1, u1, y1, y2, cw4', nw4, nw13, nw4', cw13', cw8, cg8, cg9, cg10, cg14, wo5, wo6, wo7, go5, go6, go7, vo5, vo6, vo7, ldVar, stVar, spl, evHist, ObsOk, ObOk, List.getElem?_cons_zero]
end Go.Ev
