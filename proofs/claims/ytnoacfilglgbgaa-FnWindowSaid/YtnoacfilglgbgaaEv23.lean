/- Lemmas of an evaluator of the given code and of what the functions answer; no condition of its own. -/
import Derived.Test.YtnoacfilglgbgaaEv21
import Derived.Test.YtnoacfilglgbgaaEv22
/- The drawn congestion run: how it lies in the memory. -/
namespace Go.Ev
open Go Go.Proofs
set_option linter.unusedSimpArgs false
set_option linter.unusedVariables false

theorem SrcI.ko {H H' : AH} {q : Nat} {v : AV} {S : Src} {bs : List Nat} (h : SrcI H q v S bs) (hn : H.next ≤ H'.next) (hq : H'.get q = H.get q) (hb : ∀ b ∈ bs, H'.get b = H.get b) : SrcI H' q v S bs :=
  ⟨hq.trans h.get, by have := h.lt; omega, h.nin, h.row.stay hn hb, h.pos, h.mix, h.len⟩
theorem SrcI.push {H : AH} {q : Nat} {v : AV} {S : Src} {bs : List Nat} (h : SrcI H q v S bs) (x : Blk) : SrcI (H.push x) q v S bs :=
  have hK : Kp H (H.push x) := (Kp.refl H).push x
  h.ko hK.next (hK.get q h.lt) fun b hb => hK.get b (h.row.mem b hb)
theorem SrcI.set_ne {H : AH} {q p : Nat} {v : AV} {S : Src} {bs : List Nat} (h : SrcI H q v S bs) (x : Blk) (hp : p ≠ q) (hb : p ∉ bs) : SrcI (H.set p x) q v S bs :=
  h.ko (Nat.le_refl _) (AH.set_getN _ _ (Ne.symm hp)) fun b hb' => AH.set_getN _ _ (fun e => hb (by rw [← e]; exact hb'))
theorem SrcI.resv {H : AH} {q : Nat} {v : AV} {S : Src} {bs : List Nat} (h : SrcI H q v S bs) (n : Nat) : SrcI (H.res n) q v S bs :=
  h.ko (by simp) (by simp; intro h1 h2; have := h.lt; omega) fun b hb => by simp; intro h1 h2; have := h.row.mem b hb; omega
theorem nextP_p {n : Int} {S : Src} {k : Nat} (h : S.pos ≤ k) : (nextP n S).2.pos ≤ k + 3 := by have := (nextP_pos (n := n) (S := S)).1; omega

/-- what the drawing loop holds; ps: more blocks of its own -/
structure DrR (H h : AH) (q : Nat) (ps : List Nat) (v : AV) (bs : List Nat) (x : DrS) (outs : List tT40.D) (v6 v8 v9 : AV) (b6 b8 b9 : List Nat) : Prop where
  src : SrcI h q v x.S bs
  bs : ∀ b ∈ bs, b < H.next
  ops : (Ty.sl 40 tT40).R true h [v6] outs b6
  fl : OwnI h v8 x.fl b8
  tm : OwnI h v9 x.tm b9
  nd : (ps ++ q :: (b6 ++ (b8 ++ b9))).Nodup
  lo : ∀ b ∈ ps ++ q :: (b6 ++ (b8 ++ b9)), H.next ≤ b
  pl : ∀ b ∈ ps, b < h.next
  kp : Kp H h
/-- it stays where nothing but q and ps turned -/
theorem DrR.stay {H h h' : AH} {q : Nat} {ps : List Nat} {v : AV} {bs : List Nat} {x : DrS} {outs : List tT40.D} {v6 v8 v9 : AV} {b6 b8 b9 : List Nat} (r : DrR H h q ps v bs x outs v6 v8 v9 b6 b8 b9)
    (hK : KoS (ps ++ [q]) h h') {S : Src} (hs : SrcI h' q v S bs) : DrR H h' q ps v bs { x with S := S } outs v6 v8 v9 b6 b8 b9 := by
  have hnd := r.nd
  simp only [List.nodup_append, List.nodup_cons, List.mem_append, List.mem_cons] at hnd
  have hn := hK.next
  refine ⟨hs, r.bs, r.ops.koS hK ?_, r.fl.koS hK ?_, r.tm.koS hK ?_, r.nd, r.lo, fun b hb => by have := r.pl b hb; omega, ?_⟩
  · intro b hb; simp only [List.mem_append, List.mem_singleton]; grind
  · intro b hb; simp only [List.mem_append, List.mem_singleton]; grind
  · intro b hb; simp only [List.mem_append, List.mem_singleton]; grind
  · refine ⟨by have := r.kp.next; omega, fun b hb => ?_⟩
    have hl := r.lo
    rw [hK.get b (by have := r.kp.next; omega) (fun e => ?_), r.kp.get b hb]
    have := hl b (by simp only [List.mem_append, List.mem_singleton, List.mem_cons] at e ⊢; grind)
    omega
/-- one block more -/
theorem DrR.more {H h : AH} {q : Nat} {v : AV} {bs : List Nat} {x : DrS} {outs : List tT40.D} {v6 v8 v9 : AV} {b6 b8 b9 : List Nat} (r : DrR H h q [] v bs x outs v6 v8 v9 b6 b8 b9) (p : Nat) {h' : AH}
    (hp : h.next ≤ p) (hp' : p < h'.next) (hK : KoS [q] h h') {S : Src} (hs : SrcI h' q v S bs) : DrR H h' q [p] v bs { x with S := S } outs v6 v8 v9 b6 b8 b9 := by
  have r1 := r.stay (ps := []) (by simpa using hK) hs
  have m6 := r.ops.mem
  have m8 := r.fl.mem
  have m9 := r.tm.mem
  have mq := r.src.lt
  have hn := r.kp.next
  refine ⟨r1.src, r1.bs, r1.ops, r1.fl, r1.tm, ?_, ?_, by simpa using hp', r1.kp⟩
  · have := r.nd
    simp only [List.nil_append] at this
    simp only [List.cons_append, List.nil_append, List.nodup_cons]
    refine ⟨?_, by simpa using this⟩
    simp only [List.mem_append, List.mem_cons]; grind
  · intro b hb
    rcases List.mem_append.1 hb with hb | hb
    · rw [List.mem_singleton] at hb; omega
    · exact r.lo b (by simpa using hb)
theorem DrR.less {H h : AH} {q p : Nat} {v : AV} {bs : List Nat} {x : DrS} {outs : List tT40.D} {v6 v8 v9 : AV} {b6 b8 b9 : List Nat} (r : DrR H h q [p] v bs x outs v6 v8 v9 b6 b8 b9) : DrR H h q [] v bs x outs v6 v8 v9 b6 b8 b9 :=
  ⟨r.src, r.bs, r.ops, r.fl, r.tm, by have := r.nd; simp only [List.cons_append, List.nil_append, List.nodup_cons] at this ⊢; exact this.2, fun b hb => r.lo b (by simp only [List.mem_append, List.mem_cons] at hb ⊢; simp_all), by simp, r.kp⟩
/-- a draw -/
theorem draw {h : AH} {q : Nat} {v : AV} {S : Src} {bs : List Nat} {K : Nat} (h0 : SrcI h q v S bs) (hp : S.pos ≤ K) (hK : K ≤ 1000000) (n : Int) (hn1 : 1 ≤ n) (hn : n ≤ 1000000) (m : Nat) (hm : 2 ≤ m) :
    ∃ (k : Nat) (S' : Src), nextP n S = ((k : Int), S') ∧ (k : Int) < n ∧ S'.pos ≤ K + 3 ∧ ev Try.prog m 100 [.ptr q 0, .int .i64 n] h = some (.int .i64 k, h.set q (.cells 259 false (srcC v S'))) ∧
      SrcI (h.set q (.cells 259 false (srcC v S'))) q v S' bs := by
  have e1 := next_ev h0 (n := n) (by omega) (by omega) m (by omega)
  have h1 := h0.next (by omega) n
  have p1 := nextP_p (n := n) hp
  have i1 := nextP_in h0 (by omega) n
  generalize nextP n S = r at *
  obtain ⟨a, S'⟩ := r
  simp only at *
  obtain ⟨k, rfl⟩ : ∃ k : Nat, a = k := ⟨a.toNat, by omega⟩
  unfold mxI at i1
  exact ⟨k, S', rfl, by split at i1 <;> omega, p1, e1, h1⟩
/-- the slots of the drawing loop -/
structure DrT (τ : Tm) (q : Nat) (kind trip i now : Int) (v6 v8 v9 : AV) : Prop where
  t4 : τ 4 = .ptr q 0
  t5 : τ 5 = .int .i64 kind
  t6 : τ 6 = v6
  t7 : τ 7 = .int .i64 now
  t8 : τ 8 = v8
  t9 : τ 9 = v9
  t10 : τ 10 = .int .i64 trip
  t11 : τ 11 = .int .i64 i
end Go.Ev

/- The drawn congestion run: a round's parts. -/
namespace Go.Ev
open Go Go.Proofs
set_option linter.unusedSimpArgs false
set_option linter.unusedVariables false

theorem koS_q1 {h : AH} {q : Nat} (x y z : Blk) : KoS [q] h (((h.set q x).push y).set q z) :=
  ⟨by simp, fun b hb hn => by
    have hbq : b ≠ q := by simpa using hn
    rw [AH.set_getN _ _ hbq, AH.push_get, if_neg (by simp; omega), AH.set_getN _ _ hbq]⟩
/-- the time -/
theorem dw0 {H h : AH} {q : Nat} {v : AV} {bs : List Nat} {S : Src} (h0 : SrcI h q v S bs) {K : Nat} (hp : S.pos ≤ K) (hK : K ≤ 900000) {now : Int}
    (hnow : 0 ≤ now ∧ now ≤ 1000000000) {kind trip i : Int} {v6 v8 v9 : AV} (m : Nat) (hm : 10 ≤ m) (τ : Tm) (hτ : DrT τ q kind trip i now v6 v8 v9) :
    ∃ (τ' : Tm) (h' : AH) (B : Int) (S3 : Src), evAt Try.prog (ev Try.prog m) m 24 130980 τ h = evAt Try.prog (ev Try.prog m) m 24 261961 τ' h' ∧
      (nextP 3 (nextP 40000 (nextP 2000 S).2).2).2 = S3 ∧ B = now + lkP [0, (nextP 2000 S).1, (nextP 40000 (nextP 2000 S).2).1] (nextP 3 (nextP 40000 (nextP 2000 S).2).2).1 ∧ now ≤ B ∧ B ≤ now + 40000 ∧
      DrT τ' q kind trip i B v6 v8 v9 ∧ SrcI h' q v S3 bs ∧ KoS [q] h h' ∧ S3.pos ≤ K + 9 := by
  obtain ⟨t4, t5, t6, t7, t8, t9, t10, t11⟩ := hτ
  have hq := h0.lt
  obtain ⟨a, S1, d1, a1, p1, e1, h1⟩ := draw h0 hp (by omega) 2000 (by omega) (by omega) m (by omega)
  obtain ⟨b, S2, d2, a2, p2, e2, h2⟩ := draw h1 p1 (by omega) 40000 (by omega) (by omega) m (by omega)
  rw [set_set] at e2 h2
  obtain ⟨c, S3, d3, a3, p3, e3, h3⟩ := draw (h2.push (.cells 3 false [.int .i64 0, .int .i64 a, .int .i64 b])) p2 (by omega) 3 (by omega) (by omega) m (by omega)
  have g1 := lk_get (l := [0, (a : Int), (b : Int)]) (k := c) (by simp; omega)
  have b1 : 0 ≤ lkP [0, (a : Int), (b : Int)] c ∧ lkP [0, (a : Int), (b : Int)] c ≤ 40000 := by
    obtain rfl | rfl | rfl : c = 0 ∨ c = 1 ∨ c = 2 := by omega
    all_goals (simp [lkP] <;> omega)
  simp only [List.map_cons, List.map_nil] at g1
  simp only [d1, d2, d3]
  generalize lkP [0, (a : Int), (b : Int)] c = B at *
  rw [at_M Try.func24 130980 (by decide) 18 (by decide) (by kernel_rfl) [261961]]
  refine ⟨_, _, now + B, S3, by simp (disch := omega) [Try.f24, t4, t7, t10, g1, e1, e2, e3, zerosA, fillA, spl, idxA, ldVar, stVar, if_pos, if_neg, wrapI]; rfl, rfl, rfl, by omega, by omega, ⟨by simp [t4], by simp [t5], by simp [t6], by simp, by simp [t8], by simp [t9], by simp [t10], by simp [t11]⟩, h3, koS_q1 _ _ _, by omega⟩
end Go.Ev

/- The drawn congestion run: an operation as drawn. -/
namespace Go.Ev
open Go Go.Proofs
set_option linter.unusedSimpArgs false
set_option linter.unusedVariables false

theorem koS_q2 {h : AH} {q : Nat} (x y z u : Blk) (n1 n2 n3 : Nat) (h1 : h.next ≤ n1) (h2 : h.next ≤ n2) (h3 : h.next ≤ n3) : KoS [q] h (((((h.res 2).set q x).set n1 y).set n2 z).set n3 u) :=
  ⟨by simp, fun b hb hn => by
    have hbq : b ≠ q := by simpa using hn
    rw [AH.set_getN _ _ (by omega), AH.set_getN _ _ (by omega), AH.set_getN _ _ (by omega), AH.set_getN _ _ hbq, res_get, if_neg (by omega)]⟩
theorem dw1 {h : AH} {q : Nat} {v : AV} {bs : List Nat} {S : Src} (h0 : SrcI h q v S bs) {K : Nat} (hp : S.pos ≤ K) (hK : K ≤ 900000) {now : Int}
    (hnow : 0 ≤ now ∧ now ≤ 1000000000) {kind trip i : Int} {v6 v8 v9 : AV} (ht : 0 ≤ trip ∧ trip ≤ 1000000) (m : Nat) (hm : 10 ≤ m) (τ : Tm) (hτ : DrT τ q kind trip i now v6 v8 v9) :
    ∃ (τ' : Tm) (h' : AH) (o : CcOpP) (S6 : Src), evAt Try.prog (ev Try.prog m) m 24 261961 τ h = evAt Try.prog (ev Try.prog m) m 24 523923 τ' h' ∧
      (nextP 9000 (nextP 1300 (nextP 8 S).2).2).2 = S6 ∧ o = ⟨lkP [1, 1, 1, 2, 2, 2, 3, 4] (nextP 8 S).1, now, 1 + (nextP 1300 (nextP 8 S).2).1, 0, trip + (nextP 9000 (nextP 1300 (nextP 8 S).2).2).1⟩ ∧
      1 ≤ o.b ∧ o.b ≤ 2000 ∧ 1 ≤ o.k ∧ o.k ≤ 4 ∧ 0 ≤ o.p ∧ o.p ≤ 2000000 ∧
      DrT τ' q kind trip i now v6 v8 v9 ∧ τ' 12 = .ptr (h.next + 1) 0 ∧ h'.get (h.next + 1) = some (.cells 40 false (opC o)) ∧ h.next + 1 < h'.next ∧ SrcI h' q v S6 bs ∧ KoS [q] h h' ∧ S6.pos ≤ K + 9 := by
  obtain ⟨t4, t5, t6, t7, t8, t9, t10, t11⟩ := hτ
  have hq := h0.lt
  obtain ⟨d, S4, d4, a4, p4, e4, h4⟩ := draw (h0.resv 2) hp (by omega) 8 (by omega) (by omega) m (by omega)
  obtain ⟨e, S5, d5, a5, p5, e5, h5⟩ := draw h4 p4 (by omega) 1300 (by omega) (by omega) m (by omega)
  obtain ⟨f, S6, d6, a6, p6, e6, h6⟩ := draw h5 p5 (by omega) 9000 (by omega) (by omega) m (by omega)
  rw [set_set] at e5 e6 h5 h6
  rw [set_set] at e6 h6
  have g2 := lk_get (l := [1, 1, 1, 2, 2, 2, 3, 4]) (k := d) (by simp; omega)
  simp only [List.map_cons, List.map_nil] at g2
  have b1 : 1 ≤ lkP [1, 1, 1, 2, 2, 2, 3, 4] d ∧ lkP [1, 1, 1, 2, 2, 2, 3, 4] d ≤ 4 := by
    have : ∀ d : Fin 8, 1 ≤ lkP [1, 1, 1, 2, 2, 2, 3, 4] (d : Nat) ∧ lkP [1, 1, 1, 2, 2, 2, 3, 4] (d : Nat) ≤ 4 := by decide
    exact this ⟨d, by omega⟩
  simp only [d4, d5, d6]
  generalize lkP [1, 1, 1, 2, 2, 2, 3, 4] d = D at *
  rw [at_M Try.func24 261961 (by decide) 18 (by decide) (by kernel_rfl) [523923]]
  have hn1 : ¬ (h.next = q) := by omega
  have hn2 : ¬ (h.next + 1 = q) := by omega
  have hbs : ∀ b ∈ bs, b < h.next := fun b hb => h0.row.mem b hb
  refine ⟨_, _, _, S6, by simp (disch := omega) [Try.f24, t4, t7, t10, g2, e4, e5, e6, hn1, hn2, zerosA, fillA, spl, idxA, a4, ldVar, stVar, wrapI]; rfl, rfl, rfl, by simp; omega, by simp; omega, b1.1, b1.2, by simp; omega, by simp; omega,
    ⟨by simp [t4], by simp [t5], by simp [t6], by simp [t7], by simp [t8], by simp [t9], by simp [t10], by simp [t11]⟩, by simp, by simp [opC], by simp, ?_, ?_, by omega⟩
  · exact ((h6.set_ne _ (by omega) fun e => by have := hbs _ e; omega).set_ne _ (by omega) fun e => by have := hbs _ e; omega).set_ne _ (by omega) fun e => by have := hbs _ e; omega
  · exact koS_q2 _ _ _ _ _ _ _ (by omega) (by omega) (by omega)
end Go.Ev

/- The drawn congestion run: what is sent, what is told. -/
namespace Go.Ev
open Go Go.Proofs
set_option linter.unusedSimpArgs false
set_option linter.unusedVariables false

/-- the numbers that a round keeps -/
structure DrB (x : DrS) (n : Nat) : Prop where
  len : x.fl.length = x.tm.length
  le : x.fl.length ≤ n
  fl : ∀ f ∈ x.fl, 1 ≤ f ∧ f ≤ 2000
  tm : ∀ t ∈ x.tm, 0 ≤ t ∧ t ≤ 1000000000
theorem DrR.sent {H h : AH} {q p : Nat} {v : AV} {bs : List Nat} {x : DrS} {outs : List tT40.D} {v6 v8 v9 : AV} {b6 b8 b9 : List Nat} (r : DrR H h q [p] v bs x outs v6 v8 v9 b6 b8 b9) (f t : Int) (hl : x.fl.length ≤ 1000) (hl2 : x.tm.length ≤ 1000) :
    ∃ v8' v9' h1 h2 b8' b9', appA Try.prog 60 60 v8 (.slice h.next 0 1) (h.push (.cells 3 false [.int .i64 f])) = some (v8', h1) ∧ appA Try.prog 60 60 v9 (.slice h1.next 0 1) (h1.push (.cells 3 false [.int .i64 t])) = some (v9', h2) ∧
      DrR H h2 q [p] v bs { x with fl := x.fl ++ [f], tm := x.tm ++ [t] } outs v6 v8' v9' b6 b8' b9' ∧ h2.get p = h.get p ∧ h1.get p = h.get p ∧ h.next ≤ h1.next := by
  obtain ⟨v8', h1, b8', a1, a2, a3, a4⟩ := r.fl.app f (by omega)
  have hnd := r.nd
  have hlo := r.lo
  simp only [List.cons_append, List.nil_append, List.nodup_cons, List.nodup_append, List.mem_append, List.mem_cons] at hnd hlo
  have m6 := r.ops.mem
  have m8 := r.fl.mem
  have m9 := r.tm.mem
  have mq := r.src.lt
  have mp := r.pl p (by simp)
  have hn1 := a4.next
  have t1 := r.tm.koS a4 (by grind)
  obtain ⟨v9', h2, b9', c1, c2, c3, c4⟩ := t1.app t (by omega)
  have hn2 := c4.next
  have hkn := r.kp.next
  have g2 : ∀ b, b < h.next → b ∉ b8 → b ∉ b9 → h2.get b = h.get b := fun b hb h8 h9 => by rw [c4.get b (by omega) h9, a4.get b hb h8]
  have hbs := r.bs
  refine ⟨v8', v9', h1, h2, b8', b9', a1, c1, ⟨r.src.ko (by omega) (g2 q mq (by grind) (by grind)) fun b hb => g2 b (by have := hbs b hb; omega) ?_ ?_, hbs, r.ops.stay (by omega) fun b hb => g2 b (m6 b hb) (by grind) (by grind), a2.koS c4 ?_, c2, ?_, ?_, by simp; omega, ?_⟩, g2 p mp (by grind) (by grind), a4.get p mp (by grind), hn1⟩
  · intro e; have := hbs b hb; have := hlo b (by simp [e]); omega
  · intro e; have := hbs b hb; have := hlo b (by simp [e]); omega
  · intro b hb e; have := a3 b hb; have := m9 b e; omega
  · simp only [List.cons_append, List.nil_append, List.nodup_cons, List.nodup_append, List.mem_append, List.mem_cons]
    have n8 := a2.nd
    have n9 := c2.nd
    have m8' := a2.mem
    grind
  · intro b hb
    simp only [List.cons_append, List.nil_append, List.mem_append, List.mem_cons] at hb
    rcases hb with hb | hb | hb | hb | hb
    · exact hlo b (.inl hb)
    · exact hlo b (.inr (.inl hb))
    · exact hlo b (.inr (.inr (.inl hb)))
    · have := a3 b hb; omega
    · have := c3 b hb; omega
  · refine ⟨by omega, fun b hb => ?_⟩
    rw [g2 b (by omega) (fun e => by have := hlo b (by simp [e]); omega) (fun e => by have := hlo b (by simp [e]); omega), r.kp.get b hb]
theorem OwnI.hd {H : AH} {v : AV} {x : Int} {l : List Int} {bs : List Nat} (h : OwnI H v (x :: l) bs) : ∃ b o xs, idxA Try.prog 60 v (.int .i64 0) = some (.ptr b o) ∧ H.get b = some (.cells 3 false xs) ∧ xs[o]? = some (.int .i64 x) ∧ b ∈ bs := by
  rcases h with ⟨_, h, _⟩ | ⟨b, o, xs, rfl, rfl, h3, h4, h5, h6⟩
  · simp at h
  · refine ⟨b, o, xs, ?_, h4, ?_, by simp⟩
    · simp [idxA]
    · have := congrArg (fun z : List AV => z[0]?) h6
      simpa using this
theorem dw2 {H h : AH} {q p : Nat} {v : AV} {bs : List Nat} {x : DrS} {outs : List tT40.D} {v6 v8 v9 : AV} {b6 b8 b9 : List Nat} (r : DrR H h q [p] v bs x outs v6 v8 v9 b6 b8 b9) {n : Nat} (hB : DrB x n) (hn : n ≤ 900) {o : CcOpP} (ho : h.get p = some (.cells 40 false (opC o)))
    (hob : 1 ≤ o.b ∧ o.b ≤ 2000) (hnow : 0 ≤ x.now ∧ x.now ≤ 1000000000) {kind trip i : Int} (m : Nat) (τ : Tm) (hτ : DrT τ q kind trip i x.now v6 v8 v9) (t12 : τ 12 = .ptr p 0) :
    ∃ (τ' : Tm) (h' : AH) (v8' v9' : AV) (b8' b9' : List Nat), evAt Try.prog (ev Try.prog m) m 24 523923 τ h = evAt Try.prog (ev Try.prog m) m 24 2095695 τ' h' ∧
      DrT τ' q kind trip i x.now v6 v8' v9' ∧ τ' 12 = .ptr p 0 ∧ h'.get p = some (.cells 40 false (opC (dwB o x).1)) ∧ DrR H h' q [p] v bs (dwB o x).2 outs v6 v8' v9' b6 b8' b9' ∧ DrB (dwB o x).2 (n + 1) := by
  obtain ⟨t4, t5, t6, t7, t8, t9, t10, t11⟩ := hτ
  have ho' := ho
  simp only [opC] at ho
  have hx8 := hB.le
  rw [at_M Try.func24 523923 (by decide) 20 (by decide) (by kernel_rfl) [2095695]]
  unfold dwB
  by_cases k1 : o.k = 1
  · rw [if_pos k1]
    obtain ⟨v8', v9', h1, h2, b8', b9', e1, e2, e3, e4, e5, e6⟩ := r.sent o.b x.now (by omega) (by have := hB.len; omega)
    have mp := r.pl p (by simp)
    have o2 := e3.fl.one
    have o3 := e3.tm.one
    have ho1 : h1.get p = _ := e5.trans ho
    have ho2 : h2.get p = _ := e4.trans ho
    refine ⟨_, h2, v8', v9', b8', b9', by simp (disch := omega) [Try.f24, t4, t7, t8, t9, t10, t12, ho, ho1, ho2, k1, ldVar, stVar, zerosA, fillA, spl, e1, e2, if_pos, if_neg, beqF]; rfl,
      ⟨by simp [t4], by simp [t5], by simp [t6], by simp [t7], by simp, by simp, by simp [t10], by simp [t11]⟩, by simp [t12], by rw [e4]; exact ho', e3, ⟨by simp [hB.len], by simp; omega, ?_, ?_⟩⟩
    · intro f hf; rcases List.mem_append.1 hf with hf | hf
      · exact hB.fl f hf
      · rw [List.mem_singleton] at hf; subst hf; exact hob
    · intro f hf; rcases List.mem_append.1 hf with hf | hf
      · exact hB.tm f hf
      · rw [List.mem_singleton] at hf; subst hf; exact hnow
  · rw [if_neg k1]
    have hL := r.fl.len
    by_cases k2 : o.k = 2 ∨ o.k = 3
    · rw [if_pos k2]
      cases hfl : x.fl with
      | nil =>
        have htm : x.tm = [] := List.eq_nil_of_length_eq_zero (by have := hB.len; rw [hfl] at this; simpa using this.symm)
        rw [hfl] at hL
        simp only [htm]
        rcases k2 with k2 | k2
        · exact ⟨_, h, v8, v9, b8, b9, by simp (disch := omega) [Try.f24, t4, t7, t8, t9, t10, t12, ho, k1, k2, ldVar, hL, beqF]; rfl,
            ⟨by simp [t4], by simp [t5], by simp [t6], by simp [t7], by simp [t8], by simp [t9], by simp [t10], by simp [t11]⟩, by simp [t12], ho', r, ⟨hB.len, by show x.fl.length ≤ n + 1; omega, hB.fl, hB.tm⟩⟩
        · exact ⟨_, h, v8, v9, b8, b9, by simp (disch := omega) [Try.f24, t4, t7, t8, t9, t10, t12, ho, k1, k2, ldVar, hL, beqF]; rfl,
            ⟨by simp [t4], by simp [t5], by simp [t6], by simp [t7], by simp [t8], by simp [t9], by simp [t10], by simp [t11]⟩, by simp [t12], ho', r, ⟨hB.len, by show x.fl.length ≤ n + 1; omega, hB.fl, hB.tm⟩⟩
      | cons f fl =>
        cases htm : x.tm with
        | nil => have := hB.len; rw [hfl, htm] at this; simp at this
        | cons t tm =>
          have hfo := r.fl
          have hto := r.tm
          rw [hfl] at hL hfo
          rw [htm] at hto
          have hnd := r.nd
          simp only [List.cons_append, List.nil_append, List.nodup_cons, List.nodup_append, List.mem_append, List.mem_cons] at hnd
          obtain ⟨b, z, xs, u1, u2, u3, u4⟩ := hfo.hd
          obtain ⟨b', z', xs', w1, w2, w3, w4⟩ := hto.hd
          have hbp : ¬ b = p := by grind
          have hbp' : ¬ b' = p := by grind
          have h8p : ∀ c ∈ b8, c ≠ p := by grind
          have h9p : ∀ c ∈ b9, c ≠ p := by grind
          let h2 : AH := h.set p (.cells 40 false (opC { o with b := f, s := t }))
          have K2 : KoS ([p] ++ [q]) h h2 := ⟨Nat.le_refl _, fun c hc hn => AH.set_getN _ _ (fun e => hn (by simp [e]))⟩
          have hbs := r.bs
          have hlo := r.lo
          have hS2 : SrcI h2 q v x.S bs := r.src.set_ne _ (by grind) fun e => by have := hbs _ e; have := hlo p (by simp); omega
          have r2 := r.stay K2 hS2
          have f2 : OwnI h2 v8 (f :: fl) b8 := hfo.stay (show h.next ≤ h2.next from Nat.le_refl _) fun c hc => (AH.set_getN h _ (h8p c hc) : (h.set p _).get c = h.get c)
          have t2 : OwnI h2 v9 (t :: tm) b9 := hto.stay (show h.next ≤ h2.next from Nat.le_refl _) fun c hc => (AH.set_getN h _ (h9p c hc) : (h.set p _).get c = h.get c)
          obtain ⟨v8', c1, c2⟩ := f2.tail
          obtain ⟨v9', c3, c4⟩ := t2.tail
          have r3 : DrR H h2 q [p] v bs { x with fl := fl, tm := tm } outs v6 v8' v9' b6 b8 b9 := ⟨r2.src, r2.bs, r2.ops, c2, c4, r2.nd, r2.lo, r2.pl, r2.kp⟩
          have hB2 : DrB { x with fl := fl, tm := tm } (n + 1) := ⟨by have := hB.len; rw [hfl, htm] at this; simpa using this, by have := hB.le; rw [hfl] at this; simp at this; show fl.length ≤ n + 1; omega,
            fun a ha => hB.fl a (by rw [hfl]; simp [ha]), fun a ha => hB.tm a (by rw [htm]; simp [ha])⟩
          have hlen : 0 < (f :: fl).length := by simp
          generalize ((f :: fl).length : Nat) = L at hL hlen
          have g2 : h2.get p = some (.cells 40 false (opC { o with b := f, s := t })) := AH.set_getS _ _ _
          rcases k2 with k2 | k2
          · simp only [h2, opC, k2] at c1 c3
            exact ⟨_, h2, v8', v9', b8, b9, by simp (disch := omega) [Try.f24, t4, t7, t8, t9, t10, t12, ho, k1, k2, ldVar, stVar, spl, hL, hlen, beqF, u1, u2, u3, w1, w2, w3, hbp, hbp', if_pos, if_neg, c1, c3]; simp only [h2, opC, k2]; rfl,
              ⟨by simp [t4], by simp [t5], by simp [t6], by simp [t7], by simp, by simp, by simp [t10], by simp [t11]⟩, by simp [t12], g2, r3, hB2⟩
          · simp only [h2, opC, k2] at c1 c3
            exact ⟨_, h2, v8', v9', b8, b9, by simp (disch := omega) [Try.f24, t4, t7, t8, t9, t10, t12, ho, k1, k2, ldVar, stVar, spl, hL, hlen, beqF, u1, u2, u3, w1, w2, w3, hbp, hbp', if_pos, if_neg, c1, c3]; simp only [h2, opC, k2]; rfl,
              ⟨by simp [t4], by simp [t5], by simp [t6], by simp [t7], by simp, by simp, by simp [t10], by simp [t11]⟩, by simp [t12], g2, r3, hB2⟩
    · rw [if_neg k2]
      have k2' : ¬ o.k = 2 := fun e => k2 (.inl e)
      have k3' : ¬ o.k = 3 := fun e => k2 (.inr e)
      exact ⟨_, h, v8, v9, b8, b9, by simp (disch := omega) [Try.f24, t4, t7, t8, t9, t10, t12, ho, k1, k2', k3', ldVar, hL, beqF]; rfl,
        ⟨by simp [t4], by simp [t5], by simp [t6], by simp [t7], by simp [t8], by simp [t9], by simp [t10], by simp [t11]⟩, by simp [t12], ho', r, ⟨hB.len, by show x.fl.length ≤ n + 1; omega, hB.fl, hB.tm⟩⟩
end Go.Ev
