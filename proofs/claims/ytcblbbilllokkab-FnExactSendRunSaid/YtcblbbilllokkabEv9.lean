/- Lemmas of an evaluator of the given code and of what the functions answer; no condition of its own. -/
import Derived.Test.YtcblbbilllokkabEv5
import Derived.ChangeArms
import Derived.ChangeSlices
import Derived.WideShapes
import Derived.Test.YtcblbbilllokkabEv8
import Derived.Test.YtcblbbilllokkabEv6
/- From what came in to the evaluator: data of any kind of rows and records. -/
namespace Go.Ev
open Go Go.RowKit
set_option linter.unusedSimpArgs false
set_option linter.unusedVariables false

mutual
/-- the type T shows data of the kind t -/
inductive Fits (P : Program) : TypeId → Ty → Prop
  | int {T : TypeId} {k : IntKind} : P.underlying T = some (.int k) → Fits P T (.int k)
  | bool {T : TypeId} : P.underlying T = some .bool → Fits P T .bool
  | str {T : TypeId} : P.underlying T = some .string → Fits P T .str
  | sl {T e : TypeId} {t : Ty} : P.underlying T = some (.slice e) → sizeT P e = some t.n → Fits P e t → Fits P T (.sl e t)
  | st {T : TypeId} {fs : Array Field} {t : Ty} : P.underlying T = some (.struct fs) → P.cellsOf T = t.n → FitsL P fs.toList 0 t → Fits P T t
inductive FitsL (P : Program) : List Field → Nat → Ty → Prop
  | one {f : Field} {off : Nat} {t : Ty} : f.offset = off → P.cellsOf f.type = t.n → Fits P f.type t → FitsL P [f] off t
  | cons {f : Field} {l : List Field} {off : Nat} {a b : Ty} : f.offset = off → P.cellsOf f.type = a.n → Fits P f.type a → FitsL P l (off + a.n) b → FitsL P (f :: l) off (.pair a b)
end
theorem Ty.n_pos : ∀ t : Ty, 0 < t.n
  | .int _ => by simp [Ty.n]
  | .bool => by simp [Ty.n]
  | .str => by simp [Ty.n]
  | .sl _ _ => by simp [Ty.n]
  | .pair a b => by have := Ty.n_pos a; simp only [Ty.n]; omega
/-- no row is longer than a machine's -/
def Ty.sm : (t : Ty) → t.D → Prop
  | .int _, _ => True
  | .bool, _ => True
  | .str, s => s.size ≤ 9223372036854775807
  | .sl _ t, l => l.length ≤ 9223372036854775807 ∧ ∀ x ∈ l, t.sm x
  | .pair a b, x => a.sm x.1 ∧ b.sm x.2

section
variable {P : Program} {w : World} {Hd : Type} {enc : TypeId × Value → Hd} {held : Bool}

theorem cellsOf_size {e : TypeId} {n : Nat} (h : sizeT P e = some n) : P.cellsOf e = n := by
  unfold Program.cellsOf; unfold sizeT at h; rw [h]; rfl

def InRes (P : Program) (w : World) (t : Ty) (cs : List Value) (H : AH) (μ : Mu) : Prop :=
  ∃ H' μ' c d bs, Ext μ μ' ∧ Rel P w H' μ' w ∧ Kp H H' ∧ VRs μ' c cs ∧ t.R false H' c d bs ∧ t.sm d

theorem Rel.ro {H : AH} {μ : Mu} (h : Rel P w H μ w) {e : TypeId} {xs : List AV} {L : Loc} (h1 : xs.all AV.one = true) (hs : sizeT P e = some L.sz) (hn : L.base + xs.length ≤ L.n)
    (hc : ∀ (i : Nat) (a : AV), xs[i]? = some a → L.c < w.heap.size ∧ ∃ v, w.cell? ⟨L.c, L.base + i, none⟩ = some v ∧ VR μ a v) : Rel P w (H.push (.cells e true xs)) (muPush μ H.next L) w := by
  have hx := h.ext L
  refine ⟨h.below, ?_, ?_, ?_, ?_⟩
  · intro b hb
    simp only [AH.push_next] at hb
    unfold muPush
    rw [if_neg (by omega)]
    exact h.fresh _ (by omega)
  · intro b x hb
    rw [AH.push_get] at hb
    simp only [AH.push_next]
    split at hb
    · omega
    · have := h.dom _ _ hb; omega
  · intro b z hb
    rw [AH.push_get] at hb
    split at hb
    · rename_i hbb
      subst hbb
      simp only [Option.some.injEq] at hb; subst hb
      refine ⟨L, muPush_self _ _ _, h1, hs, hn, fun i a ha => ?_⟩
      obtain ⟨k1, v, k2, k3⟩ := hc i a ha
      exact ⟨k1, v, k2, VR.mono hx _ _ k3⟩
    · exact (h.blk b z hb).mono hx
  · intro b1 x1 hb1 hx1 b2 x2 hne hb2 hx2 L1 L2 hL1 hL2
    rw [AH.push_get] at hb1 hb2
    have e1 : b1 ≠ H.next := by
      intro e; rw [if_pos e] at hb1; simp only [Option.some.injEq] at hb1; subst hb1; simp [Blk.rw] at hx1
    have e2 : b2 ≠ H.next := by
      intro e; rw [if_pos e] at hb2; simp only [Option.some.injEq] at hb2; subst hb2; simp [Blk.rw] at hx2
    rw [if_neg e1] at hb1
    rw [if_neg e2] at hb2
    unfold muPush at hL1 hL2
    rw [if_neg e1] at hL1
    rw [if_neg e2] at hL2
    exact h.sep b1 x1 hb1 hx1 b2 x2 hne hb2 hx2 L1 L2 hL1 hL2

theorem cell_add {x : Addr} {i : Nat} {v : Value} (h : w.cell? (x.add i) = some v) (hx : x.spot = none) : w.cell? ⟨x.block, x.off + i, none⟩ = some v := by
  obtain ⟨b, o, s⟩ := x
  simp only at hx; subst hx
  unfold Addr.add at h
  split at h
  · rename_i e; subst e; exact h
  · exact h
theorem cells_some {a : Addr} {n : Nat} {cs : List Value} (h : w.cells? 0 a n = some cs) : cs.length = n ∧ ∀ i, i < n → w.cell? (a.add i) = cs[i]? := by
  have := World.cells?_some h
  exact ⟨this.2.1, fun i hi => this.2.2 i hi⟩
theorem VRs.app_inv {μ : Mu} : ∀ {c : List AV} {v1 v2 : List Value}, VRs μ c (v1 ++ v2) → True := fun _ => trivial

theorem in_fields {n : Nat} {cs : List Value} (ih : ∀ {T : TypeId} {t : Ty} {cs : List Value} {x : DataW Hd × List MemPlace} {H : AH} {μ : Mu}, Fits P T t → DataW.trod enc P w 0 (fun _ => true) held n T cs = some x → Rel P w H μ w → InRes P w t cs H μ) :
    ∀ {l : List Field} {off : Nat} {t : Ty} {H : AH} {μ : Mu}, FitsL P l off t → (∀ f ∈ l, ∃ x, DataW.trod enc P w 0 (fun _ => true) held n f.type ((cs.drop f.offset).take (P.cellsOf f.type)) = some x) → cs.length = off + t.n → Rel P w H μ w →
      InRes P w t (cs.drop off) H μ
  | [], _, _, _, _, hf, _, _, _ => by cases hf
  | f :: l, off, t, H, μ, hf, hx, hl, hR => by
    cases hf with
    | one h1 h2 h3 =>
      obtain ⟨x, hx⟩ := hx f (by simp)
      have := ih h3 hx hR
      rw [h1, h2] at this
      rw [List.take_of_length_le (by rw [List.length_drop]; omega)] at this
      exact this
    | @cons _ _ _ a b h1 h2 h3 h4 =>
      obtain ⟨x, hx1⟩ := hx f (by simp)
      obtain ⟨H1, μ1, c1, d1, b1, e1, r1, k1, v1, R1, s1⟩ := ih h3 hx1 hR
      obtain ⟨H2, μ2, c2, d2, b2, e2, r2, k2, v2, R2, s2⟩ := in_fields ih h4 (fun g hg => hx g (by simp [hg])) (by simp only [Ty.n] at hl; omega) r1
      refine ⟨H2, μ2, c1 ++ c2, (d1, d2), b1 ++ b2, e1.trans e2, r2, k1.trans k2, ?_, ⟨c1, c2, b1, b2, rfl, rfl, R1.kp k2, R2⟩, s1, s2⟩
      have := (VRs.mono e2 _ _ v1).append v2
      rw [h1, h2] at this
      rwa [← List.drop_drop, List.take_append_drop] at this

theorem in_rows {n : Nat} {e : TypeId} {t : Ty} {a : Addr} (ha : a.spot = none) (hs : P.cellsOf e = t.n) (hf : Fits P e t)
    (ih : ∀ {T : TypeId} {t : Ty} {cs : List Value} {x : DataW Hd × List MemPlace} {H : AH} {μ : Mu}, Fits P T t → DataW.trod enc P w 0 (fun _ => true) held n T cs = some x → Rel P w H μ w → InRes P w t cs H μ)
    {len : Nat} (hel : ∀ i, i < len → ∃ cs x, w.cells? 0 (a.add (i * P.cellsOf e)) (P.cellsOf e) = some cs ∧ DataW.trod enc P w 0 (fun _ => true) held n e cs = some x) {H : AH} {μ : Mu} (hR : Rel P w H μ w) :
    ∀ j, j ≤ len → ∃ H' μ' xs ds bs, Ext μ μ' ∧ Rel P w H' μ' w ∧ Kp H H' ∧ ds.length = j ∧ Rows (t.R false H') t.n xs ds bs ∧ (∀ d ∈ ds, t.sm d) ∧
      ∀ (i : Nat) (x : AV), xs[i]? = some x → a.block < w.heap.size ∧ ∃ v, w.cell? ⟨a.block, a.off + i, none⟩ = some v ∧ VR μ' x v
  | 0, _ => ⟨H, μ, [], [], [], Ext.refl _, hR, Kp.refl _, rfl, ⟨rfl, rfl⟩, by simp, by simp⟩
  | j + 1, hj => by
    obtain ⟨H1, μ1, xs, ds, bs, e1, r1, k1, hl, hrow, hsm, hcell⟩ := in_rows ha hs hf ih hel hR j (by omega)
    obtain ⟨cs, x, hc, htr⟩ := hel j (by omega)
    obtain ⟨H2, μ2, c, d, b, e2, r2, k2, v2, R2, s2⟩ := ih hf htr r1
    have hxl := hrow.len
    refine ⟨H2, μ2, xs ++ c, ds ++ [d], bs ++ b, e1.trans e2, r2, k1.trans k2, by simp [hl], Rows.app (hrow.imp fun c d b1 _ _ h => h.kp k2) (Rows.one R2 R2.len), ?_, ?_⟩
    · intro y hy
      rcases List.mem_append.1 hy with hy | hy
      · exact hsm y hy
      · rw [List.mem_singleton] at hy; subst hy; exact s2
    · intro i y hy
      rcases Nat.lt_or_ge i xs.length with hi | hi
      · rw [List.getElem?_append_left hi] at hy
        obtain ⟨g1, v, g2, g3⟩ := hcell i y hy
        exact ⟨g1, v, g2, VR.mono e2 _ _ g3⟩
      · rw [List.getElem?_append_right hi] at hy
        obtain ⟨v, h1, h2⟩ := v2.get _ _ hy
        obtain ⟨q1, q2⟩ := cells_some hc
        have hlt : i - xs.length < P.cellsOf e := by
          have := (List.getElem?_eq_some_iff.1 h1).1; omega
        have q3 := q2 _ hlt
        rw [h1] at q3
        have hsp : (a.add (j * P.cellsOf e)).spot = none := by
          unfold Addr.add; split
          · exact ha
          · rfl
        have q4 := cell_add q3 hsp
        have hb : (a.add (j * P.cellsOf e)).block = a.block ∧ (a.add (j * P.cellsOf e)).off = a.off + j * P.cellsOf e := by
          unfold Addr.add; split
          · rename_i e0; simp [e0]
          · exact ⟨rfl, rfl⟩
        rw [hb.1, hb.2] at q4
        have : a.off + j * P.cellsOf e + (i - xs.length) = a.off + i := by rw [hs, ← hl, ← hxl]; omega
        rw [this] at q4
        refine ⟨?_, v, q4, h2⟩
        unfold World.cell? at q4
        split at q4
        · rename_i hh
          rcases Nat.lt_or_ge a.block w.heap.size with hl | hl
          · exact hl
          · rw [Array.getElem?_eq_none hl] at hh; simp at hh
        · simp at q4

theorem in_ty : ∀ (fuel : Nat) {T : TypeId} {t : Ty} {cs : List Value} {x : DataW Hd × List MemPlace} {H : AH} {μ : Mu}, Fits P T t → DataW.trod enc P w 0 (fun _ => true) held fuel T cs = some x → Rel P w H μ w → InRes P w t cs H μ
  | 0, _, _, _, _, _, _, _, h, _ => by simp [DataW.trod] at h
  | fuel + 1, T, t, cs, x, H, μ, hf, h, hR => by
    have ih := @in_ty fuel
    cases hf with
    | int hT =>
      rename_i k
      obtain ⟨n, rfl, rfl, hw⟩ := DataW.trod_int hT h
      simp only [Lit.wf, Bool.and_eq_true, decide_eq_true_eq] at hw
      exact ⟨H, μ, [.int k n], n, [], Ext.refl _, hR, Kp.refl _, by simp [VRs, VR], ⟨rfl, hw.1, hw.2, rfl⟩, trivial⟩
    | bool hT =>
      obtain ⟨b, rfl, rfl⟩ := DataW.trod_bool hT h
      exact ⟨H, μ, [.bool b], b, [], Ext.refl _, hR, Kp.refl _, by simp [VRs, VR], ⟨rfl, rfl⟩, trivial⟩
    | str hT =>
      obtain ⟨s, rfl, rfl, hm⟩ := DataW.trod_string hT h
      exact ⟨H, μ, [.str s], s, [], Ext.refl _, hR, Kp.refl _, by simp [VRs, VR], ⟨rfl, rfl⟩, hm⟩
    | sl hT hs hf =>
      rename_i e t
      rcases DataW.trod_slice hT h with ⟨rfl, rfl⟩ | ⟨a, len, cap, elems, rest, n, hfu, rfl, rfl, _, hl, hm, hlen, hel, hsp, _⟩
      · exact ⟨H, μ, [.nilSlice], [], [], Ext.refl _, hR, Kp.refl _, by simp [VRs, VR], .inl ⟨rfl, rfl, rfl⟩, by simp [Ty.sm]⟩
      · obtain rfl : n = fuel := by omega
        have hc := cellsOf_size hs
        have hp := Ty.n_pos t
        obtain ⟨hrl, hre⟩ := hsp rfl
        have hcell : ∀ i, i < cap → ∃ cs x, w.cells? 0 (a.add (i * P.cellsOf e)) (P.cellsOf e) = some cs ∧ DataW.trod enc P w 0 (fun _ => true) held n e cs = some x := by
          intro i hi
          by_cases hil : i < len
          · have := hel i hil
            rw [List.getElem?_eq_getElem (by omega), Option.bind_eq_some_iff] at this
            obtain ⟨cs, h1, h2⟩ := this
            exact ⟨cs, _, h1, h2⟩
          · have := hre (i - len) (by omega)
            rw [List.getElem?_eq_getElem (by omega), Option.bind_eq_some_iff] at this
            obtain ⟨cs, h1, h2⟩ := this
            rw [show len + (i - len) = i by omega] at h1
            exact ⟨cs, _, h1, h2⟩
        have hspot : cap ≠ 0 → a.spot = none := by
          intro h0
          obtain ⟨cs, x, h1, h2⟩ := hcell 0 (by omega)
          obtain ⟨q1, q2⟩ := cells_some h1
          have q3 := q2 0 (by omega)
          rw [List.getElem?_eq_getElem (by omega)] at q3
          have ea : ∀ b : Addr, b.add 0 = b := fun b => by simp [Addr.add]
          rw [Nat.zero_mul, ea, ea] at q3
          unfold World.cell? at q3
          split at q3
          · split at q3
            · simp at q3
            · rename_i hs; simpa using hs
          · simp at q3
        by_cases h0 : cap = 0
        · subst h0
          obtain rfl : len = 0 := by omega
          have hr := hR.ro (e := e) (xs := []) (L := ⟨0, 0, 0, t.n⟩) rfl hs (by simp) (by simp)
          refine ⟨_, _, [.slice H.next 0 0], [], [H.next], hR.ext _, hr, (Kp.refl H).push _, ?_, ?_, by simp [Ty.sm]⟩
          · simp only [VRs, VR]
            exact ⟨_, [], rfl, ⟨_, 0, a, muPush_self _ _ _, rfl, Nat.le_refl _, fun h => (h rfl).elim⟩, rfl⟩
          · exact .inr ⟨H.next, 0, true, [], [], rfl, rfl, by simp, by simp, by simp, by simp, by simp [Rows]⟩
        · obtain ⟨H1, μ1, xs, ds, bs, e1, r1, k1, hdl, hrow, hsm, hxc⟩ := in_rows (len := len) (hspot h0) hc hf (fun h1 h2 h3 => ih h1 h2 h3) (fun i hi => hcell i (by omega)) hR len (Nat.le_refl _)
          have hxl := hrow.len
          have hle : len * t.n ≤ cap * t.n := Nat.mul_le_mul_right _ hl
          have hone : xs.all AV.one = true := by
            have : ∀ {ds : List t.D} {xs : List AV} {bs : List Nat}, Rows (t.R false H1) t.n xs ds bs → xs.all AV.one = true := by
              intro ds
              induction ds with
              | nil => intro xs bs h; rw [h.1]; rfl
              | cons d ds ihd =>
                rintro xs bs ⟨c, r, b1, b2, rfl, _, _, h4, h5⟩
                rw [List.all_append, h4.one, ihd h5]; rfl
            exact this hrow
          have hr := r1.ro (e := e) (xs := xs) (L := ⟨a.block, a.off, a.off + cap * t.n, t.n⟩) hone hs (by simp only; rw [hxl, hdl]; omega) hxc
          refine ⟨_, _, [.slice H1.next 0 len], ds, H1.next :: bs, e1.trans (r1.ext _), hr, k1.push _, ?_, ?_, by rw [hdl]; exact Nat.le_trans hl hm, hsm⟩
          · simp only [VRs, VR]
            refine ⟨_, [], rfl, ⟨_, cap, a, muPush_self _ _ _, rfl, hl, fun _ => ⟨?_, ?_⟩⟩, rfl⟩
            · have := hspot h0
              obtain ⟨b, o, s⟩ := a; simp only at this; subst this; simp
            · simp
          · subst hdl
            refine .inr ⟨H1.next, 0, true, xs, bs, rfl, rfl, by simp, by simp, by simp, by omega, ?_⟩
            rw [List.drop_zero, ← hxl, List.take_length]
            exact hrow.imp fun c d b1 _ _ h => h.kp ((Kp.refl H1).push _)
    | st hT hc hl =>
      rename_i fs
      obtain ⟨xs, n, hfu, hx, hcl, hxl, hg⟩ := DataW.trod_struct hT h
      obtain rfl : n = fuel := by omega
      have := in_fields (cs := cs) (H := H) (μ := μ) (fun h1 h2 h3 => ih h1 h2 h3) hl (fun f hf => by
        obtain ⟨i, hi, hfe⟩ := List.getElem_of_mem hf
        have hi' : i < fs.size := by simpa using hi
        have hfi : fs[i]? = some f := by rw [Array.getElem?_eq_getElem hi']; simpa using hfe
        have := hg i f hfi
        rw [List.getElem?_eq_getElem (by omega)] at this
        exact ⟨_, this⟩) (by rw [hcl, hc]; omega) hR
      rwa [List.drop_zero] at this
end
end Go.Ev

/- From what came in to the evaluator: a call's arguments. -/
namespace Go.Ev
open Go Go.RowKit
set_option linter.unusedSimpArgs false
set_option linter.unusedVariables false

section
variable {P : Program} {w : World} {Hd : Type} {enc : TypeId × Value → Hd} {held : Bool} {r : Reach} {base : Nat}

def HE : AH := { get := fun _ => none, next := 0 }
theorem rel_empty (P : Program) (w : World) : Rel P w HE (fun _ => none) w :=
  ⟨Below.refl _ _, fun _ _ => rfl, fun b x h => by simp [HE] at h, fun b x h => by simp [HE] at h, fun b x h => by simp [HE] at h⟩

/-- an argument: its abstract value, in the memory that its rows lie in -/
def ArgRes (P : Program) (w : World) (t : Ty) (v : Value) (H : AH) (μ : Mu) : Prop :=
  ∃ H' μ' a c d bs, Ext μ μ' ∧ Rel P w H' μ' w ∧ Kp H H' ∧ VR μ' a v ∧ t.R false H' c d bs ∧ t.sm d ∧ (a = .agg c ∨ c = [a])

theorem arg1 {T : TypeId} {t : Ty} {v : Value} {d : DataW Hd} {p : List MemPlace} {H : AH} {μ : Mu} (hf : Fits P T t) (h : DataW.Trod enc P w 0 (fun _ => true) held T v d p) (hR : Rel P w H μ w) (hv : v.cells.toList = [v]) :
    ∃ H' μ' a d bs, Ext μ μ' ∧ Rel P w H' μ' w ∧ Kp H H' ∧ VR μ' a v ∧ t.R false H' [a] d bs ∧ t.sm d := by
  obtain ⟨fuel, hf'⟩ := h
  rw [hv] at hf'
  obtain ⟨H', μ', c, d, bs, e, r1, k, hV, hr, hs⟩ := in_ty fuel hf hf' hR
  match c, hV with
  | [], hV => simp [VRs] at hV
  | [a], hV =>
    simp only [VRs] at hV
    obtain ⟨u, us, hu, hV, _⟩ := hV
    simp only [List.cons.injEq] at hu
    obtain ⟨rfl, _⟩ := hu
    exact ⟨H', μ', a, d, bs, e, r1, k, hV, hr, hs⟩
  | a :: b :: c, hV =>
    simp only [VRs] at hV
    obtain ⟨u, us, hu, hV, u2, us2, hu2, _⟩ := hV
    simp only [List.cons.injEq] at hu
    rw [hu2] at hu; simp at hu
theorem argSl {T e : TypeId} {t : Ty} {v : Value} {d : DataW Hd} {p : List MemPlace} {H : AH} {μ : Mu} (hf : Fits P T t) (hT : P.underlying T = some (.slice e)) (hval : Value.okWide P w r base T v) (h : DataW.Trod enc P w 0 (fun _ => true) held T v d p) (hR : Rel P w H μ w) :
    ∃ H' μ' a d bs, Ext μ μ' ∧ Rel P w H' μ' w ∧ Kp H H' ∧ VR μ' a v ∧ t.R false H' [a] d bs ∧ t.sm d := by
  obtain ⟨a, l, c, rfl⟩ := Go.WideShapes.okWide_slice hT hval
  exact arg1 hf h hR rfl
theorem argInt {T : TypeId} {k : IntKind} {t : Ty} {v : Value} {d : DataW Hd} {p : List MemPlace} {H : AH} {μ : Mu} (hf : Fits P T t) (hT : P.underlying T = some (.int k)) (hval : Value.okWide P w r base T v) (h : DataW.Trod enc P w 0 (fun _ => true) held T v d p) (hR : Rel P w H μ w) :
    ∃ H' μ' a d bs, Ext μ μ' ∧ Rel P w H' μ' w ∧ Kp H H' ∧ VR μ' a v ∧ t.R false H' [a] d bs ∧ t.sm d := by
  obtain ⟨n, rfl⟩ := Go.WideShapes.okWide_int hT hval
  exact arg1 hf h hR rfl
theorem argBool {T : TypeId} {t : Ty} {v : Value} {d : DataW Hd} {p : List MemPlace} {H : AH} {μ : Mu} (hf : Fits P T t) (hT : P.underlying T = some .bool) (hval : Value.okWide P w r base T v) (h : DataW.Trod enc P w 0 (fun _ => true) held T v d p) (hR : Rel P w H μ w) :
    ∃ H' μ' a d bs, Ext μ μ' ∧ Rel P w H' μ' w ∧ Kp H H' ∧ VR μ' a v ∧ t.R false H' [a] d bs ∧ t.sm d := by
  obtain ⟨n, rfl⟩ := Go.WideShapes.okWide_bool hT hval
  exact arg1 hf h hR rfl
theorem argStr {T : TypeId} {t : Ty} {v : Value} {d : DataW Hd} {p : List MemPlace} {H : AH} {μ : Mu} (hf : Fits P T t) (hT : P.underlying T = some .string) (hval : Value.okWide P w r base T v) (h : DataW.Trod enc P w 0 (fun _ => true) held T v d p) (hR : Rel P w H μ w) :
    ∃ H' μ' a d bs, Ext μ μ' ∧ Rel P w H' μ' w ∧ Kp H H' ∧ VR μ' a v ∧ t.R false H' [a] d bs ∧ t.sm d := by
  obtain ⟨n, rfl⟩ := Go.WideShapes.okWide_string hT hval
  exact arg1 hf h hR rfl
/-- a struct by value -/
theorem argAgg {T : TypeId} {fs : Array Field} {t : Ty} {v : Value} {d : DataW Hd} {p : List MemPlace} {H : AH} {μ : Mu} (hf : Fits P T t) (hT : P.underlying T = some (.struct fs)) (hval : Value.okWide P w r base T v) (h : DataW.Trod enc P w 0 (fun _ => true) held T v d p) (hR : Rel P w H μ w) :
    ∃ H' μ' c d bs, Ext μ μ' ∧ Rel P w H' μ' w ∧ Kp H H' ∧ VR μ' (.agg c) v ∧ t.R false H' c d bs ∧ t.sm d := by
  obtain ⟨cs, rfl, _⟩ := Go.WideShapes.okWide_struct hT hval
  obtain ⟨fuel, hf'⟩ := h
  obtain ⟨H', μ', c, d, bs, e, r1, k, hV, hr, hs⟩ := in_ty fuel hf hf' hR
  exact ⟨H', μ', c, d, bs, e, r1, k, by simp only [VR]; exact ⟨cs, rfl, hV⟩, hr, hs⟩

theorem law_run2 (hm : P.follows .mixedOrders = true) {H : AH} {μ : Mu} {n : Nat} {f : FuncId} {args : List AV} {vs : Array Value} {H' : AH} (hR : Rel P w H μ w)
    (h : ev P n f args H = some (.bool true, H')) (hv : VRs μ args vs.toList) :
    Calls P f vs w fun e w' => e = .returned (.bool true) ∧ Below w.heap.size w w' := by
  refine (ev_sound hm n f args H (.bool true) H' μ w vs h hR hv).2.mono ?_
  rintro e w' ⟨v, μ', rfl, hx, hR, hv⟩
  simp only [VR] at hv
  subst hv
  exact ⟨rfl, hR.below⟩
end
end Go.Ev

/- The law FnExactSendRun by the evaluator. -/
namespace Go.Ev
open Go Go.Proofs
set_option linter.unusedSimpArgs false
set_option linter.unusedVariables false

def ObsSm (d : tSendObs.D) : Prop := d.2.2.2.1.length ≤ 65536
theorem doP_sm {S : Snd} (h : S.ok) (op : tSendOp.D) : ObsSm (doP S op).2 := by
  have hl := h.len
  unfold ObsSm doP
  simp only
  split
  · simp
  · split
    · simp
    · split
      · split <;> simp
      · split
        · unfold pullP
          split
          · simp
          · split
            · simp
            · split
              · simp only [List.length_take, List.length_drop]; omega
              · simp only [List.length_take, List.length_drop]; omega
        · split
          · simp
          · split
            · split <;> simp
            · split
              · split <;> simp
              · simp
theorem runP_sm : ∀ (ops : List tSendOp.D) {S : Snd}, S.ok → (∀ op ∈ ops, InI op.2.2.1) → ∀ d ∈ runP S ops, ObsSm d
  | [], _, _, _ => by simp [runP]
  | op :: l, S, h, hi => by
    intro d hd
    simp only [runP, List.mem_cons] at hd
    rcases hd with rfl | hd
    · exact doP_sm h op
    · exact runP_sm l (doP_ok h op (hi op (by simp))) (fun o ho => hi o (by simp [ho])) d hd
theorem runP_len (S : Snd) (ops : List tSendOp.D) : (runP S ops).length = ops.length := by
  induction ops generalizing S with
  | nil => rfl
  | cons op l ih => simp [runP, ih]
theorem cntL_le {α : Type} (c : α → Nat) (B : Nat) : ∀ (l : List α), (∀ d ∈ l, c d ≤ B) → cntL c l ≤ l.length * B
  | [], _ => by simp [cntL]
  | d :: l, h => by
    have h1 := h d (by simp)
    have h2 := cntL_le c B l fun x hx => h x (by simp [hx])
    simp only [cntL, List.length_cons, Nat.succ_mul]; omega
def obBytes (d : tSendObs.D) : Nat := d.2.2.2.1.length
theorem cnt_ObsB (d : tSendObs.D) : tSendObs.cnt true d = 6 + obBytes d := by
  obtain ⟨a, b, c, x, p, q, r⟩ := d
  rw [cnt_Obs]; simp only [obBytes]; omega
theorem cnt_OpB (d : tSendOp.D) : tSendOp.cnt true d = 4 + opBytes d := by
  obtain ⟨a, b, c, x, p⟩ := d
  rw [cnt_Op]; simp only [opBytes]; omega
theorem RunP_sm {ops : List tSendOp.D} (hi : ∀ op ∈ ops, InI op.2.2.1) : (∀ d ∈ (RunP ops).1, ObsSm d) ∧ (RunP ops).1.length ≤ 400 := by
  unfold RunP
  split
  · simp
  · exact ⟨runP_sm ops Snd0_ok hi, by rw [runP_len]; omega⟩
theorem cntL_ops : ∀ (l : List tSendOp.D), cntL (tSendOp.cnt true) l = 4 * l.length + cntL opBytes l
  | [] => by simp [cntL]
  | d :: l => by
    have e : cntL (tSendOp.cnt true) (d :: l) = tSendOp.cnt true d + cntL (tSendOp.cnt true) l := rfl
    have e2 : cntL opBytes (d :: l) = opBytes d + cntL opBytes l := rfl
    rw [e, e2, cnt_OpB, cntL_ops l, List.length_cons]; omega
theorem mem_cntL {α : Type} (c : α → Nat) : ∀ (l : List α) (d : α), d ∈ l → c d ≤ cntL c l
  | x :: l, d, h => by
    simp only [cntL]
    rcases List.mem_cons.1 h with rfl | h
    · omega
    · have := mem_cntL c l d h; omega
theorem law3 {H : AH} {s : AV} {ds : List tSendOp.D} {bs : List Nat} (hd : (Ty.sl 70 tSendOp).R false H [s] ds bs) (hs : (Ty.sl 70 tSendOp).sm ds) (m : Nat) (hm : 2200000 ≤ m) :
    ∃ H', ev Try.prog m 3 [s] H = some (.bool true, H') := by
  obtain ⟨m, rfl⟩ : ∃ k, m = k + 1 := ⟨m - 1, by omega⟩
  obtain ⟨H1, a1, a2⟩ := szSendOpS_ev hd (left := 1048576) (by omega) (by omega) hs.1 (fun d hd' => (hs.2 d hd').2.2.2.1.1) m (by omega)
  rw [ev_eq Try.func3 ok3 m _ H (by simp [Try.f3])]
  by_cases h1 : szR 1048576 (ds.length + cntL opBytes ds) < 0
  · simp [Try.f3, a1, h1]
  · obtain ⟨z1, z2⟩ := szR_nonneg h1
    have hl : ds.length ≤ 1048576 := by omega
    have hl2 : ∀ d ∈ ds, opBytes d ≤ 1048576 := fun d hd' => by have := mem_cntL opBytes ds d hd'; omega
    have hi : ∀ op ∈ ds, InI op.2.2.1 := by
      intro op hop
      obtain ⟨k, hk, rfl⟩ := List.getElem_of_mem hop
      obtain ⟨b, o, ro, x1, c, x2, bk, u1, u2, u3, u4, u5, u6, u7, u8⟩ := Ty.R.at_ hd (P := Try.prog) (T := 22) (by simp) (by simp [Ty.n]) (k := k) hk
      generalize ds[k] = d at *
      obtain ⟨a, b, c, x, p⟩ := d
      exact (SendOp_out u5).choose_spec.2.2.2.2
    obtain ⟨hsm, hol⟩ := RunP_sm hi
    have hsm2 : ∀ d ∈ (RunP ds).1, d.2.2.2.1.length ≤ 1048576 := fun d hd' => Nat.le_trans (hsm d hd') (by omega)
    have hcO : cntL (tSendObs.cnt true) (RunP ds).1 ≤ 1073741824 := by
      have := cntL_le (tSendObs.cnt true) 65542 (RunP ds).1 fun d hd' => by
        have : obBytes d ≤ 65536 := hsm d hd'
        rw [cnt_ObsB]; omega
      have h2 : (RunP ds).1.length * 65542 ≤ 400 * 65542 := Nat.mul_le_mul_right _ hol
      omega
    have hcX : cntL (tSendOp.cnt true) ds ≤ 1073741824 := by rw [cntL_ops]; omega
    obtain ⟨x, H2, bx, b1, b2, b3, b4, b5⟩ := toSendOpS_ev hd a2 hl hl2 m (by omega)
    obtain ⟨w, H3, bw, c1, c2, c3, c4, c5⟩ := runS_ev b3 (Kp.refl H2) hl2 m (by omega)
    have K3 := (a2.trans b2).trans c2
    obtain ⟨x0, H4, b0, d1, d2, d3, d4, d5⟩ := toSendOpS_ev hd K3 hl hl2 m (by omega)
    obtain ⟨g, H5, bg, e1, e2, e3, e4, e5⟩ := runI_ev d3 (Kp.refl H4) hl2 m (by omega)
    generalize hRR : RunP ds = R at *
    obtain ⟨outs, rc⟩ := R
    simp only at c1 c3 e1 e3 hsm hol hsm2 hcO
    obtain ⟨H6, f1, f2⟩ := eqSendObsS_ev e3 (c3.kp (d2.trans e2)) (Kp.refl H5) (by omega) hsm2 m (by omega)
    have K6 := ((K3.trans d2).trans e2).trans f2
    obtain ⟨x1, H7, b7, g1, g2, g3, g4, g5⟩ := toSendOpS_ev hd K6 hl hl2 m (by omega)
    obtain ⟨H8, i1, i2⟩ := eqSendOpS_ev (d3.kp ((e2.trans f2).trans g2)) g3 (Kp.refl H7) hl hl2 m (by omega)
    have KX : Kp H4 H8 := ((e2.trans f2).trans g2).trans i2
    obtain ⟨H9, j1, j2, j3⟩ := markOpS_ev (d3.kp KX) d4 (Nat.le_refl _) hl hcX hl2 1 (by omega) (by omega) m (by omega)
    have n0 := b2.next
    have n1 := c2.next
    have n2 := d2.next
    have n3 := e2.next
    have n4 := f2.next
    have n5 := g2.next
    have n6 := i2.next
    have n7 := a2.next
    have w9 := (c3.kp (d2.trans KX)).koL j2 fun b hb hx => by have := c3.mem b hb; have := d5 b hx; omega
    have r9 := (e3.kp ((f2.trans g2).trans i2)).koL j2 fun b hb hx => by have := d3.mem b hx; have := e5 b hb; omega
    obtain ⟨H10, k1, k2⟩ := eqSendObsS_ev r9 w9 (Kp.refl H9) (by omega) hsm2 m (by omega)
    have K9 : Kp H H9 := j2.kp ((K6.trans g2).trans i2) fun b hb => by have := d5 b hb; have := K3.next; omega
    obtain ⟨H11, l1, l2, l3⟩ := markObsS_ev (r9.kp k2) e4 (Nat.le_refl _) (by omega) hcO hsm2 1 (by omega) (by omega) m (by omega)
    have o1 := heldObsS_ev l3 (Nat.le_refl _) (by omega) hcO hsm2 (by omega) (by omega) m (by omega)
    have K11 : Kp H H11 := l2.kp (K9.trans k2) fun b hb => by have := e5 b hb; have := K3.next; omega
    have w11 := (w9.kp k2).koL l2 fun b hb hx => by have := c3.mem b hb; have := e5 b hx; omega
    obtain ⟨x2, H12, b12, p1, p2, p3, p4, p5⟩ := toSendOpS_ev hd K11 hl hl2 m (by omega)
    obtain ⟨h0, H13, b13, q1, q2, q3, q4, q5⟩ := runI_ev p3 (Kp.refl H12) hl2 m (by omega)
    rw [hRR] at q1 q3
    simp only at q1 q3
    obtain ⟨H14, r1, r2⟩ := eqSendObsS_ev q3 (w11.kp (p2.trans q2)) (Kp.refl H13) (by omega) hsm2 m (by omega)
    have o2 := heldObsS_ev (l3.kp ((p2.trans q2).trans r2)) (Nat.le_refl _) (by omega) hcO hsm2 (by omega) (by omega) m (by omega)
    have t1 : ¬ (1 + (cntL (tSendOp.cnt true) ds : Nat) < (0 : Int)) := by omega
    have t2 : ¬ (1 + (cntL (tSendObs.cnt true) outs : Nat) < (0 : Int)) := by omega
    refine ⟨H14, ?_⟩
    simp only [tSendOp, tSendObs] at j1 l1 o1 o2 t1 t2
    simp [Try.f3, a1, h1, b1, c1, d1, e1, f1, g1, i1, j1, k1, l1, o1, p1, q1, r1, o2, t1, t2, evHist, ObsOk, ObOk]
end Go.Ev
