/- Lemmas of an evaluator of the given code and of what the functions answer; no condition of its own. -/
import Derived.Test.YtnoacfilglgbgaaEv7
import Derived.ChangeArms
import Derived.ChangeSlices
/- From what came in to the evaluator: data of any kind of rows and records. -/
namespace Go.Ev
open Go Go.RowKit
set_option linter.unusedSimpArgs false
set_option linter.unusedVariables false

mutual
/-- the type T shows data of the kind t -/
inductive Fits (P : Program) : TypeId → Ty → Prop
  | int {T : TypeId} {k : IntKind} : P.underlying T = some (.int k) → Fits P T (.int k)
  | bool {T : TypeId} : P.underlying T = some .bool → Fits P T .bool
  | str {T : TypeId} : P.underlying T = some .string → Fits P T .str
  | sl {T e : TypeId} {t : Ty} : P.underlying T = some (.slice e) → sizeT P e = some t.n → Fits P e t → Fits P T (.sl e t)
  | st {T : TypeId} {fs : Array Field} {t : Ty} : P.underlying T = some (.struct fs) → P.cellsOf T = t.n → FitsL P fs.toList 0 t → Fits P T t
inductive FitsL (P : Program) : List Field → Nat → Ty → Prop
  | one {f : Field} {off : Nat} {t : Ty} : f.offset = off → P.cellsOf f.type = t.n → Fits P f.type t → FitsL P [f] off t
  | cons {f : Field} {l : List Field} {off : Nat} {a b : Ty} : f.offset = off → P.cellsOf f.type = a.n → Fits P f.type a → FitsL P l (off + a.n) b → FitsL P (f :: l) off (.pair a b)
end
theorem Ty.n_pos : ∀ t : Ty, 0 < t.n
  | .int _ => by simp [Ty.n]
  | .bool => by simp [Ty.n]
  | .str => by simp [Ty.n]
  | .sl _ _ => by simp [Ty.n]
  | .pair a b => by have := Ty.n_pos a; simp only [Ty.n]; omega
/-- no row is longer than a machine's -/
def Ty.sm : (t : Ty) → t.D → Prop
  | .int _, _ => True
  | .bool, _ => True
  | .str, s => s.size ≤ 9223372036854775807
  | .sl _ t, l => l.length ≤ 9223372036854775807 ∧ ∀ x ∈ l, t.sm x
  | .pair a b, x => a.sm x.1 ∧ b.sm x.2

section
variable {P : Program} {w : World} {Hd : Type} {enc : TypeId × Value → Hd} {held : Bool}

theorem cellsOf_size {e : TypeId} {n : Nat} (h : sizeT P e = some n) : P.cellsOf e = n := by
  unfold Program.cellsOf; unfold sizeT at h; rw [h]; rfl

def InRes (P : Program) (w : World) (t : Ty) (cs : List Value) (H : AH) (μ : Mu) : Prop :=
  ∃ H' μ' c d bs, Ext μ μ' ∧ Rel P w H' μ' w ∧ Kp H H' ∧ VRs μ' c cs ∧ t.R false H' c d bs ∧ t.sm d

theorem Rel.ro {H : AH} {μ : Mu} (h : Rel P w H μ w) {e : TypeId} {xs : List AV} {L : Loc} (h1 : xs.all AV.one = true) (hs : sizeT P e = some L.sz) (hn : L.base + xs.length ≤ L.n)
    (hc : ∀ (i : Nat) (a : AV), xs[i]? = some a → L.c < w.heap.size ∧ ∃ v, w.cell? ⟨L.c, L.base + i, none⟩ = some v ∧ VR μ a v) : Rel P w (H.push (.cells e true xs)) (muPush μ H.next L) w := by
  have hx := h.ext L
  refine ⟨h.below, ?_, ?_, ?_, ?_⟩
  · intro b hb
    simp only [AH.push_next] at hb
    unfold muPush
    rw [if_neg (by omega)]
    exact h.fresh _ (by omega)
  · intro b x hb
    rw [AH.push_get] at hb
    simp only [AH.push_next]
    split at hb
    · omega
    · have := h.dom _ _ hb; omega
  · intro b z hb
    rw [AH.push_get] at hb
    split at hb
    · rename_i hbb
      subst hbb
      simp only [Option.some.injEq] at hb; subst hb
      refine ⟨L, muPush_self _ _ _, h1, hs, hn, fun i a ha => ?_⟩
      obtain ⟨k1, v, k2, k3⟩ := hc i a ha
      exact ⟨k1, v, k2, VR.mono hx _ _ k3⟩
    · rename_i hbb
      exact (h.blk b z hb).mono hx fun hn' => by unfold muPush; rw [if_neg hbb]; exact hn'
  · intro b1 x1 hb1 hx1 b2 x2 hne hb2 hx2 L1 L2 hL1 hL2
    rw [AH.push_get] at hb1 hb2
    have e1 : b1 ≠ H.next := by
      intro e; rw [if_pos e] at hb1; simp only [Option.some.injEq] at hb1; subst hb1; simp [Blk.rw] at hx1
    have e2 : b2 ≠ H.next := by
      intro e; rw [if_pos e] at hb2; simp only [Option.some.injEq] at hb2; subst hb2; simp [Blk.rw] at hx2
    rw [if_neg e1] at hb1
    rw [if_neg e2] at hb2
    unfold muPush at hL1 hL2
    rw [if_neg e1] at hL1
    rw [if_neg e2] at hL2
    exact h.sep b1 x1 hb1 hx1 b2 x2 hne hb2 hx2 L1 L2 hL1 hL2

theorem cell_add {x : Addr} {i : Nat} {v : Value} (h : w.cell? (x.add i) = some v) (hx : x.spot = none) : w.cell? ⟨x.block, x.off + i, none⟩ = some v := by
  obtain ⟨b, o, s⟩ := x
  simp only at hx; subst hx
  unfold Addr.add at h
  split at h
  · rename_i e; subst e; exact h
  · exact h
theorem cells_some {a : Addr} {n : Nat} {cs : List Value} (h : w.cells? 0 a n = some cs) : cs.length = n ∧ ∀ i, i < n → w.cell? (a.add i) = cs[i]? := by
  have := World.cells?_some h
  exact ⟨this.2.1, fun i hi => this.2.2 i hi⟩
theorem VRs.app_inv {μ : Mu} : ∀ {c : List AV} {v1 v2 : List Value}, VRs μ c (v1 ++ v2) → True := fun _ => trivial

theorem in_fields {n : Nat} {cs : List Value} (ih : ∀ {T : TypeId} {t : Ty} {cs : List Value} {x : DataW Hd × List MemPlace} {H : AH} {μ : Mu}, Fits P T t → DataW.trod enc P w 0 (fun _ => true) held n T cs = some x → Rel P w H μ w → InRes P w t cs H μ) :
    ∀ {l : List Field} {off : Nat} {t : Ty} {H : AH} {μ : Mu}, FitsL P l off t → (∀ f ∈ l, ∃ x, DataW.trod enc P w 0 (fun _ => true) held n f.type ((cs.drop f.offset).take (P.cellsOf f.type)) = some x) → cs.length = off + t.n → Rel P w H μ w →
      InRes P w t (cs.drop off) H μ
  | [], _, _, _, _, hf, _, _, _ => by cases hf
  | f :: l, off, t, H, μ, hf, hx, hl, hR => by
    cases hf with
    | one h1 h2 h3 =>
      obtain ⟨x, hx⟩ := hx f (by simp)
      have := ih h3 hx hR
      rw [h1, h2] at this
      rw [List.take_of_length_le (by rw [List.length_drop]; omega)] at this
      exact this
    | @cons _ _ _ a b h1 h2 h3 h4 =>
      obtain ⟨x, hx1⟩ := hx f (by simp)
      obtain ⟨H1, μ1, c1, d1, b1, e1, r1, k1, v1, R1, s1⟩ := ih h3 hx1 hR
      obtain ⟨H2, μ2, c2, d2, b2, e2, r2, k2, v2, R2, s2⟩ := in_fields ih h4 (fun g hg => hx g (by simp [hg])) (by simp only [Ty.n] at hl; omega) r1
      refine ⟨H2, μ2, c1 ++ c2, (d1, d2), b1 ++ b2, e1.trans e2, r2, k1.trans k2, ?_, ⟨c1, c2, b1, b2, rfl, rfl, R1.kp k2, R2⟩, s1, s2⟩
      have := (VRs.mono e2 _ _ v1).append v2
      rw [h1, h2] at this
      rwa [← List.drop_drop, List.take_append_drop] at this

theorem in_rows {n : Nat} {e : TypeId} {t : Ty} {a : Addr} (ha : a.spot = none) (hs : P.cellsOf e = t.n) (hf : Fits P e t)
    (ih : ∀ {T : TypeId} {t : Ty} {cs : List Value} {x : DataW Hd × List MemPlace} {H : AH} {μ : Mu}, Fits P T t → DataW.trod enc P w 0 (fun _ => true) held n T cs = some x → Rel P w H μ w → InRes P w t cs H μ)
    {len : Nat} (hel : ∀ i, i < len → ∃ cs x, w.cells? 0 (a.add (i * P.cellsOf e)) (P.cellsOf e) = some cs ∧ DataW.trod enc P w 0 (fun _ => true) held n e cs = some x) {H : AH} {μ : Mu} (hR : Rel P w H μ w) :
    ∀ j, j ≤ len → ∃ H' μ' xs ds bs, Ext μ μ' ∧ Rel P w H' μ' w ∧ Kp H H' ∧ ds.length = j ∧ Rows (t.R false H') t.n xs ds bs ∧ (∀ d ∈ ds, t.sm d) ∧
      ∀ (i : Nat) (x : AV), xs[i]? = some x → a.block < w.heap.size ∧ ∃ v, w.cell? ⟨a.block, a.off + i, none⟩ = some v ∧ VR μ' x v
  | 0, _ => ⟨H, μ, [], [], [], Ext.refl _, hR, Kp.refl _, rfl, ⟨rfl, rfl⟩, by simp, by simp⟩
  | j + 1, hj => by
    obtain ⟨H1, μ1, xs, ds, bs, e1, r1, k1, hl, hrow, hsm, hcell⟩ := in_rows ha hs hf ih hel hR j (by omega)
    obtain ⟨cs, x, hc, htr⟩ := hel j (by omega)
    obtain ⟨H2, μ2, c, d, b, e2, r2, k2, v2, R2, s2⟩ := ih hf htr r1
    have hxl := hrow.len
    refine ⟨H2, μ2, xs ++ c, ds ++ [d], bs ++ b, e1.trans e2, r2, k1.trans k2, by simp [hl], Rows.app (hrow.imp fun c d b1 _ _ h => h.kp k2) (Rows.one R2 R2.len), ?_, ?_⟩
    · intro y hy
      rcases List.mem_append.1 hy with hy | hy
      · exact hsm y hy
      · rw [List.mem_singleton] at hy; subst hy; exact s2
    · intro i y hy
      rcases Nat.lt_or_ge i xs.length with hi | hi
      · rw [List.getElem?_append_left hi] at hy
        obtain ⟨g1, v, g2, g3⟩ := hcell i y hy
        exact ⟨g1, v, g2, VR.mono e2 _ _ g3⟩
      · rw [List.getElem?_append_right hi] at hy
        obtain ⟨v, h1, h2⟩ := v2.get _ _ hy
        obtain ⟨q1, q2⟩ := cells_some hc
        have hlt : i - xs.length < P.cellsOf e := by
          have := (List.getElem?_eq_some_iff.1 h1).1; omega
        have q3 := q2 _ hlt
        rw [h1] at q3
        have hsp : (a.add (j * P.cellsOf e)).spot = none := by
          unfold Addr.add; split
          · exact ha
          · rfl
        have q4 := cell_add q3 hsp
        have hb : (a.add (j * P.cellsOf e)).block = a.block ∧ (a.add (j * P.cellsOf e)).off = a.off + j * P.cellsOf e := by
          unfold Addr.add; split
          · rename_i e0; simp [e0]
          · exact ⟨rfl, rfl⟩
        rw [hb.1, hb.2] at q4
        have : a.off + j * P.cellsOf e + (i - xs.length) = a.off + i := by rw [hs, ← hl, ← hxl]; omega
        rw [this] at q4
        refine ⟨?_, v, q4, h2⟩
        unfold World.cell? at q4
        split at q4
        · rename_i hh
          rcases Nat.lt_or_ge a.block w.heap.size with hl | hl
          · exact hl
          · rw [Array.getElem?_eq_none hl] at hh; simp at hh
        · simp at q4

theorem in_ty : ∀ (fuel : Nat) {T : TypeId} {t : Ty} {cs : List Value} {x : DataW Hd × List MemPlace} {H : AH} {μ : Mu}, Fits P T t → DataW.trod enc P w 0 (fun _ => true) held fuel T cs = some x → Rel P w H μ w → InRes P w t cs H μ
  | 0, _, _, _, _, _, _, _, h, _ => by simp [DataW.trod] at h
  | fuel + 1, T, t, cs, x, H, μ, hf, h, hR => by
    have ih := @in_ty fuel
    cases hf with
    | int hT =>
      rename_i k
      obtain ⟨n, rfl, rfl, hw⟩ := DataW.trod_int hT h
      simp only [Lit.wf, Bool.and_eq_true, decide_eq_true_eq] at hw
      exact ⟨H, μ, [.int k n], n, [], Ext.refl _, hR, Kp.refl _, by simp [VRs, VR], ⟨rfl, hw.1, hw.2, rfl⟩, trivial⟩
    | bool hT =>
      obtain ⟨b, rfl, rfl⟩ := DataW.trod_bool hT h
      exact ⟨H, μ, [.bool b], b, [], Ext.refl _, hR, Kp.refl _, by simp [VRs, VR], ⟨rfl, rfl⟩, trivial⟩
    | str hT =>
      obtain ⟨s, rfl, rfl, hm⟩ := DataW.trod_string hT h
      exact ⟨H, μ, [.str s], s, [], Ext.refl _, hR, Kp.refl _, by simp [VRs, VR], ⟨rfl, rfl⟩, hm⟩
    | sl hT hs hf =>
      rename_i e t
      rcases DataW.trod_slice hT h with ⟨rfl, rfl⟩ | ⟨a, len, cap, elems, rest, n, hfu, rfl, rfl, _, hl, hm, hlen, hel, hsp, _⟩
      · exact ⟨H, μ, [.nilSlice], [], [], Ext.refl _, hR, Kp.refl _, by simp [VRs, VR], .inl ⟨rfl, rfl, rfl⟩, by simp [Ty.sm]⟩
      · obtain rfl : n = fuel := by omega
        have hc := cellsOf_size hs
        have hp := Ty.n_pos t
        obtain ⟨hrl, hre⟩ := hsp rfl
        have hcell : ∀ i, i < cap → ∃ cs x, w.cells? 0 (a.add (i * P.cellsOf e)) (P.cellsOf e) = some cs ∧ DataW.trod enc P w 0 (fun _ => true) held n e cs = some x := by
          intro i hi
          by_cases hil : i < len
          · have := hel i hil
            rw [List.getElem?_eq_getElem (by omega), Option.bind_eq_some_iff] at this
            obtain ⟨cs, h1, h2⟩ := this
            exact ⟨cs, _, h1, h2⟩
          · have := hre (i - len) (by omega)
            rw [List.getElem?_eq_getElem (by omega), Option.bind_eq_some_iff] at this
            obtain ⟨cs, h1, h2⟩ := this
            rw [show len + (i - len) = i by omega] at h1
            exact ⟨cs, _, h1, h2⟩
        have hspot : cap ≠ 0 → a.spot = none := by
          intro h0
          obtain ⟨cs, x, h1, h2⟩ := hcell 0 (by omega)
          obtain ⟨q1, q2⟩ := cells_some h1
          have q3 := q2 0 (by omega)
          rw [List.getElem?_eq_getElem (by omega)] at q3
          have ea : ∀ b : Addr, b.add 0 = b := fun b => by simp [Addr.add]
          rw [Nat.zero_mul, ea, ea] at q3
          unfold World.cell? at q3
          split at q3
          · split at q3
            · simp at q3
            · rename_i hs; simpa using hs
          · simp at q3
        by_cases h0 : cap = 0
        · subst h0
          obtain rfl : len = 0 := by omega
          have hr := hR.ro (e := e) (xs := []) (L := ⟨0, 0, 0, t.n⟩) rfl hs (by simp) (by simp)
          refine ⟨_, _, [.slice H.next 0 0], [], [H.next], hR.ext _, hr, (Kp.refl H).push _, ?_, ?_, by simp [Ty.sm]⟩
          · simp only [VRs, VR]
            exact ⟨_, [], rfl, ⟨_, 0, a, muPush_self _ _ _, rfl, Nat.le_refl _, fun h => (h rfl).elim⟩, rfl⟩
          · exact .inr ⟨H.next, 0, true, [], [], rfl, rfl, by simp, by simp, by simp, by simp, by simp [Rows]⟩
        · obtain ⟨H1, μ1, xs, ds, bs, e1, r1, k1, hdl, hrow, hsm, hxc⟩ := in_rows (len := len) (hspot h0) hc hf (fun h1 h2 h3 => ih h1 h2 h3) (fun i hi => hcell i (by omega)) hR len (Nat.le_refl _)
          have hxl := hrow.len
          have hle : len * t.n ≤ cap * t.n := Nat.mul_le_mul_right _ hl
          have hone : xs.all AV.one = true := by
            have : ∀ {ds : List t.D} {xs : List AV} {bs : List Nat}, Rows (t.R false H1) t.n xs ds bs → xs.all AV.one = true := by
              intro ds
              induction ds with
              | nil => intro xs bs h; rw [h.1]; rfl
              | cons d ds ihd =>
                rintro xs bs ⟨c, r, b1, b2, rfl, _, _, h4, h5⟩
                rw [List.all_append, h4.one, ihd h5]; rfl
            exact this hrow
          have hr := r1.ro (e := e) (xs := xs) (L := ⟨a.block, a.off, a.off + cap * t.n, t.n⟩) hone hs (by simp only; rw [hxl, hdl]; omega) hxc
          refine ⟨_, _, [.slice H1.next 0 len], ds, H1.next :: bs, e1.trans (r1.ext _), hr, k1.push _, ?_, ?_, by rw [hdl]; exact Nat.le_trans hl hm, hsm⟩
          · simp only [VRs, VR]
            refine ⟨_, [], rfl, ⟨_, cap, a, muPush_self _ _ _, rfl, hl, fun _ => ⟨?_, ?_⟩⟩, rfl⟩
            · have := hspot h0
              obtain ⟨b, o, s⟩ := a; simp only at this; subst this; simp
            · simp
          · subst hdl
            refine .inr ⟨H1.next, 0, true, xs, bs, rfl, rfl, by simp, by simp, by simp, by omega, ?_⟩
            rw [List.drop_zero, ← hxl, List.take_length]
            exact hrow.imp fun c d b1 _ _ h => h.kp ((Kp.refl H1).push _)
    | st hT hc hl =>
      rename_i fs
      obtain ⟨xs, n, hfu, hx, hcl, hxl, hg⟩ := DataW.trod_struct hT h
      obtain rfl : n = fuel := by omega
      have := in_fields (cs := cs) (H := H) (μ := μ) (fun h1 h2 h3 => ih h1 h2 h3) hl (fun f hf => by
        obtain ⟨i, hi, hfe⟩ := List.getElem_of_mem hf
        have hi' : i < fs.size := by simpa using hi
        have hfi : fs[i]? = some f := by rw [Array.getElem?_eq_getElem hi']; simpa using hfe
        have := hg i f hfi
        rw [List.getElem?_eq_getElem (by omega)] at this
        exact ⟨_, this⟩) (by rw [hcl, hc]; omega) hR
      rwa [List.drop_zero] at this
end
end Go.Ev

/- What the laws' helpers do, for data of any kind: sizes, bounds, marks; loads and stores inside a block. -/
namespace Go.Ev
open Go
set_option linter.unusedSimpArgs false
set_option linter.unusedVariables false

def InK (k : IntKind) (n : Int) : Prop := k.min ≤ n ∧ n ≤ k.max
theorem InK.i64 {n : Int} (h1 : -9223372036854775808 ≤ n) (h2 : n ≤ 9223372036854775807) : InK .i64 n := by
  have e1 : IntKind.min .i64 = -9223372036854775808 := by decide
  have e2 : IntKind.max .i64 = 9223372036854775807 := by decide
  exact ⟨by rw [e1]; exact h1, by rw [e2]; exact h2⟩
theorem InK.of_i64 {n : Int} (h : InK .i64 n) : -9223372036854775808 ≤ n ∧ n ≤ 9223372036854775807 := by
  have e1 : IntKind.min .i64 = -9223372036854775808 := by decide
  have e2 : IntKind.max .i64 = 9223372036854775807 := by decide
  obtain ⟨h1, h2⟩ := h
  rw [e1] at h1; rw [e2] at h2; exact ⟨h1, h2⟩
theorem InK.u8 {n : Int} (h1 : 0 ≤ n) (h2 : n ≤ 255) : InK .u8 n := by
  have e1 : IntKind.min .u8 = 0 := by decide
  have e2 : IntKind.max .u8 = 255 := by decide
  exact ⟨by rw [e1]; exact h1, by rw [e2]; exact h2⟩
theorem InK.of_u8 {n : Int} (h : InK .u8 n) : 0 ≤ n ∧ n ≤ 255 := by
  have e1 : IntKind.min .u8 = 0 := by decide
  have e2 : IntKind.max .u8 = 255 := by decide
  obtain ⟨h1, h2⟩ := h
  rw [e1] at h1; rw [e2] at h2; exact ⟨h1, h2⟩
theorem InK.wrap (k : IntKind) (n : Int) : InK k (k.wrap n) := by
  cases k <;> (try rw [IntKind.wrap_i64]) <;> (try rw [IntKind.wrap_u8]) <;> simp [InK, IntKind.wrap, IntKind.min, IntKind.max, IntKind.signed, IntKind.bits] <;> omega
theorem Ty.R.int {rw : Bool} {H : AH} {k : IntKind} {n : Int} (h : InK k n) : (Ty.int k).R rw H [.int k n] n [] := ⟨rfl, h.1, h.2, rfl⟩
theorem Ty.R.bool {rw : Bool} {H : AH} (b : Bool) : Ty.bool.R rw H [.bool b] b [] := ⟨rfl, rfl⟩
theorem Ty.R.str {rw : Bool} {H : AH} (s : ByteArray) : Ty.str.R rw H [.str s] s [] := ⟨rfl, rfl⟩
theorem Ty.R.pair {rw : Bool} {H : AH} {a b : Ty} {c1 c2 : List AV} {x : a.D} {y : b.D} {b1 b2 : List Nat} (h1 : a.R rw H c1 x b1) (h2 : b.R rw H c2 y b2) : (Ty.pair a b).R rw H (c1 ++ c2) (x, y) (b1 ++ b2) := ⟨c1, c2, b1, b2, rfl, rfl, h1, h2⟩
theorem Ty.R.sl_one {rw : Bool} {H : AH} {e : TypeId} {t : Ty} {v : AV} {d : List t.D} {bs : List Nat} (h : (Ty.sl e t).R rw H [v] d bs) : v.one = true := by
  have := h.one; simpa using this
theorem Ty.R.sl_cell {rw : Bool} {H : AH} {e : TypeId} {t : Ty} {c : List AV} {d : List t.D} {bs : List Nat} (h : (Ty.sl e t).R rw H c d bs) : ∃ v, c = [v] := List.length_eq_one_iff.1 h.len

/-! sizes -/
def szR (left : Int) (n : Nat) : Int := if left < n then -1 else left - n
theorem szR_ge {left : Int} {n : Nat} (h : (n : Int) ≤ left) : szR left n = left - n := by unfold szR; rw [if_neg (by omega)]
theorem szR_lt {left : Int} {n : Nat} (h : left < (n : Int)) : szR left n = -1 := by unfold szR; rw [if_pos h]
def Ty.sz : (t : Ty) → t.D → Nat
  | .int _, _ => 0
  | .bool, _ => 0
  | .str, s => s.size
  | .sl _ t, l => l.length + cntL t.sz l
  | .pair a b, d => a.sz d.1 + b.sz d.2
def Ty.bd (B : Nat) : (t : Ty) → t.D → Prop
  | .int _, _ => True
  | .bool, _ => True
  | .str, s => s.size ≤ B
  | .sl _ t, l => l.length ≤ B ∧ ∀ x ∈ l, t.bd B x
  | .pair a b, d => a.bd B d.1 ∧ b.bd B d.2
theorem mem_cntL {α : Type} (c : α → Nat) : ∀ (l : List α) (d : α), d ∈ l → c d ≤ cntL c l
  | x :: l, d, h => by
    simp only [cntL]
    rcases List.mem_cons.1 h with rfl | h
    · omega
    · have := mem_cntL c l d h; omega
theorem cntL_le {α : Type} (c : α → Nat) (B : Nat) : ∀ (l : List α), (∀ d ∈ l, c d ≤ B) → cntL c l ≤ l.length * B
  | [], _ => by simp [cntL]
  | d :: l, h => by
    have h1 := h d (by simp)
    have h2 := cntL_le c B l fun x hx => h x (by simp [hx])
    simp only [cntL, List.length_cons, Nat.succ_mul]; omega
theorem Ty.sz_bd {B : Nat} : ∀ {t : Ty} {d : t.D}, t.sz d ≤ B → t.bd B d
  | .int _, _, _ => trivial
  | .bool, _, _ => trivial
  | .str, _, h => h
  | .sl _ t, l, h => by
    simp only [Ty.sz] at h
    exact ⟨by omega, fun x hx => Ty.sz_bd (by have := mem_cntL t.sz l x hx; omega)⟩
  | .pair a b, d, h => by
    simp only [Ty.sz] at h
    exact ⟨Ty.sz_bd (by omega), Ty.sz_bd (by omega)⟩
theorem Ty.bd_mono {A B : Nat} (hAB : A ≤ B) : ∀ {t : Ty} {d : t.D}, t.bd A d → t.bd B d
  | .int _, _, _ => trivial
  | .bool, _, _ => trivial
  | .str, _, h => Nat.le_trans h hAB
  | .sl _ t, l, h => ⟨Nat.le_trans h.1 hAB, fun x hx => Ty.bd_mono hAB (h.2 x hx)⟩
  | .pair a b, d, h => ⟨Ty.bd_mono hAB h.1, Ty.bd_mono hAB h.2⟩
theorem Ty.sm_bd : ∀ {t : Ty} {d : t.D}, t.sm d → t.bd 9223372036854775807 d
  | .int _, _, _ => trivial
  | .bool, _, _ => trivial
  | .str, _, h => h
  | .sl _ t, l, h => ⟨h.1, fun x hx => Ty.sm_bd (h.2 x hx)⟩
  | .pair a b, d, h => ⟨Ty.sm_bd h.1, Ty.sm_bd h.2⟩
def Ty.w : Ty → Nat
  | .int _ => 1
  | .bool => 1
  | .str => 1
  | .sl _ t => t.w
  | .pair a b => a.w + b.w
theorem Ty.cnt_le (s : Bool) : ∀ {t : Ty} (d : t.D), t.cnt s d ≤ t.w * (1 + t.sz d)
  | .int _, _ => by simp only [Ty.cnt, Ty.w, Ty.sz]; split <;> omega
  | .bool, _ => by simp only [Ty.cnt, Ty.w, Ty.sz]; split <;> omega
  | .str, _ => by simp only [Ty.cnt, Ty.w, Ty.sz]; split <;> omega
  | .sl _ t, l => by
    simp only [Ty.cnt, Ty.w, Ty.sz]
    have key : ∀ l : List t.D, cntL (t.cnt true) l ≤ t.w * (l.length + cntL t.sz l) := by
      intro l
      induction l with
      | nil => simp [cntL]
      | cons d l ih =>
        have h1 := Ty.cnt_le true d
        simp only [cntL, List.length_cons]
        have e : t.w * (l.length + 1 + (t.sz d + cntL t.sz l)) = t.w * (1 + t.sz d) + t.w * (l.length + cntL t.sz l) := by rw [← Nat.mul_add]; congr 1; omega
        omega
    exact Nat.le_trans (key l) (Nat.mul_le_mul_left _ (by omega))
  | .pair a b, d => by
    simp only [Ty.cnt, Ty.w, Ty.sz]
    have h1 := Ty.cnt_le s d.1
    have h2 := Ty.cnt_le s d.2
    have e1 : a.w * (1 + a.sz d.1) ≤ a.w * (1 + (a.sz d.1 + b.sz d.2)) := Nat.mul_le_mul_left _ (by omega)
    have e2 : b.w * (1 + b.sz d.2) ≤ b.w * (1 + (a.sz d.1 + b.sz d.2)) := Nat.mul_le_mul_left _ (by omega)
    rw [Nat.add_mul]; omega
theorem Ty.cnt_bound {s : Bool} {t : Ty} {d : t.D} {A N : Nat} (h : t.sz d ≤ A) (hN : t.w * (1 + A) ≤ N) : t.cnt s d ≤ N :=
  Nat.le_trans (Nat.le_trans (Ty.cnt_le s d) (Nat.mul_le_mul_left _ (by omega))) hN

theorem cntL_take_succ' {α : Type} (c : α → Nat) (l : List α) (k : Nat) (h : k < l.length) : cntL c (l.take (k + 1)) = cntL c (l.take k) + c l[k] := by
  rw [List.take_add_one, List.getElem?_eq_getElem h, cntL_app]; simp [cntL]
theorem cntL_take_le' {α : Type} (c : α → Nat) (l : List α) (k : Nat) : cntL c (l.take k) ≤ cntL c l := by
  have : cntL c l = cntL c (l.take k) + cntL c (l.drop k) := by rw [← cntL_app, List.take_append_drop]
  omega

/-! marks -/
theorem mk_pair (s : Bool) (a b : Ty) (m : Int) (x : a.D) (y : b.D) : (Ty.pair a b).mk s m (x, y) = (a.mk s m x, b.mk s (m + (a.cnt s x : Nat)) y) := rfl
theorem cnt_pair (s : Bool) (a b : Ty) (x : a.D) (y : b.D) : (Ty.pair a b).cnt s (x, y) = a.cnt s x + b.cnt s y := rfl
theorem mk_int1 (m d : Int) (h0 : -9223372036854775808 ≤ m) (h1 : m ≤ 9223372036854775807) : (Ty.int .i64).mk true m d = m := wrap_i64 h0 h1
theorem mk_intw (k : IntKind) (m d : Int) : (Ty.int k).mk true m d = k.wrap m := rfl
theorem mk_bool1 (m : Int) (d : Bool) : Ty.bool.mk true m d = decide (m % 3 = 0) := rfl
theorem mk_str1 (m : Int) (d : ByteArray) : Ty.str.mk true m d = markTextD m := rfl
theorem mk_sl (s : Bool) (e : TypeId) (t : Ty) (m : Int) (x : List t.D) : (Ty.sl e t).mk s m x = mkRow (t.mk true) (t.cnt true) m x := rfl
theorem cnt_sl (s : Bool) (e : TypeId) (t : Ty) (x : List t.D) : (Ty.sl e t).cnt s x = cntL (t.cnt true) x := rfl
theorem mk_int0 (k : IntKind) (m d : Int) : (Ty.int k).mk false m d = d := rfl
theorem mk_bool0 (m : Int) (d : Bool) : Ty.bool.mk false m d = d := rfl
theorem mk_str0 (m : Int) (d : ByteArray) : Ty.str.mk false m d = d := rfl
theorem cnt_int1 (k : IntKind) (d : Int) : (Ty.int k).cnt true d = 1 := rfl
theorem cnt_bool1 (d : Bool) : Ty.bool.cnt true d = 1 := rfl
theorem cnt_str1 (d : ByteArray) : Ty.str.cnt true d = 1 := rfl
theorem cnt_int0 (k : IntKind) (d : Int) : (Ty.int k).cnt false d = 0 := rfl
theorem cnt_bool0 (d : Bool) : Ty.bool.cnt false d = 0 := rfl
theorem cnt_str0 (d : ByteArray) : Ty.str.cnt false d = 0 := rfl
theorem mod3 {K : Int} (h : 0 ≤ K) {q : Bool} (hq : decide (K % 3 = 0) = q) : (K.tmod 3 == 0) = q := by
  rw [← hq, Int.tmod_eq_emod_of_nonneg h]; rfl

theorem up_step {K K' : Int} {n : Nat} (h : K' = K + (n : Int)) (p : 0 ≤ K) : 0 ≤ K' := by omega
theorem dn_step {K K' B : Int} {n : Nat} (h : K' = K + (n : Int)) (u : K' ≤ B) : K ≤ B := by omega
theorem wrap_step {K K' : Int} {n : Nat} (h : K' = K + (n : Int)) (hn : n = 1) (p : 0 ≤ K) (u : K' ≤ 2147483648) : IntKind.i64.wrap (K + 1) = K' := by
  subst hn; rw [wrap_i64 (by omega) (by omega)]; omega
theorem InK.k31 {K : Int} (p : 0 ≤ K) (u : K ≤ 2147483648) : InK .i64 K := InK.i64 (by omega) (by omega)
theorem mk_int31 {m d : Int} (p : 0 ≤ m) (u : m ≤ 2147483648) : (Ty.int .i64).mk true m d = m := mk_int1 m d (by omega) (by omega)
/-! inside a block -/
theorem ld_midA0 {P : Program} {H : AH} {b o n : Nat} {e T : TypeId} {ro : Bool} {x1 c x2 : List AV} (h : H.get b = some (.cells e ro (x1 ++ c ++ x2))) (ho : x1.length = o) (ha : aggT P T = some true) (hs : sizeT P T = some n) (hc : c.length = n) : ldVar P T b o H = some (.agg c) := by
  have := ld_midA (j := 0) h ho ha hs (by omega)
  rw [Nat.add_zero] at this
  rw [this, List.drop_zero, ← hc, List.take_length]
theorem spl_mid : ∀ (c x1 y x2 : List AV), y.length = c.length → spl (x1 ++ y ++ x2) x1.length c = x1 ++ c ++ x2
  | [], x1, y, x2, h => by
    have : y = [] := List.eq_nil_of_length_eq_zero (by simpa using h)
    subst this; rfl
  | v :: c, x1, [], x2, h => by simp at h
  | v :: c, x1, w :: y, x2, h => by
    have ih := spl_mid c (x1 ++ [v]) y x2 (by simpa using h)
    simp only [spl]
    have e1 : (x1 ++ w :: y ++ x2).set x1.length v = x1 ++ [v] ++ y ++ x2 := by
      rw [List.append_assoc, List.set_append_right _ _ (Nat.le_refl _)]
      simp
    rw [e1]
    have e2 : x1.length + 1 = (x1 ++ [v]).length := by simp
    rw [e2, ih]
    simp
theorem st_midA {P : Program} {H : AH} {b o : Nat} {e T : TypeId} {x1 y c x2 : List AV} (h : H.get b = some (.cells e false (x1 ++ y ++ x2))) (ho : x1.length = o) (hs : sizeT P T = some c.length) (hy : y.length = c.length) (h1 : c.all AV.one = true) :
    stVar P T b o (.agg c) H = some (H.set b (.cells e false (x1 ++ c ++ x2))) := by
  subst ho
  simp only [stVar, h, hs, cells_agg, h1]
  rw [if_pos ⟨trivial, trivial, by simp; omega⟩, spl_mid c x1 y x2 hy]
theorem push_set2 (H : AH) (a b y : Blk) : ((H.push a).push b).set (H.next + 1) y = (H.push a).push y := push_set b y rfl
theorem push_set3 (H : AH) (a b c y : Blk) : (((H.push a).push b).push c).set (H.next + 1 + 1) y = ((H.push a).push b).push y := push_set c y rfl
theorem stf {P : Program} {H : AH} {b o j : Nat} {e T : TypeId} {x1 c c' x2 : List AV} {v : AV} (h : H.get b = some (.cells e false (x1 ++ c ++ x2))) (ho : x1.length = o) (hs : sizeT P T = some 1) (h1 : v.one = true) (hj : j < c.length) (hc : c.set j v = c') :
    stVar P T b (o + j) v H = some (H.set b (.cells e false (x1 ++ c' ++ x2))) := by
  rw [st_mid h ho hs h1 hj, hc]
theorem stf0 {P : Program} {H : AH} {b o : Nat} {e T : TypeId} {x1 c c' x2 : List AV} {v : AV} (h : H.get b = some (.cells e false (x1 ++ c ++ x2))) (ho : x1.length = o) (hs : sizeT P T = some 1) (h1 : v.one = true) (hj : 0 < c.length) (hc : c.set 0 v = c') :
    stVar P T b o v H = some (H.set b (.cells e false (x1 ++ c' ++ x2))) := stf (j := 0) h ho hs h1 hj hc
theorem ldf {P : Program} {H : AH} {b o j : Nat} {e T : TypeId} {ro : Bool} {x1 c x2 : List AV} {v : AV} (h : H.get b = some (.cells e ro (x1 ++ c ++ x2))) (ho : x1.length = o) (ha : aggT P T = some false) (hj : c[j]? = some v) : ldVar P T b (o + j) H = some v := by
  rw [ld_mid h ho ha (List.getElem?_eq_some_iff.1 hj).1, hj]
theorem ldf0 {P : Program} {H : AH} {b o : Nat} {e T : TypeId} {ro : Bool} {x1 c x2 : List AV} {v : AV} (h : H.get b = some (.cells e ro (x1 ++ c ++ x2))) (ho : x1.length = o) (ha : aggT P T = some false) (hj : c[0]? = some v) : ldVar P T b o H = some v := ldf (j := 0) h ho ha hj
theorem AH.set_getS (H : AH) (b : Nat) (x : Blk) : (H.set b x).get b = some x := by rw [AH.set_get, if_pos rfl]
theorem AH.set_getN (H : AH) {b c : Nat} (x : Blk) (h : c ≠ b) : (H.set b x).get c = H.get c := by rw [AH.set_get, if_neg h]
theorem nodup3 {a b : List Nat} (h : (a ++ b).Nodup) : a.Nodup ∧ b.Nodup ∧ ∀ x ∈ a, x ∉ b := by
  rw [List.nodup_append] at h
  exact ⟨h.1, h.2.1, fun x hx hb => h.2.2 x hx x hb rfl⟩
theorem mkRow_setH {α : Type} (f : Int → α → α) (c : α → Nat) (k0 : Int) (l : List α) (k : Nat) (hk : k < l.length) :
    (mkRow f c k0 (l.take k) ++ l.drop k).set k (f (k0 + (cntL c (l.take k) : Nat)) l[k]) = mkRow f c k0 (l.take (k + 1)) ++ l.drop (k + 1) := by
  have hl : (mkRow f c k0 (l.take k)).length = k := by rw [mkRow_len]; simp; omega
  rw [List.set_append_right _ _ (by omega), hl, Nat.sub_self, List.drop_eq_getElem_cons hk, List.set_cons_zero, List.take_add_one, List.getElem?_eq_getElem hk, mkRow_app]
  simp [mkRow]
theorem mkRow_atH {α : Type} (f : Int → α → α) (c : α → Nat) (k0 : Int) (l : List α) (k : Nat) (hk : k < l.length) (hk' : k < (mkRow f c k0 (l.take k) ++ l.drop k).length) : (mkRow f c k0 (l.take k) ++ l.drop k)[k] = l[k] := by
  have hl : (mkRow f c k0 (l.take k)).length = k := by rw [mkRow_len]; simp; omega
  rw [List.getElem_append_right (by omega)]
  simp [hl]
theorem mkRow_getH {α : Type} (f : Int → α → α) (c : α → Nat) : ∀ (l : List α) (k0 : Int) (k : Nat) (hk : k < l.length) (hk' : k < (mkRow f c k0 l).length), (mkRow f c k0 l)[k] = f (k0 + (cntL c (l.take k) : Nat)) l[k]
  | d :: l, k0, 0, hk, hk' => by simp [mkRow, cntL]
  | d :: l, k0, k + 1, hk, hk' => by
    simp only [mkRow, List.getElem_cons_succ]
    rw [mkRow_getH f c l (k0 + c d) k (by simpa using hk)]
    simp only [List.take_succ_cons, cntL]
    congr 1; push_cast; omega

end Go.Ev
