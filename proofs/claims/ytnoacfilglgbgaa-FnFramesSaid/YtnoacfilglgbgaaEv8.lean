/- Lemmas of an evaluator of the given code and of what the functions answer; no condition of its own. -/
import Derived.Test.YtnoacfilglgbgaaEv7
import Derived.ChangeArms
import Derived.ChangeSlices
import Derived.Test.YtnoacfilglgbgaaEv6
/- From what came in to the evaluator: data of any kind of rows and records. -/
namespace Go.Ev
open Go Go.RowKit
set_option linter.unusedSimpArgs false
set_option linter.unusedVariables false

mutual
/-- the type T shows data of the kind t -/
inductive Fits (P : Program) : TypeId → Ty → Prop
  | int {T : TypeId} {k : IntKind} : P.underlying T = some (.int k) → Fits P T (.int k)
  | bool {T : TypeId} : P.underlying T = some .bool → Fits P T .bool
  | str {T : TypeId} : P.underlying T = some .string → Fits P T .str
  | sl {T e : TypeId} {t : Ty} : P.underlying T = some (.slice e) → sizeT P e = some t.n → Fits P e t → Fits P T (.sl e t)
  | st {T : TypeId} {fs : Array Field} {t : Ty} : P.underlying T = some (.struct fs) → P.cellsOf T = t.n → FitsL P fs.toList 0 t → Fits P T t
inductive FitsL (P : Program) : List Field → Nat → Ty → Prop
  | one {f : Field} {off : Nat} {t : Ty} : f.offset = off → P.cellsOf f.type = t.n → Fits P f.type t → FitsL P [f] off t
  | cons {f : Field} {l : List Field} {off : Nat} {a b : Ty} : f.offset = off → P.cellsOf f.type = a.n → Fits P f.type a → FitsL P l (off + a.n) b → FitsL P (f :: l) off (.pair a b)
end
theorem Ty.n_pos : ∀ t : Ty, 0 < t.n
  | .int _ => by simp [Ty.n]
  | .bool => by simp [Ty.n]
  | .str => by simp [Ty.n]
  | .sl _ _ => by simp [Ty.n]
  | .pair a b => by have := Ty.n_pos a; simp only [Ty.n]; omega
/-- no row is longer than a machine's -/
def Ty.sm : (t : Ty) → t.D → Prop
  | .int _, _ => True
  | .bool, _ => True
  | .str, s => s.size ≤ 9223372036854775807
  | .sl _ t, l => l.length ≤ 9223372036854775807 ∧ ∀ x ∈ l, t.sm x
  | .pair a b, x => a.sm x.1 ∧ b.sm x.2

section
variable {P : Program} {w : World} {Hd : Type} {enc : TypeId × Value → Hd} {held : Bool}

theorem cellsOf_size {e : TypeId} {n : Nat} (h : sizeT P e = some n) : P.cellsOf e = n := by
  unfold Program.cellsOf; unfold sizeT at h; rw [h]; rfl

def InRes (P : Program) (w : World) (t : Ty) (cs : List Value) (H : AH) (μ : Mu) : Prop :=
  ∃ H' μ' c d bs, Ext μ μ' ∧ Rel P w H' μ' w ∧ Kp H H' ∧ VRs μ' c cs ∧ t.R false H' c d bs ∧ t.sm d

theorem Rel.ro {H : AH} {μ : Mu} (h : Rel P w H μ w) {e : TypeId} {xs : List AV} {L : Loc} (h1 : xs.all AV.one = true) (hs : sizeT P e = some L.sz) (hn : L.base + xs.length ≤ L.n)
    (hc : ∀ (i : Nat) (a : AV), xs[i]? = some a → L.c < w.heap.size ∧ ∃ v, w.cell? ⟨L.c, L.base + i, none⟩ = some v ∧ VR μ a v) : Rel P w (H.push (.cells e true xs)) (muPush μ H.next L) w := by
  have hx := h.ext L
  refine ⟨h.below, ?_, ?_, ?_, ?_⟩
  · intro b hb
    simp only [AH.push_next] at hb
    unfold muPush
    rw [if_neg (by omega)]
    exact h.fresh _ (by omega)
  · intro b x hb
    rw [AH.push_get] at hb
    simp only [AH.push_next]
    split at hb
    · omega
    · have := h.dom _ _ hb; omega
  · intro b z hb
    rw [AH.push_get] at hb
    split at hb
    · rename_i hbb
      subst hbb
      simp only [Option.some.injEq] at hb; subst hb
      refine ⟨L, muPush_self _ _ _, h1, hs, hn, fun i a ha => ?_⟩
      obtain ⟨k1, v, k2, k3⟩ := hc i a ha
      exact ⟨k1, v, k2, VR.mono hx _ _ k3⟩
    · rename_i hbb
      exact (h.blk b z hb).mono hx fun hn' => by unfold muPush; rw [if_neg hbb]; exact hn'
  · intro b1 x1 hb1 hx1 b2 x2 hne hb2 hx2 L1 L2 hL1 hL2
    rw [AH.push_get] at hb1 hb2
    have e1 : b1 ≠ H.next := by
      intro e; rw [if_pos e] at hb1; simp only [Option.some.injEq] at hb1; subst hb1; simp [Blk.rw] at hx1
    have e2 : b2 ≠ H.next := by
      intro e; rw [if_pos e] at hb2; simp only [Option.some.injEq] at hb2; subst hb2; simp [Blk.rw] at hx2
    rw [if_neg e1] at hb1
    rw [if_neg e2] at hb2
    unfold muPush at hL1 hL2
    rw [if_neg e1] at hL1
    rw [if_neg e2] at hL2
    exact h.sep b1 x1 hb1 hx1 b2 x2 hne hb2 hx2 L1 L2 hL1 hL2

theorem cell_add {x : Addr} {i : Nat} {v : Value} (h : w.cell? (x.add i) = some v) (hx : x.spot = none) : w.cell? ⟨x.block, x.off + i, none⟩ = some v := by
  obtain ⟨b, o, s⟩ := x
  simp only at hx; subst hx
  unfold Addr.add at h
  split at h
  · rename_i e; subst e; exact h
  · exact h
theorem cells_some {a : Addr} {n : Nat} {cs : List Value} (h : w.cells? 0 a n = some cs) : cs.length = n ∧ ∀ i, i < n → w.cell? (a.add i) = cs[i]? := by
  have := World.cells?_some h
  exact ⟨this.2.1, fun i hi => this.2.2 i hi⟩
theorem VRs.app_inv {μ : Mu} : ∀ {c : List AV} {v1 v2 : List Value}, VRs μ c (v1 ++ v2) → True := fun _ => trivial

theorem in_fields {n : Nat} {cs : List Value} (ih : ∀ {T : TypeId} {t : Ty} {cs : List Value} {x : DataW Hd × List MemPlace} {H : AH} {μ : Mu}, Fits P T t → DataW.trod enc P w 0 (fun _ => true) held n T cs = some x → Rel P w H μ w → InRes P w t cs H μ) :
    ∀ {l : List Field} {off : Nat} {t : Ty} {H : AH} {μ : Mu}, FitsL P l off t → (∀ f ∈ l, ∃ x, DataW.trod enc P w 0 (fun _ => true) held n f.type ((cs.drop f.offset).take (P.cellsOf f.type)) = some x) → cs.length = off + t.n → Rel P w H μ w →
      InRes P w t (cs.drop off) H μ
  | [], _, _, _, _, hf, _, _, _ => by cases hf
  | f :: l, off, t, H, μ, hf, hx, hl, hR => by
    cases hf with
    | one h1 h2 h3 =>
      obtain ⟨x, hx⟩ := hx f (by simp)
      have := ih h3 hx hR
      rw [h1, h2] at this
      rw [List.take_of_length_le (by rw [List.length_drop]; omega)] at this
      exact this
    | @cons _ _ _ a b h1 h2 h3 h4 =>
      obtain ⟨x, hx1⟩ := hx f (by simp)
      obtain ⟨H1, μ1, c1, d1, b1, e1, r1, k1, v1, R1, s1⟩ := ih h3 hx1 hR
      obtain ⟨H2, μ2, c2, d2, b2, e2, r2, k2, v2, R2, s2⟩ := in_fields ih h4 (fun g hg => hx g (by simp [hg])) (by simp only [Ty.n] at hl; omega) r1
      refine ⟨H2, μ2, c1 ++ c2, (d1, d2), b1 ++ b2, e1.trans e2, r2, k1.trans k2, ?_, ⟨c1, c2, b1, b2, rfl, rfl, R1.kp k2, R2⟩, s1, s2⟩
      have := (VRs.mono e2 _ _ v1).append v2
      rw [h1, h2] at this
      rwa [← List.drop_drop, List.take_append_drop] at this

theorem in_rows {n : Nat} {e : TypeId} {t : Ty} {a : Addr} (ha : a.spot = none) (hs : P.cellsOf e = t.n) (hf : Fits P e t)
    (ih : ∀ {T : TypeId} {t : Ty} {cs : List Value} {x : DataW Hd × List MemPlace} {H : AH} {μ : Mu}, Fits P T t → DataW.trod enc P w 0 (fun _ => true) held n T cs = some x → Rel P w H μ w → InRes P w t cs H μ)
    {len : Nat} (hel : ∀ i, i < len → ∃ cs x, w.cells? 0 (a.add (i * P.cellsOf e)) (P.cellsOf e) = some cs ∧ DataW.trod enc P w 0 (fun _ => true) held n e cs = some x) {H : AH} {μ : Mu} (hR : Rel P w H μ w) :
    ∀ j, j ≤ len → ∃ H' μ' xs ds bs, Ext μ μ' ∧ Rel P w H' μ' w ∧ Kp H H' ∧ ds.length = j ∧ Rows (t.R false H') t.n xs ds bs ∧ (∀ d ∈ ds, t.sm d) ∧
      ∀ (i : Nat) (x : AV), xs[i]? = some x → a.block < w.heap.size ∧ ∃ v, w.cell? ⟨a.block, a.off + i, none⟩ = some v ∧ VR μ' x v
  | 0, _ => ⟨H, μ, [], [], [], Ext.refl _, hR, Kp.refl _, rfl, ⟨rfl, rfl⟩, by simp, by simp⟩
  | j + 1, hj => by
    obtain ⟨H1, μ1, xs, ds, bs, e1, r1, k1, hl, hrow, hsm, hcell⟩ := in_rows ha hs hf ih hel hR j (by omega)
    obtain ⟨cs, x, hc, htr⟩ := hel j (by omega)
    obtain ⟨H2, μ2, c, d, b, e2, r2, k2, v2, R2, s2⟩ := ih hf htr r1
    have hxl := hrow.len
    refine ⟨H2, μ2, xs ++ c, ds ++ [d], bs ++ b, e1.trans e2, r2, k1.trans k2, by simp [hl], Rows.app (hrow.imp fun c d b1 _ _ h => h.kp k2) (Rows.one R2 R2.len), ?_, ?_⟩
    · intro y hy
      rcases List.mem_append.1 hy with hy | hy
      · exact hsm y hy
      · rw [List.mem_singleton] at hy; subst hy; exact s2
    · intro i y hy
      rcases Nat.lt_or_ge i xs.length with hi | hi
      · rw [List.getElem?_append_left hi] at hy
        obtain ⟨g1, v, g2, g3⟩ := hcell i y hy
        exact ⟨g1, v, g2, VR.mono e2 _ _ g3⟩
      · rw [List.getElem?_append_right hi] at hy
        obtain ⟨v, h1, h2⟩ := v2.get _ _ hy
        obtain ⟨q1, q2⟩ := cells_some hc
        have hlt : i - xs.length < P.cellsOf e := by
          have := (List.getElem?_eq_some_iff.1 h1).1; omega
        have q3 := q2 _ hlt
        rw [h1] at q3
        have hsp : (a.add (j * P.cellsOf e)).spot = none := by
          unfold Addr.add; split
          · exact ha
          · rfl
        have q4 := cell_add q3 hsp
        have hb : (a.add (j * P.cellsOf e)).block = a.block ∧ (a.add (j * P.cellsOf e)).off = a.off + j * P.cellsOf e := by
          unfold Addr.add; split
          · rename_i e0; simp [e0]
          · exact ⟨rfl, rfl⟩
        rw [hb.1, hb.2] at q4
        have : a.off + j * P.cellsOf e + (i - xs.length) = a.off + i := by rw [hs, ← hl, ← hxl]; omega
        rw [this] at q4
        refine ⟨?_, v, q4, h2⟩
        unfold World.cell? at q4
        split at q4
        · rename_i hh
          rcases Nat.lt_or_ge a.block w.heap.size with hl | hl
          · exact hl
          · rw [Array.getElem?_eq_none hl] at hh; simp at hh
        · simp at q4

theorem in_ty : ∀ (fuel : Nat) {T : TypeId} {t : Ty} {cs : List Value} {x : DataW Hd × List MemPlace} {H : AH} {μ : Mu}, Fits P T t → DataW.trod enc P w 0 (fun _ => true) held fuel T cs = some x → Rel P w H μ w → InRes P w t cs H μ
  | 0, _, _, _, _, _, _, _, h, _ => by simp [DataW.trod] at h
  | fuel + 1, T, t, cs, x, H, μ, hf, h, hR => by
    have ih := @in_ty fuel
    cases hf with
    | int hT =>
      rename_i k
      obtain ⟨n, rfl, rfl, hw⟩ := DataW.trod_int hT h
      simp only [Lit.wf, Bool.and_eq_true, decide_eq_true_eq] at hw
      exact ⟨H, μ, [.int k n], n, [], Ext.refl _, hR, Kp.refl _, by simp [VRs, VR], ⟨rfl, hw.1, hw.2, rfl⟩, trivial⟩
    | bool hT =>
      obtain ⟨b, rfl, rfl⟩ := DataW.trod_bool hT h
      exact ⟨H, μ, [.bool b], b, [], Ext.refl _, hR, Kp.refl _, by simp [VRs, VR], ⟨rfl, rfl⟩, trivial⟩
    | str hT =>
      obtain ⟨s, rfl, rfl, hm⟩ := DataW.trod_string hT h
      exact ⟨H, μ, [.str s], s, [], Ext.refl _, hR, Kp.refl _, by simp [VRs, VR], ⟨rfl, rfl⟩, hm⟩
    | sl hT hs hf =>
      rename_i e t
      rcases DataW.trod_slice hT h with ⟨rfl, rfl⟩ | ⟨a, len, cap, elems, rest, n, hfu, rfl, rfl, _, hl, hm, hlen, hel, hsp, _⟩
      · exact ⟨H, μ, [.nilSlice], [], [], Ext.refl _, hR, Kp.refl _, by simp [VRs, VR], .inl ⟨rfl, rfl, rfl⟩, by simp [Ty.sm]⟩
      · obtain rfl : n = fuel := by omega
        have hc := cellsOf_size hs
        have hp := Ty.n_pos t
        obtain ⟨hrl, hre⟩ := hsp rfl
        have hcell : ∀ i, i < cap → ∃ cs x, w.cells? 0 (a.add (i * P.cellsOf e)) (P.cellsOf e) = some cs ∧ DataW.trod enc P w 0 (fun _ => true) held n e cs = some x := by
          intro i hi
          by_cases hil : i < len
          · have := hel i hil
            rw [List.getElem?_eq_getElem (by omega), Option.bind_eq_some_iff] at this
            obtain ⟨cs, h1, h2⟩ := this
            exact ⟨cs, _, h1, h2⟩
          · have := hre (i - len) (by omega)
            rw [List.getElem?_eq_getElem (by omega), Option.bind_eq_some_iff] at this
            obtain ⟨cs, h1, h2⟩ := this
            rw [show len + (i - len) = i by omega] at h1
            exact ⟨cs, _, h1, h2⟩
        have hspot : cap ≠ 0 → a.spot = none := by
          intro h0
          obtain ⟨cs, x, h1, h2⟩ := hcell 0 (by omega)
          obtain ⟨q1, q2⟩ := cells_some h1
          have q3 := q2 0 (by omega)
          rw [List.getElem?_eq_getElem (by omega)] at q3
          have ea : ∀ b : Addr, b.add 0 = b := fun b => by simp [Addr.add]
          rw [Nat.zero_mul, ea, ea] at q3
          unfold World.cell? at q3
          split at q3
          · split at q3
            · simp at q3
            · rename_i hs; simpa using hs
          · simp at q3
        by_cases h0 : cap = 0
        · subst h0
          obtain rfl : len = 0 := by omega
          have hr := hR.ro (e := e) (xs := []) (L := ⟨0, 0, 0, t.n⟩) rfl hs (by simp) (by simp)
          refine ⟨_, _, [.slice H.next 0 0], [], [H.next], hR.ext _, hr, (Kp.refl H).push _, ?_, ?_, by simp [Ty.sm]⟩
          · simp only [VRs, VR]
            exact ⟨_, [], rfl, ⟨_, 0, a, muPush_self _ _ _, rfl, Nat.le_refl _, fun h => (h rfl).elim⟩, rfl⟩
          · exact .inr ⟨H.next, 0, true, [], [], rfl, rfl, by simp, by simp, by simp, by simp, by simp [Rows]⟩
        · obtain ⟨H1, μ1, xs, ds, bs, e1, r1, k1, hdl, hrow, hsm, hxc⟩ := in_rows (len := len) (hspot h0) hc hf (fun h1 h2 h3 => ih h1 h2 h3) (fun i hi => hcell i (by omega)) hR len (Nat.le_refl _)
          have hxl := hrow.len
          have hle : len * t.n ≤ cap * t.n := Nat.mul_le_mul_right _ hl
          have hone : xs.all AV.one = true := by
            have : ∀ {ds : List t.D} {xs : List AV} {bs : List Nat}, Rows (t.R false H1) t.n xs ds bs → xs.all AV.one = true := by
              intro ds
              induction ds with
              | nil => intro xs bs h; rw [h.1]; rfl
              | cons d ds ihd =>
                rintro xs bs ⟨c, r, b1, b2, rfl, _, _, h4, h5⟩
                rw [List.all_append, h4.one, ihd h5]; rfl
            exact this hrow
          have hr := r1.ro (e := e) (xs := xs) (L := ⟨a.block, a.off, a.off + cap * t.n, t.n⟩) hone hs (by simp only; rw [hxl, hdl]; omega) hxc
          refine ⟨_, _, [.slice H1.next 0 len], ds, H1.next :: bs, e1.trans (r1.ext _), hr, k1.push _, ?_, ?_, by rw [hdl]; exact Nat.le_trans hl hm, hsm⟩
          · simp only [VRs, VR]
            refine ⟨_, [], rfl, ⟨_, cap, a, muPush_self _ _ _, rfl, hl, fun _ => ⟨?_, ?_⟩⟩, rfl⟩
            · have := hspot h0
              obtain ⟨b, o, s⟩ := a; simp only at this; subst this; simp
            · simp
          · subst hdl
            refine .inr ⟨H1.next, 0, true, xs, bs, rfl, rfl, by simp, by simp, by simp, by omega, ?_⟩
            rw [List.drop_zero, ← hxl, List.take_length]
            exact hrow.imp fun c d b1 _ _ h => h.kp ((Kp.refl H1).push _)
    | st hT hc hl =>
      rename_i fs
      obtain ⟨xs, n, hfu, hx, hcl, hxl, hg⟩ := DataW.trod_struct hT h
      obtain rfl : n = fuel := by omega
      have := in_fields (cs := cs) (H := H) (μ := μ) (fun h1 h2 h3 => ih h1 h2 h3) hl (fun f hf => by
        obtain ⟨i, hi, hfe⟩ := List.getElem_of_mem hf
        have hi' : i < fs.size := by simpa using hi
        have hfi : fs[i]? = some f := by rw [Array.getElem?_eq_getElem hi']; simpa using hfe
        have := hg i f hfi
        rw [List.getElem?_eq_getElem (by omega)] at this
        exact ⟨_, this⟩) (by rw [hcl, hc]; omega) hR
      rwa [List.drop_zero] at this
end
end Go.Ev

/- What the laws' helpers do, for data of any kind: sizes, bounds, marks; loads and stores inside a block. -/
namespace Go.Ev
open Go
set_option linter.unusedSimpArgs false
set_option linter.unusedVariables false

def InK (k : IntKind) (n : Int) : Prop := k.min ≤ n ∧ n ≤ k.max
theorem InK.i64 {n : Int} (h1 : -9223372036854775808 ≤ n) (h2 : n ≤ 9223372036854775807) : InK .i64 n := by
  have e1 : IntKind.min .i64 = -9223372036854775808 := by decide
  have e2 : IntKind.max .i64 = 9223372036854775807 := by decide
  exact ⟨by rw [e1]; exact h1, by rw [e2]; exact h2⟩
theorem InK.of_i64 {n : Int} (h : InK .i64 n) : -9223372036854775808 ≤ n ∧ n ≤ 9223372036854775807 := by
  have e1 : IntKind.min .i64 = -9223372036854775808 := by decide
  have e2 : IntKind.max .i64 = 9223372036854775807 := by decide
  obtain ⟨h1, h2⟩ := h
  rw [e1] at h1; rw [e2] at h2; exact ⟨h1, h2⟩
theorem InK.u8 {n : Int} (h1 : 0 ≤ n) (h2 : n ≤ 255) : InK .u8 n := by
  have e1 : IntKind.min .u8 = 0 := by decide
  have e2 : IntKind.max .u8 = 255 := by decide
  exact ⟨by rw [e1]; exact h1, by rw [e2]; exact h2⟩
theorem InK.of_u8 {n : Int} (h : InK .u8 n) : 0 ≤ n ∧ n ≤ 255 := by
  have e1 : IntKind.min .u8 = 0 := by decide
  have e2 : IntKind.max .u8 = 255 := by decide
  obtain ⟨h1, h2⟩ := h
  rw [e1] at h1; rw [e2] at h2; exact ⟨h1, h2⟩
theorem InK.wrap (k : IntKind) (n : Int) : InK k (k.wrap n) := by
  cases k <;> (try rw [IntKind.wrap_i64]) <;> (try rw [IntKind.wrap_u8]) <;> simp [InK, IntKind.wrap, IntKind.min, IntKind.max, IntKind.signed, IntKind.bits] <;> omega
theorem Ty.R.int {rw : Bool} {H : AH} {k : IntKind} {n : Int} (h : InK k n) : (Ty.int k).R rw H [.int k n] n [] := ⟨rfl, h.1, h.2, rfl⟩
theorem Ty.R.bool {rw : Bool} {H : AH} (b : Bool) : Ty.bool.R rw H [.bool b] b [] := ⟨rfl, rfl⟩
theorem Ty.R.str {rw : Bool} {H : AH} (s : ByteArray) : Ty.str.R rw H [.str s] s [] := ⟨rfl, rfl⟩
theorem Ty.R.pair {rw : Bool} {H : AH} {a b : Ty} {c1 c2 : List AV} {x : a.D} {y : b.D} {b1 b2 : List Nat} (h1 : a.R rw H c1 x b1) (h2 : b.R rw H c2 y b2) : (Ty.pair a b).R rw H (c1 ++ c2) (x, y) (b1 ++ b2) := ⟨c1, c2, b1, b2, rfl, rfl, h1, h2⟩
theorem Ty.R.sl_one {rw : Bool} {H : AH} {e : TypeId} {t : Ty} {v : AV} {d : List t.D} {bs : List Nat} (h : (Ty.sl e t).R rw H [v] d bs) : v.one = true := by
  have := h.one; simpa using this
theorem Ty.R.sl_cell {rw : Bool} {H : AH} {e : TypeId} {t : Ty} {c : List AV} {d : List t.D} {bs : List Nat} (h : (Ty.sl e t).R rw H c d bs) : ∃ v, c = [v] := List.length_eq_one_iff.1 h.len

/-! sizes -/
def szR (left : Int) (n : Nat) : Int := if left < n then -1 else left - n
theorem szR_ge {left : Int} {n : Nat} (h : (n : Int) ≤ left) : szR left n = left - n := by unfold szR; rw [if_neg (by omega)]
theorem szR_lt {left : Int} {n : Nat} (h : left < (n : Int)) : szR left n = -1 := by unfold szR; rw [if_pos h]
def Ty.sz : (t : Ty) → t.D → Nat
  | .int _, _ => 0
  | .bool, _ => 0
  | .str, s => s.size
  | .sl _ t, l => l.length + cntL t.sz l
  | .pair a b, d => a.sz d.1 + b.sz d.2
def Ty.bd (B : Nat) : (t : Ty) → t.D → Prop
  | .int _, _ => True
  | .bool, _ => True
  | .str, s => s.size ≤ B
  | .sl _ t, l => l.length ≤ B ∧ ∀ x ∈ l, t.bd B x
  | .pair a b, d => a.bd B d.1 ∧ b.bd B d.2
theorem mem_cntL {α : Type} (c : α → Nat) : ∀ (l : List α) (d : α), d ∈ l → c d ≤ cntL c l
  | x :: l, d, h => by
    simp only [cntL]
    rcases List.mem_cons.1 h with rfl | h
    · omega
    · have := mem_cntL c l d h; omega
theorem cntL_le {α : Type} (c : α → Nat) (B : Nat) : ∀ (l : List α), (∀ d ∈ l, c d ≤ B) → cntL c l ≤ l.length * B
  | [], _ => by simp [cntL]
  | d :: l, h => by
    have h1 := h d (by simp)
    have h2 := cntL_le c B l fun x hx => h x (by simp [hx])
    simp only [cntL, List.length_cons, Nat.succ_mul]; omega
theorem Ty.sz_bd {B : Nat} : ∀ {t : Ty} {d : t.D}, t.sz d ≤ B → t.bd B d
  | .int _, _, _ => trivial
  | .bool, _, _ => trivial
  | .str, _, h => h
  | .sl _ t, l, h => by
    simp only [Ty.sz] at h
    exact ⟨by omega, fun x hx => Ty.sz_bd (by have := mem_cntL t.sz l x hx; omega)⟩
  | .pair a b, d, h => by
    simp only [Ty.sz] at h
    exact ⟨Ty.sz_bd (by omega), Ty.sz_bd (by omega)⟩
theorem Ty.bd_mono {A B : Nat} (hAB : A ≤ B) : ∀ {t : Ty} {d : t.D}, t.bd A d → t.bd B d
  | .int _, _, _ => trivial
  | .bool, _, _ => trivial
  | .str, _, h => Nat.le_trans h hAB
  | .sl _ t, l, h => ⟨Nat.le_trans h.1 hAB, fun x hx => Ty.bd_mono hAB (h.2 x hx)⟩
  | .pair a b, d, h => ⟨Ty.bd_mono hAB h.1, Ty.bd_mono hAB h.2⟩
theorem Ty.sm_bd : ∀ {t : Ty} {d : t.D}, t.sm d → t.bd 9223372036854775807 d
  | .int _, _, _ => trivial
  | .bool, _, _ => trivial
  | .str, _, h => h
  | .sl _ t, l, h => ⟨h.1, fun x hx => Ty.sm_bd (h.2 x hx)⟩
  | .pair a b, d, h => ⟨Ty.sm_bd h.1, Ty.sm_bd h.2⟩
def Ty.w : Ty → Nat
  | .int _ => 1
  | .bool => 1
  | .str => 1
  | .sl _ t => t.w
  | .pair a b => a.w + b.w
theorem Ty.cnt_le (s : Bool) : ∀ {t : Ty} (d : t.D), t.cnt s d ≤ t.w * (1 + t.sz d)
  | .int _, _ => by simp only [Ty.cnt, Ty.w, Ty.sz]; split <;> omega
  | .bool, _ => by simp only [Ty.cnt, Ty.w, Ty.sz]; split <;> omega
  | .str, _ => by simp only [Ty.cnt, Ty.w, Ty.sz]; split <;> omega
  | .sl _ t, l => by
    simp only [Ty.cnt, Ty.w, Ty.sz]
    have key : ∀ l : List t.D, cntL (t.cnt true) l ≤ t.w * (l.length + cntL t.sz l) := by
      intro l
      induction l with
      | nil => simp [cntL]
      | cons d l ih =>
        have h1 := Ty.cnt_le true d
        simp only [cntL, List.length_cons]
        have e : t.w * (l.length + 1 + (t.sz d + cntL t.sz l)) = t.w * (1 + t.sz d) + t.w * (l.length + cntL t.sz l) := by rw [← Nat.mul_add]; congr 1; omega
        omega
    exact Nat.le_trans (key l) (Nat.mul_le_mul_left _ (by omega))
  | .pair a b, d => by
    simp only [Ty.cnt, Ty.w, Ty.sz]
    have h1 := Ty.cnt_le s d.1
    have h2 := Ty.cnt_le s d.2
    have e1 : a.w * (1 + a.sz d.1) ≤ a.w * (1 + (a.sz d.1 + b.sz d.2)) := Nat.mul_le_mul_left _ (by omega)
    have e2 : b.w * (1 + b.sz d.2) ≤ b.w * (1 + (a.sz d.1 + b.sz d.2)) := Nat.mul_le_mul_left _ (by omega)
    rw [Nat.add_mul]; omega
theorem Ty.cnt_bound {s : Bool} {t : Ty} {d : t.D} {A N : Nat} (h : t.sz d ≤ A) (hN : t.w * (1 + A) ≤ N) : t.cnt s d ≤ N :=
  Nat.le_trans (Nat.le_trans (Ty.cnt_le s d) (Nat.mul_le_mul_left _ (by omega))) hN

theorem cntL_take_succ' {α : Type} (c : α → Nat) (l : List α) (k : Nat) (h : k < l.length) : cntL c (l.take (k + 1)) = cntL c (l.take k) + c l[k] := by
  rw [List.take_add_one, List.getElem?_eq_getElem h, cntL_app]; simp [cntL]
theorem cntL_take_le' {α : Type} (c : α → Nat) (l : List α) (k : Nat) : cntL c (l.take k) ≤ cntL c l := by
  have : cntL c l = cntL c (l.take k) + cntL c (l.drop k) := by rw [← cntL_app, List.take_append_drop]
  omega

/-! marks -/
theorem mk_pair (s : Bool) (a b : Ty) (m : Int) (x : a.D) (y : b.D) : (Ty.pair a b).mk s m (x, y) = (a.mk s m x, b.mk s (m + (a.cnt s x : Nat)) y) := rfl
theorem cnt_pair (s : Bool) (a b : Ty) (x : a.D) (y : b.D) : (Ty.pair a b).cnt s (x, y) = a.cnt s x + b.cnt s y := rfl
theorem mk_int1 (m d : Int) (h0 : -9223372036854775808 ≤ m) (h1 : m ≤ 9223372036854775807) : (Ty.int .i64).mk true m d = m := wrap_i64 h0 h1
theorem mk_intw (k : IntKind) (m d : Int) : (Ty.int k).mk true m d = k.wrap m := rfl
theorem mk_bool1 (m : Int) (d : Bool) : Ty.bool.mk true m d = decide (m % 3 = 0) := rfl
theorem mk_str1 (m : Int) (d : ByteArray) : Ty.str.mk true m d = markTextD m := rfl
theorem mk_sl (s : Bool) (e : TypeId) (t : Ty) (m : Int) (x : List t.D) : (Ty.sl e t).mk s m x = mkRow (t.mk true) (t.cnt true) m x := rfl
theorem cnt_sl (s : Bool) (e : TypeId) (t : Ty) (x : List t.D) : (Ty.sl e t).cnt s x = cntL (t.cnt true) x := rfl
theorem mk_int0 (k : IntKind) (m d : Int) : (Ty.int k).mk false m d = d := rfl
theorem mk_bool0 (m : Int) (d : Bool) : Ty.bool.mk false m d = d := rfl
theorem mk_str0 (m : Int) (d : ByteArray) : Ty.str.mk false m d = d := rfl
theorem cnt_int1 (k : IntKind) (d : Int) : (Ty.int k).cnt true d = 1 := rfl
theorem cnt_bool1 (d : Bool) : Ty.bool.cnt true d = 1 := rfl
theorem cnt_str1 (d : ByteArray) : Ty.str.cnt true d = 1 := rfl
theorem cnt_int0 (k : IntKind) (d : Int) : (Ty.int k).cnt false d = 0 := rfl
theorem cnt_bool0 (d : Bool) : Ty.bool.cnt false d = 0 := rfl
theorem cnt_str0 (d : ByteArray) : Ty.str.cnt false d = 0 := rfl
theorem mod3 {K : Int} (h : 0 ≤ K) {q : Bool} (hq : decide (K % 3 = 0) = q) : (K.tmod 3 == 0) = q := by
  rw [← hq, Int.tmod_eq_emod_of_nonneg h]; rfl

theorem up_step {K K' : Int} {n : Nat} (h : K' = K + (n : Int)) (p : 0 ≤ K) : 0 ≤ K' := by omega
theorem dn_step {K K' B : Int} {n : Nat} (h : K' = K + (n : Int)) (u : K' ≤ B) : K ≤ B := by omega
theorem wrap_step {K K' : Int} {n : Nat} (h : K' = K + (n : Int)) (hn : n = 1) (p : 0 ≤ K) (u : K' ≤ 2147483648) : IntKind.i64.wrap (K + 1) = K' := by
  subst hn; rw [wrap_i64 (by omega) (by omega)]; omega
theorem InK.k31 {K : Int} (p : 0 ≤ K) (u : K ≤ 2147483648) : InK .i64 K := InK.i64 (by omega) (by omega)
theorem mk_int31 {m d : Int} (p : 0 ≤ m) (u : m ≤ 2147483648) : (Ty.int .i64).mk true m d = m := mk_int1 m d (by omega) (by omega)
/-! inside a block -/
theorem ld_midA0 {P : Program} {H : AH} {b o n : Nat} {e T : TypeId} {ro : Bool} {x1 c x2 : List AV} (h : H.get b = some (.cells e ro (x1 ++ c ++ x2))) (ho : x1.length = o) (ha : aggT P T = some true) (hs : sizeT P T = some n) (hc : c.length = n) : ldVar P T b o H = some (.agg c) := by
  have := ld_midA (j := 0) h ho ha hs (by omega)
  rw [Nat.add_zero] at this
  rw [this, List.drop_zero, ← hc, List.take_length]
theorem spl_mid : ∀ (c x1 y x2 : List AV), y.length = c.length → spl (x1 ++ y ++ x2) x1.length c = x1 ++ c ++ x2
  | [], x1, y, x2, h => by
    have : y = [] := List.eq_nil_of_length_eq_zero (by simpa using h)
    subst this; rfl
  | v :: c, x1, [], x2, h => by simp at h
  | v :: c, x1, w :: y, x2, h => by
    have ih := spl_mid c (x1 ++ [v]) y x2 (by simpa using h)
    simp only [spl]
    have e1 : (x1 ++ w :: y ++ x2).set x1.length v = x1 ++ [v] ++ y ++ x2 := by
      rw [List.append_assoc, List.set_append_right _ _ (Nat.le_refl _)]
      simp
    rw [e1]
    have e2 : x1.length + 1 = (x1 ++ [v]).length := by simp
    rw [e2, ih]
    simp
theorem st_midA {P : Program} {H : AH} {b o : Nat} {e T : TypeId} {x1 y c x2 : List AV} (h : H.get b = some (.cells e false (x1 ++ y ++ x2))) (ho : x1.length = o) (hs : sizeT P T = some c.length) (hy : y.length = c.length) (h1 : c.all AV.one = true) :
    stVar P T b o (.agg c) H = some (H.set b (.cells e false (x1 ++ c ++ x2))) := by
  subst ho
  simp only [stVar, h, hs, cells_agg, h1]
  rw [if_pos ⟨trivial, trivial, by simp; omega⟩, spl_mid c x1 y x2 hy]
theorem push_set2 (H : AH) (a b y : Blk) : ((H.push a).push b).set (H.next + 1) y = (H.push a).push y := push_set b y rfl
theorem push_set3 (H : AH) (a b c y : Blk) : (((H.push a).push b).push c).set (H.next + 1 + 1) y = ((H.push a).push b).push y := push_set c y rfl
theorem stf {P : Program} {H : AH} {b o j : Nat} {e T : TypeId} {x1 c c' x2 : List AV} {v : AV} (h : H.get b = some (.cells e false (x1 ++ c ++ x2))) (ho : x1.length = o) (hs : sizeT P T = some 1) (h1 : v.one = true) (hj : j < c.length) (hc : c.set j v = c') :
    stVar P T b (o + j) v H = some (H.set b (.cells e false (x1 ++ c' ++ x2))) := by
  rw [st_mid h ho hs h1 hj, hc]
theorem stf0 {P : Program} {H : AH} {b o : Nat} {e T : TypeId} {x1 c c' x2 : List AV} {v : AV} (h : H.get b = some (.cells e false (x1 ++ c ++ x2))) (ho : x1.length = o) (hs : sizeT P T = some 1) (h1 : v.one = true) (hj : 0 < c.length) (hc : c.set 0 v = c') :
    stVar P T b o v H = some (H.set b (.cells e false (x1 ++ c' ++ x2))) := stf (j := 0) h ho hs h1 hj hc
theorem ldf {P : Program} {H : AH} {b o j : Nat} {e T : TypeId} {ro : Bool} {x1 c x2 : List AV} {v : AV} (h : H.get b = some (.cells e ro (x1 ++ c ++ x2))) (ho : x1.length = o) (ha : aggT P T = some false) (hj : c[j]? = some v) : ldVar P T b (o + j) H = some v := by
  rw [ld_mid h ho ha (List.getElem?_eq_some_iff.1 hj).1, hj]
theorem ldf0 {P : Program} {H : AH} {b o : Nat} {e T : TypeId} {ro : Bool} {x1 c x2 : List AV} {v : AV} (h : H.get b = some (.cells e ro (x1 ++ c ++ x2))) (ho : x1.length = o) (ha : aggT P T = some false) (hj : c[0]? = some v) : ldVar P T b o H = some v := ldf (j := 0) h ho ha hj
theorem AH.set_getS (H : AH) (b : Nat) (x : Blk) : (H.set b x).get b = some x := by rw [AH.set_get, if_pos rfl]
theorem AH.set_getN (H : AH) {b c : Nat} (x : Blk) (h : c ≠ b) : (H.set b x).get c = H.get c := by rw [AH.set_get, if_neg h]
theorem nodup3 {a b : List Nat} (h : (a ++ b).Nodup) : a.Nodup ∧ b.Nodup ∧ ∀ x ∈ a, x ∉ b := by
  rw [List.nodup_append] at h
  exact ⟨h.1, h.2.1, fun x hx hb => h.2.2 x hx x hb rfl⟩
theorem mkRow_setH {α : Type} (f : Int → α → α) (c : α → Nat) (k0 : Int) (l : List α) (k : Nat) (hk : k < l.length) :
    (mkRow f c k0 (l.take k) ++ l.drop k).set k (f (k0 + (cntL c (l.take k) : Nat)) l[k]) = mkRow f c k0 (l.take (k + 1)) ++ l.drop (k + 1) := by
  have hl : (mkRow f c k0 (l.take k)).length = k := by rw [mkRow_len]; simp; omega
  rw [List.set_append_right _ _ (by omega), hl, Nat.sub_self, List.drop_eq_getElem_cons hk, List.set_cons_zero, List.take_add_one, List.getElem?_eq_getElem hk, mkRow_app]
  simp [mkRow]
theorem mkRow_atH {α : Type} (f : Int → α → α) (c : α → Nat) (k0 : Int) (l : List α) (k : Nat) (hk : k < l.length) (hk' : k < (mkRow f c k0 (l.take k) ++ l.drop k).length) : (mkRow f c k0 (l.take k) ++ l.drop k)[k] = l[k] := by
  have hl : (mkRow f c k0 (l.take k)).length = k := by rw [mkRow_len]; simp; omega
  rw [List.getElem_append_right (by omega)]
  simp [hl]
theorem mkRow_getH {α : Type} (f : Int → α → α) (c : α → Nat) : ∀ (l : List α) (k0 : Int) (k : Nat) (hk : k < l.length) (hk' : k < (mkRow f c k0 l).length), (mkRow f c k0 l)[k] = f (k0 + (cntL c (l.take k) : Nat)) l[k]
  | d :: l, k0, 0, hk, hk' => by simp [mkRow, cntL]
  | d :: l, k0, k + 1, hk, hk' => by
    simp only [mkRow, List.getElem_cons_succ]
    rw [mkRow_getH f c l (k0 + c d) k (by simpa using hk)]
    simp only [List.take_succ_cons, cntL]
    congr 1; push_cast; omega

end Go.Ev

/- The laws' helpers of this seat: written by a program of this session (helpgen.py). -/
namespace Go.Ev
open Go Go.Proofs
set_option linter.unusedSimpArgs false
set_option linter.unusedVariables false
/-! toByteS -/
def ItoByteS_h (ds : List (Ty.int .u8).D) (s : AV) (H : AH) (d : Nat) (τ : Tm) (h : AH) : Prop :=
  ∃ k x1 bs, k + d = ds.length ∧ τ 0 = s ∧ τ 3 = .slice H.next 0 ds.length ∧ τ 4 = .int .i64 k ∧ Kp H h ∧ H.next < h.next ∧ h.get H.next = some (.cells 5 false (x1 ++ zerosA [.int .u8 0] d)) ∧ Rows ((Ty.int .u8).R true h) 1 x1 (ds.take k) bs ∧ bs.Nodup ∧ ∀ b ∈ bs, H.next < b
set_option maxHeartbeats 4000000 in
theorem toByteS_h {Hb H : AH} {s : AV} {ds : List (Ty.int .u8).D} {bs : List Nat} {rw : Bool} (hd : (Ty.sl 5 (Ty.int .u8)).R rw Hb [s] ds bs) (hK : Kp Hb H) (hb : (Ty.sl 5 (Ty.int .u8)).bd 1048576 ds) (m : Nat) (hm : 1048720 ≤ m) :
    ∃ r H' bs', ev Try.prog m 40 [s] H = some (r, H') ∧ Kp H H' ∧ (Ty.sl 5 (Ty.int .u8)).R true H' [r] ds bs' ∧ bs'.Nodup ∧ ∀ b ∈ bs', H.next ≤ b := by
  obtain ⟨m, rfl⟩ : ∃ k, m = k + 1 := ⟨m - 1, by omega⟩
  obtain ⟨hl, hl2⟩ := hb
  have hL := Ty.R.lenA hd (P := Try.prog) (T := 34) (by simp)
  rw [ev_eq Try.func40 ok40 m _ H (by simp [Try.f40])]
  have hb1 : (1 : Int) * (ds.length : Int) ≤ 281474976710656 := by omega
  have hb2 : (ds.length : Int) ≤ 281474976710656 := by omega
  simp [Try.f40, hL, hb1, hb2]
  generalize hLo : evLoop _ _ _ _ _ _ = R
  obtain ⟨e, τ', H', rfl, rfl, g⟩ := loop_at hLo (loop_rule (d := ds.length) (ItoByteS_h ds s H)
    (fun e τ h => e = .exit 0 ∧ ItoByteS_h ds s H 0 τ h)
    (by
      rintro d τ h ⟨k, x1, bs1, hk, t0, t3, t4, hKh, hnx, hg, hR, hnd, hlo⟩
      by_cases hd0 : d = 0
      · subst hd0
        have hkl : (k : Int) = ds.length := by omega
        rewrite [lp40_58]
        simp [Try.f40, t0, t4, hL, hkl]
        exact ⟨k, x1, bs1, hk, t0, t3, t4, hKh, hnx, hg, hR, hnd, hlo⟩
      · obtain ⟨d, rfl⟩ : ∃ q, d = q + 1 := ⟨d - 1, by omega⟩
        have hlt : k < ds.length := by omega
        have hx1 := hR.len
        rw [List.length_take, Nat.min_eq_left (Nat.le_of_lt hlt)] at hx1
        obtain ⟨b, o, ro, y1, c, y2, bk, u1, u2, u3, u4, u5, u6, u7, u8⟩ := Ty.R.at_ (hd.kp (hK.trans hKh)) (P := Try.prog) (T := 34) (by simp) (by simp [Ty.n]) (k := k) hlt
        obtain ⟨a, rfl⟩ := List.length_eq_one_iff.1 u5.len
        have hld := ld_mid0 (P := Try.prog) (T := 5) u3 u4 (by simp)
        obtain ⟨h2, hh2⟩ : ∃ x, x = h := ⟨_, rfl⟩
        obtain ⟨c', hc'⟩ : ∃ c', c' = [a] := ⟨_, rfl⟩
        have v2 : Kp h h2 := by rw [hh2]; exact Kp.refl h
        have hro : a.one = true := by have := u5.one; simpa using this
        have v3 : (Ty.int .u8).R true h2 c' ds[k] [] := by rw [hc', hh2]; exact ⟨u5.1, u5.2.1, u5.2.2.1, rfl⟩
        obtain ⟨b2, hb2'⟩ : ∃ x : List Nat, x = [] := ⟨_, rfl⟩
        have v4 : b2.Nodup := by rw [hb2']; simp
        have v5 : ∀ b ∈ b2, h.next ≤ b := by rw [hb2']; simp
        rw [← hb2'] at v3
        have hc5 : c'.length = 1 := by simpa [Ty.n] using v3.len
        have hg2 : h2.get H.next = some (.cells 5 false (x1 ++ [.int .u8 0] ++ zerosA [.int .u8 0] d)) := by rw [v2.get _ hnx, hg, zerosA, List.append_assoc]
        have hst : stVar Try.prog 5 H.next k a h2 = some (h2.set H.next (.cells 5 false (x1 ++ c' ++ zerosA [.int .u8 0] d))) := by
          rw [hc']; exact stf0 hg2 (by omega) (by simp) hro (by simp) rfl
        rw [hh2] at hst
        have hidx : idxA Try.prog 34 (.slice H.next 0 ds.length) (.int .i64 k) = some (.ptr H.next k) := by simp [idxA, hlt]
        rewrite [lp40_58]
        simp [Try.f40, t0, t3, t4, hL, hlt, u1, hld, hro, cells_one hro, hidx, hst, wrap_i64 (n := (k : Int) + 1) (by omega) (by omega)]
        have hn2 := v2.next
        rw [← hh2]
        have hset : ∀ y, ∀ x, x ≠ H.next → (h2.set H.next y).get x = h2.get x := fun y x hx => by rw [AH.set_get, if_neg hx]
        refine ⟨d, by omega, k + 1, x1 ++ c', bs1 ++ b2, by omega, by simp [t0], by simp [t3], by simp, (hKh.trans v2).set (Nat.le_refl _) _, by simp; omega, by simp, ?_, ?_, ?_⟩
        · rw [List.take_add_one, List.getElem?_eq_getElem hlt]
          exact Rows.app (hR.imp fun c d b3 _ hb hh => (hh.kp v2).stay (by simp) fun x hx => hset _ x (by have := hlo x (hb x hx); omega)) (Rows.one (v3.stay (by simp) fun x hx => hset _ x (by have := v5 x hx; omega)) hc5)
        · refine List.nodup_append.2 ⟨hnd, v4, fun x hx y hy e => ?_⟩
          have h1 := Rows.mem (fun c d bs h => Ty.R.mem h) hR x hx
          have h2 := v5 y hy
          omega
        · intro x hx
          rcases List.mem_append.1 hx with hx | hx
          · exact hlo x hx
          · have := v5 x hx; omega)
    ⟨0, [], [], by simp, by simp, by simp, by simp, (Kp.refl H).push _, by simp, by simp, ⟨rfl, rfl⟩, by simp, by simp⟩ (by omega))
  obtain ⟨k, x1, bs1, hk, t0, t3, t4, hKh, hnx, hg, hR, hnd, hlo⟩ := g
  have hkl : k = ds.length := by omega
  subst hkl
  rw [List.take_length] at hR
  have hx1 := hR.len
  simp [t3]
  refine ⟨_, _, ⟨rfl, rfl⟩, hKh, H.next :: bs1, .inr ⟨H.next, 0, false, x1, bs1, rfl, rfl, hnx, by simpa using hg, fun _ => ⟨rfl, rfl, by simpa [Ty.n] using hx1⟩, by simp [Ty.n, hx1], ?_⟩, ?_, ?_⟩
  · have : (x1.drop 0).take (ds.length * (Ty.int .u8).n) = x1 := by rw [List.drop_zero, List.take_of_length_le (by simp [Ty.n, hx1])]
    rw [this]; exact hR
  · rw [List.nodup_cons]; exact ⟨fun hx => by have := hlo _ hx; omega, hnd⟩
  · intro x hx
    rcases List.mem_cons.1 hx with rfl | hx
    · exact Nat.le_refl _
    · have := hlo x hx; omega
/-! eqByteS -/
def IeqByteS_h (n : Nat) (s1 s2 : AV) (H : AH) (d : Nat) (τ : Tm) (h : AH) : Prop := ∃ k : Nat, k + d = n ∧ τ 0 = s1 ∧ τ 1 = s2 ∧ τ 5 = .int .i64 k ∧ Kp H h
set_option maxHeartbeats 4000000 in
theorem eqByteS_h {H h : AH} {s1 s2 : AV} {ds : List (Ty.int .u8).D} {b1 b2 : List Nat} {r1 r2 : Bool} (h1 : (Ty.sl 5 (Ty.int .u8)).R r1 H [s1] ds b1) (h2 : (Ty.sl 5 (Ty.int .u8)).R r2 H [s2] ds b2) (hK : Kp H h) (hb : (Ty.sl 5 (Ty.int .u8)).bd 1048576 ds) (m : Nat) (hm : 1048720 ≤ m) :
    ∃ h', ev Try.prog m 43 [s1, s2] h = some (.bool true, h') ∧ Kp h h' := by
  obtain ⟨m, rfl⟩ : ∃ k, m = k + 1 := ⟨m - 1, by omega⟩
  obtain ⟨hl, hl2⟩ := hb
  have e1 := Ty.R.lenA h1 (P := Try.prog) (T := 34) (by simp)
  have e2 := Ty.R.lenA h2 (P := Try.prog) (T := 34) (by simp)
  rw [ev_eq Try.func43 ok43 m _ h (by simp [Try.f43])]
  simp [Try.f43, e1, e2]
  generalize hLo : evLoop _ _ _ _ _ _ = R
  obtain ⟨e, τ', H', rfl, rfl, g⟩ := loop_at hLo (loop_rule (d := ds.length) (fun d τ h' => IeqByteS_h ds.length s1 s2 h d τ h')
    (fun e τ h' => e = .exit 0 ∧ Kp h h')
    (by
      rintro d τ h' ⟨k, hk, t0, t1, t5, hKh⟩
      by_cases hd0 : d = 0
      · subst hd0
        have hkl : (k : Int) = ds.length := by omega
        rewrite [lp43_58]
        simp [Try.f43, t0, t1, t5, e1, hkl]
        exact hKh
      · have hlt : k < ds.length := by omega
        have hKK := hK.trans hKh
        obtain ⟨b, o, ro, x1, c, x2, bk, u1, u2, u3, u4, u5, u6, u7, u8⟩ := Ty.R.at_ (h1.kp hKK) (P := Try.prog) (T := 34) (by simp) (by simp [Ty.n]) (k := k) hlt
        obtain ⟨b', o', ro', y1, c', y2, bk', w1, w2, w3, w4, w5, w6, w7, w8⟩ := Ty.R.at_ (h2.kp hKK) (P := Try.prog) (T := 34) (by simp) (by simp [Ty.n]) (k := k) hlt
        obtain ⟨a, rfl⟩ := List.length_eq_one_iff.1 u5.len
        have hld := ld_mid0 (P := Try.prog) (T := 5) u3 u4 (by simp)
        obtain ⟨a', rfl⟩ := List.length_eq_one_iff.1 w5.len
        have hld' := ld_mid0 (P := Try.prog) (T := 5) w3 w4 (by simp)
        have v1 : a = a' := by have q1 := u5.1; have q2 := w5.1; simp at q1 q2; rw [q1, q2]
        have q1 := u5.1
        simp only [List.cons.injEq, and_true] at q1
        subst v1
        rw [q1] at hld hld'
        obtain ⟨h3, hh3⟩ : ∃ x, x = h' := ⟨_, rfl⟩
        have v2 : Kp h' h3 := by rw [hh3]; exact Kp.refl h'
        rewrite [lp43_58]
        simp [Try.f43, t0, t1, t5, e1, hlt, u1, w1, hld, hld', ba_refl, evHist, ObsOk, ObOk, wrap_i64 (n := (k : Int) + 1) (by omega) (by omega)]
        rw [← hh3]
        exact ⟨d - 1, by omega, k + 1, by omega, by simp [t0], by simp [t1], by simp, hKh.trans v2⟩)
    ⟨0, by simp, by simp, by simp, by simp, Kp.refl h⟩ (by omega))
  simp
  exact g
/-! eqRange -/
abbrev tT94 : Ty := .pair (Ty.int .i64) (Ty.int .i64)
theorem o94 {rw : Bool} {H : AH} {c : List AV} {x_0 : Int} {x_1 : Int} {bs : List Nat} (h : tT94.R rw H c (x_0, x_1) bs) : c = [.int .i64 x_0, .int .i64 x_1] ∧ ([] : List Nat) = bs ∧ InK .i64 x_0 ∧ InK .i64 x_1 := by
  obtain ⟨c1, d1, e1, f1, rfl, rfl, ⟨rfl, rx_0, sx_0, rfl⟩, ⟨rfl, rx_1, sx_1, rfl⟩⟩ := h
  exact ⟨by simp, by simp, ⟨rx_0, sx_0⟩, ⟨rx_1, sx_1⟩⟩
theorem i94 {rw : Bool} {H : AH} {x_0 : Int} {x_1 : Int}  (ix_0 : InK .i64 x_0) (ix_1 : InK .i64 x_1) : tT94.R rw H [.int .i64 x_0, .int .i64 x_1] (x_0, x_1) ([] : List Nat) := by
  have h : tT94.R rw H ([.int .i64 x_0] ++ [.int .i64 x_1]) (x_0, x_1) ([] ++ []) := (Ty.R.pair (Ty.R.int ix_0) (Ty.R.int ix_1))
  simpa using h
set_option maxHeartbeats 4000000 in
theorem eqRange_h {H h : AH} {c1 c2 : List AV} {d : tT94.D} {b1 b2 : List Nat} {r1 r2 : Bool} (h1 : tT94.R r1 H c1 d b1) (h2 : tT94.R r2 H c2 d b2) (hK : Kp H h) (hb : tT94.bd 1048576 d) (m : Nat) (hm : 1048720 ≤ m) :
    ∃ h', ev Try.prog m 221 [.agg c1, .agg c2] h = some (.bool true, h') ∧ Kp h h' := by
  obtain ⟨m, rfl⟩ : ∃ k, m = k + 1 := ⟨m - 1, by omega⟩
  obtain ⟨x_0, x_1⟩ := d
  obtain ⟨hbx_0, hbx_1⟩ := hb
  obtain ⟨rfl, rfl, ix_0, ix_1⟩ := o94 h1
  obtain ⟨rfl, rfl, jx_0, jx_1⟩ := o94 h2
  let A0 : AH := (h.push (.cells 94 false [.int .i64 x_0, .int .i64 x_1])).push (.cells 94 false [.int .i64 x_0, .int .i64 x_1])
  have K0 : Kp h A0 := ((Kp.refl h).push _).push _
  have g0 : A0.get h.next = some (.cells 94 false [.int .i64 x_0, .int .i64 x_1]) := by simp [A0]
  have f0 : A0.get (h.next + 1) = some (.cells 94 false [.int .i64 x_0, .int .i64 x_1]) := by simp [A0]
  have n0 : h.next + 2 ≤ A0.next := by simp [A0]
  refine ⟨A0, ?_, K0⟩
  have nn1 : ¬ (h.next = h.next + 1) := by omega
  rw [ev_eq Try.func221 ok221 m _ h (by simp [Try.f221])]
  simp [Try.f221, ldVar, nn1, evHist, ObsOk, ObOk, ba_refl, A0]
/-! eqRangeS -/
def IeqRangeS_h (n : Nat) (s1 s2 : AV) (H : AH) (d : Nat) (τ : Tm) (h : AH) : Prop := ∃ k : Nat, k + d = n ∧ τ 0 = s1 ∧ τ 1 = s2 ∧ τ 5 = .int .i64 k ∧ Kp H h
set_option maxHeartbeats 4000000 in
theorem eqRangeS_h {H h : AH} {s1 s2 : AV} {ds : List tT94.D} {b1 b2 : List Nat} {r1 r2 : Bool} (h1 : (Ty.sl 94 tT94).R r1 H [s1] ds b1) (h2 : (Ty.sl 94 tT94).R r2 H [s2] ds b2) (hK : Kp H h) (hb : (Ty.sl 94 tT94).bd 1048576 ds) (m : Nat) (hm : 1048740 ≤ m) :
    ∃ h', ev Try.prog m 127 [s1, s2] h = some (.bool true, h') ∧ Kp h h' := by
  obtain ⟨m, rfl⟩ : ∃ k, m = k + 1 := ⟨m - 1, by omega⟩
  obtain ⟨hl, hl2⟩ := hb
  have e1 := Ty.R.lenA h1 (P := Try.prog) (T := 70) (by simp)
  have e2 := Ty.R.lenA h2 (P := Try.prog) (T := 70) (by simp)
  rw [ev_eq Try.func127 ok127 m _ h (by simp [Try.f127])]
  simp [Try.f127, e1, e2]
  generalize hLo : evLoop _ _ _ _ _ _ = R
  obtain ⟨e, τ', H', rfl, rfl, g⟩ := loop_at hLo (loop_rule (d := ds.length) (fun d τ h' => IeqRangeS_h ds.length s1 s2 h d τ h')
    (fun e τ h' => e = .exit 0 ∧ Kp h h')
    (by
      rintro d τ h' ⟨k, hk, t0, t1, t5, hKh⟩
      by_cases hd0 : d = 0
      · subst hd0
        have hkl : (k : Int) = ds.length := by omega
        rewrite [lp127_58]
        simp [Try.f127, t0, t1, t5, e1, hkl]
        exact hKh
      · have hlt : k < ds.length := by omega
        have hKK := hK.trans hKh
        obtain ⟨b, o, ro, x1, c, x2, bk, u1, u2, u3, u4, u5, u6, u7, u8⟩ := Ty.R.at_ (h1.kp hKK) (P := Try.prog) (T := 70) (by simp) (by simp [Ty.n]) (k := k) hlt
        obtain ⟨b', o', ro', y1, c', y2, bk', w1, w2, w3, w4, w5, w6, w7, w8⟩ := Ty.R.at_ (h2.kp hKK) (P := Try.prog) (T := 70) (by simp) (by simp [Ty.n]) (k := k) hlt
        have hld := ld_midA0 (P := Try.prog) (T := 94) (n := 2) u3 u4 (by simp) (by simp) (by simpa [Ty.n] using u5.len)
        have hld' := ld_midA0 (P := Try.prog) (T := 94) (n := 2) w3 w4 (by simp) (by simp) (by simpa [Ty.n] using w5.len)
        obtain ⟨h3, v1, v2⟩ := eqRange_h u5 w5 (Kp.refl h') (hl2 _ (List.getElem_mem hlt)) m (by omega)
        rewrite [lp127_58]
        simp [Try.f127, t0, t1, t5, e1, hlt, u1, w1, hld, hld', v1, evHist, ObsOk, ObOk, wrap_i64 (n := (k : Int) + 1) (by omega) (by omega)]
        exact ⟨d - 1, by omega, k + 1, by omega, by simp [t0], by simp [t1], by simp, hKh.trans v2⟩)
    ⟨0, by simp, by simp, by simp, by simp, Kp.refl h⟩ (by omega))
  simp
  exact g
/-! eqFrame -/
abbrev tT72 : Ty := .pair (Ty.int .i64) (.pair (Ty.int .i64) (.pair (Ty.int .i64) (.pair (Ty.int .i64) (.pair Ty.bool (.pair (Ty.sl 5 (Ty.int .u8)) (.pair (Ty.sl 5 (Ty.int .u8)) (Ty.sl 94 tT94)))))))
theorem o72 {rw : Bool} {H : AH} {c : List AV} {x_0 : Int} {x_1 : Int} {x_2 : Int} {x_3 : Int} {x_4 : Bool} {x_5 : List (Ty.int .u8).D} {x_6 : List (Ty.int .u8).D} {x_7 : List tT94.D} {bs : List Nat} (h : tT72.R rw H c (x_0, x_1, x_2, x_3, x_4, x_5, x_6, x_7) bs) : ∃ vx_5 vx_6 vx_7 bx_5 bx_6 bx_7, c = [.int .i64 x_0, .int .i64 x_1, .int .i64 x_2, .int .i64 x_3, .bool x_4, vx_5, vx_6, vx_7] ∧ (bx_5 ++ (bx_6 ++ bx_7)) = bs ∧ (Ty.sl 5 (Ty.int .u8)).R rw H [vx_5] x_5 bx_5 ∧ (Ty.sl 5 (Ty.int .u8)).R rw H [vx_6] x_6 bx_6 ∧ (Ty.sl 94 tT94).R rw H [vx_7] x_7 bx_7 ∧ InK .i64 x_0 ∧ InK .i64 x_1 ∧ InK .i64 x_2 ∧ InK .i64 x_3 := by
  obtain ⟨c1, d1, e1, f1, rfl, rfl, ⟨rfl, rx_0, sx_0, rfl⟩, ⟨c2, d2, e2, f2, rfl, rfl, ⟨rfl, rx_1, sx_1, rfl⟩, ⟨c3, d3, e3, f3, rfl, rfl, ⟨rfl, rx_2, sx_2, rfl⟩, ⟨c4, d4, e4, f4, rfl, rfl, ⟨rfl, rx_3, sx_3, rfl⟩, ⟨c5, d5, e5, f5, rfl, rfl, ⟨rfl, rfl⟩, ⟨c6, d6, e6, f6, rfl, rfl, hx_5, ⟨c7, d7, e7, f7, rfl, rfl, hx_6, hx_7⟩⟩⟩⟩⟩⟩⟩ := h
  obtain ⟨vx_5, rfl⟩ := hx_5.sl_cell
  obtain ⟨vx_6, rfl⟩ := hx_6.sl_cell
  obtain ⟨vx_7, rfl⟩ := hx_7.sl_cell
  exact ⟨vx_5, vx_6, vx_7, _, _, _, by simp, by simp, hx_5, hx_6, hx_7, ⟨rx_0, sx_0⟩, ⟨rx_1, sx_1⟩, ⟨rx_2, sx_2⟩, ⟨rx_3, sx_3⟩⟩
theorem i72 {rw : Bool} {H : AH} {x_0 : Int} {x_1 : Int} {x_2 : Int} {x_3 : Int} {x_4 : Bool} {x_5 : List (Ty.int .u8).D} {x_6 : List (Ty.int .u8).D} {x_7 : List tT94.D} {vx_5 vx_6 vx_7 : AV} {bx_5 bx_6 bx_7 : List Nat} (hx_5 : (Ty.sl 5 (Ty.int .u8)).R rw H [vx_5] x_5 bx_5) (hx_6 : (Ty.sl 5 (Ty.int .u8)).R rw H [vx_6] x_6 bx_6) (hx_7 : (Ty.sl 94 tT94).R rw H [vx_7] x_7 bx_7) (ix_0 : InK .i64 x_0) (ix_1 : InK .i64 x_1) (ix_2 : InK .i64 x_2) (ix_3 : InK .i64 x_3) : tT72.R rw H [.int .i64 x_0, .int .i64 x_1, .int .i64 x_2, .int .i64 x_3, .bool x_4, vx_5, vx_6, vx_7] (x_0, x_1, x_2, x_3, x_4, x_5, x_6, x_7) (bx_5 ++ (bx_6 ++ bx_7)) := by
  have h : tT72.R rw H ([.int .i64 x_0] ++ ([.int .i64 x_1] ++ ([.int .i64 x_2] ++ ([.int .i64 x_3] ++ ([.bool x_4] ++ ([vx_5] ++ ([vx_6] ++ [vx_7]))))))) (x_0, x_1, x_2, x_3, x_4, x_5, x_6, x_7) ([] ++ ([] ++ ([] ++ ([] ++ ([] ++ (bx_5 ++ (bx_6 ++ bx_7))))))) := (Ty.R.pair (Ty.R.int ix_0) (Ty.R.pair (Ty.R.int ix_1) (Ty.R.pair (Ty.R.int ix_2) (Ty.R.pair (Ty.R.int ix_3) (Ty.R.pair (Ty.R.bool x_4) (Ty.R.pair hx_5 (Ty.R.pair hx_6 hx_7)))))))
  simpa using h
set_option maxHeartbeats 4000000 in
theorem eqFrame_h {H h : AH} {c1 c2 : List AV} {d : tT72.D} {b1 b2 : List Nat} {r1 r2 : Bool} (h1 : tT72.R r1 H c1 d b1) (h2 : tT72.R r2 H c2 d b2) (hK : Kp H h) (hb : tT72.bd 1048576 d) (m : Nat) (hm : 1048760 ≤ m) :
    ∃ h', ev Try.prog m 42 [.agg c1, .agg c2] h = some (.bool true, h') ∧ Kp h h' := by
  obtain ⟨m, rfl⟩ : ∃ k, m = k + 1 := ⟨m - 1, by omega⟩
  obtain ⟨x_0, x_1, x_2, x_3, x_4, x_5, x_6, x_7⟩ := d
  obtain ⟨hbx_0, hbx_1, hbx_2, hbx_3, hbx_4, hbx_5, hbx_6, hbx_7⟩ := hb
  obtain ⟨vx_5, vx_6, vx_7, bx_5, bx_6, bx_7, rfl, rfl, hx_5, hx_6, hx_7, ix_0, ix_1, ix_2, ix_3⟩ := o72 h1
  obtain ⟨wx_5, wx_6, wx_7, ex_5, ex_6, ex_7, rfl, rfl, kx_5, kx_6, kx_7, jx_0, jx_1, jx_2, jx_3⟩ := o72 h2
  have ox_5 := hx_5.sl_one
  have px_5 := kx_5.sl_one
  have ox_6 := hx_6.sl_one
  have px_6 := kx_6.sl_one
  have ox_7 := hx_7.sl_one
  have px_7 := kx_7.sl_one
  let A0 : AH := (h.push (.cells 72 false [.int .i64 x_0, .int .i64 x_1, .int .i64 x_2, .int .i64 x_3, .bool x_4, vx_5, vx_6, vx_7])).push (.cells 72 false [.int .i64 x_0, .int .i64 x_1, .int .i64 x_2, .int .i64 x_3, .bool x_4, wx_5, wx_6, wx_7])
  have K0 : Kp h A0 := ((Kp.refl h).push _).push _
  have g0 : A0.get h.next = some (.cells 72 false [.int .i64 x_0, .int .i64 x_1, .int .i64 x_2, .int .i64 x_3, .bool x_4, vx_5, vx_6, vx_7]) := by simp [A0]
  have f0 : A0.get (h.next + 1) = some (.cells 72 false [.int .i64 x_0, .int .i64 x_1, .int .i64 x_2, .int .i64 x_3, .bool x_4, wx_5, wx_6, wx_7]) := by simp [A0]
  have n0 : h.next + 2 ≤ A0.next := by simp [A0]
  obtain ⟨A1, a1, Q1⟩ := eqByteS_h hx_5 kx_5 (hK.trans K0) hbx_5 m (by omega)
  have K1 : Kp h A1 := K0.trans Q1
  have g1 : A1.get h.next = _ := (Q1.get _ (by omega)).trans g0
  have f1 : A1.get (h.next + 1) = _ := (Q1.get _ (by omega)).trans f0
  have n1 : h.next + 2 ≤ A1.next := by have := Q1.next; omega
  obtain ⟨A2, a2, Q2⟩ := eqByteS_h hx_6 kx_6 (hK.trans K1) hbx_6 m (by omega)
  have K2 : Kp h A2 := K1.trans Q2
  have g2 : A2.get h.next = _ := (Q2.get _ (by omega)).trans g1
  have f2 : A2.get (h.next + 1) = _ := (Q2.get _ (by omega)).trans f1
  have n2 : h.next + 2 ≤ A2.next := by have := Q2.next; omega
  obtain ⟨A3, a3, Q3⟩ := eqRangeS_h hx_7 kx_7 (hK.trans K2) hbx_7 m (by omega)
  have K3 : Kp h A3 := K2.trans Q3
  have g3 : A3.get h.next = _ := (Q3.get _ (by omega)).trans g2
  have f3 : A3.get (h.next + 1) = _ := (Q3.get _ (by omega)).trans f2
  have n3 : h.next + 2 ≤ A3.next := by have := Q3.next; omega
  refine ⟨A3, ?_, K3⟩
  have nn1 : ¬ (h.next = h.next + 1) := by omega
  rw [ev_eq Try.func42 ok42 m _ h (by simp [Try.f42])]
  simp only [A0] at a1 g0 f0
  simp [Try.f42, ldVar, nn1, evHist, ObsOk, ObOk, ba_refl, ox_5, ox_6, ox_7, px_5, px_6, px_7, a1, g1, f1, a2, g2, f2, a3, g3, f3]
/-! markByteS -/
def ImarkByteS_h (ds : List (Ty.int .u8).D) (s : AV) (k0 : Int) (bs : List Nat) (H : AH) (d : Nat) (τ : Tm) (h : AH) : Prop :=
  ∃ k : Nat, k + d = ds.length ∧ τ 0 = s ∧ τ 1 = .int .i64 (k0 + (cntL ((Ty.int .u8).cnt true) (ds.take k) : Nat)) ∧ τ 5 = .int .i64 k ∧ KoL bs H h ∧ (Ty.sl 5 (Ty.int .u8)).R true h [s] (mkRow ((Ty.int .u8).mk true) ((Ty.int .u8).cnt true) k0 (ds.take k) ++ ds.drop k) bs
set_option maxHeartbeats 4000000 in
theorem markByteS_h {H : AH} {s : AV} {ds : List (Ty.int .u8).D} {bs : List Nat} (hd : (Ty.sl 5 (Ty.int .u8)).R true H [s] ds bs) (hnd : bs.Nodup) (hb : (Ty.sl 5 (Ty.int .u8)).bd 1048576 ds) {k0 : Int} (hk0 : 0 ≤ k0) (hk1 : k0 + ((Ty.sl 5 (Ty.int .u8)).cnt true ds : Nat) ≤ 2147483648) (m : Nat) (hm : 1048720 ≤ m) :
    ∃ H', ev Try.prog m 44 [s, .int .i64 k0] H = some (.int .i64 (k0 + ((Ty.sl 5 (Ty.int .u8)).cnt true ds : Nat)), H') ∧ KoL bs H H' ∧ (Ty.sl 5 (Ty.int .u8)).R true H' [s] ((Ty.sl 5 (Ty.int .u8)).mk true k0 ds) bs := by
  obtain ⟨m, rfl⟩ : ∃ k, m = k + 1 := ⟨m - 1, by omega⟩
  obtain ⟨hl, hl2⟩ := hb
  rw [cnt_sl] at hk1 ⊢
  rw [mk_sl]
  rw [ev_eq Try.func44 ok44 m _ H (by simp [Try.f44])]
  simp [Try.f44]
  generalize hLo : evLoop _ _ _ _ _ _ = R
  obtain ⟨e, τ', H', rfl, rfl, g1, g2, g3⟩ := loop_at hLo (loop_rule (d := ds.length) (ImarkByteS_h ds s k0 bs H)
    (fun e τ h => e = .exit 0 ∧ τ 1 = .int .i64 (k0 + (cntL ((Ty.int .u8).cnt true) ds : Nat)) ∧ KoL bs H h ∧ (Ty.sl 5 (Ty.int .u8)).R true h [s] (mkRow ((Ty.int .u8).mk true) ((Ty.int .u8).cnt true) k0 ds) bs)
    (by
      rintro d τ h ⟨k, hk, t0, t1, t5, hK, hR⟩
      have hlen' : (mkRow ((Ty.int .u8).mk true) ((Ty.int .u8).cnt true) k0 (ds.take k) ++ ds.drop k).length = ds.length := by simp [mkRow_len]; omega
      have hL := Ty.R.lenA hR (P := Try.prog) (T := 34) (by simp)
      rw [hlen'] at hL
      by_cases hd0 : d = 0
      · subst hd0
        have : k = ds.length := by omega
        subst this
        rw [List.take_length] at t1
        rewrite [lp44_26]
        simp [Try.f44, t0, t1, t5, hL]
        exact ⟨hK, by simpa using hR⟩
      · have hlt : k < ds.length := by omega
        obtain ⟨b, o, x1, c, x2, bk, u1, u2, u3, u4, u5, u6, u7, u8, u9, u10⟩ := Ty.R.upd hR hnd (P := Try.prog) (T := 34) (by simp) (by simp [Ty.n]) (k := k) (by omega)
        have hat := mkRow_atH ((Ty.int .u8).mk true) ((Ty.int .u8).cnt true) k0 ds k hlt (by rw [hlen']; exact hlt)
        rw [hat] at u5
        have hbd := hl2 _ (List.getElem_mem hlt)
        have hct := cntL_take_succ' ((Ty.int .u8).cnt true) ds k hlt
        have hcl := cntL_take_le' ((Ty.int .u8).cnt true) ds (k + 1)
        have hms := mkRow_setH ((Ty.int .u8).mk true) ((Ty.int .u8).cnt true) k0 ds k hlt
        generalize hK0 : k0 + (cntL ((Ty.int .u8).cnt true) (ds.take k) : Nat) = K0 at *
        have hKb : 0 ≤ K0 ∧ K0 ≤ 2147483648 := by omega
        generalize hdk : ds[k] = dk at *
        obtain ⟨x, hx0⟩ : ∃ x, x = dk := ⟨_, rfl⟩
        subst hx0
        obtain ⟨rfl, r1, r2, rfl⟩ := u5
        obtain ⟨K1, hK1⟩ : ∃ z, z = K0 + (((Ty.int .u8).cnt true x : Nat) : Int) := ⟨_, rfl⟩
        have htot : (Ty.int .u8).cnt true x = (Ty.int .u8).cnt true x := rfl
        rw [htot] at hct
        have hKl : K1 = k0 + (cntL ((Ty.int .u8).cnt true) (ds.take (k + 1)) : Nat) := by rw [hct]; push_cast; omega
        have u1' : K1 ≤ 2147483648 := by omega
        have u0' := dn_step hK1 u1'
        have p0' : 0 ≤ K0 := hKb.1
        have p1' := up_step hK1 p0'
        have w0 := wrap_step hK1 rfl p0' u1'
        obtain ⟨z0, hz0⟩ : ∃ z, IntKind.u8.wrap K0 = z := ⟨_, rfl⟩
        have cv0 : ∀ h', convA Try.prog 3 5 (.int .i64 K0) h' = some (.int .u8 z0, h') := fun h' => (conv_int (ds := .int .i64) (k := .u8) (by simp) (by simp)).trans (by rw [hz0])
        have hmk : (Ty.int .u8).mk true K0 x = z0 := by rw [mk_intw, hz0]
        have h0 : h = h := rfl
        have G0 : h.get b = some (.cells 5 false (x1 ++ [.int .u8 x] ++ x2)) := u3
        have N0 : h.next = h.next := rfl
        have E0 : ∀ y, y < h.next → y ≠ b → y ∉ ([] : List Nat) → h.get y = h.get y := fun _ _ _ _ => rfl
        obtain ⟨B0, hB0⟩ : ∃ B, B = Blk.cells 5 false (x1 ++ [.int .u8 z0] ++ x2) := ⟨_, rfl⟩
        have s0 : stVar Try.prog 5 b o (.int .u8 z0) h = some (h.set b B0) := by rw [hB0]; exact stf0 G0 u4 (by simp) rfl (by simp) rfl
        obtain ⟨h1, eh1⟩ : ∃ z, h.set b B0 = z := ⟨_, rfl⟩
        have G1 : h1.get b = some (.cells 5 false (x1 ++ [.int .u8 z0] ++ x2)) := by rw [← eh1, AH.set_getS, hB0]
        have N1 : h1.next = h.next := by rw [← eh1, AH.set_next]
        have E1 : ∀ y, y < h.next → y ≠ b → y ∉ ([] : List Nat) → h1.get y = h.get y := fun y hy h1 h2 => by rw [← eh1]; exact (AH.set_getN _ _ h1).trans (E0 y hy h1 h2)
        rw [eh1] at s0
        have KLf : KoL bs h h1 := ⟨N1, fun y hy hyb => E1 y hy (fun e => hyb (by rw [e]; exact u7)) (fun e => hyb (u6 y e))⟩
        have hRf : (Ty.int .u8).R true h1 [.int .u8 z0] z0 ([] : List Nat) := Ty.R.int (hz0 ▸ InK.wrap _ _)
        rw [hmk] at hms
        have hR6 := u10 h1 _ _ (by rw [N1]; exact Nat.le_refl _) (fun y hy h1 h2 => E1 y (hR.mem y hy) h1 h2) G1 hRf
        rw [hms] at hR6
        rewrite [lp44_26]
        simp [Try.f44, t0, t1, t5, hL, hlt, u1, w0, cv0, s0, wrap_i64 (n := (k : Int) + 1) (by omega) (by omega)]
        exact ⟨d - 1, by omega, k + 1, by omega, by simp [t0], by simp; omega, by simp, hK.trans KLf, hR6⟩)
    ⟨0, by simp, by simp, by simp [cntL], by simp, KoL.refl _ _, by simpa [mkRow] using hd⟩ (by omega))
  simp [g1]
  exact ⟨g2, g3⟩
/-! markRangeS -/
def ImarkRangeS_h (ds : List tT94.D) (s : AV) (k0 : Int) (bs : List Nat) (H : AH) (d : Nat) (τ : Tm) (h : AH) : Prop :=
  ∃ k : Nat, k + d = ds.length ∧ τ 0 = s ∧ τ 1 = .int .i64 (k0 + (cntL (tT94.cnt true) (ds.take k) : Nat)) ∧ τ 5 = .int .i64 k ∧ KoL bs H h ∧ (Ty.sl 94 tT94).R true h [s] (mkRow (tT94.mk true) (tT94.cnt true) k0 (ds.take k) ++ ds.drop k) bs
set_option maxHeartbeats 4000000 in
theorem markRangeS_h {H : AH} {s : AV} {ds : List tT94.D} {bs : List Nat} (hd : (Ty.sl 94 tT94).R true H [s] ds bs) (hnd : bs.Nodup) (hb : (Ty.sl 94 tT94).bd 1048576 ds) {k0 : Int} (hk0 : 0 ≤ k0) (hk1 : k0 + ((Ty.sl 94 tT94).cnt true ds : Nat) ≤ 2147483648) (m : Nat) (hm : 1048740 ≤ m) :
    ∃ H', ev Try.prog m 128 [s, .int .i64 k0] H = some (.int .i64 (k0 + ((Ty.sl 94 tT94).cnt true ds : Nat)), H') ∧ KoL bs H H' ∧ (Ty.sl 94 tT94).R true H' [s] ((Ty.sl 94 tT94).mk true k0 ds) bs := by
  obtain ⟨m, rfl⟩ : ∃ k, m = k + 1 := ⟨m - 1, by omega⟩
  obtain ⟨hl, hl2⟩ := hb
  rw [cnt_sl] at hk1 ⊢
  rw [mk_sl]
  rw [ev_eq Try.func128 ok128 m _ H (by simp [Try.f128])]
  simp [Try.f128]
  generalize hLo : evLoop _ _ _ _ _ _ = R
  obtain ⟨e, τ', H', rfl, rfl, g1, g2, g3⟩ := loop_at hLo (loop_rule (d := ds.length) (ImarkRangeS_h ds s k0 bs H)
    (fun e τ h => e = .exit 0 ∧ τ 1 = .int .i64 (k0 + (cntL (tT94.cnt true) ds : Nat)) ∧ KoL bs H h ∧ (Ty.sl 94 tT94).R true h [s] (mkRow (tT94.mk true) (tT94.cnt true) k0 ds) bs)
    (by
      rintro d τ h ⟨k, hk, t0, t1, t5, hK, hR⟩
      have hlen' : (mkRow (tT94.mk true) (tT94.cnt true) k0 (ds.take k) ++ ds.drop k).length = ds.length := by simp [mkRow_len]; omega
      have hL := Ty.R.lenA hR (P := Try.prog) (T := 70) (by simp)
      rw [hlen'] at hL
      by_cases hd0 : d = 0
      · subst hd0
        have : k = ds.length := by omega
        subst this
        rw [List.take_length] at t1
        rewrite [lp128_26]
        simp [Try.f128, t0, t1, t5, hL]
        exact ⟨hK, by simpa using hR⟩
      · have hlt : k < ds.length := by omega
        obtain ⟨b, o, x1, c, x2, bk, u1, u2, u3, u4, u5, u6, u7, u8, u9, u10⟩ := Ty.R.upd hR hnd (P := Try.prog) (T := 70) (by simp) (by simp [Ty.n]) (k := k) (by omega)
        have hat := mkRow_atH (tT94.mk true) (tT94.cnt true) k0 ds k hlt (by rw [hlen']; exact hlt)
        rw [hat] at u5
        have hbd := hl2 _ (List.getElem_mem hlt)
        have hct := cntL_take_succ' (tT94.cnt true) ds k hlt
        have hcl := cntL_take_le' (tT94.cnt true) ds (k + 1)
        have hms := mkRow_setH (tT94.mk true) (tT94.cnt true) k0 ds k hlt
        generalize hK0 : k0 + (cntL (tT94.cnt true) (ds.take k) : Nat) = K0 at *
        have hKb : 0 ≤ K0 ∧ K0 ≤ 2147483648 := by omega
        generalize hdk : ds[k] = dk at *
        obtain ⟨x_0, x_1⟩ := dk
        obtain ⟨hbx_0, hbx_1⟩ := hbd
        obtain ⟨rfl, rfl, ix_0, ix_1⟩ := o94 u5
        obtain ⟨K1, hK1⟩ : ∃ z, z = K0 + (((Ty.int .i64).cnt true x_0 : Nat) : Int) := ⟨_, rfl⟩
        obtain ⟨K2, hK2⟩ : ∃ z, z = K1 + (((Ty.int .i64).cnt true x_1 : Nat) : Int) := ⟨_, rfl⟩
        have htot : tT94.cnt true (x_0, x_1) = (Ty.int .i64).cnt true x_0 + ((Ty.int .i64).cnt true x_1) := rfl
        rw [htot] at hct
        have hKl : K2 = k0 + (cntL (tT94.cnt true) (ds.take (k + 1)) : Nat) := by rw [hct]; push_cast; omega
        have u2' : K2 ≤ 2147483648 := by omega
        have u1' := dn_step hK2 u2'
        have u0' := dn_step hK1 u1'
        have p0' : 0 ≤ K0 := hKb.1
        have p1' := up_step hK1 p0'
        have p2' := up_step hK2 p1'
        have w0 := wrap_step hK1 rfl p0' u1'
        have w1 := wrap_step hK2 rfl p1' u2'
        have hmk : tT94.mk true K0 (x_0, x_1) = (K0, K1) := by rw [mk_pair, ← hK1, mk_int31 p0' u0', mk_int31 p1' u1']
        have h0 : h = h := rfl
        have G0 : h.get b = some (.cells 94 false (x1 ++ [.int .i64 x_0, .int .i64 x_1] ++ x2)) := u3
        have N0 : h.next = h.next := rfl
        have E0 : ∀ y, y < h.next → y ≠ b → y ∉ ([] : List Nat) → h.get y = h.get y := fun _ _ _ _ => rfl
        obtain ⟨B0, hB0⟩ : ∃ B, B = Blk.cells 94 false (x1 ++ [.int .i64 K0, .int .i64 x_1] ++ x2) := ⟨_, rfl⟩
        have s0 : stVar Try.prog 3 b o (.int .i64 K0) h = some (h.set b B0) := by rw [hB0]; exact stf0 G0 u4 (by simp) rfl (by simp) rfl
        obtain ⟨h1, eh1⟩ : ∃ z, h.set b B0 = z := ⟨_, rfl⟩
        have G1 : h1.get b = some (.cells 94 false (x1 ++ [.int .i64 K0, .int .i64 x_1] ++ x2)) := by rw [← eh1, AH.set_getS, hB0]
        have N1 : h1.next = h.next := by rw [← eh1, AH.set_next]
        have E1 : ∀ y, y < h.next → y ≠ b → y ∉ ([] : List Nat) → h1.get y = h.get y := fun y hy h1 h2 => by rw [← eh1]; exact (AH.set_getN _ _ h1).trans (E0 y hy h1 h2)
        rw [eh1] at s0
        obtain ⟨B1, hB1⟩ : ∃ B, B = Blk.cells 94 false (x1 ++ [.int .i64 K0, .int .i64 K1] ++ x2) := ⟨_, rfl⟩
        have s1 : stVar Try.prog 3 b (o + 1) (.int .i64 K1) h1 = some (h1.set b B1) := by rw [hB1]; exact stf G1 u4 (by simp) rfl (by simp) rfl
        obtain ⟨h2, eh2⟩ : ∃ z, h1.set b B1 = z := ⟨_, rfl⟩
        have G2 : h2.get b = some (.cells 94 false (x1 ++ [.int .i64 K0, .int .i64 K1] ++ x2)) := by rw [← eh2, AH.set_getS, hB1]
        have N2 : h2.next = h.next := by rw [← eh2, AH.set_next, N1]
        have E2 : ∀ y, y < h.next → y ≠ b → y ∉ ([] : List Nat) → h2.get y = h.get y := fun y hy h1 h2 => by rw [← eh2]; exact (AH.set_getN _ _ h1).trans (E1 y hy h1 h2)
        rw [eh2] at s1
        have KLf : KoL bs h h2 := ⟨N2, fun y hy hyb => E2 y hy (fun e => hyb (by rw [e]; exact u7)) (fun e => hyb (u6 y e))⟩
        have hRf : tT94.R true h2 [.int .i64 K0, .int .i64 K1] (K0, K1) ([] : List Nat) := i94  (InK.k31 p0' u0') (InK.k31 p1' u1')
        rw [hmk] at hms
        have hR6 := u10 h2 _ _ (by rw [N2]; exact Nat.le_refl _) (fun y hy h1 h2 => E2 y (hR.mem y hy) h1 h2) G2 hRf
        rw [hms] at hR6
        rewrite [lp128_26]
        simp [Try.f128, t0, t1, t5, hL, hlt, u1, w0, w1, s0, s1, wrap_i64 (n := (k : Int) + 1) (by omega) (by omega)]
        exact ⟨d - 1, by omega, k + 1, by omega, by simp [t0], by simp; omega, by simp, hK.trans KLf, hR6⟩)
    ⟨0, by simp, by simp, by simp [cntL], by simp, KoL.refl _ _, by simpa [mkRow] using hd⟩ (by omega))
  simp [g1]
  exact ⟨g2, g3⟩
/-! markFrame -/
set_option maxHeartbeats 4000000 in
theorem markFrame_h {Hb H : AH} {c : List AV} {d : tT72.D} {bs : List Nat} (hd : tT72.R true Hb c d bs) (hnd : bs.Nodup) (hK : Kp Hb H) (hb : tT72.bd 1048576 d) {k0 : Int} (hk0 : 0 ≤ k0) (hk1 : k0 + (tT72.cnt false d : Nat) ≤ 2147483648) (m : Nat) (hm : 1048760 ≤ m) :
    ∃ H', ev Try.prog m 45 [.agg c, .int .i64 k0] H = some (.int .i64 (k0 + (tT72.cnt false d : Nat)), H') ∧ KoS bs H H' ∧ tT72.R true H' c (tT72.mk false k0 d) bs := by
  obtain ⟨m, rfl⟩ : ∃ k, m = k + 1 := ⟨m - 1, by omega⟩
  obtain ⟨x_0, x_1, x_2, x_3, x_4, x_5, x_6, x_7⟩ := d
  obtain ⟨hbx_0, hbx_1, hbx_2, hbx_3, hbx_4, hbx_5, hbx_6, hbx_7⟩ := hb
  obtain ⟨K0, hK0⟩ : ∃ z, z = k0 := ⟨_, rfl⟩
  subst hK0
  obtain ⟨K1, hK1⟩ : ∃ z, z = K0 + (((Ty.int .i64).cnt false x_0 : Nat) : Int) := ⟨_, rfl⟩
  have hc0 : (Ty.int .i64).cnt false x_0 = 0 := rfl
  have hk10 : K1 = K0 := by omega
  obtain ⟨K2, hK2⟩ : ∃ z, z = K1 + (((Ty.int .i64).cnt false x_1 : Nat) : Int) := ⟨_, rfl⟩
  have hc1 : (Ty.int .i64).cnt false x_1 = 0 := rfl
  have hk11 : K2 = K1 := by omega
  obtain ⟨K3, hK3⟩ : ∃ z, z = K2 + (((Ty.int .i64).cnt false x_2 : Nat) : Int) := ⟨_, rfl⟩
  have hc2 : (Ty.int .i64).cnt false x_2 = 0 := rfl
  have hk12 : K3 = K2 := by omega
  obtain ⟨K4, hK4⟩ : ∃ z, z = K3 + (((Ty.int .i64).cnt false x_3 : Nat) : Int) := ⟨_, rfl⟩
  have hc3 : (Ty.int .i64).cnt false x_3 = 0 := rfl
  have hk13 : K4 = K3 := by omega
  obtain ⟨K5, hK5⟩ : ∃ z, z = K4 + ((Ty.bool.cnt false x_4 : Nat) : Int) := ⟨_, rfl⟩
  have hc4 : Ty.bool.cnt false x_4 = 0 := rfl
  have hk14 : K5 = K4 := by omega
  obtain ⟨K6, hK6⟩ : ∃ z, z = K5 + (((Ty.sl 5 (Ty.int .u8)).cnt false x_5 : Nat) : Int) := ⟨_, rfl⟩
  obtain ⟨K7, hK7⟩ : ∃ z, z = K6 + (((Ty.sl 5 (Ty.int .u8)).cnt false x_6 : Nat) : Int) := ⟨_, rfl⟩
  obtain ⟨K8, hK8⟩ : ∃ z, z = K7 + (((Ty.sl 94 tT94).cnt false x_7 : Nat) : Int) := ⟨_, rfl⟩
  have htot : tT72.cnt false (x_0, x_1, x_2, x_3, x_4, x_5, x_6, x_7) = (Ty.int .i64).cnt false x_0 + ((Ty.int .i64).cnt false x_1 + ((Ty.int .i64).cnt false x_2 + ((Ty.int .i64).cnt false x_3 + (Ty.bool.cnt false x_4 + ((Ty.sl 5 (Ty.int .u8)).cnt false x_5 + ((Ty.sl 5 (Ty.int .u8)).cnt false x_6 + ((Ty.sl 94 tT94).cnt false x_7))))))) := rfl
  rw [htot] at hk1 ⊢
  have hKl : K0 + (((Ty.int .i64).cnt false x_0 + ((Ty.int .i64).cnt false x_1 + ((Ty.int .i64).cnt false x_2 + ((Ty.int .i64).cnt false x_3 + (Ty.bool.cnt false x_4 + ((Ty.sl 5 (Ty.int .u8)).cnt false x_5 + ((Ty.sl 5 (Ty.int .u8)).cnt false x_6 + ((Ty.sl 94 tT94).cnt false x_7))))))) : Nat) : Int) = K8 := by push_cast; omega
  rw [hKl] at hk1 ⊢
  have u7' : K7 ≤ 2147483648 := dn_step hK8 hk1
  have u6' : K6 ≤ 2147483648 := dn_step hK7 u7'
  have u5' : K5 ≤ 2147483648 := dn_step hK6 u6'
  have u4' : K4 ≤ 2147483648 := dn_step hK5 u5'
  have u3' : K3 ≤ 2147483648 := dn_step hK4 u4'
  have u2' : K2 ≤ 2147483648 := dn_step hK3 u3'
  have u1' : K1 ≤ 2147483648 := dn_step hK2 u2'
  have u0' : K0 ≤ 2147483648 := dn_step hK1 u1'
  have u8' := hk1
  have p0' : 0 ≤ K0 := hk0
  have p1' := up_step hK1 p0'
  have p2' := up_step hK2 p1'
  have p3' := up_step hK3 p2'
  have p4' := up_step hK4 p3'
  have p5' := up_step hK5 p4'
  have p6' := up_step hK6 p5'
  have p7' := up_step hK7 p6'
  have p8' := up_step hK8 p7'
  have hmk : tT72.mk false K0 (x_0, x_1, x_2, x_3, x_4, x_5, x_6, x_7) = (x_0, x_1, x_2, x_3, x_4, ((Ty.sl 5 (Ty.int .u8)).mk false K5 x_5), ((Ty.sl 5 (Ty.int .u8)).mk false K6 x_6), ((Ty.sl 94 tT94).mk false K7 x_7)) := by rw [mk_pair, ← hK1, mk_pair, ← hK2, mk_pair, ← hK3, mk_pair, ← hK4, mk_pair, ← hK5, mk_pair, ← hK6, mk_pair, ← hK7]; rfl
  rw [hmk]
  obtain ⟨vx_5, vx_6, vx_7, bx_5, bx_6, bx_7, rfl, rfl, hx_5, hx_6, hx_7, ix_0, ix_1, ix_2, ix_3⟩ := o72 hd
  have ox_5 := hx_5.sl_one
  have ox_6 := hx_6.sl_one
  have ox_7 := hx_7.sl_one
  let A0 : AH := H.push (.cells 72 false [.int .i64 x_0, .int .i64 x_1, .int .i64 x_2, .int .i64 x_3, .bool x_4, vx_5, vx_6, vx_7])
  have P0 : Kp H A0 := (Kp.refl H).push _
  have g0 : A0.get H.next = some (.cells 72 false [.int .i64 x_0, .int .i64 x_1, .int .i64 x_2, .int .i64 x_3, .bool x_4, vx_5, vx_6, vx_7]) := by simp [A0]
  have nx : A0.next = H.next + 1 := rfl
  have kx_5 := hx_5.kp (hK.trans P0)
  have b_x_5 : ∀ z ∈ bx_5, z < H.next := fun z hz => (hx_5.kp hK).mem z hz
  have kx_6 := hx_6.kp (hK.trans P0)
  have b_x_6 : ∀ z ∈ bx_6, z < H.next := fun z hz => (hx_6.kp hK).mem z hz
  have kx_7 := hx_7.kp (hK.trans P0)
  have b_x_7 : ∀ z ∈ bx_7, z < H.next := fun z hz => (hx_7.kp hK).mem z hz
  have KS0 : KoS (bx_5 ++ (bx_6 ++ bx_7)) H A0 := P0.koS _
  have nd1 : bx_5.Nodup := by simp only [List.nodup_append] at hnd; grind
  obtain ⟨A1, s1, L1, R1⟩ := markByteS_h kx_5 nd1 hbx_5 (k0 := K5) p5' (le_of_eq_of_le hK6.symm u6') m (by omega)
  have e1 : K5 + (((Ty.sl 5 (Ty.int .u8)).cnt true x_5 : Nat) : Int) = K6 := hK6.symm
  rw [e1] at s1
  have n1 : A1.next = H.next + 1 := by rw [L1.next]; rfl
  have g1 : A1.get H.next = _ := (L1.get _ (by rw [nx]; omega) (fun e => by have := b_x_5 _ e; omega)).trans g0
  have KS1 : KoS (bx_5 ++ (bx_6 ++ bx_7)) H A1 := KS0.trans (L1.koS) (fun b hb => .inl (by simp [hb]))
  have M1x_6 := kx_6.koL L1 (fun y hy hx => by simp only [List.nodup_append] at hnd; grind)
  have M1x_7 := kx_7.koL L1 (fun y hy hx => by simp only [List.nodup_append] at hnd; grind)
  have nd2 : bx_6.Nodup := by simp only [List.nodup_append] at hnd; grind
  obtain ⟨A2, s2, L2, R2⟩ := markByteS_h M1x_6 nd2 hbx_6 (k0 := K6) p6' (le_of_eq_of_le hK7.symm u7') m (by omega)
  have e2 : K6 + (((Ty.sl 5 (Ty.int .u8)).cnt true x_6 : Nat) : Int) = K7 := hK7.symm
  rw [e2] at s2
  have n2 : A2.next = H.next + 1 := by rw [L2.next]; exact n1
  have g2 : A2.get H.next = _ := (L2.get _ (by rw [n1]; omega) (fun e => by have := b_x_6 _ e; omega)).trans g1
  have KS2 : KoS (bx_5 ++ (bx_6 ++ bx_7)) H A2 := KS1.trans (L2.koS) (fun b hb => .inl (by simp [hb]))
  have M2x_5 := R1.koL L2 (fun y hy hx => by simp only [List.nodup_append] at hnd; grind)
  have M2x_7 := M1x_7.koL L2 (fun y hy hx => by simp only [List.nodup_append] at hnd; grind)
  have nd3 : bx_7.Nodup := by simp only [List.nodup_append] at hnd; grind
  obtain ⟨A3, s3, L3, R3⟩ := markRangeS_h M2x_7 nd3 hbx_7 (k0 := K7) p7' (le_of_eq_of_le hK8.symm u8') m (by omega)
  have e3 : K7 + (((Ty.sl 94 tT94).cnt true x_7 : Nat) : Int) = K8 := hK8.symm
  rw [e3] at s3
  have n3 : A3.next = H.next + 1 := by rw [L3.next]; exact n2
  have g3 : A3.get H.next = _ := (L3.get _ (by rw [n2]; omega) (fun e => by have := b_x_7 _ e; omega)).trans g2
  have KS3 : KoS (bx_5 ++ (bx_6 ++ bx_7)) H A3 := KS2.trans (L3.koS) (fun b hb => .inl (by simp [hb]))
  have M3x_5 := M2x_5.koL L3 (fun y hy hx => by simp only [List.nodup_append] at hnd; grind)
  have M3x_6 := R2.koL L3 (fun y hy hx => by simp only [List.nodup_append] at hnd; grind)
  refine ⟨A3, ?_, KS3, i72 M3x_5 M3x_6 R3 ix_0 ix_1 ix_2 ix_3⟩
  rw [ev_eq Try.func45 ok45 m _ H (by simp [Try.f45])]
  simp only [A0] at *
  simp only [hk10, hk11, hk12, hk13, hk14] at *
  simp [Try.f45, ldVar, evHist, ObsOk, ObOk, g0, ox_5, ox_6, ox_7, s1, g1, s2, g2, s3, g3]
/-! heldByteS -/
def IheldByteS_h (ds : List (Ty.int .u8).D) (s : AV) (k0 : Int) (H : AH) (d : Nat) (τ : Tm) (h : AH) : Prop :=
  ∃ k : Nat, k + d = ds.length ∧ τ 0 = s ∧ τ 1 = .int .i64 (k0 + (cntL ((Ty.int .u8).cnt true) (ds.take k) : Nat)) ∧ τ 5 = .int .i64 k ∧ h = H
set_option maxHeartbeats 4000000 in
theorem heldByteS_h {H : AH} {s : AV} {ds : List (Ty.int .u8).D} {bs : List Nat} {rw : Bool} {k0 : Int} (hd : (Ty.sl 5 (Ty.int .u8)).R rw H [s] ((Ty.sl 5 (Ty.int .u8)).mk true k0 ds) bs) (hb : (Ty.sl 5 (Ty.int .u8)).bd 1048576 ds) (hk0 : 0 ≤ k0) (hk1 : k0 + ((Ty.sl 5 (Ty.int .u8)).cnt true ds : Nat) ≤ 2147483648) (m : Nat) (hm : 1048720 ≤ m) :
    ev Try.prog m 129 [s, .int .i64 k0] H = some (.int .i64 (k0 + ((Ty.sl 5 (Ty.int .u8)).cnt true ds : Nat)), H) := by
  obtain ⟨m, rfl⟩ : ∃ k, m = k + 1 := ⟨m - 1, by omega⟩
  obtain ⟨hl, hl2⟩ := hb
  rw [cnt_sl] at hk1 ⊢
  rw [mk_sl] at hd
  have hL := Ty.R.lenA hd (P := Try.prog) (T := 34) (by simp)
  rw [mkRow_len] at hL
  rw [ev_eq Try.func129 ok129 m _ H (by simp [Try.f129])]
  simp [Try.f129]
  generalize hLo : evLoop _ _ _ _ _ _ = R
  obtain ⟨e, τ', H', rfl, rfl, g1, rfl⟩ := loop_at hLo (loop_rule (d := ds.length) (IheldByteS_h ds s k0 H)
    (fun e τ h => e = .exit 0 ∧ τ 1 = .int .i64 (k0 + (cntL ((Ty.int .u8).cnt true) ds : Nat)) ∧ h = H)
    (by
      rintro d τ h ⟨k, hk, t0, t1, t5, rfl⟩
      by_cases hd0 : d = 0
      · subst hd0
        have : k = ds.length := by omega
        subst this
        rw [List.take_length] at t1
        rewrite [lp129_26]
        simp [Try.f129, t0, t1, t5, hL]
      · have hlt : k < ds.length := by omega
        obtain ⟨b, o, ro, x1, c, x2, bk, u1, u2, u3, u4, u5, u6, u7, u8⟩ := Ty.R.at_ hd (P := Try.prog) (T := 34) (by simp) (by simp [Ty.n]) (k := k) (by rw [mkRow_len]; exact hlt)
        rw [mkRow_getH _ _ _ _ _ hlt] at u5
        have hbd := hl2 _ (List.getElem_mem hlt)
        have hct := cntL_take_succ' ((Ty.int .u8).cnt true) ds k hlt
        have hcl := cntL_take_le' ((Ty.int .u8).cnt true) ds (k + 1)
        generalize hK0 : k0 + (cntL ((Ty.int .u8).cnt true) (ds.take k) : Nat) = K0 at *
        have hKb : 0 ≤ K0 ∧ K0 ≤ 2147483648 := by omega
        generalize hdk : ds[k] = dk at *
        obtain ⟨x, hx0⟩ : ∃ x, x = dk := ⟨_, rfl⟩
        subst hx0
        have hbx := hbd
        obtain ⟨K1, hK1⟩ : ∃ z, z = K0 + (((Ty.int .u8).cnt true x : Nat) : Int) := ⟨_, rfl⟩
        have htot : (Ty.int .u8).cnt true x = (Ty.int .u8).cnt true x := rfl
        rw [htot] at hct
        have hKl : K1 = k0 + (cntL ((Ty.int .u8).cnt true) (ds.take (k + 1)) : Nat) := by rw [hct]; push_cast; omega
        have u1' : K1 ≤ 2147483648 := by omega
        have u0' := dn_step hK1 u1'
        have p0' : 0 ≤ K0 := hKb.1
        have p1' := up_step hK1 p0'
        have w0 := wrap_step hK1 rfl p0' u1'
        obtain ⟨z0, hz0⟩ : ∃ z, IntKind.u8.wrap K0 = z := ⟨_, rfl⟩
        have cv0 : ∀ h', convA Try.prog 3 5 (.int .i64 K0) h' = some (.int .u8 z0, h') := fun h' => (conv_int (ds := .int .i64) (k := .u8) (by simp) (by simp)).trans (by rw [hz0])
        have hmk : (Ty.int .u8).mk true K0 x = z0 := by rw [mk_intw, hz0]
        rw [hmk] at u5
        obtain ⟨rfl, r1, r2, rfl⟩ := u5
        have l0 : ldVar Try.prog 5 b o h = some (.int .u8 z0) := ldf0 u3 u4 (by simp) rfl
        rewrite [lp129_26]
        simp [Try.f129, t0, t1, t5, hL, hlt, u1, w0, cv0, l0, evHist, ObsOk, ObOk, wrap_i64 (n := (k : Int) + 1) (by omega) (by omega)]
        exact ⟨d - 1, by omega, k + 1, by omega, by simp [t0], by simp; omega, by simp⟩)
    ⟨0, by simp, by simp, by simp [cntL], by simp, rfl⟩ (by omega))
  simp [g1]
/-! heldRangeS -/
def IheldRangeS_h (ds : List tT94.D) (s : AV) (k0 : Int) (H : AH) (d : Nat) (τ : Tm) (h : AH) : Prop :=
  ∃ k : Nat, k + d = ds.length ∧ τ 0 = s ∧ τ 1 = .int .i64 (k0 + (cntL (tT94.cnt true) (ds.take k) : Nat)) ∧ τ 5 = .int .i64 k ∧ h = H
set_option maxHeartbeats 4000000 in
theorem heldRangeS_h {H : AH} {s : AV} {ds : List tT94.D} {bs : List Nat} {rw : Bool} {k0 : Int} (hd : (Ty.sl 94 tT94).R rw H [s] ((Ty.sl 94 tT94).mk true k0 ds) bs) (hb : (Ty.sl 94 tT94).bd 1048576 ds) (hk0 : 0 ≤ k0) (hk1 : k0 + ((Ty.sl 94 tT94).cnt true ds : Nat) ≤ 2147483648) (m : Nat) (hm : 1048740 ≤ m) :
    ev Try.prog m 130 [s, .int .i64 k0] H = some (.int .i64 (k0 + ((Ty.sl 94 tT94).cnt true ds : Nat)), H) := by
  obtain ⟨m, rfl⟩ : ∃ k, m = k + 1 := ⟨m - 1, by omega⟩
  obtain ⟨hl, hl2⟩ := hb
  rw [cnt_sl] at hk1 ⊢
  rw [mk_sl] at hd
  have hL := Ty.R.lenA hd (P := Try.prog) (T := 70) (by simp)
  rw [mkRow_len] at hL
  rw [ev_eq Try.func130 ok130 m _ H (by simp [Try.f130])]
  simp [Try.f130]
  generalize hLo : evLoop _ _ _ _ _ _ = R
  obtain ⟨e, τ', H', rfl, rfl, g1, rfl⟩ := loop_at hLo (loop_rule (d := ds.length) (IheldRangeS_h ds s k0 H)
    (fun e τ h => e = .exit 0 ∧ τ 1 = .int .i64 (k0 + (cntL (tT94.cnt true) ds : Nat)) ∧ h = H)
    (by
      rintro d τ h ⟨k, hk, t0, t1, t5, rfl⟩
      by_cases hd0 : d = 0
      · subst hd0
        have : k = ds.length := by omega
        subst this
        rw [List.take_length] at t1
        rewrite [lp130_26]
        simp [Try.f130, t0, t1, t5, hL]
      · have hlt : k < ds.length := by omega
        obtain ⟨b, o, ro, x1, c, x2, bk, u1, u2, u3, u4, u5, u6, u7, u8⟩ := Ty.R.at_ hd (P := Try.prog) (T := 70) (by simp) (by simp [Ty.n]) (k := k) (by rw [mkRow_len]; exact hlt)
        rw [mkRow_getH _ _ _ _ _ hlt] at u5
        have hbd := hl2 _ (List.getElem_mem hlt)
        have hct := cntL_take_succ' (tT94.cnt true) ds k hlt
        have hcl := cntL_take_le' (tT94.cnt true) ds (k + 1)
        generalize hK0 : k0 + (cntL (tT94.cnt true) (ds.take k) : Nat) = K0 at *
        have hKb : 0 ≤ K0 ∧ K0 ≤ 2147483648 := by omega
        generalize hdk : ds[k] = dk at *
        obtain ⟨x_0, x_1⟩ := dk
        obtain ⟨hbx_0, hbx_1⟩ := hbd
        obtain ⟨K1, hK1⟩ : ∃ z, z = K0 + (((Ty.int .i64).cnt true x_0 : Nat) : Int) := ⟨_, rfl⟩
        obtain ⟨K2, hK2⟩ : ∃ z, z = K1 + (((Ty.int .i64).cnt true x_1 : Nat) : Int) := ⟨_, rfl⟩
        have htot : tT94.cnt true (x_0, x_1) = (Ty.int .i64).cnt true x_0 + ((Ty.int .i64).cnt true x_1) := rfl
        rw [htot] at hct
        have hKl : K2 = k0 + (cntL (tT94.cnt true) (ds.take (k + 1)) : Nat) := by rw [hct]; push_cast; omega
        have u2' : K2 ≤ 2147483648 := by omega
        have u1' := dn_step hK2 u2'
        have u0' := dn_step hK1 u1'
        have p0' : 0 ≤ K0 := hKb.1
        have p1' := up_step hK1 p0'
        have p2' := up_step hK2 p1'
        have w0 := wrap_step hK1 rfl p0' u1'
        have w1 := wrap_step hK2 rfl p1' u2'
        have hmk : tT94.mk true K0 (x_0, x_1) = (K0, K1) := by rw [mk_pair, ← hK1, mk_int31 p0' u0', mk_int31 p1' u1']
        rw [hmk] at u5
        obtain ⟨rfl, rfl, ix_0, ix_1⟩ := o94 u5
        have l0 : ldVar Try.prog 3 b o h = some (.int .i64 K0) := ldf0 u3 u4 (by simp) rfl
        have l1 : ldVar Try.prog 3 b (o + 1) h = some (.int .i64 K1) := ldf u3 u4 (by simp) rfl
        rewrite [lp130_26]
        simp [Try.f130, t0, t1, t5, hL, hlt, u1, w0, w1, l0, l1, evHist, ObsOk, ObOk, wrap_i64 (n := (k : Int) + 1) (by omega) (by omega)]
        exact ⟨d - 1, by omega, k + 1, by omega, by simp [t0], by simp; omega, by simp⟩)
    ⟨0, by simp, by simp, by simp [cntL], by simp, rfl⟩ (by omega))
  simp [g1]
/-! heldFrame -/
set_option maxHeartbeats 4000000 in
theorem heldFrame_h {Hb H : AH} {c : List AV} {d : tT72.D} {bs : List Nat} {rw : Bool} {k0 : Int} (hd : tT72.R rw Hb c (tT72.mk false k0 d) bs) (hK : Kp Hb H) (hb : tT72.bd 1048576 d) (hk0 : 0 ≤ k0) (hk1 : k0 + (tT72.cnt false d : Nat) ≤ 2147483648) (m : Nat) (hm : 1048760 ≤ m) :
    ∃ H', ev Try.prog m 46 [.agg c, .int .i64 k0] H = some (.int .i64 (k0 + (tT72.cnt false d : Nat)), H') ∧ Kp H H' := by
  obtain ⟨m, rfl⟩ : ∃ k, m = k + 1 := ⟨m - 1, by omega⟩
  obtain ⟨x_0, x_1, x_2, x_3, x_4, x_5, x_6, x_7⟩ := d
  obtain ⟨hbx_0, hbx_1, hbx_2, hbx_3, hbx_4, hbx_5, hbx_6, hbx_7⟩ := hb
  obtain ⟨K0, hK0⟩ : ∃ z, z = k0 := ⟨_, rfl⟩
  subst hK0
  obtain ⟨K1, hK1⟩ : ∃ z, z = K0 + (((Ty.int .i64).cnt false x_0 : Nat) : Int) := ⟨_, rfl⟩
  have hc0 : (Ty.int .i64).cnt false x_0 = 0 := rfl
  have hk10 : K1 = K0 := by omega
  obtain ⟨K2, hK2⟩ : ∃ z, z = K1 + (((Ty.int .i64).cnt false x_1 : Nat) : Int) := ⟨_, rfl⟩
  have hc1 : (Ty.int .i64).cnt false x_1 = 0 := rfl
  have hk11 : K2 = K1 := by omega
  obtain ⟨K3, hK3⟩ : ∃ z, z = K2 + (((Ty.int .i64).cnt false x_2 : Nat) : Int) := ⟨_, rfl⟩
  have hc2 : (Ty.int .i64).cnt false x_2 = 0 := rfl
  have hk12 : K3 = K2 := by omega
  obtain ⟨K4, hK4⟩ : ∃ z, z = K3 + (((Ty.int .i64).cnt false x_3 : Nat) : Int) := ⟨_, rfl⟩
  have hc3 : (Ty.int .i64).cnt false x_3 = 0 := rfl
  have hk13 : K4 = K3 := by omega
  obtain ⟨K5, hK5⟩ : ∃ z, z = K4 + ((Ty.bool.cnt false x_4 : Nat) : Int) := ⟨_, rfl⟩
  have hc4 : Ty.bool.cnt false x_4 = 0 := rfl
  have hk14 : K5 = K4 := by omega
  obtain ⟨K6, hK6⟩ : ∃ z, z = K5 + (((Ty.sl 5 (Ty.int .u8)).cnt false x_5 : Nat) : Int) := ⟨_, rfl⟩
  obtain ⟨K7, hK7⟩ : ∃ z, z = K6 + (((Ty.sl 5 (Ty.int .u8)).cnt false x_6 : Nat) : Int) := ⟨_, rfl⟩
  obtain ⟨K8, hK8⟩ : ∃ z, z = K7 + (((Ty.sl 94 tT94).cnt false x_7 : Nat) : Int) := ⟨_, rfl⟩
  have htot : tT72.cnt false (x_0, x_1, x_2, x_3, x_4, x_5, x_6, x_7) = (Ty.int .i64).cnt false x_0 + ((Ty.int .i64).cnt false x_1 + ((Ty.int .i64).cnt false x_2 + ((Ty.int .i64).cnt false x_3 + (Ty.bool.cnt false x_4 + ((Ty.sl 5 (Ty.int .u8)).cnt false x_5 + ((Ty.sl 5 (Ty.int .u8)).cnt false x_6 + ((Ty.sl 94 tT94).cnt false x_7))))))) := rfl
  rw [htot] at hk1 ⊢
  have hKl : K0 + (((Ty.int .i64).cnt false x_0 + ((Ty.int .i64).cnt false x_1 + ((Ty.int .i64).cnt false x_2 + ((Ty.int .i64).cnt false x_3 + (Ty.bool.cnt false x_4 + ((Ty.sl 5 (Ty.int .u8)).cnt false x_5 + ((Ty.sl 5 (Ty.int .u8)).cnt false x_6 + ((Ty.sl 94 tT94).cnt false x_7))))))) : Nat) : Int) = K8 := by push_cast; omega
  rw [hKl] at hk1 ⊢
  have u7' : K7 ≤ 2147483648 := dn_step hK8 hk1
  have u6' : K6 ≤ 2147483648 := dn_step hK7 u7'
  have u5' : K5 ≤ 2147483648 := dn_step hK6 u6'
  have u4' : K4 ≤ 2147483648 := dn_step hK5 u5'
  have u3' : K3 ≤ 2147483648 := dn_step hK4 u4'
  have u2' : K2 ≤ 2147483648 := dn_step hK3 u3'
  have u1' : K1 ≤ 2147483648 := dn_step hK2 u2'
  have u0' : K0 ≤ 2147483648 := dn_step hK1 u1'
  have u8' := hk1
  have p0' : 0 ≤ K0 := hk0
  have p1' := up_step hK1 p0'
  have p2' := up_step hK2 p1'
  have p3' := up_step hK3 p2'
  have p4' := up_step hK4 p3'
  have p5' := up_step hK5 p4'
  have p6' := up_step hK6 p5'
  have p7' := up_step hK7 p6'
  have p8' := up_step hK8 p7'
  have hmk : tT72.mk false K0 (x_0, x_1, x_2, x_3, x_4, x_5, x_6, x_7) = (x_0, x_1, x_2, x_3, x_4, ((Ty.sl 5 (Ty.int .u8)).mk false K5 x_5), ((Ty.sl 5 (Ty.int .u8)).mk false K6 x_6), ((Ty.sl 94 tT94).mk false K7 x_7)) := by rw [mk_pair, ← hK1, mk_pair, ← hK2, mk_pair, ← hK3, mk_pair, ← hK4, mk_pair, ← hK5, mk_pair, ← hK6, mk_pair, ← hK7]; rfl
  rw [hmk] at hd
  obtain ⟨vx_5, vx_6, vx_7, bx_5, bx_6, bx_7, rfl, rfl, hx_5, hx_6, hx_7, ix_0, ix_1, ix_2, ix_3⟩ := o72 hd
  have ox_5 := hx_5.sl_one
  have ox_6 := hx_6.sl_one
  have ox_7 := hx_7.sl_one
  let A0 : AH := H.push (.cells 72 false [.int .i64 x_0, .int .i64 x_1, .int .i64 x_2, .int .i64 x_3, .bool x_4, vx_5, vx_6, vx_7])
  have P0 : Kp H A0 := (Kp.refl H).push _
  have g0 : A0.get H.next = some (.cells 72 false [.int .i64 x_0, .int .i64 x_1, .int .i64 x_2, .int .i64 x_3, .bool x_4, vx_5, vx_6, vx_7]) := by simp [A0]
  have nx : A0.next = H.next + 1 := rfl
  have s5 := heldByteS_h (hx_5.kp (hK.trans P0)) hbx_5 p5' (le_of_eq_of_le hK6.symm u6') m (by omega)
  have e5 : K5 + (((Ty.sl 5 (Ty.int .u8)).cnt true x_5 : Nat) : Int) = K6 := hK6.symm
  rw [e5] at s5
  have p5 : ¬ (K6 < 0) := Int.not_lt.2 p6'
  have s6 := heldByteS_h (hx_6.kp (hK.trans P0)) hbx_6 p6' (le_of_eq_of_le hK7.symm u7') m (by omega)
  have e6 : K6 + (((Ty.sl 5 (Ty.int .u8)).cnt true x_6 : Nat) : Int) = K7 := hK7.symm
  rw [e6] at s6
  have p6 : ¬ (K7 < 0) := Int.not_lt.2 p7'
  have s7 := heldRangeS_h (hx_7.kp (hK.trans P0)) hbx_7 p7' (le_of_eq_of_le hK8.symm u8') m (by omega)
  have e7 : K7 + (((Ty.sl 94 tT94).cnt true x_7 : Nat) : Int) = K8 := hK8.symm
  rw [e7] at s7
  have p7 : ¬ (K8 < 0) := Int.not_lt.2 p8'
  refine ⟨A0, ?_, P0⟩
  rw [ev_eq Try.func46 ok46 m _ H (by simp [Try.f46])]
  simp only [A0] at *
  simp only [hk10, hk11, hk12, hk13, hk14] at *
  simp [Try.f46, ldVar, evHist, ObsOk, ObOk, g0, ox_5, ox_6, ox_7, s5, p5, s6, p6, s7, p7]
end Go.Ev
