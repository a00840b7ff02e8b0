/- Lemmas of an evaluator of the given code and of what the functions answer; no condition of its own. -/
import Derived.Test.YtomhcdfflfonfaaEv6
import Derived.ChangeArms
import Derived.ChangeSlices
import Derived.Test.YtomhcdfflfonfaaEv8
import Derived.Test.YtomhcdfflfonfaaEv5
/- From what came in to the evaluator: data of any kind of rows and records. -/
namespace Go.Ev
open Go Go.RowKit
set_option linter.unusedSimpArgs false
set_option linter.unusedVariables false

mutual
/-- the type T shows data of the kind t -/
inductive Fits (P : Program) : TypeId → Ty → Prop
  | int {T : TypeId} {k : IntKind} : P.underlying T = some (.int k) → Fits P T (.int k)
  | bool {T : TypeId} : P.underlying T = some .bool → Fits P T .bool
  | str {T : TypeId} : P.underlying T = some .string → Fits P T .str
  | sl {T e : TypeId} {t : Ty} : P.underlying T = some (.slice e) → sizeT P e = some t.n → Fits P e t → Fits P T (.sl e t)
  | st {T : TypeId} {fs : Array Field} {t : Ty} : P.underlying T = some (.struct fs) → P.cellsOf T = t.n → FitsL P fs.toList 0 t → Fits P T t
inductive FitsL (P : Program) : List Field → Nat → Ty → Prop
  | one {f : Field} {off : Nat} {t : Ty} : f.offset = off → P.cellsOf f.type = t.n → Fits P f.type t → FitsL P [f] off t
  | cons {f : Field} {l : List Field} {off : Nat} {a b : Ty} : f.offset = off → P.cellsOf f.type = a.n → Fits P f.type a → FitsL P l (off + a.n) b → FitsL P (f :: l) off (.pair a b)
end
theorem Ty.n_pos : ∀ t : Ty, 0 < t.n
  | .int _ => by simp [Ty.n]
  | .bool => by simp [Ty.n]
  | .str => by simp [Ty.n]
  | .sl _ _ => by simp [Ty.n]
  | .pair a b => by have := Ty.n_pos a; simp only [Ty.n]; omega
/-- no row is longer than a machine's -/
def Ty.sm : (t : Ty) → t.D → Prop
  | .int _, _ => True
  | .bool, _ => True
  | .str, s => s.size ≤ 9223372036854775807
  | .sl _ t, l => l.length ≤ 9223372036854775807 ∧ ∀ x ∈ l, t.sm x
  | .pair a b, x => a.sm x.1 ∧ b.sm x.2

section
variable {P : Program} {w : World} {Hd : Type} {enc : TypeId × Value → Hd} {held : Bool}

theorem cellsOf_size {e : TypeId} {n : Nat} (h : sizeT P e = some n) : P.cellsOf e = n := by
  unfold Program.cellsOf; unfold sizeT at h; rw [h]; rfl

def InRes (P : Program) (w : World) (t : Ty) (cs : List Value) (H : AH) (μ : Mu) : Prop :=
  ∃ H' μ' c d bs, Ext μ μ' ∧ Rel P w H' μ' w ∧ Kp H H' ∧ VRs μ' c cs ∧ t.R false H' c d bs ∧ t.sm d

theorem Rel.ro {H : AH} {μ : Mu} (h : Rel P w H μ w) {e : TypeId} {xs : List AV} {L : Loc} (h1 : xs.all AV.one = true) (hs : sizeT P e = some L.sz) (hn : L.base + xs.length ≤ L.n)
    (hc : ∀ (i : Nat) (a : AV), xs[i]? = some a → L.c < w.heap.size ∧ ∃ v, w.cell? ⟨L.c, L.base + i, none⟩ = some v ∧ VR μ a v) : Rel P w (H.push (.cells e true xs)) (muPush μ H.next L) w := by
  have hx := h.ext L
  refine ⟨h.below, ?_, ?_, ?_, ?_⟩
  · intro b hb
    simp only [AH.push_next] at hb
    unfold muPush
    rw [if_neg (by omega)]
    exact h.fresh _ (by omega)
  · intro b x hb
    rw [AH.push_get] at hb
    simp only [AH.push_next]
    split at hb
    · omega
    · have := h.dom _ _ hb; omega
  · intro b z hb
    rw [AH.push_get] at hb
    split at hb
    · rename_i hbb
      subst hbb
      simp only [Option.some.injEq] at hb; subst hb
      refine ⟨L, muPush_self _ _ _, h1, hs, hn, fun i a ha => ?_⟩
      obtain ⟨k1, v, k2, k3⟩ := hc i a ha
      exact ⟨k1, v, k2, VR.mono hx _ _ k3⟩
    · rename_i hbb
      exact (h.blk b z hb).mono hx fun hn' => by unfold muPush; rw [if_neg hbb]; exact hn'
  · intro b1 x1 hb1 hx1 b2 x2 hne hb2 hx2 L1 L2 hL1 hL2
    rw [AH.push_get] at hb1 hb2
    have e1 : b1 ≠ H.next := by
      intro e; rw [if_pos e] at hb1; simp only [Option.some.injEq] at hb1; subst hb1; simp [Blk.rw] at hx1
    have e2 : b2 ≠ H.next := by
      intro e; rw [if_pos e] at hb2; simp only [Option.some.injEq] at hb2; subst hb2; simp [Blk.rw] at hx2
    rw [if_neg e1] at hb1
    rw [if_neg e2] at hb2
    unfold muPush at hL1 hL2
    rw [if_neg e1] at hL1
    rw [if_neg e2] at hL2
    exact h.sep b1 x1 hb1 hx1 b2 x2 hne hb2 hx2 L1 L2 hL1 hL2

theorem cell_add {x : Addr} {i : Nat} {v : Value} (h : w.cell? (x.add i) = some v) (hx : x.spot = none) : w.cell? ⟨x.block, x.off + i, none⟩ = some v := by
  obtain ⟨b, o, s⟩ := x
  simp only at hx; subst hx
  unfold Addr.add at h
  split at h
  · rename_i e; subst e; exact h
  · exact h
theorem cells_some {a : Addr} {n : Nat} {cs : List Value} (h : w.cells? 0 a n = some cs) : cs.length = n ∧ ∀ i, i < n → w.cell? (a.add i) = cs[i]? := by
  have := World.cells?_some h
  exact ⟨this.2.1, fun i hi => this.2.2 i hi⟩
theorem VRs.app_inv {μ : Mu} : ∀ {c : List AV} {v1 v2 : List Value}, VRs μ c (v1 ++ v2) → True := fun _ => trivial

theorem in_fields {n : Nat} {cs : List Value} (ih : ∀ {T : TypeId} {t : Ty} {cs : List Value} {x : DataW Hd × List MemPlace} {H : AH} {μ : Mu}, Fits P T t → DataW.trod enc P w 0 (fun _ => true) held n T cs = some x → Rel P w H μ w → InRes P w t cs H μ) :
    ∀ {l : List Field} {off : Nat} {t : Ty} {H : AH} {μ : Mu}, FitsL P l off t → (∀ f ∈ l, ∃ x, DataW.trod enc P w 0 (fun _ => true) held n f.type ((cs.drop f.offset).take (P.cellsOf f.type)) = some x) → cs.length = off + t.n → Rel P w H μ w →
      InRes P w t (cs.drop off) H μ
  | [], _, _, _, _, hf, _, _, _ => by cases hf
  | f :: l, off, t, H, μ, hf, hx, hl, hR => by
    cases hf with
    | one h1 h2 h3 =>
      obtain ⟨x, hx⟩ := hx f (by simp)
      have := ih h3 hx hR
      rw [h1, h2] at this
      rw [List.take_of_length_le (by rw [List.length_drop]; omega)] at this
      exact this
    | @cons _ _ _ a b h1 h2 h3 h4 =>
      obtain ⟨x, hx1⟩ := hx f (by simp)
      obtain ⟨H1, μ1, c1, d1, b1, e1, r1, k1, v1, R1, s1⟩ := ih h3 hx1 hR
      obtain ⟨H2, μ2, c2, d2, b2, e2, r2, k2, v2, R2, s2⟩ := in_fields ih h4 (fun g hg => hx g (by simp [hg])) (by simp only [Ty.n] at hl; omega) r1
      refine ⟨H2, μ2, c1 ++ c2, (d1, d2), b1 ++ b2, e1.trans e2, r2, k1.trans k2, ?_, ⟨c1, c2, b1, b2, rfl, rfl, R1.kp k2, R2⟩, s1, s2⟩
      have := (VRs.mono e2 _ _ v1).append v2
      rw [h1, h2] at this
      rwa [← List.drop_drop, List.take_append_drop] at this

theorem in_rows {n : Nat} {e : TypeId} {t : Ty} {a : Addr} (ha : a.spot = none) (hs : P.cellsOf e = t.n) (hf : Fits P e t)
    (ih : ∀ {T : TypeId} {t : Ty} {cs : List Value} {x : DataW Hd × List MemPlace} {H : AH} {μ : Mu}, Fits P T t → DataW.trod enc P w 0 (fun _ => true) held n T cs = some x → Rel P w H μ w → InRes P w t cs H μ)
    {len : Nat} (hel : ∀ i, i < len → ∃ cs x, w.cells? 0 (a.add (i * P.cellsOf e)) (P.cellsOf e) = some cs ∧ DataW.trod enc P w 0 (fun _ => true) held n e cs = some x) {H : AH} {μ : Mu} (hR : Rel P w H μ w) :
    ∀ j, j ≤ len → ∃ H' μ' xs ds bs, Ext μ μ' ∧ Rel P w H' μ' w ∧ Kp H H' ∧ ds.length = j ∧ Rows (t.R false H') t.n xs ds bs ∧ (∀ d ∈ ds, t.sm d) ∧
      ∀ (i : Nat) (x : AV), xs[i]? = some x → a.block < w.heap.size ∧ ∃ v, w.cell? ⟨a.block, a.off + i, none⟩ = some v ∧ VR μ' x v
  | 0, _ => ⟨H, μ, [], [], [], Ext.refl _, hR, Kp.refl _, rfl, ⟨rfl, rfl⟩, by simp, by simp⟩
  | j + 1, hj => by
    obtain ⟨H1, μ1, xs, ds, bs, e1, r1, k1, hl, hrow, hsm, hcell⟩ := in_rows ha hs hf ih hel hR j (by omega)
    obtain ⟨cs, x, hc, htr⟩ := hel j (by omega)
    obtain ⟨H2, μ2, c, d, b, e2, r2, k2, v2, R2, s2⟩ := ih hf htr r1
    have hxl := hrow.len
    refine ⟨H2, μ2, xs ++ c, ds ++ [d], bs ++ b, e1.trans e2, r2, k1.trans k2, by simp [hl], Rows.app (hrow.imp fun c d b1 _ _ h => h.kp k2) (Rows.one R2 R2.len), ?_, ?_⟩
    · intro y hy
      rcases List.mem_append.1 hy with hy | hy
      · exact hsm y hy
      · rw [List.mem_singleton] at hy; subst hy; exact s2
    · intro i y hy
      rcases Nat.lt_or_ge i xs.length with hi | hi
      · rw [List.getElem?_append_left hi] at hy
        obtain ⟨g1, v, g2, g3⟩ := hcell i y hy
        exact ⟨g1, v, g2, VR.mono e2 _ _ g3⟩
      · rw [List.getElem?_append_right hi] at hy
        obtain ⟨v, h1, h2⟩ := v2.get _ _ hy
        obtain ⟨q1, q2⟩ := cells_some hc
        have hlt : i - xs.length < P.cellsOf e := by
          have := (List.getElem?_eq_some_iff.1 h1).1; omega
        have q3 := q2 _ hlt
        rw [h1] at q3
        have hsp : (a.add (j * P.cellsOf e)).spot = none := by
          unfold Addr.add; split
          · exact ha
          · rfl
        have q4 := cell_add q3 hsp
        have hb : (a.add (j * P.cellsOf e)).block = a.block ∧ (a.add (j * P.cellsOf e)).off = a.off + j * P.cellsOf e := by
          unfold Addr.add; split
          · rename_i e0; simp [e0]
          · exact ⟨rfl, rfl⟩
        rw [hb.1, hb.2] at q4
        have : a.off + j * P.cellsOf e + (i - xs.length) = a.off + i := by rw [hs, ← hl, ← hxl]; omega
        rw [this] at q4
        refine ⟨?_, v, q4, h2⟩
        unfold World.cell? at q4
        split at q4
        · rename_i hh
          rcases Nat.lt_or_ge a.block w.heap.size with hl | hl
          · exact hl
          · rw [Array.getElem?_eq_none hl] at hh; simp at hh
        · simp at q4

theorem in_ty : ∀ (fuel : Nat) {T : TypeId} {t : Ty} {cs : List Value} {x : DataW Hd × List MemPlace} {H : AH} {μ : Mu}, Fits P T t → DataW.trod enc P w 0 (fun _ => true) held fuel T cs = some x → Rel P w H μ w → InRes P w t cs H μ
  | 0, _, _, _, _, _, _, _, h, _ => by simp [DataW.trod] at h
  | fuel + 1, T, t, cs, x, H, μ, hf, h, hR => by
    have ih := @in_ty fuel
    cases hf with
    | int hT =>
      rename_i k
      obtain ⟨n, rfl, rfl, hw⟩ := DataW.trod_int hT h
      simp only [Lit.wf, Bool.and_eq_true, decide_eq_true_eq] at hw
      exact ⟨H, μ, [.int k n], n, [], Ext.refl _, hR, Kp.refl _, by simp [VRs, VR], ⟨rfl, hw.1, hw.2, rfl⟩, trivial⟩
    | bool hT =>
      obtain ⟨b, rfl, rfl⟩ := DataW.trod_bool hT h
      exact ⟨H, μ, [.bool b], b, [], Ext.refl _, hR, Kp.refl _, by simp [VRs, VR], ⟨rfl, rfl⟩, trivial⟩
    | str hT =>
      obtain ⟨s, rfl, rfl, hm⟩ := DataW.trod_string hT h
      exact ⟨H, μ, [.str s], s, [], Ext.refl _, hR, Kp.refl _, by simp [VRs, VR], ⟨rfl, rfl⟩, hm⟩
    | sl hT hs hf =>
      rename_i e t
      rcases DataW.trod_slice hT h with ⟨rfl, rfl⟩ | ⟨a, len, cap, elems, rest, n, hfu, rfl, rfl, _, hl, hm, hlen, hel, hsp, _⟩
      · exact ⟨H, μ, [.nilSlice], [], [], Ext.refl _, hR, Kp.refl _, by simp [VRs, VR], .inl ⟨rfl, rfl, rfl⟩, by simp [Ty.sm]⟩
      · obtain rfl : n = fuel := by omega
        have hc := cellsOf_size hs
        have hp := Ty.n_pos t
        obtain ⟨hrl, hre⟩ := hsp rfl
        have hcell : ∀ i, i < cap → ∃ cs x, w.cells? 0 (a.add (i * P.cellsOf e)) (P.cellsOf e) = some cs ∧ DataW.trod enc P w 0 (fun _ => true) held n e cs = some x := by
          intro i hi
          by_cases hil : i < len
          · have := hel i hil
            rw [List.getElem?_eq_getElem (by omega), Option.bind_eq_some_iff] at this
            obtain ⟨cs, h1, h2⟩ := this
            exact ⟨cs, _, h1, h2⟩
          · have := hre (i - len) (by omega)
            rw [List.getElem?_eq_getElem (by omega), Option.bind_eq_some_iff] at this
            obtain ⟨cs, h1, h2⟩ := this
            rw [show len + (i - len) = i by omega] at h1
            exact ⟨cs, _, h1, h2⟩
        have hspot : cap ≠ 0 → a.spot = none := by
          intro h0
          obtain ⟨cs, x, h1, h2⟩ := hcell 0 (by omega)
          obtain ⟨q1, q2⟩ := cells_some h1
          have q3 := q2 0 (by omega)
          rw [List.getElem?_eq_getElem (by omega)] at q3
          have ea : ∀ b : Addr, b.add 0 = b := fun b => by simp [Addr.add]
          rw [Nat.zero_mul, ea, ea] at q3
          unfold World.cell? at q3
          split at q3
          · split at q3
            · simp at q3
            · rename_i hs; simpa using hs
          · simp at q3
        by_cases h0 : cap = 0
        · subst h0
          obtain rfl : len = 0 := by omega
          have hr := hR.ro (e := e) (xs := []) (L := ⟨0, 0, 0, t.n⟩) rfl hs (by simp) (by simp)
          refine ⟨_, _, [.slice H.next 0 0], [], [H.next], hR.ext _, hr, (Kp.refl H).push _, ?_, ?_, by simp [Ty.sm]⟩
          · simp only [VRs, VR]
            exact ⟨_, [], rfl, ⟨_, 0, a, muPush_self _ _ _, rfl, Nat.le_refl _, fun h => (h rfl).elim⟩, rfl⟩
          · exact .inr ⟨H.next, 0, true, [], [], rfl, rfl, by simp, by simp, by simp, by simp, by simp [Rows]⟩
        · obtain ⟨H1, μ1, xs, ds, bs, e1, r1, k1, hdl, hrow, hsm, hxc⟩ := in_rows (len := len) (hspot h0) hc hf (fun h1 h2 h3 => ih h1 h2 h3) (fun i hi => hcell i (by omega)) hR len (Nat.le_refl _)
          have hxl := hrow.len
          have hle : len * t.n ≤ cap * t.n := Nat.mul_le_mul_right _ hl
          have hone : xs.all AV.one = true := by
            have : ∀ {ds : List t.D} {xs : List AV} {bs : List Nat}, Rows (t.R false H1) t.n xs ds bs → xs.all AV.one = true := by
              intro ds
              induction ds with
              | nil => intro xs bs h; rw [h.1]; rfl
              | cons d ds ihd =>
                rintro xs bs ⟨c, r, b1, b2, rfl, _, _, h4, h5⟩
                rw [List.all_append, h4.one, ihd h5]; rfl
            exact this hrow
          have hr := r1.ro (e := e) (xs := xs) (L := ⟨a.block, a.off, a.off + cap * t.n, t.n⟩) hone hs (by simp only; rw [hxl, hdl]; omega) hxc
          refine ⟨_, _, [.slice H1.next 0 len], ds, H1.next :: bs, e1.trans (r1.ext _), hr, k1.push _, ?_, ?_, by rw [hdl]; exact Nat.le_trans hl hm, hsm⟩
          · simp only [VRs, VR]
            refine ⟨_, [], rfl, ⟨_, cap, a, muPush_self _ _ _, rfl, hl, fun _ => ⟨?_, ?_⟩⟩, rfl⟩
            · have := hspot h0
              obtain ⟨b, o, s⟩ := a; simp only at this; subst this; simp
            · simp
          · subst hdl
            refine .inr ⟨H1.next, 0, true, xs, bs, rfl, rfl, by simp, by simp, by simp, by omega, ?_⟩
            rw [List.drop_zero, ← hxl, List.take_length]
            exact hrow.imp fun c d b1 _ _ h => h.kp ((Kp.refl H1).push _)
    | st hT hc hl =>
      rename_i fs
      obtain ⟨xs, n, hfu, hx, hcl, hxl, hg⟩ := DataW.trod_struct hT h
      obtain rfl : n = fuel := by omega
      have := in_fields (cs := cs) (H := H) (μ := μ) (fun h1 h2 h3 => ih h1 h2 h3) hl (fun f hf => by
        obtain ⟨i, hi, hfe⟩ := List.getElem_of_mem hf
        have hi' : i < fs.size := by simpa using hi
        have hfi : fs[i]? = some f := by rw [Array.getElem?_eq_getElem hi']; simpa using hfe
        have := hg i f hfi
        rw [List.getElem?_eq_getElem (by omega)] at this
        exact ⟨_, this⟩) (by rw [hcl, hc]; omega) hR
      rwa [List.drop_zero] at this
end
end Go.Ev

/- What the laws' helpers do, for data of any kind: sizes, bounds, marks; loads and stores inside a block. -/
namespace Go.Ev
open Go
set_option linter.unusedSimpArgs false
set_option linter.unusedVariables false

def InK (k : IntKind) (n : Int) : Prop := k.min ≤ n ∧ n ≤ k.max
theorem InK.i64 {n : Int} (h1 : -9223372036854775808 ≤ n) (h2 : n ≤ 9223372036854775807) : InK .i64 n := by
  have e1 : IntKind.min .i64 = -9223372036854775808 := by decide
  have e2 : IntKind.max .i64 = 9223372036854775807 := by decide
  exact ⟨by rw [e1]; exact h1, by rw [e2]; exact h2⟩
theorem InK.of_i64 {n : Int} (h : InK .i64 n) : -9223372036854775808 ≤ n ∧ n ≤ 9223372036854775807 := by
  have e1 : IntKind.min .i64 = -9223372036854775808 := by decide
  have e2 : IntKind.max .i64 = 9223372036854775807 := by decide
  obtain ⟨h1, h2⟩ := h
  rw [e1] at h1; rw [e2] at h2; exact ⟨h1, h2⟩
theorem InK.u8 {n : Int} (h1 : 0 ≤ n) (h2 : n ≤ 255) : InK .u8 n := by
  have e1 : IntKind.min .u8 = 0 := by decide
  have e2 : IntKind.max .u8 = 255 := by decide
  exact ⟨by rw [e1]; exact h1, by rw [e2]; exact h2⟩
theorem InK.of_u8 {n : Int} (h : InK .u8 n) : 0 ≤ n ∧ n ≤ 255 := by
  have e1 : IntKind.min .u8 = 0 := by decide
  have e2 : IntKind.max .u8 = 255 := by decide
  obtain ⟨h1, h2⟩ := h
  rw [e1] at h1; rw [e2] at h2; exact ⟨h1, h2⟩
theorem InK.wrap (k : IntKind) (n : Int) : InK k (k.wrap n) := by
  cases k <;> (try rw [IntKind.wrap_i64]) <;> (try rw [IntKind.wrap_u8]) <;> simp [InK, IntKind.wrap, IntKind.min, IntKind.max, IntKind.signed, IntKind.bits] <;> omega
theorem Ty.R.int {rw : Bool} {H : AH} {k : IntKind} {n : Int} (h : InK k n) : (Ty.int k).R rw H [.int k n] n [] := ⟨rfl, h.1, h.2, rfl⟩
theorem Ty.R.bool {rw : Bool} {H : AH} (b : Bool) : Ty.bool.R rw H [.bool b] b [] := ⟨rfl, rfl⟩
theorem Ty.R.str {rw : Bool} {H : AH} (s : ByteArray) : Ty.str.R rw H [.str s] s [] := ⟨rfl, rfl⟩
theorem Ty.R.pair {rw : Bool} {H : AH} {a b : Ty} {c1 c2 : List AV} {x : a.D} {y : b.D} {b1 b2 : List Nat} (h1 : a.R rw H c1 x b1) (h2 : b.R rw H c2 y b2) : (Ty.pair a b).R rw H (c1 ++ c2) (x, y) (b1 ++ b2) := ⟨c1, c2, b1, b2, rfl, rfl, h1, h2⟩
theorem Ty.R.sl_one {rw : Bool} {H : AH} {e : TypeId} {t : Ty} {v : AV} {d : List t.D} {bs : List Nat} (h : (Ty.sl e t).R rw H [v] d bs) : v.one = true := by
  have := h.one; simpa using this
theorem Ty.R.sl_cell {rw : Bool} {H : AH} {e : TypeId} {t : Ty} {c : List AV} {d : List t.D} {bs : List Nat} (h : (Ty.sl e t).R rw H c d bs) : ∃ v, c = [v] := List.length_eq_one_iff.1 h.len

/-! sizes -/
def szR (left : Int) (n : Nat) : Int := if left < n then -1 else left - n
theorem szR_ge {left : Int} {n : Nat} (h : (n : Int) ≤ left) : szR left n = left - n := by unfold szR; rw [if_neg (by omega)]
theorem szR_lt {left : Int} {n : Nat} (h : left < (n : Int)) : szR left n = -1 := by unfold szR; rw [if_pos h]
def Ty.sz : (t : Ty) → t.D → Nat
  | .int _, _ => 0
  | .bool, _ => 0
  | .str, s => s.size
  | .sl _ t, l => l.length + cntL t.sz l
  | .pair a b, d => a.sz d.1 + b.sz d.2
def Ty.bd (B : Nat) : (t : Ty) → t.D → Prop
  | .int _, _ => True
  | .bool, _ => True
  | .str, s => s.size ≤ B
  | .sl _ t, l => l.length ≤ B ∧ ∀ x ∈ l, t.bd B x
  | .pair a b, d => a.bd B d.1 ∧ b.bd B d.2
theorem mem_cntL {α : Type} (c : α → Nat) : ∀ (l : List α) (d : α), d ∈ l → c d ≤ cntL c l
  | x :: l, d, h => by
    simp only [cntL]
    rcases List.mem_cons.1 h with rfl | h
    · omega
    · have := mem_cntL c l d h; omega
theorem cntL_le {α : Type} (c : α → Nat) (B : Nat) : ∀ (l : List α), (∀ d ∈ l, c d ≤ B) → cntL c l ≤ l.length * B
  | [], _ => by simp [cntL]
  | d :: l, h => by
    have h1 := h d (by simp)
    have h2 := cntL_le c B l fun x hx => h x (by simp [hx])
    simp only [cntL, List.length_cons, Nat.succ_mul]; omega
theorem Ty.sz_bd {B : Nat} : ∀ {t : Ty} {d : t.D}, t.sz d ≤ B → t.bd B d
  | .int _, _, _ => trivial
  | .bool, _, _ => trivial
  | .str, _, h => h
  | .sl _ t, l, h => by
    simp only [Ty.sz] at h
    exact ⟨by omega, fun x hx => Ty.sz_bd (by have := mem_cntL t.sz l x hx; omega)⟩
  | .pair a b, d, h => by
    simp only [Ty.sz] at h
    exact ⟨Ty.sz_bd (by omega), Ty.sz_bd (by omega)⟩
theorem Ty.bd_mono {A B : Nat} (hAB : A ≤ B) : ∀ {t : Ty} {d : t.D}, t.bd A d → t.bd B d
  | .int _, _, _ => trivial
  | .bool, _, _ => trivial
  | .str, _, h => Nat.le_trans h hAB
  | .sl _ t, l, h => ⟨Nat.le_trans h.1 hAB, fun x hx => Ty.bd_mono hAB (h.2 x hx)⟩
  | .pair a b, d, h => ⟨Ty.bd_mono hAB h.1, Ty.bd_mono hAB h.2⟩
theorem Ty.sm_bd : ∀ {t : Ty} {d : t.D}, t.sm d → t.bd 9223372036854775807 d
  | .int _, _, _ => trivial
  | .bool, _, _ => trivial
  | .str, _, h => h
  | .sl _ t, l, h => ⟨h.1, fun x hx => Ty.sm_bd (h.2 x hx)⟩
  | .pair a b, d, h => ⟨Ty.sm_bd h.1, Ty.sm_bd h.2⟩
def Ty.w : Ty → Nat
  | .int _ => 1
  | .bool => 1
  | .str => 1
  | .sl _ t => t.w
  | .pair a b => a.w + b.w
theorem Ty.cnt_le (s : Bool) : ∀ {t : Ty} (d : t.D), t.cnt s d ≤ t.w * (1 + t.sz d)
  | .int _, _ => by simp only [Ty.cnt, Ty.w, Ty.sz]; split <;> omega
  | .bool, _ => by simp only [Ty.cnt, Ty.w, Ty.sz]; split <;> omega
  | .str, _ => by simp only [Ty.cnt, Ty.w, Ty.sz]; split <;> omega
  | .sl _ t, l => by
    simp only [Ty.cnt, Ty.w, Ty.sz]
    have key : ∀ l : List t.D, cntL (t.cnt true) l ≤ t.w * (l.length + cntL t.sz l) := by
      intro l
      induction l with
      | nil => simp [cntL]
      | cons d l ih =>
        have h1 := Ty.cnt_le true d
        simp only [cntL, List.length_cons]
        have e : t.w * (l.length + 1 + (t.sz d + cntL t.sz l)) = t.w * (1 + t.sz d) + t.w * (l.length + cntL t.sz l) := by rw [← Nat.mul_add]; congr 1; omega
        omega
    exact Nat.le_trans (key l) (Nat.mul_le_mul_left _ (by omega))
  | .pair a b, d => by
    simp only [Ty.cnt, Ty.w, Ty.sz]
    have h1 := Ty.cnt_le s d.1
    have h2 := Ty.cnt_le s d.2
    have e1 : a.w * (1 + a.sz d.1) ≤ a.w * (1 + (a.sz d.1 + b.sz d.2)) := Nat.mul_le_mul_left _ (by omega)
    have e2 : b.w * (1 + b.sz d.2) ≤ b.w * (1 + (a.sz d.1 + b.sz d.2)) := Nat.mul_le_mul_left _ (by omega)
    rw [Nat.add_mul]; omega
theorem Ty.cnt_bound {s : Bool} {t : Ty} {d : t.D} {A N : Nat} (h : t.sz d ≤ A) (hN : t.w * (1 + A) ≤ N) : t.cnt s d ≤ N :=
  Nat.le_trans (Nat.le_trans (Ty.cnt_le s d) (Nat.mul_le_mul_left _ (by omega))) hN

theorem cntL_take_succ' {α : Type} (c : α → Nat) (l : List α) (k : Nat) (h : k < l.length) : cntL c (l.take (k + 1)) = cntL c (l.take k) + c l[k] := by
  rw [List.take_add_one, List.getElem?_eq_getElem h, cntL_app]; simp [cntL]
theorem cntL_take_le' {α : Type} (c : α → Nat) (l : List α) (k : Nat) : cntL c (l.take k) ≤ cntL c l := by
  have : cntL c l = cntL c (l.take k) + cntL c (l.drop k) := by rw [← cntL_app, List.take_append_drop]
  omega

/-! marks -/
theorem mk_pair (s : Bool) (a b : Ty) (m : Int) (x : a.D) (y : b.D) : (Ty.pair a b).mk s m (x, y) = (a.mk s m x, b.mk s (m + (a.cnt s x : Nat)) y) := rfl
theorem cnt_pair (s : Bool) (a b : Ty) (x : a.D) (y : b.D) : (Ty.pair a b).cnt s (x, y) = a.cnt s x + b.cnt s y := rfl
theorem mk_int1 (m d : Int) (h0 : -9223372036854775808 ≤ m) (h1 : m ≤ 9223372036854775807) : (Ty.int .i64).mk true m d = m := wrap_i64 h0 h1
theorem mk_intw (k : IntKind) (m d : Int) : (Ty.int k).mk true m d = k.wrap m := rfl
theorem mk_bool1 (m : Int) (d : Bool) : Ty.bool.mk true m d = decide (m % 3 = 0) := rfl
theorem mk_str1 (m : Int) (d : ByteArray) : Ty.str.mk true m d = markTextD m := rfl
theorem mk_sl (s : Bool) (e : TypeId) (t : Ty) (m : Int) (x : List t.D) : (Ty.sl e t).mk s m x = mkRow (t.mk true) (t.cnt true) m x := rfl
theorem cnt_sl (s : Bool) (e : TypeId) (t : Ty) (x : List t.D) : (Ty.sl e t).cnt s x = cntL (t.cnt true) x := rfl
theorem mk_int0 (k : IntKind) (m d : Int) : (Ty.int k).mk false m d = d := rfl
theorem mk_bool0 (m : Int) (d : Bool) : Ty.bool.mk false m d = d := rfl
theorem mk_str0 (m : Int) (d : ByteArray) : Ty.str.mk false m d = d := rfl
theorem cnt_int1 (k : IntKind) (d : Int) : (Ty.int k).cnt true d = 1 := rfl
theorem cnt_bool1 (d : Bool) : Ty.bool.cnt true d = 1 := rfl
theorem cnt_str1 (d : ByteArray) : Ty.str.cnt true d = 1 := rfl
theorem cnt_int0 (k : IntKind) (d : Int) : (Ty.int k).cnt false d = 0 := rfl
theorem cnt_bool0 (d : Bool) : Ty.bool.cnt false d = 0 := rfl
theorem cnt_str0 (d : ByteArray) : Ty.str.cnt false d = 0 := rfl
theorem mod3 {K : Int} (h : 0 ≤ K) {q : Bool} (hq : decide (K % 3 = 0) = q) : (K.tmod 3 == 0) = q := by
  rw [← hq, Int.tmod_eq_emod_of_nonneg h]; rfl

theorem up_step {K K' : Int} {n : Nat} (h : K' = K + (n : Int)) (p : 0 ≤ K) : 0 ≤ K' := by omega
theorem dn_step {K K' B : Int} {n : Nat} (h : K' = K + (n : Int)) (u : K' ≤ B) : K ≤ B := by omega
theorem wrap_step {K K' : Int} {n : Nat} (h : K' = K + (n : Int)) (hn : n = 1) (p : 0 ≤ K) (u : K' ≤ 2147483648) : IntKind.i64.wrap (K + 1) = K' := by
  subst hn; rw [wrap_i64 (by omega) (by omega)]; omega
theorem InK.k31 {K : Int} (p : 0 ≤ K) (u : K ≤ 2147483648) : InK .i64 K := InK.i64 (by omega) (by omega)
theorem mk_int31 {m d : Int} (p : 0 ≤ m) (u : m ≤ 2147483648) : (Ty.int .i64).mk true m d = m := mk_int1 m d (by omega) (by omega)
/-! inside a block -/
theorem ld_midA0 {P : Program} {H : AH} {b o n : Nat} {e T : TypeId} {ro : Bool} {x1 c x2 : List AV} (h : H.get b = some (.cells e ro (x1 ++ c ++ x2))) (ho : x1.length = o) (ha : aggT P T = some true) (hs : sizeT P T = some n) (hc : c.length = n) : ldVar P T b o H = some (.agg c) := by
  have := ld_midA (j := 0) h ho ha hs (by omega)
  rw [Nat.add_zero] at this
  rw [this, List.drop_zero, ← hc, List.take_length]
theorem spl_mid : ∀ (c x1 y x2 : List AV), y.length = c.length → spl (x1 ++ y ++ x2) x1.length c = x1 ++ c ++ x2
  | [], x1, y, x2, h => by
    have : y = [] := List.eq_nil_of_length_eq_zero (by simpa using h)
    subst this; rfl
  | v :: c, x1, [], x2, h => by simp at h
  | v :: c, x1, w :: y, x2, h => by
    have ih := spl_mid c (x1 ++ [v]) y x2 (by simpa using h)
    simp only [spl]
    have e1 : (x1 ++ w :: y ++ x2).set x1.length v = x1 ++ [v] ++ y ++ x2 := by
      rw [List.append_assoc, List.set_append_right _ _ (Nat.le_refl _)]
      simp
    rw [e1]
    have e2 : x1.length + 1 = (x1 ++ [v]).length := by simp
    rw [e2, ih]
    simp
theorem st_midA {P : Program} {H : AH} {b o : Nat} {e T : TypeId} {x1 y c x2 : List AV} (h : H.get b = some (.cells e false (x1 ++ y ++ x2))) (ho : x1.length = o) (hs : sizeT P T = some c.length) (hy : y.length = c.length) (h1 : c.all AV.one = true) :
    stVar P T b o (.agg c) H = some (H.set b (.cells e false (x1 ++ c ++ x2))) := by
  subst ho
  simp only [stVar, h, hs, cells_agg, h1]
  rw [if_pos ⟨trivial, trivial, by simp; omega⟩, spl_mid c x1 y x2 hy]
theorem push_set2 (H : AH) (a b y : Blk) : ((H.push a).push b).set (H.next + 1) y = (H.push a).push y := push_set b y rfl
theorem push_set3 (H : AH) (a b c y : Blk) : (((H.push a).push b).push c).set (H.next + 1 + 1) y = ((H.push a).push b).push y := push_set c y rfl
theorem stf {P : Program} {H : AH} {b o j : Nat} {e T : TypeId} {x1 c c' x2 : List AV} {v : AV} (h : H.get b = some (.cells e false (x1 ++ c ++ x2))) (ho : x1.length = o) (hs : sizeT P T = some 1) (h1 : v.one = true) (hj : j < c.length) (hc : c.set j v = c') :
    stVar P T b (o + j) v H = some (H.set b (.cells e false (x1 ++ c' ++ x2))) := by
  rw [st_mid h ho hs h1 hj, hc]
theorem stf0 {P : Program} {H : AH} {b o : Nat} {e T : TypeId} {x1 c c' x2 : List AV} {v : AV} (h : H.get b = some (.cells e false (x1 ++ c ++ x2))) (ho : x1.length = o) (hs : sizeT P T = some 1) (h1 : v.one = true) (hj : 0 < c.length) (hc : c.set 0 v = c') :
    stVar P T b o v H = some (H.set b (.cells e false (x1 ++ c' ++ x2))) := stf (j := 0) h ho hs h1 hj hc
theorem ldf {P : Program} {H : AH} {b o j : Nat} {e T : TypeId} {ro : Bool} {x1 c x2 : List AV} {v : AV} (h : H.get b = some (.cells e ro (x1 ++ c ++ x2))) (ho : x1.length = o) (ha : aggT P T = some false) (hj : c[j]? = some v) : ldVar P T b (o + j) H = some v := by
  rw [ld_mid h ho ha (List.getElem?_eq_some_iff.1 hj).1, hj]
theorem ldf0 {P : Program} {H : AH} {b o : Nat} {e T : TypeId} {ro : Bool} {x1 c x2 : List AV} {v : AV} (h : H.get b = some (.cells e ro (x1 ++ c ++ x2))) (ho : x1.length = o) (ha : aggT P T = some false) (hj : c[0]? = some v) : ldVar P T b o H = some v := ldf (j := 0) h ho ha hj
theorem AH.set_getS (H : AH) (b : Nat) (x : Blk) : (H.set b x).get b = some x := by rw [AH.set_get, if_pos rfl]
theorem AH.set_getN (H : AH) {b c : Nat} (x : Blk) (h : c ≠ b) : (H.set b x).get c = H.get c := by rw [AH.set_get, if_neg h]
theorem nodup3 {a b : List Nat} (h : (a ++ b).Nodup) : a.Nodup ∧ b.Nodup ∧ ∀ x ∈ a, x ∉ b := by
  rw [List.nodup_append] at h
  exact ⟨h.1, h.2.1, fun x hx hb => h.2.2 x hx x hb rfl⟩
theorem mkRow_setH {α : Type} (f : Int → α → α) (c : α → Nat) (k0 : Int) (l : List α) (k : Nat) (hk : k < l.length) :
    (mkRow f c k0 (l.take k) ++ l.drop k).set k (f (k0 + (cntL c (l.take k) : Nat)) l[k]) = mkRow f c k0 (l.take (k + 1)) ++ l.drop (k + 1) := by
  have hl : (mkRow f c k0 (l.take k)).length = k := by rw [mkRow_len]; simp; omega
  rw [List.set_append_right _ _ (by omega), hl, Nat.sub_self, List.drop_eq_getElem_cons hk, List.set_cons_zero, List.take_add_one, List.getElem?_eq_getElem hk, mkRow_app]
  simp [mkRow]
theorem mkRow_atH {α : Type} (f : Int → α → α) (c : α → Nat) (k0 : Int) (l : List α) (k : Nat) (hk : k < l.length) (hk' : k < (mkRow f c k0 (l.take k) ++ l.drop k).length) : (mkRow f c k0 (l.take k) ++ l.drop k)[k] = l[k] := by
  have hl : (mkRow f c k0 (l.take k)).length = k := by rw [mkRow_len]; simp; omega
  rw [List.getElem_append_right (by omega)]
  simp [hl]
theorem mkRow_getH {α : Type} (f : Int → α → α) (c : α → Nat) : ∀ (l : List α) (k0 : Int) (k : Nat) (hk : k < l.length) (hk' : k < (mkRow f c k0 l).length), (mkRow f c k0 l)[k] = f (k0 + (cntL c (l.take k) : Nat)) l[k]
  | d :: l, k0, 0, hk, hk' => by simp [mkRow, cntL]
  | d :: l, k0, k + 1, hk, hk' => by
    simp only [mkRow, List.getElem_cons_succ]
    rw [mkRow_getH f c l (k0 + c d) k (by simpa using hk)]
    simp only [List.take_succ_cons, cntL]
    congr 1; push_cast; omega

end Go.Ev

/- The greater and the lesser of two numbers. -/
namespace Go.Ev
def mxI (a b : Int) : Int := if b > a then b else a
def miI (a b : Int) : Int := if b < a then b else a
end Go.Ev

/- The source that the drawn laws draw from: a byte, a number below a bound. -/
namespace Go.Ev
open Go Go.Proofs
set_option linter.unusedSimpArgs false
set_option linter.unusedVariables false

structure Src where
  l : List Int
  pos : Nat
  mix : Int
def srcC (v : AV) (S : Src) : List AV := [v, .int .i64 S.pos, .int .i64 S.mix]
structure SrcI (H : AH) (q : Nat) (v : AV) (S : Src) (bs : List Nat) : Prop where
  get : H.get q = some (.cells 102 false (srcC v S))
  lt : q < H.next
  nin : q ∉ bs
  row : (Ty.sl 5 (.int .u8)).R false H [v] S.l bs
  pos : S.pos ≤ 1099511627776
  mix : 0 ≤ S.mix ∧ S.mix < 2147483648
  len : S.l.length ≤ 1048576
def byteP (S : Src) : Int × Src :=
  if h : S.pos + 1 ≤ S.l.length then (S.l[S.pos], { S with pos := S.pos + 1, mix := (S.mix * 31 + S.l[S.pos] + 7) % 2147483648 })
  else if S.pos + 1 > 4000 + 4 * S.l.length then (0, { S with pos := S.pos + 1 })
  else ((S.mix * 1103515245 + 12345) % 2147483648 / 65536 % 256, { S with pos := S.pos + 1, mix := (S.mix * 1103515245 + 12345) % 2147483648 })
theorem SrcI.at_ {H : AH} {q : Nat} {v : AV} {S : Src} {bs : List Nat} (h : SrcI H q v S bs) {k : Nat} (hk : k < S.l.length) :
    ∃ b o e ro xs, idxA Try.prog 22 v (.int .i64 k) = some (.ptr b o) ∧ H.get b = some (.cells e ro xs) ∧ xs[o]? = some (.int .u8 S.l[k]) ∧ 0 ≤ S.l[k] ∧ S.l[k] ≤ 255 ∧ b ≠ q := by
  obtain ⟨b, o, ro, x1, c, x2, bk, u1, u2, u3, u4, u5, u6, u7, u8⟩ := Ty.R.at_ h.row (P := Try.prog) (T := 22) (by simp) (by simp [Ty.n]) (k := k) hk
  obtain ⟨rfl, r1, r2, _⟩ := u5
  refine ⟨b, o, _, ro, _, u1, u3, by rw [List.append_assoc, List.getElem?_append_right (by omega)]; simp [u4], ?_, ?_, fun e => h.nin (by rw [← e]; exact u7)⟩
  · exact r1
  · exact r2
theorem SrcI.set {H : AH} {q : Nat} {v : AV} {S S' : Src} {bs : List Nat} (h : SrcI H q v S bs) (hl : S'.l = S.l) (hp : S'.pos ≤ 1099511627776) (hm : 0 ≤ S'.mix ∧ S'.mix < 2147483648) : SrcI (H.set q (.cells 102 false (srcC v S'))) q v S' bs :=
  ⟨AH.set_getS _ _ _, h.lt, h.nin, by rw [hl]; exact h.row.stay (by simp) fun b hb => AH.set_getN _ _ (fun e => h.nin (by rw [← e]; exact hb)), hp, hm, by rw [hl]; exact h.len⟩
theorem byteP_in {H : AH} {q : Nat} {v : AV} {S : Src} {bs : List Nat} (h : SrcI H q v S bs) : 0 ≤ (byteP S).1 ∧ (byteP S).1 ≤ 255 ∧ (byteP S).2.l = S.l ∧ (byteP S).2.pos = S.pos + 1 ∧ 0 ≤ (byteP S).2.mix ∧ (byteP S).2.mix < 2147483648 := by
  have hm := h.mix
  unfold byteP
  split
  · rename_i h1
    obtain ⟨b, o, e, ro, xs, u1, u2, u3, u4, u5, u6⟩ := h.at_ (k := S.pos) (by omega)
    exact ⟨u4, u5, rfl, rfl, Int.emod_nonneg _ (by omega), Int.emod_lt_of_pos _ (by omega)⟩
  · split
    · exact ⟨by simp, by simp, rfl, rfl, hm⟩
    · refine ⟨Int.emod_nonneg _ (by omega), ?_, rfl, rfl, Int.emod_nonneg _ (by omega), Int.emod_lt_of_pos _ (by omega)⟩
      have := Int.emod_lt_of_pos ((S.mix * 1103515245 + 12345) % 2147483648 / 65536) (b := 256) (by omega)
      simp only; omega
end Go.Ev

/- The source: a byte, by the evaluator. -/
namespace Go.Ev
open Go Go.Proofs
set_option linter.unusedSimpArgs false
set_option linter.unusedVariables false

set_option maxRecDepth 20000 in
theorem byte_ev {H : AH} {q : Nat} {v : AV} {S : Src} {bs : List Nat} (h : SrcI H q v S bs) (hp : S.pos < 1099511627776) (m : Nat) (hm : 1 ≤ m) :
    ev Try.prog m 97 [.ptr q 0] H = some (.int .i64 (byteP S).1, H.set q (.cells 102 false (srcC v (byteP S).2))) := by
  obtain ⟨m, rfl⟩ : ∃ k, m = k + 1 := ⟨m - 1, by omega⟩
  have hg := h.get
  have hmx := h.mix
  have hle := h.len
  have hL := Ty.R.lenA h.row (P := Try.prog) (T := 22) (by simp)
  have w1 := wrap_i64 (n := (S.pos : Int) + 1) (by omega) (by omega)
  have w2 := wrap_i64 (n := (S.pos : Int)) (by omega) (by omega)
  simp only [srcC] at hg
  rw [ev_eq Try.func97 ok97 m _ H (by simp [Try.f97])]
  unfold byteP
  by_cases c1 : S.pos + 1 ≤ S.l.length
  · rw [dif_pos c1]
    obtain ⟨b, o, e, ro, xs, u1, u2, u3, u4, u5, u6⟩ := h.at_ (k := S.pos) (by omega)
    have c1' : (S.pos : Int) + 1 ≤ S.l.length := by omega
    have hqb : ¬ (q = b) := Ne.symm u6
    generalize S.l[S.pos] = x at *
    have cv : ∀ h, convA Try.prog 5 3 (.int .u8 x) h = some (.int .i64 x, h) := fun h => (conv_int (ds := .int .u8) (k := .i64) (by simp) (by simp)).trans (by rw [wrap_i64 (by omega) (by omega)])
    have w3 := wrap_i64 (n := S.mix * 31) (by omega) (by omega)
    have w4 := wrap_i64 (n := S.mix * 31 + x) (by omega) (by omega)
    have w5 := wrap_i64 (n := S.mix * 31 + x + 7) (by omega) (by omega)
    have t5 : (S.mix * 31 + x + 7).tmod 2147483648 = (S.mix * 31 + x + 7) % 2147483648 := Int.tmod_eq_emod_of_nonneg (by omega)
    have w6 := wrap_i64 (n := (S.mix * 31 + x + 7) % 2147483648) (by omega) (by omega)
    simp [Try.f97, ldVar, stVar, spl, srcC, hg, w1, w2, hL, c1', u1, u2, u3, u6, hqb, cv, w3, w4, w5, t5, w6, evHist, ObsOk, ObOk, List.getElem?_cons_zero]
  · rw [dif_neg c1]
    have c1' : ¬ ((S.pos : Int) + 1 ≤ S.l.length) := by omega
    have w7 := wrap_i64 (n := 4 * (S.l.length : Int)) (by omega) (by omega)
    have w8 := wrap_i64 (n := 4000 + 4 * (S.l.length : Int)) (by omega) (by omega)
    by_cases c2 : S.pos + 1 > 4000 + 4 * S.l.length
    · rw [if_pos c2]
      have c2' : 4000 + 4 * (S.l.length : Int) < (S.pos : Int) + 1 := by omega
      simp [Try.f97, ldVar, stVar, spl, srcC, hg, w1, w2, hL, c1', w7, w8, c2', evHist, ObsOk, ObOk, List.getElem?_cons_zero]
    · rw [if_neg c2]
      have c2' : ¬ (4000 + 4 * (S.l.length : Int) < (S.pos : Int) + 1) := by omega
      have w9 := wrap_i64 (n := S.mix * 1103515245) (by omega) (by omega)
      have w10 := wrap_i64 (n := S.mix * 1103515245 + 12345) (by omega) (by omega)
      have t6 : (S.mix * 1103515245 + 12345).tmod 2147483648 = (S.mix * 1103515245 + 12345) % 2147483648 := Int.tmod_eq_emod_of_nonneg (by omega)
      have y0 := Int.emod_nonneg (S.mix * 1103515245 + 12345) (b := 2147483648) (by omega)
      have y1 := Int.emod_lt_of_pos (S.mix * 1103515245 + 12345) (b := 2147483648) (by omega)
      generalize hY : (S.mix * 1103515245 + 12345) % 2147483648 = Y at *
      have w11 := wrap_i64 (n := Y) (by omega) (by omega)
      have t7 : Y.tdiv 65536 = Y / 65536 := Int.tdiv_eq_ediv_of_nonneg (by omega)
      have w12 := wrap_i64 (n := Y / 65536) (by omega) (by omega)
      have t8 : (Y / 65536).tmod 256 = Y / 65536 % 256 := Int.tmod_eq_emod_of_nonneg (by omega)
      have w13 := wrap_i64 (n := Y / 65536 % 256) (by omega) (by omega)
      simp [Try.f97, ldVar, stVar, spl, srcC, hg, w1, w2, hL, c1', w7, w8, c2', w9, w10, t6, w11, t7, w12, t8, w13, evHist, ObsOk, ObOk, List.getElem?_cons_zero]
end Go.Ev

/- The source: a number below a bound, a chance. -/
namespace Go.Ev
open Go Go.Proofs
set_option linter.unusedSimpArgs false
set_option linter.unusedVariables false

def nextP (n : Int) (S : Src) : Int × Src :=
  if n ≤ 1 then (0, S)
  else if n ≤ 256 then ((byteP S).1 % n, (byteP S).2)
  else (((byteP S).1 * 65536 + (byteP (byteP S).2).1 * 256 + (byteP (byteP (byteP S).2).2).1) % n, (byteP (byteP (byteP S).2).2).2)
theorem SrcI.byte {H : AH} {q : Nat} {v : AV} {S : Src} {bs : List Nat} (h : SrcI H q v S bs) (hp : S.pos < 1099511627776) : SrcI (H.set q (.cells 102 false (srcC v (byteP S).2))) q v (byteP S).2 bs := by
  obtain ⟨h1, h2, h3, h4, h5, h6⟩ := byteP_in h
  exact h.set h3 (by omega) ⟨h5, h6⟩
theorem next_ev {H : AH} {q : Nat} {v : AV} {S : Src} {bs : List Nat} (h : SrcI H q v S bs) (hp : S.pos + 3 ≤ 1099511627776) {n : Int} (hn : n ≤ 1099511627776) (m : Nat) (hm : 2 ≤ m) :
    ev Try.prog m 50 [.ptr q 0, .int .i64 n] H = some (.int .i64 (nextP n S).1, H.set q (.cells 102 false (srcC v (nextP n S).2))) := by
  obtain ⟨m, rfl⟩ : ∃ k, m = k + 1 := ⟨m - 1, by omega⟩
  have hg := h.get
  rw [ev_eq Try.func50 ok50 m _ H (by simp [Try.f50])]
  unfold nextP
  by_cases c1 : n ≤ 1
  · rw [if_pos c1, AH.set_same _ _ _ hg]
    simp [Try.f50, c1]
  · rw [if_neg c1]
    have e1 := byte_ev h (by omega) m (by omega)
    obtain ⟨a1, a2, a3, a4, a5, a6⟩ := byteP_in h
    have hnz : ¬ (n = 0) := by omega
    by_cases c2 : n ≤ 256
    · rw [if_pos c2]
      have t1 : (byteP S).1.tmod n = (byteP S).1 % n := Int.tmod_eq_emod_of_nonneg a1
      have y0 := Int.emod_nonneg (byteP S).1 hnz
      have y1 := Int.emod_lt_of_pos (byteP S).1 (b := n) (by omega)
      have w1 := wrap_i64 (n := (byteP S).1 % n) (by omega) (by omega)
      simp [Try.f50, c1, c2, e1, hnz, t1, w1]
    · rw [if_neg c2]
      have h1 := h.byte (by omega)
      have e2 := byte_ev h1 (by omega) m (by omega)
      obtain ⟨b1, b2, b3, b4, b5, b6⟩ := byteP_in h1
      have h2 := h1.byte (by omega)
      have e3 := byte_ev h2 (by omega) m (by omega)
      obtain ⟨d1, d2, d3, d4, d5, d6⟩ := byteP_in h2
      rw [set_set] at e2 e3
      rw [set_set] at e3
      generalize hx : (byteP S).1 = x at *
      generalize hS1 : (byteP S).2 = S1 at *
      generalize hy : (byteP S1).1 = y at *
      generalize hS2 : (byteP S1).2 = S2 at *
      generalize hz : (byteP S2).1 = z at *
      generalize hS3 : (byteP S2).2 = S3 at *
      have w1 := wrap_i64 (n := x * 65536) (by omega) (by omega)
      have w2 := wrap_i64 (n := y * 256) (by omega) (by omega)
      have w3 := wrap_i64 (n := x * 65536 + y * 256) (by omega) (by omega)
      have w4 := wrap_i64 (n := x * 65536 + y * 256 + z) (by omega) (by omega)
      have t1 : (x * 65536 + y * 256 + z).tmod n = (x * 65536 + y * 256 + z) % n := Int.tmod_eq_emod_of_nonneg (by omega)
      have y0 := Int.emod_nonneg (x * 65536 + y * 256 + z) hnz
      have y1 := Int.emod_lt_of_pos (x * 65536 + y * 256 + z) (b := n) (by omega)
      have w5 := wrap_i64 (n := (x * 65536 + y * 256 + z) % n) (by omega) (by omega)
      simp [Try.f50, c1, c2, e1, e2, e3, hnz, w1, w2, w3, w4, t1, w5]
end Go.Ev

/- The source: what a draw leaves; chance, size, an odd number. -/
namespace Go.Ev
open Go Go.Proofs
set_option linter.unusedSimpArgs false
set_option linter.unusedVariables false

theorem nextP_pos {n : Int} {S : Src} : (nextP n S).2.pos ≤ S.pos + 3 ∧ (nextP n S).2.l = S.l := by
  have hb : ∀ S : Src, (byteP S).2.pos = S.pos + 1 ∧ (byteP S).2.l = S.l := fun S => by
    unfold byteP; split
    · exact ⟨rfl, rfl⟩
    · split <;> exact ⟨rfl, rfl⟩
  have h1 := hb S
  have h2 := hb (byteP S).2
  have h3 := hb (byteP (byteP S).2).2
  unfold nextP
  split
  · exact ⟨by simp, rfl⟩
  · split
    · exact ⟨by simp only; omega, h1.2⟩
    · exact ⟨by simp only; omega, by simp only; rw [h3.2, h2.2, h1.2]⟩
theorem SrcI.next {H : AH} {q : Nat} {v : AV} {S : Src} {bs : List Nat} (h : SrcI H q v S bs) (hp : S.pos + 3 ≤ 1099511627776) (n : Int) : SrcI (H.set q (.cells 102 false (srcC v (nextP n S).2))) q v (nextP n S).2 bs := by
  have h1 := h.byte (by omega)
  have a1 := (byteP_in h).2.2.2.1
  have h2 := h1.byte (by omega)
  have a2 := (byteP_in h1).2.2.2.1
  have h3 := h2.byte (by omega)
  rw [set_set] at h2
  rw [set_set, set_set] at h3
  unfold nextP
  split
  · simp only; rw [AH.set_same _ _ _ h.get]; exact h
  · split
    · exact h1
    · exact h3
theorem nextP_in {H : AH} {q : Nat} {v : AV} {S : Src} {bs : List Nat} (h : SrcI H q v S bs) (hp : S.pos + 3 ≤ 1099511627776) (n : Int) : 0 ≤ (nextP n S).1 ∧ (nextP n S).1 < mxI 1 n := by
  unfold nextP mxI
  split
  · simp only; split <;> omega
  · split
    · have y0 := Int.emod_nonneg (byteP S).1 (b := n) (by omega)
      have y1 := Int.emod_lt_of_pos (byteP S).1 (b := n) (by omega)
      simp only; split <;> omega
    · simp only
      have y0 := Int.emod_nonneg ((byteP S).1 * 65536 + (byteP (byteP S).2).1 * 256 + (byteP (byteP (byteP S).2).2).1) (b := n) (by omega)
      have y1 := Int.emod_lt_of_pos ((byteP S).1 * 65536 + (byteP (byteP S).2).1 * 256 + (byteP (byteP (byteP S).2).2).1) (b := n) (by omega)
      split <;> omega
def chanceP (n : Int) (S : Src) : Bool × Src := (decide ((nextP n S).1 = n - 1), (nextP n S).2)
theorem chance_ev {H : AH} {q : Nat} {v : AV} {S : Src} {bs : List Nat} (h : SrcI H q v S bs) (hp : S.pos + 3 ≤ 1099511627776) {n : Int} (h0 : 0 ≤ n) (hn : n ≤ 1099511627776) (m : Nat) (hm : 3 ≤ m) :
    ev Try.prog m 48 [.ptr q 0, .int .i64 n] H = some (.bool (chanceP n S).1, H.set q (.cells 102 false (srcC v (chanceP n S).2))) := by
  obtain ⟨m, rfl⟩ : ∃ k, m = k + 1 := ⟨m - 1, by omega⟩
  have e1 := next_ev h hp hn m (by omega)
  have w1 := wrap_i64 (n := n - 1) (by omega) (by omega)
  rw [ev_eq Try.func48 ok48 m _ H (by simp [Try.f48])]
  simp [Try.f48, e1, w1, chanceP]
  rw [Bool.eq_iff_iff]; simp
def sizeP (n : Int) (S : Src) : Int := miI (1 + S.l.length / 12) n
theorem size_ev {H : AH} {q : Nat} {v : AV} {S : Src} {bs : List Nat} (h : SrcI H q v S bs) (n : Int) (m : Nat) (hm : 1 ≤ m) :
    ev Try.prog m 108 [.ptr q 0, .int .i64 n] H = some (.int .i64 (sizeP n S), H) := by
  obtain ⟨m, rfl⟩ : ∃ k, m = k + 1 := ⟨m - 1, by omega⟩
  have hg := h.get
  have hle := h.len
  have hL := Ty.R.lenA h.row (P := Try.prog) (T := 22) (by simp)
  have t1 : (S.l.length : Int).tdiv 12 = S.l.length / 12 := Int.tdiv_eq_ediv_of_nonneg (by omega)
  have w1 := wrap_i64 (n := (S.l.length : Int) / 12) (by omega) (by omega)
  have w2 := wrap_i64 (n := 1 + (S.l.length : Int) / 12) (by omega) (by omega)
  simp only [srcC] at hg
  rw [ev_eq Try.func108 ok108 m _ H (by simp [Try.f108])]
  simp [Try.f108, ldVar, hg, hL, t1, w1, w2, sizeP, miI, evHist, ObsOk, ObOk, List.getElem?_cons_zero]
theorem source_ev {H : AH} {v : AV} {l : List Int} {bs : List Nat} (h : (Ty.sl 5 (.int .u8)).R false H [v] l bs) (hv : v.one = true) (hl : l.length ≤ 1048576) (m : Nat) (hm : 1 ≤ m) :
    ev Try.prog m 45 [v] H = some (.ptr H.next 0, H.push (.cells 102 false (srcC v ⟨l, 0, l.length % 1000⟩))) := by
  obtain ⟨m, rfl⟩ : ∃ k, m = k + 1 := ⟨m - 1, by omega⟩
  have hL := Ty.R.lenA h (P := Try.prog) (T := 22) (by simp)
  have t1 : (l.length : Int).tmod 1000 = l.length % 1000 := Int.tmod_eq_emod_of_nonneg (by omega)
  have w1 := wrap_i64 (n := (l.length : Int) % 1000) (by omega) (by omega)
  rw [ev_eq Try.func45 ok45 m _ H (by simp [Try.f45])]
  simp [Try.f45, hL, t1, w1, fillA, spl, srcC, hv, cells_one hv]
theorem source_I {H : AH} {v : AV} {l : List Int} {bs : List Nat} (h : (Ty.sl 5 (.int .u8)).R false H [v] l bs) (hl : l.length ≤ 1048576) :
    SrcI (H.push (.cells 102 false (srcC v ⟨l, 0, l.length % 1000⟩))) H.next v ⟨l, 0, l.length % 1000⟩ bs :=
  ⟨by simp, by simp, fun e => by have := h.mem _ e; omega, h.kp ((Kp.refl H).push _), by simp, by simp only; omega, hl⟩
end Go.Ev

/- The source: an odd number; one of a row of numbers. -/
namespace Go.Ev
open Go Go.Proofs
set_option linter.unusedSimpArgs false
set_option linter.unusedVariables false

def pickP (l : List Int) (S : Src) : Int := (l[(nextP l.length S).1.toNat]?).getD 0
theorem pick_get {l : List Int} {S : Src} {H : AH} {q : Nat} {v : AV} {bs : List Nat} (h : SrcI H q v S bs) (hp : S.pos + 3 ≤ 1099511627776) (hl : 2 ≤ l.length) :
    ∃ k : Nat, (nextP l.length S).1 = k ∧ k < l.length ∧ (l.map (AV.int .i64))[k]? = some (.int .i64 (pickP l S)) := by
  obtain ⟨h0, h1⟩ := nextP_in h hp (l.length : Int)
  unfold mxI at h1
  rw [if_pos (by omega)] at h1
  refine ⟨(nextP l.length S).1.toNat, by omega, by omega, ?_⟩
  have hk : (nextP l.length S).1.toNat < l.length := by omega
  unfold pickP
  rw [List.getElem?_map, List.getElem?_eq_getElem hk]
  rfl
end Go.Ev

/- The source: what stays, one draw, one of a row. -/
namespace Go.Ev
open Go Go.Proofs
set_option linter.unusedSimpArgs false
set_option linter.unusedVariables false

theorem SrcI.ko {H H' : AH} {q : Nat} {v : AV} {S : Src} {bs : List Nat} (h : SrcI H q v S bs) (hn : H.next ≤ H'.next) (hq : H'.get q = H.get q) (hb : ∀ b ∈ bs, H'.get b = H.get b) : SrcI H' q v S bs :=
  ⟨hq.trans h.get, by have := h.lt; omega, h.nin, h.row.stay hn hb, h.pos, h.mix, h.len⟩
theorem SrcI.push {H : AH} {q : Nat} {v : AV} {S : Src} {bs : List Nat} (h : SrcI H q v S bs) (x : Blk) : SrcI (H.push x) q v S bs :=
  have hK : Kp H (H.push x) := (Kp.refl H).push x
  h.ko hK.next (hK.get q h.lt) fun b hb => hK.get b (h.row.mem b hb)
theorem SrcI.set_ne {H : AH} {q p : Nat} {v : AV} {S : Src} {bs : List Nat} (h : SrcI H q v S bs) (x : Blk) (hp : p ≠ q) (hb : p ∉ bs) : SrcI (H.set p x) q v S bs :=
  h.ko (Nat.le_refl _) (AH.set_getN _ _ (Ne.symm hp)) fun b hb' => AH.set_getN _ _ (fun e => hb (by rw [← e]; exact hb'))
theorem SrcI.resv {H : AH} {q : Nat} {v : AV} {S : Src} {bs : List Nat} (h : SrcI H q v S bs) (n : Nat) : SrcI (H.res n) q v S bs :=
  h.ko (by simp) (by simp; intro h1 h2; have := h.lt; omega) fun b hb => by simp; intro h1 h2; have := h.row.mem b hb; omega
theorem nextP_p {n : Int} {S : Src} {k : Nat} (h : S.pos ≤ k) : (nextP n S).2.pos ≤ k + 3 := by have := (nextP_pos (n := n) (S := S)).1; omega

/-- the i-th of a row -/
def lkP (l : List Int) (i : Int) : Int := (l[i.toNat]?).getD 0
theorem lk_get {l : List Int} {k : Nat} (h : k < l.length) : (l.map (AV.int .i64))[k]? = some (.int .i64 (lkP l k)) := by
  unfold lkP; rw [List.getElem?_map, Int.toNat_natCast, List.getElem?_eq_getElem h]; rfl
/-- a draw -/
theorem draw {h : AH} {q : Nat} {v : AV} {S : Src} {bs : List Nat} {K : Nat} (h0 : SrcI h q v S bs) (hp : S.pos ≤ K) (hK : K ≤ 1000000) (n : Int) (hn1 : 1 ≤ n) (hn : n ≤ 1099511627776) (m : Nat) (hm : 2 ≤ m) :
    ∃ (k : Nat) (S' : Src), nextP n S = ((k : Int), S') ∧ (k : Int) < n ∧ S'.pos ≤ K + 3 ∧ ev Try.prog m 50 [.ptr q 0, .int .i64 n] h = some (.int .i64 k, h.set q (.cells 102 false (srcC v S'))) ∧
      SrcI (h.set q (.cells 102 false (srcC v S'))) q v S' bs := by
  have e1 := next_ev h0 (n := n) (by omega) (by omega) m (by omega)
  have h1 := h0.next (by omega) n
  have p1 := nextP_p (n := n) hp
  have i1 := nextP_in h0 (by omega) n
  generalize nextP n S = r at *
  obtain ⟨a, S'⟩ := r
  simp only at *
  obtain ⟨k, rfl⟩ : ∃ k : Nat, a = k := ⟨a.toNat, by omega⟩
  unfold mxI at i1
  exact ⟨k, S', rfl, by split at i1 <;> omega, p1, e1, h1⟩
end Go.Ev

/- Bytes put behind bytes: rows of bytes, counted rows; the reference's numbers. -/
namespace Go.Ev
open Go Go.Proofs
set_option linter.unusedSimpArgs false
set_option linter.unusedVariables false

theorem BO.appB {H : AH} {v s : AV} {l D : List Int} {b : Nat} (h : BO H v l b) (hs : Bs H s D) (hl : l.length + D.length ≤ 1000000) :
    ∃ v' X' b', appA Try.prog 22 22 v s H = some (v', X') ∧ BO X' v' (l ++ D) b' ∧ KoS [b] H X' ∧ (b' = b ∨ H.next ≤ b') := by
  have hn := hs.news
  rw [u8L_len] at hn
  have hh := h
  obtain ⟨rfl, h2, h3⟩ := h
  have hw : (u8L l).length = l.length := u8L_len l
  have ht : (u8L l).take l.length = u8L l := by rw [← hw, List.take_length]
  by_cases c : D.length = 0
  · have : D = [] := List.length_eq_zero_iff.1 c
    subst this
    exact ⟨.slice b 0 l.length, H, b, by simp [appA, hn, u8L], by simpa using hh, KoS.refl _ _, .inl rfl⟩
  · have c' : (D = []) = False := eq_false (fun e => c (by rw [e]; rfl))
    refine ⟨.slice H.next 0 (l.length + D.length), (H.kill b).push (.cells 5 false (u8L l ++ u8L D)), H.next, ?_, ⟨by simp, by simp, by rw [u8L_app]; simp⟩, ⟨by simp, fun z hz hzb => ?_⟩, .inr (Nat.le_refl _)⟩
    · simp [appA, hn, h3, hw, ht, c, c']
      omega
    · have : z ≠ b := fun e => hzb (by simp [e])
      rw [AH.push_get, if_neg (by simp; omega), AH.kill_get, if_neg this]
theorem digitsX : ∀ (n : Nat) (v : Int) (H : AH) (m : Nat), 0 ≤ v → v ≤ 9223372036854775807 → n ≤ 8 → n + 2 ≤ m →
    ∃ (r : AV) (h' : AH) (l : List Int) (b : Nat), ev Try.prog m 62 [.int .i64 v, .int .i64 n] H = some (r, h') ∧ l.length = n ∧ BO h' r l b ∧ H.next ≤ b ∧ Kp H h'
  | 0, v, H, m, h0, h1, hn, hm => by
    obtain ⟨m, rfl⟩ : ∃ k, m = k + 1 := ⟨m - 1, by omega⟩
    refine ⟨.slice H.next 0 0, H.push (.cells 5 false []), [], H.next, ?_, rfl, ⟨rfl, by simp, by simp [u8L]⟩, Nat.le_refl _, (Kp.refl H).push _⟩
    rw [ev_M Try.func62 ok62 [] m _ H (by simp [Try.f62])]
    simp [Try.f62, U, tm0, zerosA, fillA]
  | n + 1, v, H, m, h0, h1, hn, hm => by
    obtain ⟨m, rfl⟩ : ∃ k, m = k + 1 := ⟨m - 1, by omega⟩
    obtain ⟨w, hw⟩ : ∃ w : Int, w = v.tdiv 256 := ⟨_, rfl⟩
    have hwb : 0 ≤ w ∧ w ≤ 9223372036854775807 := by rw [hw, Int.tdiv_eq_ediv_of_nonneg h0]; omega
    obtain ⟨r, h1', l, b, e, hl, B, hb, K⟩ := digitsX n w H m hwb.1 hwb.2 (by omega) (by omega)
    obtain ⟨x, hx⟩ : ∃ x : Int, x = IntKind.u8.wrap (v.tmod 256) := ⟨_, rfl⟩
    obtain ⟨v', X', b', q1, q2, q3, q4⟩ := B.app1 (x := x) (by omega)
    have cx : ∀ h', convA Try.prog 3 5 (.int .i64 (v.tmod 256)) h' = some (.int .u8 x, h') := fun h' => (conv_int (ds := .int .i64) (k := .u8) (by simp) (by simp)).trans (by rw [hx])
    have ww : IntKind.i64.wrap w = w := wrap_i64 (by omega) (by omega)
    have wn : IntKind.i64.wrap (((n + 1 : Nat) : Int) - 1) = (n : Int) := by rw [wrap_i64 (by omega) (by omega)]; omega
    have hw' := hw.symm
    have hne : (((n + 1 : Nat) : Int) == 0) = false := by simp; omega
    obtain ⟨P, hP⟩ : ∃ P : AH, P = h1'.push (.cells 5 false [.int .u8 x]) := ⟨_, rfl⟩
    rw [← hP] at q1
    have hP' := hP.symm
    obtain ⟨N, hN⟩ : ∃ N : Int, N = ((n + 1 : Nat) : Int) := ⟨_, rfl⟩
    rw [← hN] at wn hne ⊢
    have hne2 : (N = 0) = False := eq_false (by omega)
    refine ⟨v', X', l ++ [x], b', ?_, by simp [hl], q2, by have := K.next; omega, KoS.kp K q3 (by simp; exact hb)⟩
    rw [ev_M Try.func62 ok62 [] m _ H (by simp [Try.f62])]
    simp [Try.f62, U, tm0, hne, hne2, hw', ww, wn, e, cx, hP', q1, zerosA, fillA, spl]
end Go.Ev

/- The scanner's and the reader's steps. -/
namespace Go.Ev
open Go Go.Proofs
set_option linter.unusedSimpArgs false
set_option linter.unusedVariables false

/-- all that was there is as it was, but for q -/
def cidI (l : List Int) (a : Nat) (c : Int) : List Int × Nat × Int :=
  takeI l (octetI l a c).2.1 (if 8 < (octetI l a c).1 ∧ (octetI l a c).2.2 = 0 then 3 else (octetI l a c).2.2) (octetI l a c).1
theorem cid_ev {Hb H : AH} {q a : Nat} {s : AV} {l : List Int} {c : Int} (hs : Bs Hb s l) (hb : By l) (hK : Kp Hb H) (hqb : Hb.next ≤ q) (hqn : q < H.next) (hq : H.get q = some (scB s a c)) (ha : a ≤ l.length) (hl : l.length ≤ 65536) (m : Nat) (hm : 4 ≤ m) :
    ∃ r H', ev Try.prog m 125 [.ptr q 0] H = some (r, H') ∧ Kx q H H' ∧ Ow H.next H'.next H' r (cidI l a c).1 ∧ H'.get q = some (scB s (cidI l a c).2.1 (cidI l a c).2.2) ∧ (cidI l a c).2.1 ≤ l.length := by
  obtain ⟨m, rfl⟩ : ∃ k, m = k + 1 := ⟨m - 1, by omega⟩
  obtain ⟨H1, k1, k2, k3, k5, k6⟩ := octet_ev hs hb hK hqb hq ha hl m (by omega)
  have hv : 0 ≤ (octetI l a c).1 ∧ (octetI l a c).1 < 256 := octV_by (takeI_by hb _ _ _)
  unfold cidI
  generalize hO : octetI l a c = O at *
  obtain ⟨n, a', c'⟩ := O
  simp only at *
  have hK1 := k2.kp hK hqb
  -- the code behind the test
  obtain ⟨H2, j1, j2, j3, j4⟩ : ∃ H2, (if 8 < n then ev Try.prog m 123 [.ptr q 0, .int .i64 3] H1 = some (U, H2) else H2 = H1) ∧ Kx q H1 H2 ∧ H2.next = H1.next ∧ H2.get q = some (scB s a' (if 8 < n ∧ c' = 0 then 3 else c')) := by
    by_cases h8 : 8 < n
    · refine ⟨_, by rw [if_pos h8]; exact fail_ev k5 m (by omega), ?_, ?_, ?_⟩
      · split
        · exact (Kx.refl q H1).set _
        · exact Kx.refl q H1
      · split <;> rfl
      · by_cases hc : c' = 0
        · simp [h8, hc]
        · simp [h8, hc, k5]
    · exact ⟨H1, by rw [if_neg h8], Kx.refl q H1, rfl, by simp [h8, k5]⟩
  obtain ⟨r, H3, i1, i2, i3, i4, i5, i6⟩ := take_ev hs (j2.kp hK1 hqb) hqb j4 k6 hl n (by omega) m (by omega)
  obtain ⟨r', H4, t1, t2, t3⟩ := copied_ev i4 (i2.kp (j2.kp hK1 hqb) hqb) (by have := (takeI_len l a' (if 8 < n ∧ c' = 0 then 3 else c') n).2; omega) m (by omega)
  have hn : H3.next = H.next := by omega
  refine ⟨r', H4, ?_, ((k2.trans j2).trans i2).trans (Kx.of t2), by rw [← hn]; exact t3, by rw [t2.get q (by omega)]; exact i5, i6⟩
  rw [ev_eq Try.func125 ok125 m _ H (by simp [Try.f125])]
  by_cases h8 : 8 < n
  · simp only [h8, if_true] at j1
    simp [Try.f125, k1, h8, j1, i1, t1]
  · simp only [h8, if_false] at j1
    subst j1
    simp [Try.f125, k1, h8, i1, t1]
end Go.Ev

/- Headers; the scanner's first steps. -/
namespace Go.Ev
open Go Go.Proofs
set_option linter.unusedSimpArgs false
set_option linter.unusedVariables false

def hdr (f v : Int) (d s t : AV) : AV := .agg [.int .i64 f, .int .i64 v, d, s, t, .int .i64 0, .int .i64 0, .int .i64 0]
end Go.Ev

/- Lists of versions. -/
namespace Go.Ev
open Go Go.Proofs
set_option linter.unusedSimpArgs false
set_option linter.unusedVariables false

def grp (l : List Int) (j : Nat) : Int := valP ((l.drop (4 * j)).take 4)
/-- at least one version and not too many, none of them 0 -/
def versP (l : List Int) : Bool := decide (l.length ≠ 0 ∧ l.length % 4 = 0 ∧ l.length ≤ 32 ∧ ∀ j, j < l.length / 4 → grp l j ≠ 0)
theorem grp_bound {l : List Int} (hb : By l) (j : Nat) : 0 ≤ grp l j ∧ grp l j < 4294967296 := by
  have h := valP_lt _ ((hb.drop (4 * j)).take 4)
  refine ⟨h.1, Int.lt_of_lt_of_le h.2 ?_⟩
  have : (256 : Nat) ^ ((l.drop (4 * j)).take 4).length ≤ 256 ^ 4 := Nat.pow_le_pow_right (by omega) (by simp; omega)
  have h3 := Int.ofNat_le.mpr this
  rw [Int.natCast_pow, Int.natCast_pow] at h3
  exact h3
/-- one whole number behind a list of them -/
theorem appInt {h : AH} {b n : Nat} {xs : List AV} {v : AV} (hb : h.get b = some (.cells 3 false xs)) (hx : xs.length = n) (hn : n ≤ 100000) (hbn : b < h.next) :
    appA Try.prog 33 33 (.slice b 0 n) (.slice h.next 0 1) (h.push (.cells 3 false [v])) = some (.slice (h.next + 1) 0 (n + 1), ((h.push (.cells 3 false [v])).kill b).push (.cells 3 false (xs ++ [v]))) := by
  have h1 : ¬ (b = h.next) := by omega
  subst hx
  have h2 : (xs.length + 1) * 8 ≤ 70368744177664 := by omega
  have h3 : xs.length + 1 ≤ 70368744177664 := by omega
  unfold appA
  simp [newsA, rowOf, h1, hb, h2, h3]
theorem versLoop {Hb H0 : AH} {s : AV} {l : List Int} (hs : Bs Hb s l) (hb : By l) (hK : Kp Hb H0) (G : Nat) (hG : l.length = 4 * G) (hG8 : G ≤ 8) (m : Nat) (hm : 20 ≤ m) (τ : Tm) (h : AH) (hK0 : Kp H0 h)
    (t0 : τ 0 = s) (t5 : τ 5 = .int .i64 0) (b : Nat) (t4 : τ 4 = .slice b 0 0) (hb0 : H0.next ≤ b) (hb1 : b < h.next) (hb2 : h.get b = some (.cells 3 false [])) :
    ∃ e τ' H', evLoop Try.prog (ev Try.prog m) m (lp Try.prog 63 122) τ h = some (e, τ', H') ∧ Kp H0 H' ∧
      ((e = .exit 0 ∧ (∀ j, j < G → grp l j ≠ 0)) ∨ (e = .ret ∧ τ' 2 = .nilSlice ∧ τ' 3 = .bool false ∧ ¬ (∀ j, j < G → grp l j ≠ 0))) := by
  refine loop_rule (d := G) (fun d τ h => Kp H0 h ∧ ∃ k, k + d = G ∧ τ 0 = s ∧ τ 5 = .int .i64 (4 * k : Nat) ∧ (∃ b xs, τ 4 = .slice b 0 k ∧ xs.length = k ∧ H0.next ≤ b ∧ b < h.next ∧ h.get b = some (.cells 3 false xs)) ∧ ∀ j, j < k → grp l j ≠ 0)
    (fun e τ h => Kp H0 h ∧ ((e = .exit 0 ∧ (∀ j, j < G → grp l j ≠ 0)) ∨ (e = .ret ∧ τ 2 = .nilSlice ∧ τ 3 = .bool false ∧ ¬ (∀ j, j < G → grp l j ≠ 0))))
    ?_ ⟨hK0, 0, by omega, t0, by simp [t5], ⟨b, [], t4, rfl, hb0, hb1, hb2⟩, by omega⟩ (by omega)
  rintro d τ h ⟨hk, k, hkd, t0, t5, ⟨b, xs, t4, hx, hb0, hb1, hb2⟩, hnz⟩
  have hs' := hs.kp (hK.trans hk)
  by_cases h0 : d = 0
  · subst h0
    have e1 : ((4 * k : Nat) : Int) = l.length := by omega
    rw [e1] at t5
    rewrite [lp63_122]
    simp [Try.f63, t0, t5, t4, hs'.len]
    exact ⟨hk, fun j hj => hnz j (by omega)⟩
  · have hd0 : 1 ≤ d := by omega
    have hlt : ((4 * k : Nat) : Int) < l.length := by omega
    have w1 : IntKind.i64.wrap (((4 * k : Nat) : Int) + 4) = (4 * k + 4 : Nat) := by rw [wrap_i64 (by omega) (by omega)]; omega
    obtain ⟨s', k1, k2⟩ := cutBs hs (4 * k) 4 (by omega) (A := ((4 * k : Nat) : Int)) (N := ((4 * k + 4 : Nat) : Int)) rfl (by omega)
    have hgb := grp_bound hb k
    have hu : ev Try.prog m 90 [s'] h = some (.int .i64 (grp l k), h) := by
      rw [unfixed_ev k2 (hK.trans hk) ((hb.drop _).take _) (by simp; omega) m (by omega)]
      rw [wrap_i64 (n := valP ((l.drop (4 * k)).take 4)) (by unfold grp at hgb; omega) (by unfold grp at hgb; omega)]; rfl
    have hcut := k1 h (hK.trans hk)
    have ha := appInt (v := .int .i64 (grp l k)) hb2 hx (by omega) hb1
    have hX : ∃ X, X = 4 * k := ⟨_, rfl⟩
    obtain ⟨X, hX⟩ := hX
    have hY : (4 * k + 4 : Nat) = X + 4 := by omega
    rw [hY] at w1 hcut
    rw [← hX] at t5 hlt w1 hcut
    push_cast at w1 hcut
    by_cases hg : grp l k = 0
    · rewrite [lp63_122]
      simp only [hg] at hu
      simp [Try.f63, t0, t5, t4, hs'.len, hlt, w1, hcut, hu]
      exact ⟨hk, k, by omega, hg⟩
    · rewrite [lp63_122]
      simp [Try.f63, t0, t5, t4, hs'.len, hlt, w1, hcut, hu, hg, ha, zerosA]
      refine ⟨d - 1, by omega, ((hk.push _).kill hb0).push _, k + 1, by omega, by omega, ⟨h.next + 1, ⟨rfl, rfl⟩, xs ++ [.int .i64 (grp l k)], by simp [hx], ?_, by simp, by simp⟩, ?_⟩
      · have := hk.next; omega
      · intro j hj
        by_cases hjk : j = k
        · subst hjk; exact hg
        · exact hnz j (by omega)
theorem versionsOf_ev {Hb H : AH} {s : AV} {l : List Int} (hs : Bs Hb s l) (hb : By l) (hK : Kp Hb H) (m : Nat) (hm : 21 ≤ m) :
    ∃ r H', ev Try.prog m 63 [s] H = some (.tuple [r, .bool (versP l)], H') ∧ Kp H H' := by
  obtain ⟨m, rfl⟩ : ∃ k, m = k + 1 := ⟨m - 1, by omega⟩
  have hs' := hs.kp hK
  rw [ev_eq Try.func63 ok63 m _ H (by simp [Try.f63])]
  by_cases h1 : l.length = 0
  · refine ⟨.nilSlice, H, ?_, Kp.refl H⟩
    have : l = [] := List.eq_nil_of_length_eq_zero h1
    subst this
    simp [Try.f63, hs'.len, versP]
  · have h1' : ¬ ((l.length : Int) = 0) := by omega
    have hne : ¬ (l = []) := fun h => h1 (by rw [h]; rfl)
    have hw : IntKind.i64.wrap ((l.length : Int).tmod 4) = (l.length % 4 : Nat) := by rw [Int.tmod_eq_emod_of_nonneg (by omega), wrap_i64 (by omega) (by omega)]; omega
    have hw' : (l.length : Int).tmod 4 = (l.length % 4 : Nat) := by rw [Int.tmod_eq_emod_of_nonneg (by omega)]; omega
    by_cases h2 : l.length % 4 = 0
    · by_cases h3 : l.length ≤ 32
      · have h3' : ¬ (32 < (l.length : Int)) := by omega
        have hG : l.length = 4 * (l.length / 4) := by omega
        simp [Try.f63, hs'.len, h1', hne, hw, hw', h2, h3']
        generalize hL : evLoop _ _ _ _ _ _ = R
        obtain ⟨e, τ', H', rfl, hK', ⟨rfl, g⟩ | ⟨rfl, g2, g3, g⟩⟩ := loop_at hL (versLoop hs hb hK (l.length / 4) hG (by omega) m (by omega) _ _ ((Kp.refl H).push _) (by simp) (by simp) H.next (by simp) (Nat.le_refl _) (by simp) (by simp))
        · have : versP l = true := by simp only [versP, decide_eq_true_eq]; exact ⟨h1, h2, h3, g⟩
          simp [this]
          exact ⟨_, _, ⟨rfl, rfl⟩, hK'⟩
        · have : versP l = false := by simp only [versP, decide_eq_false_iff_not]; intro hh; exact g hh.2.2.2
          simp [this, g2, g3]
          exact ⟨_, _, ⟨rfl, rfl⟩, hK'⟩
      · have : versP l = false := by simp only [versP, decide_eq_false_iff_not]; intro hh; exact h3 hh.2.2.1
        have h3' : 32 < (l.length : Int) := by omega
        refine ⟨.nilSlice, H, ?_, Kp.refl H⟩
        simp [Try.f63, hs'.len, h1', hne, hw, hw', h2, h3', this]
    · have : versP l = false := by simp only [versP, decide_eq_false_iff_not]; intro hh; exact h2 hh.2.1
      have h2' : ¬ (((l.length % 4 : Nat) : Int) = 0) := by omega
      refine ⟨.nilSlice, H, ?_, Kp.refl H⟩
      generalize (l.length % 4 : Nat) = X at *
      simp [Try.f63, hs'.len, h1', hne, hw, hw', h2, h2', this]
end Go.Ev

/- The program's peek. -/
namespace Go.Ev
open Go Go.Proofs
set_option linter.unusedSimpArgs false
set_option linter.unusedVariables false

def PkErr (H : AH) (s : AV) (cid : Int) (m : Nat) (c : Int) : Prop := ∃ f v d s' t n num H', ev Try.prog m 88 [s, .int .i64 cid] H = some (.tuple [hdr f v d s' t, .int .i64 n, .int .i64 num, .int .i64 c], H') ∧ Kp H H' ∧ d.one = true ∧ s'.one = true ∧ t.one = true
def PkOk (H : AH) (s : AV) (cid : Int) (m : Nat) (f v : Int) (D S T : List Int) (n : Int) : Prop := ∃ d s' t num H' a b, ev Try.prog m 88 [s, .int .i64 cid] H = some (.tuple [hdr f v d s' t, .int .i64 n, .int .i64 num, .int .i64 0], H') ∧ Kp H H' ∧
  H.next ≤ a ∧ a ≤ b ∧ b ≤ H'.next ∧ Ow H.next a H' d D ∧ Ow a b H' s' S ∧ Ow b H'.next H' t T
theorem cutDrop {Hb : AH} {s : AV} {l : List Int} (hs : Bs Hb s l) (a : Nat) (h : a ≤ l.length) :
    ∃ s', (∀ H, Kp Hb H → cutA Try.prog 22 s (some (some (.int .i64 a))) (some none) H = some s') ∧ Bs Hb s' (l.drop a) := by
  obtain ⟨s', k1, k2⟩ := hs.cut a l.length h (by rw [u8L_len]; omega) (lo := some (some (.int .i64 a))) (hi := some none) (by simp) (by simp [u8L_len])
  have h1 : (List.take l.length (u8L l)).drop a = u8L (l.drop a) := by rw [List.take_of_length_le (by rw [u8L_len]; omega)]; simp [u8L]
  rw [h1] at k2
  refine ⟨s', fun H hK => ?_, k2⟩
  rcases hs.lie with ⟨rfl, _⟩ | ⟨b, o, ro, xs, rfl, hn, hg, _⟩
  · rw [← k1]; simp [cutA]
  · rw [← k1]; simp only [cutA, tyU22, tyS5, hK.get b hn]
theorem cutTake {Hb : AH} {s : AV} {l : List Int} (hs : Bs Hb s l) (a : Nat) (h : a ≤ l.length) {A : Int} (hA : A = a) :
    ∃ s', (∀ H, Kp Hb H → cutA Try.prog 22 s (some none) (some (some (.int .i64 A))) H = some s') ∧ Bs Hb s' (l.take a) := by
  subst hA
  obtain ⟨s', k1, k2⟩ := hs.cut 0 a (by omega) (by rw [u8L_len]; omega) (lo := some none) (hi := some (some (.int .i64 a))) (by simp) (by simp)
  have h1 : (List.take a (u8L l)).drop 0 = u8L (l.take a) := by simp [u8L]
  rw [h1] at k2
  refine ⟨s', fun H hK => ?_, k2⟩
  rcases hs.lie with ⟨rfl, _⟩ | ⟨b, o, ro, xs, rfl, hn, hg, _⟩
  · rw [← k1]; simp [cutA]
  · rw [← k1]; simp only [cutA, tyU22, tyS5, hK.get b hn]
theorem takeI_st {l : List Int} {a : Nat} {c n : Int} (hc : c ≠ 0) : takeI l a c n = ([], a, c) := by simp [takeI, hc]
theorem octetI_st {l : List Int} {a : Nat} {c : Int} (hc : c ≠ 0) : octetI l a c = (0, a, c) := by simp [octetI, takeI_st hc, octV]
theorem cidI_st {l : List Int} {a : Nat} {c : Int} (hc : c ≠ 0) : cidI l a c = ([], a, c) := by simp [cidI, octetI_st hc, takeI_st hc]
theorem numberI_st {l : List Int} {a : Nat} {c : Int} (hc : c ≠ 0) : numberI l a c = (0, a, c) := by simp [numberI, hc]
/-- version and both ids: the steps from the first byte on -/
theorem ids_ev {Hb H : AH} {q a : Nat} {s : AV} {l : List Int} {c : Int} (hs : Bs Hb s l) (hb : By l) (hK : Kp Hb H) (hqb : Hb.next ≤ q) (hqn : q < H.next) (hq : H.get q = some (scB s a c)) (ha : a ≤ l.length) (hl : l.length ≤ 65536)
    (hh : Nat) (hhq : hh ≠ q) (hhn : hh < H.next) (hhb : Hb.next ≤ hh) (hg : H.get hh = some (.cells 24 false [.int .i64 0, .int .i64 0, .nilSlice, .nilSlice, .nilSlice, .int .i64 0, .int .i64 0, .int .i64 0])) (m : Nat) (hm : 20 ≤ m) :
    ∃ r0 H1 r1 H2 r2 H3 v, ev Try.prog m 124 [.ptr q 0, .int .i64 4] H = some (r0, H1) ∧ ev Try.prog m 90 [r0] H1 = some (.int .i64 v, H1) ∧ v = valP (takeI l a c 4).1 ∧
      ev Try.prog m 125 [.ptr q 0] H1 = some (r1, H2) ∧ H2.get hh = some (.cells 24 false [.int .i64 0, .int .i64 0, .nilSlice, .nilSlice, .nilSlice, .int .i64 0, .int .i64 0, .int .i64 0]) ∧ r1.one = true ∧
      ev Try.prog m 125 [.ptr q 0] (H2.set hh (.cells 24 false [.int .i64 0, .int .i64 0, r1, .nilSlice, .nilSlice, .int .i64 0, .int .i64 0, .int .i64 0])) = some (r2, H3) ∧
      H3.get hh = some (.cells 24 false [.int .i64 0, .int .i64 0, r1, .nilSlice, .nilSlice, .int .i64 0, .int .i64 0, .int .i64 0]) ∧ r2.one = true ∧
      (∀ b, b < H.next → b ≠ q → b ≠ hh → H3.get b = H.get b) ∧ H.next ≤ H2.next ∧ H2.next ≤ H3.next ∧ 
      Ow H.next H2.next H3 r1 (cidI l (takeI l a c 4).2.1 (takeI l a c 4).2.2).1 ∧
      Ow H2.next H3.next H3 r2 (cidI l (cidI l (takeI l a c 4).2.1 (takeI l a c 4).2.2).2.1 (cidI l (takeI l a c 4).2.1 (takeI l a c 4).2.2).2.2).1 ∧
      H3.get q = some (scB s (cidI l (cidI l (takeI l a c 4).2.1 (takeI l a c 4).2.2).2.1 (cidI l (takeI l a c 4).2.1 (takeI l a c 4).2.2).2.2).2.1 (cidI l (cidI l (takeI l a c 4).2.1 (takeI l a c 4).2.2).2.1 (cidI l (takeI l a c 4).2.1 (takeI l a c 4).2.2).2.2).2.2) ∧
      (cidI l (cidI l (takeI l a c 4).2.1 (takeI l a c 4).2.2).2.1 (cidI l (takeI l a c 4).2.1 (takeI l a c 4).2.2).2.2).2.1 ≤ l.length ∧ Kp Hb H3 := by
  obtain ⟨r0, H1, a1, a2, a3, a4, a5, a6⟩ := take_ev hs hK hqb hq ha hl 4 (by omega) m (by omega)
  have K1 := a2.kp hK hqb
  have hu := unfixed_ev a4 K1 (takeI_by hb _ _ _) (by have := (takeI_len l a c 4).1; omega) m (by omega)
  have hvb := valP_lt _ (takeI_by hb a c 4)
  have hv4 : valP (takeI l a c 4).1 < 4294967296 := by
    refine Int.lt_of_lt_of_le hvb.2 ?_
    have : (256 : Nat) ^ (takeI l a c 4).1.length ≤ 256 ^ 4 := Nat.pow_le_pow_right (by omega) (takeI_len l a c 4).1
    have h3 := Int.ofNat_le.mpr this
    rw [Int.natCast_pow, Int.natCast_pow] at h3
    exact h3
  rw [wrap_i64 (n := valP (takeI l a c 4).1) (by omega) (by omega)] at hu
  obtain ⟨r1, H2, b1, b2, b3, b4, b5⟩ := cid_ev hs hb K1 hqb (by omega) a5 a6 hl m (by omega)
  have K2 := b2.kp K1 hqb
  have hg1 : H1.get hh = H.get hh := a2.get hh hhn hhq
  have hg2 : H2.get hh = H.get hh := by rw [b2.get hh (by omega) hhq, hg1]
  have hn2 := b2.next
  let Hs := H2.set hh (.cells 24 false [.int .i64 0, .int .i64 0, r1, .nilSlice, .nilSlice, .int .i64 0, .int .i64 0, .int .i64 0])
  have K2' : Kp Hb Hs := K2.set hhb _
  have hqs : Hs.get q = H2.get q := by show (H2.set hh _).get q = _; rw [AH.set_get, if_neg (Ne.symm hhq)]
  obtain ⟨r2, H3, c1, c2, c3, c4, c5⟩ := cid_ev hs hb K2' hqb (show q < H2.next by omega) (hqs.trans b4) b5 hl m (by omega)
  have hn3 : H2.next ≤ H3.next := c2.next
  have hsh : Hs.get hh = some (.cells 24 false [.int .i64 0, .int .i64 0, r1, .nilSlice, .nilSlice, .int .i64 0, .int .i64 0, .int .i64 0]) := by show (H2.set hh _).get hh = _; rw [AH.set_get, if_pos rfl]
  refine ⟨r0, H1, r1, H2, r2, H3, _, a1, hu, rfl, b1, hg2.trans hg, b3.bs.one, c1, ?_, c3.bs.one, ?_, by omega, hn3, ?_, c3, c4, c5, c2.kp K2' hqb⟩
  · rw [c2.get hh (show hh < H2.next by omega) hhq]; exact hsh
  · intro b h1 h2 h3
    rw [c2.get b (show b < H2.next by omega) h2]
    show (H2.set hh _).get b = _
    rw [AH.set_get, if_neg h3, b2.get b (by omega) h2, a2.get b h1 h2]
  · rw [← a3]
    have : Ow H1.next H2.next Hs r1 (cidI l (takeI l a c 4).2.1 (takeI l a c 4).2.2).1 := by
      rcases b3 with h | ⟨b, g1, g2, g3, g4, g5⟩
      · exact .inl h
      · refine .inr ⟨b, g1, g2, g3, g4, ?_⟩
        show (H2.set hh _).get b = _
        rw [AH.set_get, if_neg (by omega)]; exact g5
    exact this.kx c2 (.inl (by omega))
/-- where the call stands behind the first byte: the answer's block, the scanner, the header -/
def zh : List AV := [.int .i64 0, .int .i64 0, .nilSlice, .nilSlice, .nilSlice, .int .i64 0, .int .i64 0, .int .i64 0]
theorem peekI_pro {H : AH} {s : AV} {l : List Int} (hs : Bs H s l) (hb : By l) (hl : l.length ≤ 65536) (m : Nat) (hm : 29 ≤ m) :
    ∃ H1, ev Try.prog m 122 [.ptr (H.next + 1) 0] ((H.push (.cells 24 false zh)).push (.cells 130 false [s, .int .i64 0, .int .i64 0])) = some (.int .i64 (octetI l 0 0).1, H1) ∧ H1.next = H.next + 2 ∧ Kp H H1 ∧ H1.get H.next = some (.cells 24 false zh) ∧
      H1.get (H.next + 1) = some (scB s (octetI l 0 0).2.1 (octetI l 0 0).2.2) ∧ (octetI l 0 0).2.1 ≤ l.length := by
  have K0 : Kp H ((H.push (.cells 24 false zh)).push (scB s 0 0)) := ((Kp.refl H).push _).push _
  obtain ⟨H1, k1, k2, k3, k4, k5⟩ := octet_ev hs hb K0 (q := H.next + 1) (a := 0) (c := 0) (by omega) (by simp) (by omega) hl m (by omega)
  refine ⟨H1, k1, by simpa using k3, k2.kp K0 (by omega), ?_, k4, k5⟩
  rw [k2.get _ (by simp; omega) (by omega)]; simp
theorem peekI_A {H : AH} {s : AV} {l : List Int} {cid : Int} (hs : Bs H s l) (hb : By l) (hl : l.length ≤ 65536) (m : Nat) (hm : 30 ≤ m)
    (hc : (octetI l 0 0).2.2 ≠ 0) : PkErr H s cid m (octetI l 0 0).2.2 := by
  obtain ⟨m, rfl⟩ : ∃ k, m = k + 1 := ⟨m - 1, by omega⟩
  obtain ⟨H1, k1, k2, k3, k4, k5, k6⟩ := peekI_pro hs hb hl m (by omega)
  generalize octetI l 0 0 = O at *
  obtain ⟨f, a, c⟩ := O
  simp only at *
  obtain ⟨r0, H2, r1, H3, r2, H4, v, a1, a2, a3, b1, b2, b3, c1, c2, c3, c4, c5, c6, c7, c8, c9, c10, c11⟩ := ids_ev (H := H1.push (.cells 24 false zh)) (q := H.next + 1) (a := a) (c := c) hs hb (k3.push _) (by omega) (by simp; omega) (by simp [k2, k5]) k6 hl (H.next + 2) (by omega) (by simp [k2]) (by omega) (by simp [k2, zh]) m (by omega)
  rw [takeI_st hc, cidI_st hc, cidI_st hc] at c9
  have hr := c4 H.next (by simp; omega) (by omega) (by omega)
  simp [k2, k4] at hr
  simp only [scB, zh] at *
  unfold PkErr
  rw [ev_eq Try.func88 ok88 m _ H (by simp [Try.f88])]
  simp [Try.f88, ldVar, stVar, hs.one, cells_one hs.one, k1, k2, k4, k5, a1, a2, b1, b2, b3, c1, c2, c3, c9, hr, cells_one b3, cells_one c3, evHist, ObsOk, ObOk, hc]
  exact ⟨_, _, _, _, _, _, _, _, ⟨⟨rfl, rfl, rfl⟩, rfl⟩, (c11.set (by omega) _).set (by omega) _, b3, c3, rfl⟩
theorem peekI_B {H : AH} {s : AV} {l : List Int} {cid : Int} (hs : Bs H s l) (hb : By l) (hl : l.length ≤ 65536) (m : Nat) (hm : 30 ≤ m)
    (hc : (octetI l 0 0).2.2 = 0) (h64 : (octetI l 0 0).1 < 64) : PkErr H s cid m 3 := by
  obtain ⟨m, rfl⟩ : ∃ k, m = k + 1 := ⟨m - 1, by omega⟩
  obtain ⟨H1, k1, k2, k3, k4, k5, k6⟩ := peekI_pro hs hb hl m (by omega)
  generalize octetI l 0 0 = O at *
  obtain ⟨f, a, c⟩ := O
  simp only at *
  subst hc
  have hf := fail_ev (H := H1.push (.cells 24 false zh)) (q := H.next + 1) (a := a) (s := s) (c := 0) (e := 3) (by simp [k2, k5]) m (by omega)
  obtain ⟨r0, H2, r1, H3, r2, H4, v, a1, a2, a3, b1, b2, b3, c1, c2, c3, c4, c5, c6, c7, c8, c9, c10, c11⟩ := ids_ev (H := (H1.push (.cells 24 false zh)).set (H.next + 1) (scB s a 3)) (q := H.next + 1) (a := a) (c := 3) hs hb ((k3.push _).set (by omega) _) (by omega) (by simp; omega) (by simp [k2, k5]) k6 hl (H.next + 2) (by omega) (by simp [k2]) (by omega) (by simp [k2, zh]) m (by omega)
  simp only [takeI_st (show (3 : Int) ≠ 0 by decide), cidI_st (show (3 : Int) ≠ 0 by decide)] at c9
  have hr := c4 H.next (by simp; omega) (by omega) (by omega)
  simp [k2, k4] at hr
  simp only [scB, zh] at *
  unfold PkErr
  rw [ev_eq Try.func88 ok88 m _ H (by simp [Try.f88])]
  simp [Try.f88, ldVar, stVar, hs.one, cells_one hs.one, k1, k2, k4, k5, a1, a2, b1, b2, b3, c1, c2, c3, c9, hr, cells_one b3, cells_one c3, evHist, ObsOk, ObOk, h64, hf]
  exact ⟨_, _, _, _, _, _, _, _, ⟨⟨rfl, rfl, rfl⟩, rfl⟩, (c11.set (by omega) _).set (by omega) _, b3, c3, rfl⟩
theorem peekI_D {H : AH} {s : AV} {l : List Int} {cid : Int} (hs : Bs H s l) (hb : By l) (hl : l.length ≤ 65536) (m : Nat) (hm : 30 ≤ m)
    {f : Int} {a : Nat} (hO : octetI l 0 0 = (f, a, 0)) (h128 : 128 ≤ f) {V : List Int} {a1 : Nat} {c1 : Int} (hV : takeI l a 0 4 = (V, a1, c1)) {D : List Int} {a2 : Nat} {c2 : Int} (hD : cidI l a1 c1 = (D, a2, c2))
    {S : List Int} {a3 : Nat} {c3 : Int} (hS : cidI l a2 c2 = (S, a3, c3)) (hc : c3 ≠ 0) : PkErr H s cid m c3 := by
  obtain ⟨m, rfl⟩ : ∃ k, m = k + 1 := ⟨m - 1, by omega⟩
  obtain ⟨H1, k1, k2, k3, k4, k5, k6⟩ := peekI_pro hs hb hl m (by omega)
  rw [hO] at k1 k5 k6
  simp only at k1 k5 k6
  obtain ⟨r0, H2, r1, H3, r2, H4, v, a1, a2, a3, b1, b2, b3, c1, c2, c3, c4, c5, c6, c7, c8, c9, c10, c11⟩ := ids_ev (H := H1.push (.cells 24 false zh)) (q := H.next + 1) (a := a) (c := 0) hs hb (k3.push _) (by omega) (by simp; omega) (by simp [k2, k5]) k6 hl (H.next + 2) (by omega) (by simp [k2]) (by omega) (by simp [k2, zh]) m (by omega)
  simp only [hV, hD, hS] at a3 c7 c8 c9 c10
  have hr := c4 H.next (by simp; omega) (by omega) (by omega)
  simp [k2, k4] at hr
  simp only [scB, zh] at *
  have n1 : ¬ (f < 64) := by omega
  have n2 : ¬ (f < 128) := by omega
  unfold PkErr
  rw [ev_eq Try.func88 ok88 m _ H (by simp [Try.f88])]
  simp [Try.f88, ldVar, stVar, hs.one, cells_one hs.one, k1, k2, k4, k5, a1, a2, b1, b2, b3, c1, c2, c3, c9, hr, cells_one b3, cells_one c3, evHist, ObsOk, ObOk, n1, n2, hc]
  exact ⟨_, _, _, _, _, _, _, _, ⟨⟨rfl, rfl, rfl⟩, rfl⟩, (c11.set (by omega) _).set (by omega) _, b3, c3, rfl⟩
end Go.Ev

/- The program's peek: a short header. -/
namespace Go.Ev
open Go Go.Proofs
set_option linter.unusedSimpArgs false
set_option linter.unusedVariables false

def PkRes (H : AH) (s : AV) (cid : Int) (m : Nat) (f v : Int) (D S T : List Int) (n c : Int) : Prop := ∃ d s' t num H' a b, ev Try.prog m 88 [s, .int .i64 cid] H = some (.tuple [hdr f v d s' t, .int .i64 n, .int .i64 num, .int .i64 c], H') ∧ Kp H H' ∧
  H.next ≤ a ∧ a ≤ b ∧ b ≤ H'.next ∧ Ow H.next a H' d D ∧ Ow a b H' s' S ∧ Ow b H'.next H' t T
theorem PkRes.err {H : AH} {s : AV} {cid : Int} {m : Nat} {f v : Int} {D S T : List Int} {n c : Int} (h : PkRes H s cid m f v D S T n c) : PkErr H s cid m c := by
  obtain ⟨d, s', t, num, H', a, b, h1, h2, h3, h4, h5, h6, h7, h8⟩ := h
  exact ⟨_, _, _, _, _, _, _, _, h1, h2, h6.bs.one, h7.bs.one, h8.bs.one⟩
theorem PkRes.ok {H : AH} {s : AV} {cid : Int} {m : Nat} {f v : Int} {D S T : List Int} {n : Int} (h : PkRes H s cid m f v D S T n 0) : PkOk H s cid m f v D S T n := h
theorem Ow.nil (lo hi : Nat) (H : AH) : Ow lo hi H .nilSlice [] := .inl ⟨rfl, rfl⟩
theorem Ow.set {lo hi b : Nat} {H : AH} {s : AV} {l : List Int} (h : Ow lo hi H s l) (x : Blk) (hd : b < lo ∨ hi ≤ b) : Ow lo hi (H.set b x) s l := by
  rcases h with h | ⟨b', h1, h2, h3, h4, h5⟩
  · exact .inl h
  · exact .inr ⟨b', h1, h2, h3, h4, by rw [AH.set_get, if_neg (by omega)]; exact h5⟩

theorem peekI_C {H : AH} {s : AV} {l : List Int} {cid : Int} (hs : Bs H s l) (hb : By l) (hl : l.length ≤ 65536) (hcid : 0 ≤ cid) (hcid8 : cid ≤ 8) (m : Nat) (hm : 30 ≤ m)
    {f : Int} {a : Nat} (hO : octetI l 0 0 = (f, a, 0)) (h64 : 64 ≤ f) (h128 : f < 128) {D : List Int} {a1 : Nat} {c1 : Int} (hD : takeI l a 0 cid = (D, a1, c1)) {T : List Int} {a2 : Nat} {c2 : Int} (hT : takeI l a1 c1 12 = (T, a2, c2)) :
    PkRes H s cid m 4 0 D [] [] l.length c2 := by
  obtain ⟨m, rfl⟩ : ∃ k, m = k + 1 := ⟨m - 1, by omega⟩
  obtain ⟨H1, k1, k2, k3, k4, k5, k6⟩ := peekI_pro hs hb hl m (by omega)
  rw [hO] at k1 k5 k6
  simp only at k1 k5 k6
  have K2 : Kp H (H1.push (.cells 24 false [.int .i64 4, .int .i64 0, .nilSlice, .nilSlice, .nilSlice, .int .i64 0, .int .i64 0, .int .i64 0])) := k3.push _
  obtain ⟨r1, H2, a1', a2', a3', a4', a5', a6'⟩ := take_ev (q := H.next + 1) (a := a) (c := 0) hs K2 (by omega) (by simp [k2, k5]) k6 hl cid (by omega) m (by omega)
  simp only [hD] at a4' a5' a6'
  simp only [AH.push_next, k2] at a3'
  have K3 := a2'.kp K2 (by omega)
  have hDl : D.length ≤ 65536 := by have := (takeI_len l a 0 cid).2; rw [hD] at this; simp only at this; omega
  obtain ⟨d, H3, b1, b2, b3⟩ := copied_ev a4' K3 (by omega) m (by omega)
  have K4 := K3.trans b2
  have g1 : H3.get (H.next + 2) = some (.cells 24 false [.int .i64 4, .int .i64 0, .nilSlice, .nilSlice, .nilSlice, .int .i64 0, .int .i64 0, .int .i64 0]) := by
    rw [b2.get _ (by omega), a2'.get _ (by simp [k2]) (by omega)]; simp [k2]
  have g2 : H3.get (H.next + 1) = some (scB s a1 c1) := by rw [b2.get _ (by omega)]; exact a5'
  have g3 : H3.get H.next = some (.cells 24 false zh) := by
    rw [b2.get _ (by omega), a2'.get _ (by simp [k2]; omega) (by omega)]; simp [k2, k4]
  have hn3 := b2.next
  have K5 : Kp H (H3.set (H.next + 2) (.cells 24 false [.int .i64 4, .int .i64 0, d, .nilSlice, .nilSlice, .int .i64 0, .int .i64 0, .int .i64 0])) := K4.set (by omega) _
  obtain ⟨r2, H4, c1', c2', c3', c4', c5', c6'⟩ := take_ev (q := H.next + 1) (a := a1) (c := c1) hs K5 (by omega) (by simp [g2]) a6' hl 12 (by omega) m (by omega)
  simp only [hT] at c5' c6'
  simp only [AH.set_next] at c3'
  have e1 : H4.get (H.next + 2) = some (.cells 24 false [.int .i64 4, .int .i64 0, d, .nilSlice, .nilSlice, .int .i64 0, .int .i64 0, .int .i64 0]) := by
    rw [c2'.get _ (by simp; omega) (by omega)]; simp
  have e2 : H4.get H.next = some (.cells 24 false zh) := by
    rw [c2'.get _ (by simp; omega) (by omega)]; simp [g3]
  have hdo := b3.bs.one
  have n1 : ¬ (f < 64) := by omega
  have K6 := c2'.kp K5 (by omega)
  have hO4 : Ow H2.next H3.next H4 d D := (b3.set (b := H.next + 2) _ (by omega)).kx c2' (by omega)
  simp only [scB, zh] at *
  unfold PkRes
  rw [ev_eq Try.func88 ok88 m _ H (by simp [Try.f88])]
  have hL : ∀ h, lenA Try.prog 22 s h = some (.int .i64 l.length) := hs.len
  simp [Try.f88, ldVar, stVar, hs.one, cells_one hs.one, k1, k2, k4, k5, evHist, ObsOk, ObOk, n1, h128, a1', b1, g1, g2, g3, c1', c5', e1, e2, hdo, cells_one hdo, hL]
  have hn4 := c2'.next
  simp only [AH.set_next] at hn4
  refine ⟨_, _, _, _, _, ⟨⟨rfl, rfl⟩, rfl⟩, (K6.set (by omega) _).set (by omega) _, H3.next, by omega, H3.next, Nat.le_refl _, by simp; omega, ?_, Ow.nil _ _ _, Ow.nil _ _ _⟩
  exact ((hO4.set _ (by omega)).set _ (by omega)).wide (by omega) (Nat.le_refl _) (by simp; omega)
end Go.Ev

/- The program's peek: its last steps. -/
namespace Go.Ev
open Go Go.Proofs
set_option linter.unusedSimpArgs false
set_option linter.unusedVariables false

theorem numberI_nn {l : List Int} (hb : By l) (a : Nat) (c : Int) : 0 ≤ (numberI l a c).1 := by
  unfold numberI
  split
  · simp
  · split
    · simp
    · simp only [getVarP]
      split
      · simp
      · split
        · simp
        · simp only
          exact Int.emod_nonneg _ (Int.pow_ne_zero (by decide))
/-- a failing, or not -/
theorem failIf {H : AH} {q a : Nat} {s : AV} {c : Int} (hq : H.get q = some (scB s a c)) (P0 : Prop) [Decidable P0] (m : Nat) (hm : 1 ≤ m) :
    ∃ H', (P0 → ev Try.prog m 123 [.ptr q 0, .int .i64 3] H = some (U, H')) ∧ (¬ P0 → H' = H) ∧ Kx q H H' ∧ H'.next = H.next ∧ H'.get q = some (scB s a (if P0 ∧ c = 0 then 3 else c)) := by
  by_cases h8 : P0
  · refine ⟨_, fun _ => fail_ev hq m hm, fun h => absurd h8 h, ?_, ?_, ?_⟩
    · split
      · exact (Kx.refl q H).set _
      · exact Kx.refl q H
    · split <;> rfl
    · by_cases hc : c = 0
      · simp [h8, hc]
      · simp [h8, hc, hq]
  · exact ⟨H, fun h => absurd h h8, fun _ => rfl, Kx.refl q H, rfl, by simp [h8, hq]⟩
/-- a number, a test, the bytes -/
theorem end_ev {Hb H : AH} {q a : Nat} {s : AV} {l : List Int} {c : Int} (hs : Bs Hb s l) (hb : By l) (hK : Kp Hb H) (hqb : Hb.next ≤ q) (hqn : q < H.next) (hq : H.get q = some (scB s a c)) (ha : a ≤ l.length) (hl : l.length ≤ 65536)
    (P0 : Prop) [Decidable P0] {n : Int} {a4 : Nat} {c4 : Int} (hN : numberI l a c = (n, a4, c4)) {T : List Int} {a6 : Nat} {c6 : Int} (hT : takeI l a4 (if P0 ∧ c4 = 0 then 3 else c4) n = (T, a6, c6)) (m : Nat) (hm : 22 ≤ m) :
    ∃ H1 H2 r H3, ev Try.prog m 126 [.ptr q 0] H = some (.int .i64 n, H1) ∧ H1.get q = some (scB s a4 c4) ∧ (P0 → ev Try.prog m 123 [.ptr q 0, .int .i64 3] H1 = some (U, H2)) ∧ (¬ P0 → H2 = H1) ∧ H2.get q = some (scB s a4 (if P0 ∧ c4 = 0 then 3 else c4)) ∧
      ev Try.prog m 124 [.ptr q 0, .int .i64 n] H2 = some (r, H3) ∧ Bs Hb r T ∧ H3.get q = some (scB s a6 c6) ∧ a6 ≤ l.length ∧ Kx q H H3 ∧ H3.next = H.next ∧ Kp Hb H3 ∧ (∀ b, b < H.next → b ≠ q → H1.get b = H.get b) ∧ (∀ b, b < H.next → b ≠ q → H2.get b = H.get b) := by
  obtain ⟨H1, k1, k2, k3, k4, k5⟩ := number_ev hs hb hK hqb hq ha hl m (by omega)
  have hnn := numberI_nn hb a c
  simp only [hN] at k1 k4 k5 hnn
  have K1 := k2.kp hK hqb
  obtain ⟨H2, j1, j2, j3, j4, j5⟩ := failIf k4 P0 m (by omega)
  have K2 := j3.kp K1 hqb
  obtain ⟨r, H3, i1, i2, i3, i4, i5, i6⟩ := take_ev hs K2 hqb j5 k5 hl n (by omega) m (by omega)
  simp only [hT] at i4 i5 i6
  exact ⟨H1, H2, r, H3, k1, k4, j1, j2, j5, i1, i4, i5, i6, (k2.trans j3).trans i2, by omega, i2.kp K2 hqb, k2.get, (k2.trans j3).get⟩
end Go.Ev

/- The program's peek: long headers. -/
namespace Go.Ev
open Go Go.Proofs
set_option linter.unusedSimpArgs false
set_option linter.unusedVariables false

theorem peekI_mid {H : AH} {s : AV} {l : List Int} (hs : Bs H s l) (hb : By l) (hl : l.length ≤ 65536) (m : Nat) (hm : 29 ≤ m)
    {f : Int} {a : Nat} (hO : octetI l 0 0 = (f, a, 0)) {V : List Int} {a1 : Nat} {c1 : Int} (hV : takeI l a 0 4 = (V, a1, c1)) {D : List Int} {a2 : Nat} {c2 : Int} (hD : cidI l a1 c1 = (D, a2, c2))
    {S : List Int} {a3 : Nat} (hS : cidI l a2 c2 = (S, a3, 0)) :
    ∃ H1 r0 H2 r1 H3 r2 H4, ev Try.prog m 122 [.ptr (H.next + 1) 0] ((H.push (.cells 24 false zh)).push (.cells 130 false [s, .int .i64 0, .int .i64 0])) = some (.int .i64 f, H1) ∧ H1.next = H.next + 2 ∧ H1.get H.next = some (.cells 24 false zh) ∧
      H1.get (H.next + 1) = some (scB s a 0) ∧ ev Try.prog m 124 [.ptr (H.next + 1) 0, .int .i64 4] (H1.push (.cells 24 false zh)) = some (r0, H2) ∧ ev Try.prog m 90 [r0] H2 = some (.int .i64 (valP V), H2) ∧
      ev Try.prog m 125 [.ptr (H.next + 1) 0] H2 = some (r1, H3) ∧ H3.get (H.next + 2) = some (.cells 24 false zh) ∧ r1.one = true ∧
      ev Try.prog m 125 [.ptr (H.next + 1) 0] (H3.set (H.next + 2) (.cells 24 false [.int .i64 0, .int .i64 0, r1, .nilSlice, .nilSlice, .int .i64 0, .int .i64 0, .int .i64 0])) = some (r2, H4) ∧ H4.get (H.next + 2) = some (.cells 24 false [.int .i64 0, .int .i64 0, r1, .nilSlice, .nilSlice, .int .i64 0, .int .i64 0, .int .i64 0]) ∧ r2.one = true ∧
      H4.get H.next = some (.cells 24 false zh) ∧ H4.get (H.next + 1) = some (scB s a3 0) ∧ a3 ≤ l.length ∧ Kp H H4 ∧ H.next + 3 ≤ H3.next ∧ H3.next ≤ H4.next ∧ Ow (H.next + 3) H3.next H4 r1 D ∧ Ow H3.next H4.next H4 r2 S := by
  obtain ⟨H1, k1, k2, k3, k4, k5, k6⟩ := peekI_pro hs hb hl m (by omega)
  rw [hO] at k1 k5 k6
  simp only at k1 k5 k6
  obtain ⟨r0, H2, r1, H3, r2, H4, v, a1, a2, a3, b1, b2, b3, c1, c2, c3, c4, c5, c6, c7, c8, c9, c10, c11⟩ := ids_ev (H := H1.push (.cells 24 false zh)) (q := H.next + 1) (a := a) (c := 0) hs hb (k3.push _) (by omega) (by simp; omega) (by simp [k2, k5]) k6 hl (H.next + 2) (by omega) (by simp [k2]) (by omega) (by simp [k2, zh]) m (by omega)
  simp only [hV, hD, hS] at a3 c7 c8 c9 c10
  have hr := c4 H.next (by simp; omega) (by omega) (by omega)
  simp [k2, k4] at hr
  subst a3
  simp only [AH.push_next, k2] at c5 c7
  exact ⟨H1, r0, H2, r1, H3, r2, H4, k1, k2, k4, k5, a1, a2, b1, b2, b3, c1, c2, c3, hr, c9, c10, c11, c5, c6, c7, c8⟩
theorem peekI_E1 {H : AH} {s : AV} {l : List Int} {cid : Int} (hs : Bs H s l) (hb : By l) (hl : l.length ≤ 65536) (m : Nat) (hm : 30 ≤ m)
    {f : Int} {a : Nat} (hO : octetI l 0 0 = (f, a, 0)) (h128 : 128 ≤ f) (h256 : f < 256) {V : List Int} {a1 : Nat} {c1 : Int} (hV : takeI l a 0 4 = (V, a1, c1)) {D : List Int} {a2 : Nat} {c2 : Int} (hD : cidI l a1 c1 = (D, a2, c2))
    {S : List Int} {a3 : Nat} (hS : cidI l a2 c2 = (S, a3, 0)) (h0 : valP V = 0) (hx : f = 128) (hv : versP (l.drop a3) = true) : PkRes H s cid m 5 0 D S [] l.length 0 := by
  obtain ⟨m, rfl⟩ : ∃ k, m = k + 1 := ⟨m - 1, by omega⟩
  obtain ⟨H1, r0, H2, r1, H3, r2, H4, k1, k2, k4, k5, j1, j2, b1, b2, b3, e1, e2, e3, hr, hq4, ha3, K4, n3, n4, hDo, hSo⟩ := peekI_mid hs hb hl m (by omega) hO hV hD hS
  obtain ⟨s5, x1, x2⟩ := cutDrop hs a3 ha3
  have hL : ∀ h, lenA Try.prog 22 s h = some (.int .i64 l.length) := hs.len
  have n1 : ¬ (f < 64) := by omega
  have n2 : ¬ (f < 128) := by omega
  have K5 : Kp H (H4.set (H.next + 2) (.cells 24 false [.int .i64 5, .int .i64 0, r1, r2, .nilSlice, .int .i64 0, .int .i64 0, .int .i64 0])) := K4.set (by omega) _
  have x3 := x1 _ (K4.set (b := H.next + 2) (by omega) (.cells 24 false [.int .i64 0, .int .i64 0, r1, r2, .nilSlice, .int .i64 0, .int .i64 0, .int .i64 0]))
  obtain ⟨w, H6, y1, y2⟩ := versionsOf_ev x2 (hb.drop a3) K5 m (by omega)
  have g1 : H6.get (H.next + 2) = some (.cells 24 false [.int .i64 5, .int .i64 0, r1, r2, .nilSlice, .int .i64 0, .int .i64 0, .int .i64 0]) := by rw [y2.get _ (by simp; omega)]; simp
  have g2 : H6.get H.next = some (.cells 24 false zh) := by rw [y2.get _ (by simp; omega)]; simp [hr]
  have hn6 := y2.next
  simp only [AH.set_next] at hn6
  rw [h0] at j2
  rw [hv] at y1
  simp only [scB, zh] at *
  unfold PkRes
  rw [ev_eq Try.func88 ok88 m _ H (by simp [Try.f88])]
  simp [Try.f88, ldVar, stVar, hs.one, cells_one hs.one, k1, k2, k4, k5, j1, j2, b1, b2, b3, cells_one b3, e1, e2, e3, cells_one e3, hr, hq4, hL, n1, n2, evHist, ObsOk, ObOk, x3, y1, g1, g2, hx]
  refine ⟨_, _, _, _, _, ⟨⟨rfl, rfl⟩, rfl⟩, (K5.trans y2).set (by omega) _, H3.next, by omega, H4.next, n4, by simp; omega, ?_, ?_, Ow.nil _ _ _⟩
  · exact ((((hDo.set _ (by omega)).kp y2).set _ (by omega)).wide (by omega) (Nat.le_refl _) (by simp; omega))
  · exact (((hSo.set _ (by omega)).kp y2).set _ (by omega))
theorem peekI_E2 {H : AH} {s : AV} {l : List Int} {cid : Int} (hs : Bs H s l) (hb : By l) (hl : l.length ≤ 65536) (m : Nat) (hm : 30 ≤ m)
    {f : Int} {a : Nat} (hO : octetI l 0 0 = (f, a, 0)) (h128 : 128 ≤ f) (h256 : f < 256) {V : List Int} {a1 : Nat} {c1 : Int} (hV : takeI l a 0 4 = (V, a1, c1)) {D : List Int} {a2 : Nat} {c2 : Int} (hD : cidI l a1 c1 = (D, a2, c2))
    {S : List Int} {a3 : Nat} (hS : cidI l a2 c2 = (S, a3, 0)) (h0 : valP V = 0) (hx : ¬ (f = 128)) : PkRes H s cid m 5 0 D S [] 0 3 := by
  obtain ⟨m, rfl⟩ : ∃ k, m = k + 1 := ⟨m - 1, by omega⟩
  obtain ⟨H1, r0, H2, r1, H3, r2, H4, k1, k2, k4, k5, j1, j2, b1, b2, b3, e1, e2, e3, hr, hq4, ha3, K4, n3, n4, hDo, hSo⟩ := peekI_mid hs hb hl m (by omega) hO hV hD hS
  obtain ⟨s5, x1, x2⟩ := cutDrop hs a3 ha3
  have hL : ∀ h, lenA Try.prog 22 s h = some (.int .i64 l.length) := hs.len
  have n1 : ¬ (f < 64) := by omega
  have n2 : ¬ (f < 128) := by omega
  have K5 : Kp H (H4.set (H.next + 2) (.cells 24 false [.int .i64 5, .int .i64 0, r1, r2, .nilSlice, .int .i64 0, .int .i64 0, .int .i64 0])) := K4.set (by omega) _
  have x3 := x1 _ (K4.set (b := H.next + 2) (by omega) (.cells 24 false [.int .i64 0, .int .i64 0, r1, r2, .nilSlice, .int .i64 0, .int .i64 0, .int .i64 0]))
  obtain ⟨w, H6, y1, y2⟩ := versionsOf_ev x2 (hb.drop a3) K5 m (by omega)
  have g1 : H6.get (H.next + 2) = some (.cells 24 false [.int .i64 5, .int .i64 0, r1, r2, .nilSlice, .int .i64 0, .int .i64 0, .int .i64 0]) := by rw [y2.get _ (by simp; omega)]; simp
  have g2 : H6.get H.next = some (.cells 24 false zh) := by rw [y2.get _ (by simp; omega)]; simp [hr]
  have hn6 := y2.next
  simp only [AH.set_next] at hn6
  rw [h0] at j2
  simp only [scB, zh] at *
  unfold PkRes
  rw [ev_eq Try.func88 ok88 m _ H (by simp [Try.f88])]
  simp [Try.f88, ldVar, stVar, hs.one, cells_one hs.one, k1, k2, k4, k5, j1, j2, b1, b2, b3, cells_one b3, e1, e2, e3, cells_one e3, hr, hq4, hL, n1, n2, evHist, ObsOk, ObOk, x3, y1, g1, g2, hx]
  refine ⟨_, _, _, _, _, ⟨⟨rfl, rfl⟩, rfl⟩, (K5.trans y2).set (by omega) _, H3.next, by omega, H4.next, n4, by simp; omega, ?_, ?_, Ow.nil _ _ _⟩
  · exact ((((hDo.set _ (by omega)).kp y2).set _ (by omega)).wide (by omega) (Nat.le_refl _) (by simp; omega))
  · exact (((hSo.set _ (by omega)).kp y2).set _ (by omega))
theorem peekI_E3 {H : AH} {s : AV} {l : List Int} {cid : Int} (hs : Bs H s l) (hb : By l) (hl : l.length ≤ 65536) (m : Nat) (hm : 30 ≤ m)
    {f : Int} {a : Nat} (hO : octetI l 0 0 = (f, a, 0)) (h128 : 128 ≤ f) (h256 : f < 256) {V : List Int} {a1 : Nat} {c1 : Int} (hV : takeI l a 0 4 = (V, a1, c1)) {D : List Int} {a2 : Nat} {c2 : Int} (hD : cidI l a1 c1 = (D, a2, c2))
    {S : List Int} {a3 : Nat} (hS : cidI l a2 c2 = (S, a3, 0)) (h0 : valP V = 0) (hx : f = 128) (hv : versP (l.drop a3) = false) : PkRes H s cid m 5 0 D S [] 0 3 := by
  obtain ⟨m, rfl⟩ : ∃ k, m = k + 1 := ⟨m - 1, by omega⟩
  obtain ⟨H1, r0, H2, r1, H3, r2, H4, k1, k2, k4, k5, j1, j2, b1, b2, b3, e1, e2, e3, hr, hq4, ha3, K4, n3, n4, hDo, hSo⟩ := peekI_mid hs hb hl m (by omega) hO hV hD hS
  obtain ⟨s5, x1, x2⟩ := cutDrop hs a3 ha3
  have hL : ∀ h, lenA Try.prog 22 s h = some (.int .i64 l.length) := hs.len
  have n1 : ¬ (f < 64) := by omega
  have n2 : ¬ (f < 128) := by omega
  have K5 : Kp H (H4.set (H.next + 2) (.cells 24 false [.int .i64 5, .int .i64 0, r1, r2, .nilSlice, .int .i64 0, .int .i64 0, .int .i64 0])) := K4.set (by omega) _
  have x3 := x1 _ (K4.set (b := H.next + 2) (by omega) (.cells 24 false [.int .i64 0, .int .i64 0, r1, r2, .nilSlice, .int .i64 0, .int .i64 0, .int .i64 0]))
  obtain ⟨w, H6, y1, y2⟩ := versionsOf_ev x2 (hb.drop a3) K5 m (by omega)
  have g1 : H6.get (H.next + 2) = some (.cells 24 false [.int .i64 5, .int .i64 0, r1, r2, .nilSlice, .int .i64 0, .int .i64 0, .int .i64 0]) := by rw [y2.get _ (by simp; omega)]; simp
  have g2 : H6.get H.next = some (.cells 24 false zh) := by rw [y2.get _ (by simp; omega)]; simp [hr]
  have hn6 := y2.next
  simp only [AH.set_next] at hn6
  rw [h0] at j2
  rw [hv] at y1
  simp only [scB, zh] at *
  unfold PkRes
  rw [ev_eq Try.func88 ok88 m _ H (by simp [Try.f88])]
  simp [Try.f88, ldVar, stVar, hs.one, cells_one hs.one, k1, k2, k4, k5, j1, j2, b1, b2, b3, cells_one b3, e1, e2, e3, cells_one e3, hr, hq4, hL, n1, n2, evHist, ObsOk, ObOk, x3, y1, g1, g2, hx]
  refine ⟨_, _, _, _, _, ⟨⟨rfl, rfl⟩, rfl⟩, (K5.trans y2).set (by omega) _, H3.next, by omega, H4.next, n4, by simp; omega, ?_, ?_, Ow.nil _ _ _⟩
  · exact ((((hDo.set _ (by omega)).kp y2).set _ (by omega)).wide (by omega) (Nat.le_refl _) (by simp; omega))
  · exact (((hSo.set _ (by omega)).kp y2).set _ (by omega))
end Go.Ev

/- The program's peek: long headers with a version. -/
namespace Go.Ev
open Go Go.Proofs
set_option linter.unusedSimpArgs false
set_option linter.unusedVariables false

theorem peekI_F1 {H : AH} {s : AV} {l : List Int} {cid : Int} (hs : Bs H s l) (hb : By l) (hl : l.length ≤ 65536) (m : Nat) (hm : 30 ≤ m)
    {f : Int} {a : Nat} (hO : octetI l 0 0 = (f, a, 0)) (h128 : 128 ≤ f) (h256 : f < 256) {V : List Int} {a1 : Nat} {c1 : Int} (hV : takeI l a 0 4 = (V, a1, c1)) {D : List Int} {a2 : Nat} {c2 : Int} (hD : cidI l a1 c1 = (D, a2, c2))
    {S : List Int} {a3 : Nat} (hS : cidI l a2 c2 = (S, a3, 0)) (hv0 : ¬ (valP V = 0)) (hx : f < 192) : PkRes H s cid m 0 (valP V) D S [] 0 3 := by
  obtain ⟨m, rfl⟩ : ∃ k, m = k + 1 := ⟨m - 1, by omega⟩
  obtain ⟨H1, r0, H2, r1, H3, r2, H4, k1, k2, k4, k5, j1, j2, b1, b2, b3, e1, e2, e3, hr, hq4, ha3, K4, n3, n4, hDo, hSo⟩ := peekI_mid hs hb hl m (by omega) hO hV hD hS
  obtain ⟨s5, x1, x2⟩ := cutDrop hs a3 ha3
  have hL : ∀ h, lenA Try.prog 22 s h = some (.int .i64 l.length) := hs.len
  have n1 : ¬ (f < 64) := by omega
  have n2 : ¬ (f < 128) := by omega
  have x3 := x1 _ (K4.set (b := H.next + 2) (by omega) (.cells 24 false [.int .i64 0, .int .i64 0, r1, r2, .nilSlice, .int .i64 0, .int .i64 0, .int .i64 0]))
  simp only [scB, zh] at *
  unfold PkRes
  rw [ev_eq Try.func88 ok88 m _ H (by simp [Try.f88])]
  simp [Try.f88, ldVar, stVar, hs.one, cells_one hs.one, k1, k2, k4, k5, j1, j2, b1, b2, b3, cells_one b3, e1, e2, e3, cells_one e3, hr, hq4, hL, n1, n2, evHist, ObsOk, ObOk, x3, hv0, hx]
  refine ⟨_, _, _, _, _, ⟨⟨rfl, rfl⟩, rfl⟩, (K4.set (by omega) _).set (by omega) _, H3.next, by omega, H4.next, n4, by simp <;> omega, ?_, ?_, Ow.nil _ _ _⟩
  · exact (((hDo.set _ (by omega)).set _ (by omega)).wide (by omega) (Nat.le_refl _) (by simp; omega))
  · exact ((hSo.set _ (by omega)).set _ (by omega))
theorem peekI_F2 {H : AH} {s : AV} {l : List Int} {cid : Int} (hs : Bs H s l) (hb : By l) (hl : l.length ≤ 65536) (m : Nat) (hm : 30 ≤ m)
    {f : Int} {a : Nat} (hO : octetI l 0 0 = (f, a, 0)) (h128 : 128 ≤ f) (h256 : f < 256) {V : List Int} {a1 : Nat} {c1 : Int} (hV : takeI l a 0 4 = (V, a1, c1)) {D : List Int} {a2 : Nat} {c2 : Int} (hD : cidI l a1 c1 = (D, a2, c2))
    {S : List Int} {a3 : Nat} (hS : cidI l a2 c2 = (S, a3, 0)) (hv0 : ¬ (valP V = 0)) (hx : 208 ≤ f) (hx2 : f < 224) : PkRes H s cid m 0 (valP V) D S [] 0 3 := by
  obtain ⟨m, rfl⟩ : ∃ k, m = k + 1 := ⟨m - 1, by omega⟩
  obtain ⟨H1, r0, H2, r1, H3, r2, H4, k1, k2, k4, k5, j1, j2, b1, b2, b3, e1, e2, e3, hr, hq4, ha3, K4, n3, n4, hDo, hSo⟩ := peekI_mid hs hb hl m (by omega) hO hV hD hS
  obtain ⟨s5, x1, x2⟩ := cutDrop hs a3 ha3
  have hL : ∀ h, lenA Try.prog 22 s h = some (.int .i64 l.length) := hs.len
  have n1 : ¬ (f < 64) := by omega
  have n2 : ¬ (f < 128) := by omega
  have wf : IntKind.i64.wrap (f - 192) = f - 192 := wrap_i64 (by omega) (by omega)
  have hk : (f - 192).tdiv 16 = 1 := by rw [Int.tdiv_eq_ediv_of_nonneg (by omega)]; omega
  have n3' : ¬ (f < 192) := by omega
  have wk : IntKind.i64.wrap 1 = 1 := wrap_i64 (by omega) (by omega)
  have x3 := x1 _ (K4.set (b := H.next + 2) (by omega) (.cells 24 false [.int .i64 0, .int .i64 0, r1, r2, .nilSlice, .int .i64 0, .int .i64 0, .int .i64 0]))
  simp only [scB, zh] at *
  unfold PkRes
  rw [ev_eq Try.func88 ok88 m _ H (by simp [Try.f88])]
  simp [Try.f88, ldVar, stVar, hs.one, cells_one hs.one, k1, k2, k4, k5, j1, j2, b1, b2, b3, cells_one b3, e1, e2, e3, cells_one e3, hr, hq4, hL, n1, n2, evHist, ObsOk, ObOk, x3, hv0, wf, hk, wk, n3']
  refine ⟨_, _, _, _, _, ⟨⟨rfl, rfl⟩, rfl⟩, (K4.set (by omega) _).set (by omega) _, H3.next, by omega, H4.next, n4, by simp <;> omega, ?_, ?_, Ow.nil _ _ _⟩
  · exact (((hDo.set _ (by omega)).set _ (by omega)).wide (by omega) (Nat.le_refl _) (by simp; omega))
  · exact ((hSo.set _ (by omega)).set _ (by omega))
theorem peekI_G1 {H : AH} {s : AV} {l : List Int} {cid : Int} (hs : Bs H s l) (hb : By l) (hl : l.length ≤ 65536) (m : Nat) (hm : 30 ≤ m)
    {f : Int} {a : Nat} (hO : octetI l 0 0 = (f, a, 0)) (h128 : 128 ≤ f) (h256 : f < 256) {V : List Int} {a1 : Nat} {c1 : Int} (hV : takeI l a 0 4 = (V, a1, c1)) {D : List Int} {a2 : Nat} {c2 : Int} (hD : cidI l a1 c1 = (D, a2, c2))
    {S : List Int} {a3 : Nat} (hS : cidI l a2 c2 = (S, a3, 0)) (hv0 : ¬ (valP V = 0)) (hx : 240 ≤ f) (hR : l.length - a3 < 9) : PkRes H s cid m 3 (valP V) D S [] 0 2 := by
  obtain ⟨m, rfl⟩ : ∃ k, m = k + 1 := ⟨m - 1, by omega⟩
  obtain ⟨H1, r0, H2, r1, H3, r2, H4, k1, k2, k4, k5, j1, j2, b1, b2, b3, e1, e2, e3, hr, hq4, ha3, K4, n3, n4, hDo, hSo⟩ := peekI_mid hs hb hl m (by omega) hO hV hD hS
  obtain ⟨s5, x1, x2⟩ := cutDrop hs a3 ha3
  have hL : ∀ h, lenA Try.prog 22 s h = some (.int .i64 l.length) := hs.len
  have n1 : ¬ (f < 64) := by omega
  have n2 : ¬ (f < 128) := by omega
  have wf : IntKind.i64.wrap (f - 192) = f - 192 := wrap_i64 (by omega) (by omega)
  have hk : (f - 192).tdiv 16 = 3 := by rw [Int.tdiv_eq_ediv_of_nonneg (by omega)]; omega
  have n3' : ¬ (f < 192) := by omega
  have wk : IntKind.i64.wrap 3 = 3 := wrap_i64 (by omega) (by omega)
  have x3 := x1 _ (K4.set (b := H.next + 2) (by omega) (.cells 24 false [.int .i64 0, .int .i64 0, r1, r2, .nilSlice, .int .i64 0, .int .i64 0, .int .i64 0]))
  have hLr : ∀ h, lenA Try.prog 22 s5 h = some (.int .i64 ((l.length - a3 : Nat) : Int)) := fun h => by rw [x2.len h, List.length_drop]
  have K5 : Kp H (H4.set (H.next + 2) (.cells 24 false [.int .i64 3, .int .i64 (valP V), r1, r2, .nilSlice, .int .i64 0, .int .i64 0, .int .i64 0])) := K4.set (by omega) _
  generalize hRR : l.length - a3 = R at *
  have c1' : ((R : Nat) : Int) < 9 := by omega
  simp only [scB, zh] at *
  unfold PkRes
  rw [ev_eq Try.func88 ok88 m _ H (by simp [Try.f88])]
  simp [Try.f88, ldVar, stVar, hs.one, cells_one hs.one, k1, k2, k4, k5, j1, j2, b1, b2, b3, cells_one b3, e1, e2, e3, cells_one e3, hr, hq4, hL, n1, n2, evHist, ObsOk, ObOk, x3, hv0, wf, hk, wk, n3', hLr, c1']
  refine ⟨_, _, _, _, _, ⟨⟨rfl, rfl⟩, rfl⟩, (K4.set (by omega) _).set (by omega) _, H3.next, by omega, H4.next, n4, by simp <;> omega, ?_, ?_, Ow.nil _ _ _⟩
  · exact (((hDo.set _ (by omega)).set _ (by omega)).wide (by omega) (Nat.le_refl _) (by simp; omega))
  · exact ((hSo.set _ (by omega)).set _ (by omega))
theorem peekI_G2 {H : AH} {s : AV} {l : List Int} {cid : Int} (hs : Bs H s l) (hb : By l) (hl : l.length ≤ 65536) (m : Nat) (hm : 30 ≤ m)
    {f : Int} {a : Nat} (hO : octetI l 0 0 = (f, a, 0)) (h128 : 128 ≤ f) (h256 : f < 256) {V : List Int} {a1 : Nat} {c1 : Int} (hV : takeI l a 0 4 = (V, a1, c1)) {D : List Int} {a2 : Nat} {c2 : Int} (hD : cidI l a1 c1 = (D, a2, c2))
    {S : List Int} {a3 : Nat} (hS : cidI l a2 c2 = (S, a3, 0)) (hv0 : ¬ (valP V = 0)) (hx : 240 ≤ f) (hR : 72 < l.length - a3) : PkRes H s cid m 3 (valP V) D S [] 0 3 := by
  obtain ⟨m, rfl⟩ : ∃ k, m = k + 1 := ⟨m - 1, by omega⟩
  obtain ⟨H1, r0, H2, r1, H3, r2, H4, k1, k2, k4, k5, j1, j2, b1, b2, b3, e1, e2, e3, hr, hq4, ha3, K4, n3, n4, hDo, hSo⟩ := peekI_mid hs hb hl m (by omega) hO hV hD hS
  obtain ⟨s5, x1, x2⟩ := cutDrop hs a3 ha3
  have hL : ∀ h, lenA Try.prog 22 s h = some (.int .i64 l.length) := hs.len
  have n1 : ¬ (f < 64) := by omega
  have n2 : ¬ (f < 128) := by omega
  have wf : IntKind.i64.wrap (f - 192) = f - 192 := wrap_i64 (by omega) (by omega)
  have hk : (f - 192).tdiv 16 = 3 := by rw [Int.tdiv_eq_ediv_of_nonneg (by omega)]; omega
  have n3' : ¬ (f < 192) := by omega
  have wk : IntKind.i64.wrap 3 = 3 := wrap_i64 (by omega) (by omega)
  have x3 := x1 _ (K4.set (b := H.next + 2) (by omega) (.cells 24 false [.int .i64 0, .int .i64 0, r1, r2, .nilSlice, .int .i64 0, .int .i64 0, .int .i64 0]))
  have hLr : ∀ h, lenA Try.prog 22 s5 h = some (.int .i64 ((l.length - a3 : Nat) : Int)) := fun h => by rw [x2.len h, List.length_drop]
  have K5 : Kp H (H4.set (H.next + 2) (.cells 24 false [.int .i64 3, .int .i64 (valP V), r1, r2, .nilSlice, .int .i64 0, .int .i64 0, .int .i64 0])) := K4.set (by omega) _
  generalize hRR : l.length - a3 = R at *
  have c1' : ¬ (((R : Nat) : Int) < 9) := by omega
  have c2' : 64 < ((R : Nat) : Int) - 8 := by omega
  have wR : IntKind.i64.wrap ((R : Nat) - 8 : Int) = (R : Nat) - 8 := wrap_i64 (by omega) (by omega)
  simp only [scB, zh] at *
  unfold PkRes
  rw [ev_eq Try.func88 ok88 m _ H (by simp [Try.f88])]
  simp [Try.f88, ldVar, stVar, hs.one, cells_one hs.one, k1, k2, k4, k5, j1, j2, b1, b2, b3, cells_one b3, e1, e2, e3, cells_one e3, hr, hq4, hL, n1, n2, evHist, ObsOk, ObOk, x3, hv0, wf, hk, wk, n3', hLr, c1', c2', wR]
  refine ⟨_, _, _, _, _, ⟨⟨rfl, rfl⟩, rfl⟩, (K4.set (by omega) _).set (by omega) _, H3.next, by omega, H4.next, n4, by simp <;> omega, ?_, ?_, Ow.nil _ _ _⟩
  · exact (((hDo.set _ (by omega)).set _ (by omega)).wide (by omega) (Nat.le_refl _) (by simp; omega))
  · exact ((hSo.set _ (by omega)).set _ (by omega))
theorem peekI_G3 {H : AH} {s : AV} {l : List Int} {cid : Int} (hs : Bs H s l) (hb : By l) (hl : l.length ≤ 65536) (m : Nat) (hm : 30 ≤ m)
    {f : Int} {a : Nat} (hO : octetI l 0 0 = (f, a, 0)) (h128 : 128 ≤ f) (h256 : f < 256) {V : List Int} {a1 : Nat} {c1 : Int} (hV : takeI l a 0 4 = (V, a1, c1)) {D : List Int} {a2 : Nat} {c2 : Int} (hD : cidI l a1 c1 = (D, a2, c2))
    {S : List Int} {a3 : Nat} (hS : cidI l a2 c2 = (S, a3, 0)) (hv0 : ¬ (valP V = 0)) (hx : 240 ≤ f) (hR : 9 ≤ l.length - a3) (hR2 : l.length - a3 ≤ 72) : PkRes H s cid m 3 (valP V) D S ((l.drop a3).take (l.length - a3 - 8)) l.length 0 := by
  obtain ⟨m, rfl⟩ : ∃ k, m = k + 1 := ⟨m - 1, by omega⟩
  obtain ⟨H1, r0, H2, r1, H3, r2, H4, k1, k2, k4, k5, j1, j2, b1, b2, b3, e1, e2, e3, hr, hq4, ha3, K4, n3, n4, hDo, hSo⟩ := peekI_mid hs hb hl m (by omega) hO hV hD hS
  obtain ⟨s5, x1, x2⟩ := cutDrop hs a3 ha3
  have hL : ∀ h, lenA Try.prog 22 s h = some (.int .i64 l.length) := hs.len
  have n1 : ¬ (f < 64) := by omega
  have n2 : ¬ (f < 128) := by omega
  have wf : IntKind.i64.wrap (f - 192) = f - 192 := wrap_i64 (by omega) (by omega)
  have hk : (f - 192).tdiv 16 = 3 := by rw [Int.tdiv_eq_ediv_of_nonneg (by omega)]; omega
  have n3' : ¬ (f < 192) := by omega
  have wk : IntKind.i64.wrap 3 = 3 := wrap_i64 (by omega) (by omega)
  have x3 := x1 _ (K4.set (b := H.next + 2) (by omega) (.cells 24 false [.int .i64 0, .int .i64 0, r1, r2, .nilSlice, .int .i64 0, .int .i64 0, .int .i64 0]))
  have hLr : ∀ h, lenA Try.prog 22 s5 h = some (.int .i64 ((l.length - a3 : Nat) : Int)) := fun h => by rw [x2.len h, List.length_drop]
  have K5 : Kp H (H4.set (H.next + 2) (.cells 24 false [.int .i64 3, .int .i64 (valP V), r1, r2, .nilSlice, .int .i64 0, .int .i64 0, .int .i64 0])) := K4.set (by omega) _
  obtain ⟨s6, z1, z2⟩ := cutTake x2 (l.length - a3 - 8) (by rw [List.length_drop]; omega) (A := ((l.length - a3 : Nat) : Int) - 8) (by omega)
  have z3 := z1 _ K5
  obtain ⟨w, H6, y1, y2, y3⟩ := copied_ev z2 K5 (by simp; omega) m (by omega)
  have g1 : H6.get (H.next + 2) = some (.cells 24 false [.int .i64 3, .int .i64 (valP V), r1, r2, .nilSlice, .int .i64 0, .int .i64 0, .int .i64 0]) := by rw [y2.get _ (by simp; omega)]; simp
  have g2 : H6.get H.next = some (.cells 24 false zh) := by rw [y2.get _ (by simp; omega)]; simp [hr]
  have hn6 := y2.next
  simp only [AH.set_next] at hn6 y3
  have hwo := y3.bs.one
  generalize hRR : l.length - a3 = R at *
  have c1' : ¬ (((R : Nat) : Int) < 9) := by omega
  have c2' : ¬ (64 < ((R : Nat) : Int) - 8) := by omega
  have wR : IntKind.i64.wrap ((R : Nat) - 8 : Int) = (R : Nat) - 8 := wrap_i64 (by omega) (by omega)
  simp only [scB, zh] at *
  unfold PkRes
  rw [ev_eq Try.func88 ok88 m _ H (by simp [Try.f88])]
  simp [Try.f88, ldVar, stVar, hs.one, cells_one hs.one, k1, k2, k4, k5, j1, j2, b1, b2, b3, cells_one b3, e1, e2, e3, cells_one e3, hr, hq4, hL, n1, n2, evHist, ObsOk, ObOk, x3, hv0, wf, hk, wk, n3', hLr, c1', c2', wR, z3, y1, g1, g2, hwo, cells_one hwo]
  refine ⟨_, _, _, _, _, ⟨⟨rfl, rfl⟩, rfl⟩, ((K5.trans y2).set (by omega) _).set (by omega) _, H3.next, by omega, H4.next, n4, by simp; omega, ?_, ?_, ?_⟩
  · exact (((((hDo.set _ (by omega)).kp y2).set _ (by omega)).set _ (by omega)).wide (by omega) (Nat.le_refl _) (by simp; omega))
  · exact (((hSo.set _ (by omega)).kp y2).set _ (by omega)).set _ (by omega)
  · exact (y3.set _ (by omega)).set _ (by omega)
end Go.Ev

/- The program's peek: long headers with a number. -/
namespace Go.Ev
open Go Go.Proofs
set_option linter.unusedSimpArgs false
set_option linter.unusedVariables false

theorem peekI_H0 {H : AH} {s : AV} {l : List Int} {cid : Int} (hs : Bs H s l) (hb : By l) (hl : l.length ≤ 65536) (m : Nat) (hm : 30 ≤ m)
    {f : Int} {a : Nat} (hO : octetI l 0 0 = (f, a, 0)) (h128 : 128 ≤ f) (h256 : f < 256) {V : List Int} {a1 : Nat} {c1 : Int} (hV : takeI l a 0 4 = (V, a1, c1)) {D : List Int} {a2 : Nat} {c2 : Int} (hD : cidI l a1 c1 = (D, a2, c2))
    {S : List Int} {a3 : Nat} (hS : cidI l a2 c2 = (S, a3, 0)) (hv0 : ¬ (valP V = 0)) (hx : 224 ≤ f) (hx2 : f < 240) {n : Int} {a4 : Nat} {c4 : Int} (hN : numberI l a3 0 = (n, a4, c4)) {T2 : List Int} {a6 : Nat} {c6 : Int} (hT : takeI l a4 (if (c4 = 0 ∧ (n < 12 ∨ 1508 < n)) ∧ c4 = 0 then 3 else c4) n = (T2, a6, c6)) (hc4 : c4 = 0) (p1 : n < 12) : PkRes H s cid m 2 (valP V) D S [] a6 c6 := by
  obtain ⟨m, rfl⟩ : ∃ k, m = k + 1 := ⟨m - 1, by omega⟩
  obtain ⟨H1, r0, H2, r1, H3, r2, H4, k1, k2, k4, k5, j1, j2, b1, b2, b3, e1, e2, e3, hr, hq4, ha3, K4, n3, n4, hDo, hSo⟩ := peekI_mid hs hb hl m (by omega) hO hV hD hS
  obtain ⟨s5, x1, x2⟩ := cutDrop hs a3 ha3
  have hL : ∀ h, lenA Try.prog 22 s h = some (.int .i64 l.length) := hs.len
  have n1 : ¬ (f < 64) := by omega
  have n2 : ¬ (f < 128) := by omega
  have wf : IntKind.i64.wrap (f - 192) = f - 192 := wrap_i64 (by omega) (by omega)
  have hk : (f - 192).tdiv 16 = 2 := by rw [Int.tdiv_eq_ediv_of_nonneg (by omega)]; omega
  have n3' : ¬ (f < 192) := by omega
  have wk : IntKind.i64.wrap 2 = 2 := wrap_i64 (by omega) (by omega)
  have x3 := x1 _ (K4.set (b := H.next + 2) (by omega) (.cells 24 false [.int .i64 0, .int .i64 0, r1, r2, .nilSlice, .int .i64 0, .int .i64 0, .int .i64 0]))
  have K5 : Kp H (H4.set (H.next + 2) (.cells 24 false [.int .i64 2, .int .i64 (valP V), r1, r2, .nilSlice, .int .i64 0, .int .i64 0, .int .i64 0])) := K4.set (by omega) _
  obtain ⟨H5, H6, r5, H7, u1, u2, u3, u4, u5, u6, u7, u8, u9, u10, u11, u12, u13, u14⟩ := end_ev (q := H.next + 1) (a := a3) (c := 0) hs hb K5 (by omega) (by simp; omega) (by simp [hq4]) ha3 hl (c4 = 0 ∧ (n < 12 ∨ 1508 < n)) hN hT m (by omega)
  simp only [AH.set_next] at u11
  have g1 : H7.get (H.next + 2) = some (.cells 24 false [.int .i64 2, .int .i64 (valP V), r1, r2, .nilSlice, .int .i64 0, .int .i64 0, .int .i64 0]) := by rw [u10.get _ (by simp; omega) (by omega)]; simp
  have g2 : H7.get H.next = some (.cells 24 false zh) := by rw [u10.get _ (by simp; omega) (by omega)]; simp [hr]
  have q1 : n < 12 := p1
  have hP : (c4 = 0 ∧ (n < 12 ∨ 1508 < n)) := ⟨hc4, .inl p1⟩
  replace u3 := u3 hP
  subst hc4
  generalize (if (0 = 0 ∧ (n < 12 ∨ 1508 < n)) ∧ (0 : Int) = 0 then (3 : Int) else 0) = cc at *
  simp only [scB, zh] at *
  unfold PkRes
  rw [ev_eq Try.func88 ok88 m _ H (by simp [Try.f88])]
  simp [Try.f88, ldVar, stVar, hs.one, cells_one hs.one, k1, k2, k4, k5, j1, j2, b1, b2, b3, cells_one b3, e1, e2, e3, cells_one e3, hr, hq4, hL, n1, n2, evHist, ObsOk, ObOk, x3, hv0, wf, hk, wk, n3', u1, u2, u5, u6, u8, g1, g2, u3, p1]
  refine ⟨_, _, _, _, _, ⟨⟨rfl, rfl⟩, rfl⟩, u12.set (by omega) _, H3.next, by omega, H4.next, n4, by simp <;> omega, ?_, ?_, Ow.nil _ _ _⟩
  · exact ((((hDo.set _ (by omega)).kx u10 (by omega)).set _ (by omega)).wide (by omega) (Nat.le_refl _) (by simp; omega))
  · exact ((hSo.set _ (by omega)).kx u10 (by omega)).set _ (by omega)
theorem peekI_H1 {H : AH} {s : AV} {l : List Int} {cid : Int} (hs : Bs H s l) (hb : By l) (hl : l.length ≤ 65536) (m : Nat) (hm : 30 ≤ m)
    {f : Int} {a : Nat} (hO : octetI l 0 0 = (f, a, 0)) (h128 : 128 ≤ f) (h256 : f < 256) {V : List Int} {a1 : Nat} {c1 : Int} (hV : takeI l a 0 4 = (V, a1, c1)) {D : List Int} {a2 : Nat} {c2 : Int} (hD : cidI l a1 c1 = (D, a2, c2))
    {S : List Int} {a3 : Nat} (hS : cidI l a2 c2 = (S, a3, 0)) (hv0 : ¬ (valP V = 0)) (hx : 224 ≤ f) (hx2 : f < 240) {n : Int} {a4 : Nat} {c4 : Int} (hN : numberI l a3 0 = (n, a4, c4)) {T2 : List Int} {a6 : Nat} {c6 : Int} (hT : takeI l a4 (if (c4 = 0 ∧ (n < 12 ∨ 1508 < n)) ∧ c4 = 0 then 3 else c4) n = (T2, a6, c6)) (hc4 : c4 = 0) (p1 : ¬ n < 12) (p2 : 1508 < n) : PkRes H s cid m 2 (valP V) D S [] a6 c6 := by
  obtain ⟨m, rfl⟩ : ∃ k, m = k + 1 := ⟨m - 1, by omega⟩
  obtain ⟨H1, r0, H2, r1, H3, r2, H4, k1, k2, k4, k5, j1, j2, b1, b2, b3, e1, e2, e3, hr, hq4, ha3, K4, n3, n4, hDo, hSo⟩ := peekI_mid hs hb hl m (by omega) hO hV hD hS
  obtain ⟨s5, x1, x2⟩ := cutDrop hs a3 ha3
  have hL : ∀ h, lenA Try.prog 22 s h = some (.int .i64 l.length) := hs.len
  have n1 : ¬ (f < 64) := by omega
  have n2 : ¬ (f < 128) := by omega
  have wf : IntKind.i64.wrap (f - 192) = f - 192 := wrap_i64 (by omega) (by omega)
  have hk : (f - 192).tdiv 16 = 2 := by rw [Int.tdiv_eq_ediv_of_nonneg (by omega)]; omega
  have n3' : ¬ (f < 192) := by omega
  have wk : IntKind.i64.wrap 2 = 2 := wrap_i64 (by omega) (by omega)
  have x3 := x1 _ (K4.set (b := H.next + 2) (by omega) (.cells 24 false [.int .i64 0, .int .i64 0, r1, r2, .nilSlice, .int .i64 0, .int .i64 0, .int .i64 0]))
  have K5 : Kp H (H4.set (H.next + 2) (.cells 24 false [.int .i64 2, .int .i64 (valP V), r1, r2, .nilSlice, .int .i64 0, .int .i64 0, .int .i64 0])) := K4.set (by omega) _
  obtain ⟨H5, H6, r5, H7, u1, u2, u3, u4, u5, u6, u7, u8, u9, u10, u11, u12, u13, u14⟩ := end_ev (q := H.next + 1) (a := a3) (c := 0) hs hb K5 (by omega) (by simp; omega) (by simp [hq4]) ha3 hl (c4 = 0 ∧ (n < 12 ∨ 1508 < n)) hN hT m (by omega)
  simp only [AH.set_next] at u11
  have g1 : H7.get (H.next + 2) = some (.cells 24 false [.int .i64 2, .int .i64 (valP V), r1, r2, .nilSlice, .int .i64 0, .int .i64 0, .int .i64 0]) := by rw [u10.get _ (by simp; omega) (by omega)]; simp
  have g2 : H7.get H.next = some (.cells 24 false zh) := by rw [u10.get _ (by simp; omega) (by omega)]; simp [hr]
  have hP : (c4 = 0 ∧ (n < 12 ∨ 1508 < n)) := ⟨hc4, .inr p2⟩
  replace u3 := u3 hP
  subst hc4
  generalize (if (0 = 0 ∧ (n < 12 ∨ 1508 < n)) ∧ (0 : Int) = 0 then (3 : Int) else 0) = cc at *
  simp only [scB, zh] at *
  unfold PkRes
  rw [ev_eq Try.func88 ok88 m _ H (by simp [Try.f88])]
  simp [Try.f88, ldVar, stVar, hs.one, cells_one hs.one, k1, k2, k4, k5, j1, j2, b1, b2, b3, cells_one b3, e1, e2, e3, cells_one e3, hr, hq4, hL, n1, n2, evHist, ObsOk, ObOk, x3, hv0, wf, hk, wk, n3', u1, u2, u5, u6, u8, g1, g2, u3, p1, p2]
  refine ⟨_, _, _, _, _, ⟨⟨rfl, rfl⟩, rfl⟩, u12.set (by omega) _, H3.next, by omega, H4.next, n4, by simp <;> omega, ?_, ?_, Ow.nil _ _ _⟩
  · exact ((((hDo.set _ (by omega)).kx u10 (by omega)).set _ (by omega)).wide (by omega) (Nat.le_refl _) (by simp; omega))
  · exact ((hSo.set _ (by omega)).kx u10 (by omega)).set _ (by omega)
theorem peekI_H2 {H : AH} {s : AV} {l : List Int} {cid : Int} (hs : Bs H s l) (hb : By l) (hl : l.length ≤ 65536) (m : Nat) (hm : 30 ≤ m)
    {f : Int} {a : Nat} (hO : octetI l 0 0 = (f, a, 0)) (h128 : 128 ≤ f) (h256 : f < 256) {V : List Int} {a1 : Nat} {c1 : Int} (hV : takeI l a 0 4 = (V, a1, c1)) {D : List Int} {a2 : Nat} {c2 : Int} (hD : cidI l a1 c1 = (D, a2, c2))
    {S : List Int} {a3 : Nat} (hS : cidI l a2 c2 = (S, a3, 0)) (hv0 : ¬ (valP V = 0)) (hx : 224 ≤ f) (hx2 : f < 240) {n : Int} {a4 : Nat} {c4 : Int} (hN : numberI l a3 0 = (n, a4, c4)) {T2 : List Int} {a6 : Nat} {c6 : Int} (hT : takeI l a4 (if (c4 = 0 ∧ (n < 12 ∨ 1508 < n)) ∧ c4 = 0 then 3 else c4) n = (T2, a6, c6)) (hc4 : c4 = 0) (p1 : ¬ n < 12) (p2 : ¬ 1508 < n) : PkRes H s cid m 2 (valP V) D S [] a6 c6 := by
  obtain ⟨m, rfl⟩ : ∃ k, m = k + 1 := ⟨m - 1, by omega⟩
  obtain ⟨H1, r0, H2, r1, H3, r2, H4, k1, k2, k4, k5, j1, j2, b1, b2, b3, e1, e2, e3, hr, hq4, ha3, K4, n3, n4, hDo, hSo⟩ := peekI_mid hs hb hl m (by omega) hO hV hD hS
  obtain ⟨s5, x1, x2⟩ := cutDrop hs a3 ha3
  have hL : ∀ h, lenA Try.prog 22 s h = some (.int .i64 l.length) := hs.len
  have n1 : ¬ (f < 64) := by omega
  have n2 : ¬ (f < 128) := by omega
  have wf : IntKind.i64.wrap (f - 192) = f - 192 := wrap_i64 (by omega) (by omega)
  have hk : (f - 192).tdiv 16 = 2 := by rw [Int.tdiv_eq_ediv_of_nonneg (by omega)]; omega
  have n3' : ¬ (f < 192) := by omega
  have wk : IntKind.i64.wrap 2 = 2 := wrap_i64 (by omega) (by omega)
  have x3 := x1 _ (K4.set (b := H.next + 2) (by omega) (.cells 24 false [.int .i64 0, .int .i64 0, r1, r2, .nilSlice, .int .i64 0, .int .i64 0, .int .i64 0]))
  have K5 : Kp H (H4.set (H.next + 2) (.cells 24 false [.int .i64 2, .int .i64 (valP V), r1, r2, .nilSlice, .int .i64 0, .int .i64 0, .int .i64 0])) := K4.set (by omega) _
  obtain ⟨H5, H6, r5, H7, u1, u2, u3, u4, u5, u6, u7, u8, u9, u10, u11, u12, u13, u14⟩ := end_ev (q := H.next + 1) (a := a3) (c := 0) hs hb K5 (by omega) (by simp; omega) (by simp [hq4]) ha3 hl (c4 = 0 ∧ (n < 12 ∨ 1508 < n)) hN hT m (by omega)
  simp only [AH.set_next] at u11
  have g1 : H7.get (H.next + 2) = some (.cells 24 false [.int .i64 2, .int .i64 (valP V), r1, r2, .nilSlice, .int .i64 0, .int .i64 0, .int .i64 0]) := by rw [u10.get _ (by simp; omega) (by omega)]; simp
  have g2 : H7.get H.next = some (.cells 24 false zh) := by rw [u10.get _ (by simp; omega) (by omega)]; simp [hr]
  have hP : ¬ (c4 = 0 ∧ (n < 12 ∨ 1508 < n)) := fun h => by rcases h.2 with h | h <;> omega
  have u4' := u4 hP
  subst u4'
  subst hc4
  generalize (if (0 = 0 ∧ (n < 12 ∨ 1508 < n)) ∧ (0 : Int) = 0 then (3 : Int) else 0) = cc at *
  simp only [scB, zh] at *
  unfold PkRes
  rw [ev_eq Try.func88 ok88 m _ H (by simp [Try.f88])]
  simp [Try.f88, ldVar, stVar, hs.one, cells_one hs.one, k1, k2, k4, k5, j1, j2, b1, b2, b3, cells_one b3, e1, e2, e3, cells_one e3, hr, hq4, hL, n1, n2, evHist, ObsOk, ObOk, x3, hv0, wf, hk, wk, n3', u1, u2, u5, u6, u8, g1, g2, p1, p2]
  refine ⟨_, _, _, _, _, ⟨⟨rfl, rfl⟩, rfl⟩, u12.set (by omega) _, H3.next, by omega, H4.next, n4, by simp <;> omega, ?_, ?_, Ow.nil _ _ _⟩
  · exact ((((hDo.set _ (by omega)).kx u10 (by omega)).set _ (by omega)).wide (by omega) (Nat.le_refl _) (by simp; omega))
  · exact ((hSo.set _ (by omega)).kx u10 (by omega)).set _ (by omega)
theorem peekI_H3 {H : AH} {s : AV} {l : List Int} {cid : Int} (hs : Bs H s l) (hb : By l) (hl : l.length ≤ 65536) (m : Nat) (hm : 30 ≤ m)
    {f : Int} {a : Nat} (hO : octetI l 0 0 = (f, a, 0)) (h128 : 128 ≤ f) (h256 : f < 256) {V : List Int} {a1 : Nat} {c1 : Int} (hV : takeI l a 0 4 = (V, a1, c1)) {D : List Int} {a2 : Nat} {c2 : Int} (hD : cidI l a1 c1 = (D, a2, c2))
    {S : List Int} {a3 : Nat} (hS : cidI l a2 c2 = (S, a3, 0)) (hv0 : ¬ (valP V = 0)) (hx : 224 ≤ f) (hx2 : f < 240) {n : Int} {a4 : Nat} {c4 : Int} (hN : numberI l a3 0 = (n, a4, c4)) {T2 : List Int} {a6 : Nat} {c6 : Int} (hT : takeI l a4 (if (c4 = 0 ∧ (n < 12 ∨ 1508 < n)) ∧ c4 = 0 then 3 else c4) n = (T2, a6, c6)) (hc4 : ¬ c4 = 0) : PkRes H s cid m 2 (valP V) D S [] a6 c6 := by
  obtain ⟨m, rfl⟩ : ∃ k, m = k + 1 := ⟨m - 1, by omega⟩
  obtain ⟨H1, r0, H2, r1, H3, r2, H4, k1, k2, k4, k5, j1, j2, b1, b2, b3, e1, e2, e3, hr, hq4, ha3, K4, n3, n4, hDo, hSo⟩ := peekI_mid hs hb hl m (by omega) hO hV hD hS
  obtain ⟨s5, x1, x2⟩ := cutDrop hs a3 ha3
  have hL : ∀ h, lenA Try.prog 22 s h = some (.int .i64 l.length) := hs.len
  have n1 : ¬ (f < 64) := by omega
  have n2 : ¬ (f < 128) := by omega
  have wf : IntKind.i64.wrap (f - 192) = f - 192 := wrap_i64 (by omega) (by omega)
  have hk : (f - 192).tdiv 16 = 2 := by rw [Int.tdiv_eq_ediv_of_nonneg (by omega)]; omega
  have n3' : ¬ (f < 192) := by omega
  have wk : IntKind.i64.wrap 2 = 2 := wrap_i64 (by omega) (by omega)
  have x3 := x1 _ (K4.set (b := H.next + 2) (by omega) (.cells 24 false [.int .i64 0, .int .i64 0, r1, r2, .nilSlice, .int .i64 0, .int .i64 0, .int .i64 0]))
  have K5 : Kp H (H4.set (H.next + 2) (.cells 24 false [.int .i64 2, .int .i64 (valP V), r1, r2, .nilSlice, .int .i64 0, .int .i64 0, .int .i64 0])) := K4.set (by omega) _
  obtain ⟨H5, H6, r5, H7, u1, u2, u3, u4, u5, u6, u7, u8, u9, u10, u11, u12, u13, u14⟩ := end_ev (q := H.next + 1) (a := a3) (c := 0) hs hb K5 (by omega) (by simp; omega) (by simp [hq4]) ha3 hl (c4 = 0 ∧ (n < 12 ∨ 1508 < n)) hN hT m (by omega)
  simp only [AH.set_next] at u11
  have g1 : H7.get (H.next + 2) = some (.cells 24 false [.int .i64 2, .int .i64 (valP V), r1, r2, .nilSlice, .int .i64 0, .int .i64 0, .int .i64 0]) := by rw [u10.get _ (by simp; omega) (by omega)]; simp
  have g2 : H7.get H.next = some (.cells 24 false zh) := by rw [u10.get _ (by simp; omega) (by omega)]; simp [hr]
  have hP : ¬ (c4 = 0 ∧ (n < 12 ∨ 1508 < n)) := fun h => hc4 h.1
  have u4' := u4 hP
  subst u4'
  generalize (if (c4 = 0 ∧ (n < 12 ∨ 1508 < n)) ∧ c4 = 0 then (3 : Int) else c4) = cc at *
  simp only [scB, zh] at *
  unfold PkRes
  rw [ev_eq Try.func88 ok88 m _ H (by simp [Try.f88])]
  simp [Try.f88, ldVar, stVar, hs.one, cells_one hs.one, k1, k2, k4, k5, j1, j2, b1, b2, b3, cells_one b3, e1, e2, e3, cells_one e3, hr, hq4, hL, n1, n2, evHist, ObsOk, ObOk, x3, hv0, wf, hk, wk, n3', u1, u2, u5, u6, u8, g1, g2, hc4, U]
  refine ⟨_, _, _, _, _, ⟨⟨rfl, rfl⟩, rfl⟩, u12.set (by omega) _, H3.next, by omega, H4.next, n4, by simp <;> omega, ?_, ?_, Ow.nil _ _ _⟩
  · exact ((((hDo.set _ (by omega)).kx u10 (by omega)).set _ (by omega)).wide (by omega) (Nat.le_refl _) (by simp; omega))
  · exact ((hSo.set _ (by omega)).kx u10 (by omega)).set _ (by omega)
end Go.Ev

/- The program's peek: long headers with a token. -/
namespace Go.Ev
open Go Go.Proofs
set_option linter.unusedSimpArgs false
set_option linter.unusedVariables false

theorem peekI_I00 {H : AH} {s : AV} {l : List Int} {cid : Int} (hs : Bs H s l) (hb : By l) (hl : l.length ≤ 65536) (m : Nat) (hm : 30 ≤ m)
    {f : Int} {a : Nat} (hO : octetI l 0 0 = (f, a, 0)) (h128 : 128 ≤ f) (h256 : f < 256) {V : List Int} {a1 : Nat} {c1 : Int} (hV : takeI l a 0 4 = (V, a1, c1)) {D : List Int} {a2 : Nat} {c2 : Int} (hD : cidI l a1 c1 = (D, a2, c2))
    {S : List Int} {a3 : Nat} (hS : cidI l a2 c2 = (S, a3, 0)) (hv0 : ¬ (valP V = 0)) (hx : 192 ≤ f) (hx2 : f < 208) {k : Int} {a5 : Nat} {c5 : Int} (hN0 : numberI l a3 0 = (k, a5, c5)) {T : List Int} {a7 : Nat} {c7 : Int} (hT0 : takeI l a5 (if 64 < k ∧ c5 = 0 then 3 else c5) k = (T, a7, c7)) (hk64 : ¬ 64 < k) {n : Int} {a4 : Nat} {c4 : Int} (hN : numberI l a7 c7 = (n, a4, c4)) {T2 : List Int} {a6 : Nat} {c6 : Int} (hT : takeI l a4 (if (c4 = 0 ∧ (n < 12 ∨ 1508 < n)) ∧ c4 = 0 then 3 else c4) n = (T2, a6, c6)) (hc4 : c4 = 0) (p1 : n < 12) : PkRes H s cid m 1 (valP V) D S T a6 c6 := by
  obtain ⟨m, rfl⟩ : ∃ k, m = k + 1 := ⟨m - 1, by omega⟩
  obtain ⟨H1, r0, H2, r1, H3, r2, H4, k1, k2, k4, k5, j1, j2, b1, b2, b3, e1, e2, e3, hr, hq4, ha3, K4, n3, n4, hDo, hSo⟩ := peekI_mid hs hb hl m (by omega) hO hV hD hS
  obtain ⟨s5, x1, x2⟩ := cutDrop hs a3 ha3
  have hL : ∀ h, lenA Try.prog 22 s h = some (.int .i64 l.length) := hs.len
  have n1 : ¬ (f < 64) := by omega
  have n2 : ¬ (f < 128) := by omega
  have wf : IntKind.i64.wrap (f - 192) = f - 192 := wrap_i64 (by omega) (by omega)
  have hk : (f - 192).tdiv 16 = 0 := by rw [Int.tdiv_eq_ediv_of_nonneg (by omega)]; omega
  have n3' : ¬ (f < 192) := by omega
  have wk : IntKind.i64.wrap 0 = 0 := wrap_i64 (by omega) (by omega)
  have x3 := x1 _ (K4.set (b := H.next + 2) (by omega) (.cells 24 false [.int .i64 0, .int .i64 0, r1, r2, .nilSlice, .int .i64 0, .int .i64 0, .int .i64 0]))
  have K5 : Kp H (H4.set (H.next + 2) (.cells 24 false [.int .i64 1, .int .i64 (valP V), r1, r2, .nilSlice, .int .i64 0, .int .i64 0, .int .i64 0])) := K4.set (by omega) _
  obtain ⟨A5, A6, r5, A7, v1, v2, v3, v4, v5, v6, v7, v8, v9, v10, v11, v12, v13, v14⟩ := end_ev (q := H.next + 1) (a := a3) (c := 0) hs hb K5 (by omega) (by simp; omega) (by simp [hq4]) ha3 hl (64 < k) hN0 hT0 m (by omega)
  simp only [AH.set_next] at v11
  have hTl : T.length ≤ 65536 := by have := (takeI_len l a5 (if 64 < k ∧ c5 = 0 then 3 else c5) k).2; rw [hT0] at this; simp only at this; omega
  obtain ⟨w, A8, y1, y2, y3⟩ := copied_ev v7 v12 (by omega) m (by omega)
  have hwo := y3.bs.one
  have hn8 := y2.next
  have d1 : A7.get (H.next + 2) = some (.cells 24 false [.int .i64 1, .int .i64 (valP V), r1, r2, .nilSlice, .int .i64 0, .int .i64 0, .int .i64 0]) := by rw [v10.get _ (by simp; omega) (by omega)]; simp
  have d2 : A7.get H.next = some (.cells 24 false zh) := by rw [v10.get _ (by simp; omega) (by omega)]; simp [hr]
  have d3 : A8.get (H.next + 2) = some (.cells 24 false [.int .i64 1, .int .i64 (valP V), r1, r2, .nilSlice, .int .i64 0, .int .i64 0, .int .i64 0]) := by rw [y2.get _ (by omega)]; exact d1
  have d4 : A8.get H.next = some (.cells 24 false zh) := by rw [y2.get _ (by omega)]; exact d2
  have d5 : A8.get (H.next + 1) = some (scB s a7 c7) := by rw [y2.get _ (by omega)]; exact v8
  have K8 : Kp H (A8.set (H.next + 2) (.cells 24 false [.int .i64 1, .int .i64 (valP V), r1, r2, w, .int .i64 0, .int .i64 0, .int .i64 0])) := (v12.trans y2).set (by omega) _
  obtain ⟨H5, H6, r6, H7, u1, u2, u3, u4, u5, u6, u7, u8, u9, u10, u11, u12, u13, u14⟩ := end_ev (q := H.next + 1) (a := a7) (c := c7) hs hb K8 (by omega) (by simp; omega) (by simp [d5]) v9 hl (c4 = 0 ∧ (n < 12 ∨ 1508 < n)) hN hT m (by omega)
  simp only [AH.set_next] at u11
  have g1 : H7.get (H.next + 2) = some (.cells 24 false [.int .i64 1, .int .i64 (valP V), r1, r2, w, .int .i64 0, .int .i64 0, .int .i64 0]) := by rw [u10.get _ (by simp; omega) (by omega)]; simp
  have g2 : H7.get H.next = some (.cells 24 false zh) := by rw [u10.get _ (by simp; omega) (by omega)]; simp [d4]
  have v4' := v4 hk64
  subst v4'
  have q1 : n < 12 := p1
  have hP : (c4 = 0 ∧ (n < 12 ∨ 1508 < n)) := ⟨hc4, .inl p1⟩
  replace u3 := u3 hP
  subst hc4
  generalize (if (0 = 0 ∧ (n < 12 ∨ 1508 < n)) ∧ (0 : Int) = 0 then (3 : Int) else 0) = cc at *
  generalize (if 64 < k ∧ c5 = 0 then (3 : Int) else c5) = cd at *
  simp only [scB, zh] at *
  unfold PkRes
  rw [ev_eq Try.func88 ok88 m _ H (by simp [Try.f88])]
  simp [Try.f88, ldVar, stVar, hs.one, cells_one hs.one, k1, k2, k4, k5, j1, j2, b1, b2, b3, cells_one b3, e1, e2, e3, cells_one e3, hr, hq4, hL, n1, n2, evHist, ObsOk, ObOk, x3, hv0, wf, hk, wk, n3', v1, v2, v5, v6, v8, d1, d2, d3, d4, d5, y1, hwo, cells_one hwo, u1, u2, u5, u6, u8, g1, g2, hk64, u3, p1]
  refine ⟨_, _, _, _, _, ⟨⟨rfl, rfl⟩, rfl⟩, u12.set (by omega) _, H3.next, by omega, H4.next, n4, by simp <;> omega, ?_, ?_, ?_⟩
  · exact (((((((hDo.set _ (by omega)).kx v10 (by omega)).kp y2).set _ (by omega)).kx u10 (by omega)).set _ (by omega)).wide (by omega) (Nat.le_refl _) (by simp; omega))
  · exact (((((hSo.set _ (by omega)).kx v10 (by omega)).kp y2).set _ (by omega)).kx u10 (by omega)).set _ (by omega)
  · exact (((y3.set _ (by omega)).kx u10 (by omega)).set _ (by omega)).wide (by omega) (by simp; omega) (by simp)
theorem peekI_I01 {H : AH} {s : AV} {l : List Int} {cid : Int} (hs : Bs H s l) (hb : By l) (hl : l.length ≤ 65536) (m : Nat) (hm : 30 ≤ m)
    {f : Int} {a : Nat} (hO : octetI l 0 0 = (f, a, 0)) (h128 : 128 ≤ f) (h256 : f < 256) {V : List Int} {a1 : Nat} {c1 : Int} (hV : takeI l a 0 4 = (V, a1, c1)) {D : List Int} {a2 : Nat} {c2 : Int} (hD : cidI l a1 c1 = (D, a2, c2))
    {S : List Int} {a3 : Nat} (hS : cidI l a2 c2 = (S, a3, 0)) (hv0 : ¬ (valP V = 0)) (hx : 192 ≤ f) (hx2 : f < 208) {k : Int} {a5 : Nat} {c5 : Int} (hN0 : numberI l a3 0 = (k, a5, c5)) {T : List Int} {a7 : Nat} {c7 : Int} (hT0 : takeI l a5 (if 64 < k ∧ c5 = 0 then 3 else c5) k = (T, a7, c7)) (hk64 : ¬ 64 < k) {n : Int} {a4 : Nat} {c4 : Int} (hN : numberI l a7 c7 = (n, a4, c4)) {T2 : List Int} {a6 : Nat} {c6 : Int} (hT : takeI l a4 (if (c4 = 0 ∧ (n < 12 ∨ 1508 < n)) ∧ c4 = 0 then 3 else c4) n = (T2, a6, c6)) (hc4 : c4 = 0) (p1 : ¬ n < 12) (p2 : 1508 < n) : PkRes H s cid m 1 (valP V) D S T a6 c6 := by
  obtain ⟨m, rfl⟩ : ∃ k, m = k + 1 := ⟨m - 1, by omega⟩
  obtain ⟨H1, r0, H2, r1, H3, r2, H4, k1, k2, k4, k5, j1, j2, b1, b2, b3, e1, e2, e3, hr, hq4, ha3, K4, n3, n4, hDo, hSo⟩ := peekI_mid hs hb hl m (by omega) hO hV hD hS
  obtain ⟨s5, x1, x2⟩ := cutDrop hs a3 ha3
  have hL : ∀ h, lenA Try.prog 22 s h = some (.int .i64 l.length) := hs.len
  have n1 : ¬ (f < 64) := by omega
  have n2 : ¬ (f < 128) := by omega
  have wf : IntKind.i64.wrap (f - 192) = f - 192 := wrap_i64 (by omega) (by omega)
  have hk : (f - 192).tdiv 16 = 0 := by rw [Int.tdiv_eq_ediv_of_nonneg (by omega)]; omega
  have n3' : ¬ (f < 192) := by omega
  have wk : IntKind.i64.wrap 0 = 0 := wrap_i64 (by omega) (by omega)
  have x3 := x1 _ (K4.set (b := H.next + 2) (by omega) (.cells 24 false [.int .i64 0, .int .i64 0, r1, r2, .nilSlice, .int .i64 0, .int .i64 0, .int .i64 0]))
  have K5 : Kp H (H4.set (H.next + 2) (.cells 24 false [.int .i64 1, .int .i64 (valP V), r1, r2, .nilSlice, .int .i64 0, .int .i64 0, .int .i64 0])) := K4.set (by omega) _
  obtain ⟨A5, A6, r5, A7, v1, v2, v3, v4, v5, v6, v7, v8, v9, v10, v11, v12, v13, v14⟩ := end_ev (q := H.next + 1) (a := a3) (c := 0) hs hb K5 (by omega) (by simp; omega) (by simp [hq4]) ha3 hl (64 < k) hN0 hT0 m (by omega)
  simp only [AH.set_next] at v11
  have hTl : T.length ≤ 65536 := by have := (takeI_len l a5 (if 64 < k ∧ c5 = 0 then 3 else c5) k).2; rw [hT0] at this; simp only at this; omega
  obtain ⟨w, A8, y1, y2, y3⟩ := copied_ev v7 v12 (by omega) m (by omega)
  have hwo := y3.bs.one
  have hn8 := y2.next
  have d1 : A7.get (H.next + 2) = some (.cells 24 false [.int .i64 1, .int .i64 (valP V), r1, r2, .nilSlice, .int .i64 0, .int .i64 0, .int .i64 0]) := by rw [v10.get _ (by simp; omega) (by omega)]; simp
  have d2 : A7.get H.next = some (.cells 24 false zh) := by rw [v10.get _ (by simp; omega) (by omega)]; simp [hr]
  have d3 : A8.get (H.next + 2) = some (.cells 24 false [.int .i64 1, .int .i64 (valP V), r1, r2, .nilSlice, .int .i64 0, .int .i64 0, .int .i64 0]) := by rw [y2.get _ (by omega)]; exact d1
  have d4 : A8.get H.next = some (.cells 24 false zh) := by rw [y2.get _ (by omega)]; exact d2
  have d5 : A8.get (H.next + 1) = some (scB s a7 c7) := by rw [y2.get _ (by omega)]; exact v8
  have K8 : Kp H (A8.set (H.next + 2) (.cells 24 false [.int .i64 1, .int .i64 (valP V), r1, r2, w, .int .i64 0, .int .i64 0, .int .i64 0])) := (v12.trans y2).set (by omega) _
  obtain ⟨H5, H6, r6, H7, u1, u2, u3, u4, u5, u6, u7, u8, u9, u10, u11, u12, u13, u14⟩ := end_ev (q := H.next + 1) (a := a7) (c := c7) hs hb K8 (by omega) (by simp; omega) (by simp [d5]) v9 hl (c4 = 0 ∧ (n < 12 ∨ 1508 < n)) hN hT m (by omega)
  simp only [AH.set_next] at u11
  have g1 : H7.get (H.next + 2) = some (.cells 24 false [.int .i64 1, .int .i64 (valP V), r1, r2, w, .int .i64 0, .int .i64 0, .int .i64 0]) := by rw [u10.get _ (by simp; omega) (by omega)]; simp
  have g2 : H7.get H.next = some (.cells 24 false zh) := by rw [u10.get _ (by simp; omega) (by omega)]; simp [d4]
  have v4' := v4 hk64
  subst v4'
  have hP : (c4 = 0 ∧ (n < 12 ∨ 1508 < n)) := ⟨hc4, .inr p2⟩
  replace u3 := u3 hP
  subst hc4
  generalize (if (0 = 0 ∧ (n < 12 ∨ 1508 < n)) ∧ (0 : Int) = 0 then (3 : Int) else 0) = cc at *
  generalize (if 64 < k ∧ c5 = 0 then (3 : Int) else c5) = cd at *
  simp only [scB, zh] at *
  unfold PkRes
  rw [ev_eq Try.func88 ok88 m _ H (by simp [Try.f88])]
  simp [Try.f88, ldVar, stVar, hs.one, cells_one hs.one, k1, k2, k4, k5, j1, j2, b1, b2, b3, cells_one b3, e1, e2, e3, cells_one e3, hr, hq4, hL, n1, n2, evHist, ObsOk, ObOk, x3, hv0, wf, hk, wk, n3', v1, v2, v5, v6, v8, d1, d2, d3, d4, d5, y1, hwo, cells_one hwo, u1, u2, u5, u6, u8, g1, g2, hk64, u3, p1, p2]
  refine ⟨_, _, _, _, _, ⟨⟨rfl, rfl⟩, rfl⟩, u12.set (by omega) _, H3.next, by omega, H4.next, n4, by simp <;> omega, ?_, ?_, ?_⟩
  · exact (((((((hDo.set _ (by omega)).kx v10 (by omega)).kp y2).set _ (by omega)).kx u10 (by omega)).set _ (by omega)).wide (by omega) (Nat.le_refl _) (by simp; omega))
  · exact (((((hSo.set _ (by omega)).kx v10 (by omega)).kp y2).set _ (by omega)).kx u10 (by omega)).set _ (by omega)
  · exact (((y3.set _ (by omega)).kx u10 (by omega)).set _ (by omega)).wide (by omega) (by simp; omega) (by simp)
theorem peekI_I02 {H : AH} {s : AV} {l : List Int} {cid : Int} (hs : Bs H s l) (hb : By l) (hl : l.length ≤ 65536) (m : Nat) (hm : 30 ≤ m)
    {f : Int} {a : Nat} (hO : octetI l 0 0 = (f, a, 0)) (h128 : 128 ≤ f) (h256 : f < 256) {V : List Int} {a1 : Nat} {c1 : Int} (hV : takeI l a 0 4 = (V, a1, c1)) {D : List Int} {a2 : Nat} {c2 : Int} (hD : cidI l a1 c1 = (D, a2, c2))
    {S : List Int} {a3 : Nat} (hS : cidI l a2 c2 = (S, a3, 0)) (hv0 : ¬ (valP V = 0)) (hx : 192 ≤ f) (hx2 : f < 208) {k : Int} {a5 : Nat} {c5 : Int} (hN0 : numberI l a3 0 = (k, a5, c5)) {T : List Int} {a7 : Nat} {c7 : Int} (hT0 : takeI l a5 (if 64 < k ∧ c5 = 0 then 3 else c5) k = (T, a7, c7)) (hk64 : ¬ 64 < k) {n : Int} {a4 : Nat} {c4 : Int} (hN : numberI l a7 c7 = (n, a4, c4)) {T2 : List Int} {a6 : Nat} {c6 : Int} (hT : takeI l a4 (if (c4 = 0 ∧ (n < 12 ∨ 1508 < n)) ∧ c4 = 0 then 3 else c4) n = (T2, a6, c6)) (hc4 : c4 = 0) (p1 : ¬ n < 12) (p2 : ¬ 1508 < n) : PkRes H s cid m 1 (valP V) D S T a6 c6 := by
  obtain ⟨m, rfl⟩ : ∃ k, m = k + 1 := ⟨m - 1, by omega⟩
  obtain ⟨H1, r0, H2, r1, H3, r2, H4, k1, k2, k4, k5, j1, j2, b1, b2, b3, e1, e2, e3, hr, hq4, ha3, K4, n3, n4, hDo, hSo⟩ := peekI_mid hs hb hl m (by omega) hO hV hD hS
  obtain ⟨s5, x1, x2⟩ := cutDrop hs a3 ha3
  have hL : ∀ h, lenA Try.prog 22 s h = some (.int .i64 l.length) := hs.len
  have n1 : ¬ (f < 64) := by omega
  have n2 : ¬ (f < 128) := by omega
  have wf : IntKind.i64.wrap (f - 192) = f - 192 := wrap_i64 (by omega) (by omega)
  have hk : (f - 192).tdiv 16 = 0 := by rw [Int.tdiv_eq_ediv_of_nonneg (by omega)]; omega
  have n3' : ¬ (f < 192) := by omega
  have wk : IntKind.i64.wrap 0 = 0 := wrap_i64 (by omega) (by omega)
  have x3 := x1 _ (K4.set (b := H.next + 2) (by omega) (.cells 24 false [.int .i64 0, .int .i64 0, r1, r2, .nilSlice, .int .i64 0, .int .i64 0, .int .i64 0]))
  have K5 : Kp H (H4.set (H.next + 2) (.cells 24 false [.int .i64 1, .int .i64 (valP V), r1, r2, .nilSlice, .int .i64 0, .int .i64 0, .int .i64 0])) := K4.set (by omega) _
  obtain ⟨A5, A6, r5, A7, v1, v2, v3, v4, v5, v6, v7, v8, v9, v10, v11, v12, v13, v14⟩ := end_ev (q := H.next + 1) (a := a3) (c := 0) hs hb K5 (by omega) (by simp; omega) (by simp [hq4]) ha3 hl (64 < k) hN0 hT0 m (by omega)
  simp only [AH.set_next] at v11
  have hTl : T.length ≤ 65536 := by have := (takeI_len l a5 (if 64 < k ∧ c5 = 0 then 3 else c5) k).2; rw [hT0] at this; simp only at this; omega
  obtain ⟨w, A8, y1, y2, y3⟩ := copied_ev v7 v12 (by omega) m (by omega)
  have hwo := y3.bs.one
  have hn8 := y2.next
  have d1 : A7.get (H.next + 2) = some (.cells 24 false [.int .i64 1, .int .i64 (valP V), r1, r2, .nilSlice, .int .i64 0, .int .i64 0, .int .i64 0]) := by rw [v10.get _ (by simp; omega) (by omega)]; simp
  have d2 : A7.get H.next = some (.cells 24 false zh) := by rw [v10.get _ (by simp; omega) (by omega)]; simp [hr]
  have d3 : A8.get (H.next + 2) = some (.cells 24 false [.int .i64 1, .int .i64 (valP V), r1, r2, .nilSlice, .int .i64 0, .int .i64 0, .int .i64 0]) := by rw [y2.get _ (by omega)]; exact d1
  have d4 : A8.get H.next = some (.cells 24 false zh) := by rw [y2.get _ (by omega)]; exact d2
  have d5 : A8.get (H.next + 1) = some (scB s a7 c7) := by rw [y2.get _ (by omega)]; exact v8
  have K8 : Kp H (A8.set (H.next + 2) (.cells 24 false [.int .i64 1, .int .i64 (valP V), r1, r2, w, .int .i64 0, .int .i64 0, .int .i64 0])) := (v12.trans y2).set (by omega) _
  obtain ⟨H5, H6, r6, H7, u1, u2, u3, u4, u5, u6, u7, u8, u9, u10, u11, u12, u13, u14⟩ := end_ev (q := H.next + 1) (a := a7) (c := c7) hs hb K8 (by omega) (by simp; omega) (by simp [d5]) v9 hl (c4 = 0 ∧ (n < 12 ∨ 1508 < n)) hN hT m (by omega)
  simp only [AH.set_next] at u11
  have g1 : H7.get (H.next + 2) = some (.cells 24 false [.int .i64 1, .int .i64 (valP V), r1, r2, w, .int .i64 0, .int .i64 0, .int .i64 0]) := by rw [u10.get _ (by simp; omega) (by omega)]; simp
  have g2 : H7.get H.next = some (.cells 24 false zh) := by rw [u10.get _ (by simp; omega) (by omega)]; simp [d4]
  have v4' := v4 hk64
  subst v4'
  have hP : ¬ (c4 = 0 ∧ (n < 12 ∨ 1508 < n)) := fun h => by rcases h.2 with h | h <;> omega
  have u4' := u4 hP
  subst u4'
  subst hc4
  generalize (if (0 = 0 ∧ (n < 12 ∨ 1508 < n)) ∧ (0 : Int) = 0 then (3 : Int) else 0) = cc at *
  generalize (if 64 < k ∧ c5 = 0 then (3 : Int) else c5) = cd at *
  simp only [scB, zh] at *
  unfold PkRes
  rw [ev_eq Try.func88 ok88 m _ H (by simp [Try.f88])]
  simp [Try.f88, ldVar, stVar, hs.one, cells_one hs.one, k1, k2, k4, k5, j1, j2, b1, b2, b3, cells_one b3, e1, e2, e3, cells_one e3, hr, hq4, hL, n1, n2, evHist, ObsOk, ObOk, x3, hv0, wf, hk, wk, n3', v1, v2, v5, v6, v8, d1, d2, d3, d4, d5, y1, hwo, cells_one hwo, u1, u2, u5, u6, u8, g1, g2, hk64, p1, p2]
  refine ⟨_, _, _, _, _, ⟨⟨rfl, rfl⟩, rfl⟩, u12.set (by omega) _, H3.next, by omega, H4.next, n4, by simp <;> omega, ?_, ?_, ?_⟩
  · exact (((((((hDo.set _ (by omega)).kx v10 (by omega)).kp y2).set _ (by omega)).kx u10 (by omega)).set _ (by omega)).wide (by omega) (Nat.le_refl _) (by simp; omega))
  · exact (((((hSo.set _ (by omega)).kx v10 (by omega)).kp y2).set _ (by omega)).kx u10 (by omega)).set _ (by omega)
  · exact (((y3.set _ (by omega)).kx u10 (by omega)).set _ (by omega)).wide (by omega) (by simp; omega) (by simp)
theorem peekI_I03 {H : AH} {s : AV} {l : List Int} {cid : Int} (hs : Bs H s l) (hb : By l) (hl : l.length ≤ 65536) (m : Nat) (hm : 30 ≤ m)
    {f : Int} {a : Nat} (hO : octetI l 0 0 = (f, a, 0)) (h128 : 128 ≤ f) (h256 : f < 256) {V : List Int} {a1 : Nat} {c1 : Int} (hV : takeI l a 0 4 = (V, a1, c1)) {D : List Int} {a2 : Nat} {c2 : Int} (hD : cidI l a1 c1 = (D, a2, c2))
    {S : List Int} {a3 : Nat} (hS : cidI l a2 c2 = (S, a3, 0)) (hv0 : ¬ (valP V = 0)) (hx : 192 ≤ f) (hx2 : f < 208) {k : Int} {a5 : Nat} {c5 : Int} (hN0 : numberI l a3 0 = (k, a5, c5)) {T : List Int} {a7 : Nat} {c7 : Int} (hT0 : takeI l a5 (if 64 < k ∧ c5 = 0 then 3 else c5) k = (T, a7, c7)) (hk64 : ¬ 64 < k) {n : Int} {a4 : Nat} {c4 : Int} (hN : numberI l a7 c7 = (n, a4, c4)) {T2 : List Int} {a6 : Nat} {c6 : Int} (hT : takeI l a4 (if (c4 = 0 ∧ (n < 12 ∨ 1508 < n)) ∧ c4 = 0 then 3 else c4) n = (T2, a6, c6)) (hc4 : ¬ c4 = 0) : PkRes H s cid m 1 (valP V) D S T a6 c6 := by
  obtain ⟨m, rfl⟩ : ∃ k, m = k + 1 := ⟨m - 1, by omega⟩
  obtain ⟨H1, r0, H2, r1, H3, r2, H4, k1, k2, k4, k5, j1, j2, b1, b2, b3, e1, e2, e3, hr, hq4, ha3, K4, n3, n4, hDo, hSo⟩ := peekI_mid hs hb hl m (by omega) hO hV hD hS
  obtain ⟨s5, x1, x2⟩ := cutDrop hs a3 ha3
  have hL : ∀ h, lenA Try.prog 22 s h = some (.int .i64 l.length) := hs.len
  have n1 : ¬ (f < 64) := by omega
  have n2 : ¬ (f < 128) := by omega
  have wf : IntKind.i64.wrap (f - 192) = f - 192 := wrap_i64 (by omega) (by omega)
  have hk : (f - 192).tdiv 16 = 0 := by rw [Int.tdiv_eq_ediv_of_nonneg (by omega)]; omega
  have n3' : ¬ (f < 192) := by omega
  have wk : IntKind.i64.wrap 0 = 0 := wrap_i64 (by omega) (by omega)
  have x3 := x1 _ (K4.set (b := H.next + 2) (by omega) (.cells 24 false [.int .i64 0, .int .i64 0, r1, r2, .nilSlice, .int .i64 0, .int .i64 0, .int .i64 0]))
  have K5 : Kp H (H4.set (H.next + 2) (.cells 24 false [.int .i64 1, .int .i64 (valP V), r1, r2, .nilSlice, .int .i64 0, .int .i64 0, .int .i64 0])) := K4.set (by omega) _
  obtain ⟨A5, A6, r5, A7, v1, v2, v3, v4, v5, v6, v7, v8, v9, v10, v11, v12, v13, v14⟩ := end_ev (q := H.next + 1) (a := a3) (c := 0) hs hb K5 (by omega) (by simp; omega) (by simp [hq4]) ha3 hl (64 < k) hN0 hT0 m (by omega)
  simp only [AH.set_next] at v11
  have hTl : T.length ≤ 65536 := by have := (takeI_len l a5 (if 64 < k ∧ c5 = 0 then 3 else c5) k).2; rw [hT0] at this; simp only at this; omega
  obtain ⟨w, A8, y1, y2, y3⟩ := copied_ev v7 v12 (by omega) m (by omega)
  have hwo := y3.bs.one
  have hn8 := y2.next
  have d1 : A7.get (H.next + 2) = some (.cells 24 false [.int .i64 1, .int .i64 (valP V), r1, r2, .nilSlice, .int .i64 0, .int .i64 0, .int .i64 0]) := by rw [v10.get _ (by simp; omega) (by omega)]; simp
  have d2 : A7.get H.next = some (.cells 24 false zh) := by rw [v10.get _ (by simp; omega) (by omega)]; simp [hr]
  have d3 : A8.get (H.next + 2) = some (.cells 24 false [.int .i64 1, .int .i64 (valP V), r1, r2, .nilSlice, .int .i64 0, .int .i64 0, .int .i64 0]) := by rw [y2.get _ (by omega)]; exact d1
  have d4 : A8.get H.next = some (.cells 24 false zh) := by rw [y2.get _ (by omega)]; exact d2
  have d5 : A8.get (H.next + 1) = some (scB s a7 c7) := by rw [y2.get _ (by omega)]; exact v8
  have K8 : Kp H (A8.set (H.next + 2) (.cells 24 false [.int .i64 1, .int .i64 (valP V), r1, r2, w, .int .i64 0, .int .i64 0, .int .i64 0])) := (v12.trans y2).set (by omega) _
  obtain ⟨H5, H6, r6, H7, u1, u2, u3, u4, u5, u6, u7, u8, u9, u10, u11, u12, u13, u14⟩ := end_ev (q := H.next + 1) (a := a7) (c := c7) hs hb K8 (by omega) (by simp; omega) (by simp [d5]) v9 hl (c4 = 0 ∧ (n < 12 ∨ 1508 < n)) hN hT m (by omega)
  simp only [AH.set_next] at u11
  have g1 : H7.get (H.next + 2) = some (.cells 24 false [.int .i64 1, .int .i64 (valP V), r1, r2, w, .int .i64 0, .int .i64 0, .int .i64 0]) := by rw [u10.get _ (by simp; omega) (by omega)]; simp
  have g2 : H7.get H.next = some (.cells 24 false zh) := by rw [u10.get _ (by simp; omega) (by omega)]; simp [d4]
  have v4' := v4 hk64
  subst v4'
  have hP : ¬ (c4 = 0 ∧ (n < 12 ∨ 1508 < n)) := fun h => hc4 h.1
  have u4' := u4 hP
  subst u4'
  generalize (if (c4 = 0 ∧ (n < 12 ∨ 1508 < n)) ∧ c4 = 0 then (3 : Int) else c4) = cc at *
  generalize (if 64 < k ∧ c5 = 0 then (3 : Int) else c5) = cd at *
  simp only [scB, zh] at *
  unfold PkRes
  rw [ev_eq Try.func88 ok88 m _ H (by simp [Try.f88])]
  simp [Try.f88, ldVar, stVar, hs.one, cells_one hs.one, k1, k2, k4, k5, j1, j2, b1, b2, b3, cells_one b3, e1, e2, e3, cells_one e3, hr, hq4, hL, n1, n2, evHist, ObsOk, ObOk, x3, hv0, wf, hk, wk, n3', v1, v2, v5, v6, v8, d1, d2, d3, d4, d5, y1, hwo, cells_one hwo, u1, u2, u5, u6, u8, g1, g2, hk64, hc4, U]
  refine ⟨_, _, _, _, _, ⟨⟨rfl, rfl⟩, rfl⟩, u12.set (by omega) _, H3.next, by omega, H4.next, n4, by simp <;> omega, ?_, ?_, ?_⟩
  · exact (((((((hDo.set _ (by omega)).kx v10 (by omega)).kp y2).set _ (by omega)).kx u10 (by omega)).set _ (by omega)).wide (by omega) (Nat.le_refl _) (by simp; omega))
  · exact (((((hSo.set _ (by omega)).kx v10 (by omega)).kp y2).set _ (by omega)).kx u10 (by omega)).set _ (by omega)
  · exact (((y3.set _ (by omega)).kx u10 (by omega)).set _ (by omega)).wide (by omega) (by simp; omega) (by simp)
theorem peekI_I10 {H : AH} {s : AV} {l : List Int} {cid : Int} (hs : Bs H s l) (hb : By l) (hl : l.length ≤ 65536) (m : Nat) (hm : 30 ≤ m)
    {f : Int} {a : Nat} (hO : octetI l 0 0 = (f, a, 0)) (h128 : 128 ≤ f) (h256 : f < 256) {V : List Int} {a1 : Nat} {c1 : Int} (hV : takeI l a 0 4 = (V, a1, c1)) {D : List Int} {a2 : Nat} {c2 : Int} (hD : cidI l a1 c1 = (D, a2, c2))
    {S : List Int} {a3 : Nat} (hS : cidI l a2 c2 = (S, a3, 0)) (hv0 : ¬ (valP V = 0)) (hx : 192 ≤ f) (hx2 : f < 208) {k : Int} {a5 : Nat} {c5 : Int} (hN0 : numberI l a3 0 = (k, a5, c5)) {T : List Int} {a7 : Nat} {c7 : Int} (hT0 : takeI l a5 (if 64 < k ∧ c5 = 0 then 3 else c5) k = (T, a7, c7)) (hk64 : 64 < k) {n : Int} {a4 : Nat} {c4 : Int} (hN : numberI l a7 c7 = (n, a4, c4)) {T2 : List Int} {a6 : Nat} {c6 : Int} (hT : takeI l a4 (if (c4 = 0 ∧ (n < 12 ∨ 1508 < n)) ∧ c4 = 0 then 3 else c4) n = (T2, a6, c6)) (hc4 : c4 = 0) (p1 : n < 12) : PkRes H s cid m 1 (valP V) D S T a6 c6 := by
  obtain ⟨m, rfl⟩ : ∃ k, m = k + 1 := ⟨m - 1, by omega⟩
  obtain ⟨H1, r0, H2, r1, H3, r2, H4, k1, k2, k4, k5, j1, j2, b1, b2, b3, e1, e2, e3, hr, hq4, ha3, K4, n3, n4, hDo, hSo⟩ := peekI_mid hs hb hl m (by omega) hO hV hD hS
  obtain ⟨s5, x1, x2⟩ := cutDrop hs a3 ha3
  have hL : ∀ h, lenA Try.prog 22 s h = some (.int .i64 l.length) := hs.len
  have n1 : ¬ (f < 64) := by omega
  have n2 : ¬ (f < 128) := by omega
  have wf : IntKind.i64.wrap (f - 192) = f - 192 := wrap_i64 (by omega) (by omega)
  have hk : (f - 192).tdiv 16 = 0 := by rw [Int.tdiv_eq_ediv_of_nonneg (by omega)]; omega
  have n3' : ¬ (f < 192) := by omega
  have wk : IntKind.i64.wrap 0 = 0 := wrap_i64 (by omega) (by omega)
  have x3 := x1 _ (K4.set (b := H.next + 2) (by omega) (.cells 24 false [.int .i64 0, .int .i64 0, r1, r2, .nilSlice, .int .i64 0, .int .i64 0, .int .i64 0]))
  have K5 : Kp H (H4.set (H.next + 2) (.cells 24 false [.int .i64 1, .int .i64 (valP V), r1, r2, .nilSlice, .int .i64 0, .int .i64 0, .int .i64 0])) := K4.set (by omega) _
  obtain ⟨A5, A6, r5, A7, v1, v2, v3, v4, v5, v6, v7, v8, v9, v10, v11, v12, v13, v14⟩ := end_ev (q := H.next + 1) (a := a3) (c := 0) hs hb K5 (by omega) (by simp; omega) (by simp [hq4]) ha3 hl (64 < k) hN0 hT0 m (by omega)
  simp only [AH.set_next] at v11
  have hTl : T.length ≤ 65536 := by have := (takeI_len l a5 (if 64 < k ∧ c5 = 0 then 3 else c5) k).2; rw [hT0] at this; simp only at this; omega
  obtain ⟨w, A8, y1, y2, y3⟩ := copied_ev v7 v12 (by omega) m (by omega)
  have hwo := y3.bs.one
  have hn8 := y2.next
  have d1 : A7.get (H.next + 2) = some (.cells 24 false [.int .i64 1, .int .i64 (valP V), r1, r2, .nilSlice, .int .i64 0, .int .i64 0, .int .i64 0]) := by rw [v10.get _ (by simp; omega) (by omega)]; simp
  have d2 : A7.get H.next = some (.cells 24 false zh) := by rw [v10.get _ (by simp; omega) (by omega)]; simp [hr]
  have d3 : A8.get (H.next + 2) = some (.cells 24 false [.int .i64 1, .int .i64 (valP V), r1, r2, .nilSlice, .int .i64 0, .int .i64 0, .int .i64 0]) := by rw [y2.get _ (by omega)]; exact d1
  have d4 : A8.get H.next = some (.cells 24 false zh) := by rw [y2.get _ (by omega)]; exact d2
  have d5 : A8.get (H.next + 1) = some (scB s a7 c7) := by rw [y2.get _ (by omega)]; exact v8
  have K8 : Kp H (A8.set (H.next + 2) (.cells 24 false [.int .i64 1, .int .i64 (valP V), r1, r2, w, .int .i64 0, .int .i64 0, .int .i64 0])) := (v12.trans y2).set (by omega) _
  obtain ⟨H5, H6, r6, H7, u1, u2, u3, u4, u5, u6, u7, u8, u9, u10, u11, u12, u13, u14⟩ := end_ev (q := H.next + 1) (a := a7) (c := c7) hs hb K8 (by omega) (by simp; omega) (by simp [d5]) v9 hl (c4 = 0 ∧ (n < 12 ∨ 1508 < n)) hN hT m (by omega)
  simp only [AH.set_next] at u11
  have g1 : H7.get (H.next + 2) = some (.cells 24 false [.int .i64 1, .int .i64 (valP V), r1, r2, w, .int .i64 0, .int .i64 0, .int .i64 0]) := by rw [u10.get _ (by simp; omega) (by omega)]; simp
  have g2 : H7.get H.next = some (.cells 24 false zh) := by rw [u10.get _ (by simp; omega) (by omega)]; simp [d4]
  replace v3 := v3 hk64
  have q1 : n < 12 := p1
  have hP : (c4 = 0 ∧ (n < 12 ∨ 1508 < n)) := ⟨hc4, .inl p1⟩
  replace u3 := u3 hP
  subst hc4
  generalize (if (0 = 0 ∧ (n < 12 ∨ 1508 < n)) ∧ (0 : Int) = 0 then (3 : Int) else 0) = cc at *
  generalize (if 64 < k ∧ c5 = 0 then (3 : Int) else c5) = cd at *
  simp only [scB, zh] at *
  unfold PkRes
  rw [ev_eq Try.func88 ok88 m _ H (by simp [Try.f88])]
  simp [Try.f88, ldVar, stVar, hs.one, cells_one hs.one, k1, k2, k4, k5, j1, j2, b1, b2, b3, cells_one b3, e1, e2, e3, cells_one e3, hr, hq4, hL, n1, n2, evHist, ObsOk, ObOk, x3, hv0, wf, hk, wk, n3', v1, v2, v5, v6, v8, d1, d2, d3, d4, d5, y1, hwo, cells_one hwo, u1, u2, u5, u6, u8, g1, g2, v3, hk64, u3, p1]
  refine ⟨_, _, _, _, _, ⟨⟨rfl, rfl⟩, rfl⟩, u12.set (by omega) _, H3.next, by omega, H4.next, n4, by simp <;> omega, ?_, ?_, ?_⟩
  · exact (((((((hDo.set _ (by omega)).kx v10 (by omega)).kp y2).set _ (by omega)).kx u10 (by omega)).set _ (by omega)).wide (by omega) (Nat.le_refl _) (by simp; omega))
  · exact (((((hSo.set _ (by omega)).kx v10 (by omega)).kp y2).set _ (by omega)).kx u10 (by omega)).set _ (by omega)
  · exact (((y3.set _ (by omega)).kx u10 (by omega)).set _ (by omega)).wide (by omega) (by simp; omega) (by simp)
theorem peekI_I11 {H : AH} {s : AV} {l : List Int} {cid : Int} (hs : Bs H s l) (hb : By l) (hl : l.length ≤ 65536) (m : Nat) (hm : 30 ≤ m)
    {f : Int} {a : Nat} (hO : octetI l 0 0 = (f, a, 0)) (h128 : 128 ≤ f) (h256 : f < 256) {V : List Int} {a1 : Nat} {c1 : Int} (hV : takeI l a 0 4 = (V, a1, c1)) {D : List Int} {a2 : Nat} {c2 : Int} (hD : cidI l a1 c1 = (D, a2, c2))
    {S : List Int} {a3 : Nat} (hS : cidI l a2 c2 = (S, a3, 0)) (hv0 : ¬ (valP V = 0)) (hx : 192 ≤ f) (hx2 : f < 208) {k : Int} {a5 : Nat} {c5 : Int} (hN0 : numberI l a3 0 = (k, a5, c5)) {T : List Int} {a7 : Nat} {c7 : Int} (hT0 : takeI l a5 (if 64 < k ∧ c5 = 0 then 3 else c5) k = (T, a7, c7)) (hk64 : 64 < k) {n : Int} {a4 : Nat} {c4 : Int} (hN : numberI l a7 c7 = (n, a4, c4)) {T2 : List Int} {a6 : Nat} {c6 : Int} (hT : takeI l a4 (if (c4 = 0 ∧ (n < 12 ∨ 1508 < n)) ∧ c4 = 0 then 3 else c4) n = (T2, a6, c6)) (hc4 : c4 = 0) (p1 : ¬ n < 12) (p2 : 1508 < n) : PkRes H s cid m 1 (valP V) D S T a6 c6 := by
  obtain ⟨m, rfl⟩ : ∃ k, m = k + 1 := ⟨m - 1, by omega⟩
  obtain ⟨H1, r0, H2, r1, H3, r2, H4, k1, k2, k4, k5, j1, j2, b1, b2, b3, e1, e2, e3, hr, hq4, ha3, K4, n3, n4, hDo, hSo⟩ := peekI_mid hs hb hl m (by omega) hO hV hD hS
  obtain ⟨s5, x1, x2⟩ := cutDrop hs a3 ha3
  have hL : ∀ h, lenA Try.prog 22 s h = some (.int .i64 l.length) := hs.len
  have n1 : ¬ (f < 64) := by omega
  have n2 : ¬ (f < 128) := by omega
  have wf : IntKind.i64.wrap (f - 192) = f - 192 := wrap_i64 (by omega) (by omega)
  have hk : (f - 192).tdiv 16 = 0 := by rw [Int.tdiv_eq_ediv_of_nonneg (by omega)]; omega
  have n3' : ¬ (f < 192) := by omega
  have wk : IntKind.i64.wrap 0 = 0 := wrap_i64 (by omega) (by omega)
  have x3 := x1 _ (K4.set (b := H.next + 2) (by omega) (.cells 24 false [.int .i64 0, .int .i64 0, r1, r2, .nilSlice, .int .i64 0, .int .i64 0, .int .i64 0]))
  have K5 : Kp H (H4.set (H.next + 2) (.cells 24 false [.int .i64 1, .int .i64 (valP V), r1, r2, .nilSlice, .int .i64 0, .int .i64 0, .int .i64 0])) := K4.set (by omega) _
  obtain ⟨A5, A6, r5, A7, v1, v2, v3, v4, v5, v6, v7, v8, v9, v10, v11, v12, v13, v14⟩ := end_ev (q := H.next + 1) (a := a3) (c := 0) hs hb K5 (by omega) (by simp; omega) (by simp [hq4]) ha3 hl (64 < k) hN0 hT0 m (by omega)
  simp only [AH.set_next] at v11
  have hTl : T.length ≤ 65536 := by have := (takeI_len l a5 (if 64 < k ∧ c5 = 0 then 3 else c5) k).2; rw [hT0] at this; simp only at this; omega
  obtain ⟨w, A8, y1, y2, y3⟩ := copied_ev v7 v12 (by omega) m (by omega)
  have hwo := y3.bs.one
  have hn8 := y2.next
  have d1 : A7.get (H.next + 2) = some (.cells 24 false [.int .i64 1, .int .i64 (valP V), r1, r2, .nilSlice, .int .i64 0, .int .i64 0, .int .i64 0]) := by rw [v10.get _ (by simp; omega) (by omega)]; simp
  have d2 : A7.get H.next = some (.cells 24 false zh) := by rw [v10.get _ (by simp; omega) (by omega)]; simp [hr]
  have d3 : A8.get (H.next + 2) = some (.cells 24 false [.int .i64 1, .int .i64 (valP V), r1, r2, .nilSlice, .int .i64 0, .int .i64 0, .int .i64 0]) := by rw [y2.get _ (by omega)]; exact d1
  have d4 : A8.get H.next = some (.cells 24 false zh) := by rw [y2.get _ (by omega)]; exact d2
  have d5 : A8.get (H.next + 1) = some (scB s a7 c7) := by rw [y2.get _ (by omega)]; exact v8
  have K8 : Kp H (A8.set (H.next + 2) (.cells 24 false [.int .i64 1, .int .i64 (valP V), r1, r2, w, .int .i64 0, .int .i64 0, .int .i64 0])) := (v12.trans y2).set (by omega) _
  obtain ⟨H5, H6, r6, H7, u1, u2, u3, u4, u5, u6, u7, u8, u9, u10, u11, u12, u13, u14⟩ := end_ev (q := H.next + 1) (a := a7) (c := c7) hs hb K8 (by omega) (by simp; omega) (by simp [d5]) v9 hl (c4 = 0 ∧ (n < 12 ∨ 1508 < n)) hN hT m (by omega)
  simp only [AH.set_next] at u11
  have g1 : H7.get (H.next + 2) = some (.cells 24 false [.int .i64 1, .int .i64 (valP V), r1, r2, w, .int .i64 0, .int .i64 0, .int .i64 0]) := by rw [u10.get _ (by simp; omega) (by omega)]; simp
  have g2 : H7.get H.next = some (.cells 24 false zh) := by rw [u10.get _ (by simp; omega) (by omega)]; simp [d4]
  replace v3 := v3 hk64
  have hP : (c4 = 0 ∧ (n < 12 ∨ 1508 < n)) := ⟨hc4, .inr p2⟩
  replace u3 := u3 hP
  subst hc4
  generalize (if (0 = 0 ∧ (n < 12 ∨ 1508 < n)) ∧ (0 : Int) = 0 then (3 : Int) else 0) = cc at *
  generalize (if 64 < k ∧ c5 = 0 then (3 : Int) else c5) = cd at *
  simp only [scB, zh] at *
  unfold PkRes
  rw [ev_eq Try.func88 ok88 m _ H (by simp [Try.f88])]
  simp [Try.f88, ldVar, stVar, hs.one, cells_one hs.one, k1, k2, k4, k5, j1, j2, b1, b2, b3, cells_one b3, e1, e2, e3, cells_one e3, hr, hq4, hL, n1, n2, evHist, ObsOk, ObOk, x3, hv0, wf, hk, wk, n3', v1, v2, v5, v6, v8, d1, d2, d3, d4, d5, y1, hwo, cells_one hwo, u1, u2, u5, u6, u8, g1, g2, v3, hk64, u3, p1, p2]
  refine ⟨_, _, _, _, _, ⟨⟨rfl, rfl⟩, rfl⟩, u12.set (by omega) _, H3.next, by omega, H4.next, n4, by simp <;> omega, ?_, ?_, ?_⟩
  · exact (((((((hDo.set _ (by omega)).kx v10 (by omega)).kp y2).set _ (by omega)).kx u10 (by omega)).set _ (by omega)).wide (by omega) (Nat.le_refl _) (by simp; omega))
  · exact (((((hSo.set _ (by omega)).kx v10 (by omega)).kp y2).set _ (by omega)).kx u10 (by omega)).set _ (by omega)
  · exact (((y3.set _ (by omega)).kx u10 (by omega)).set _ (by omega)).wide (by omega) (by simp; omega) (by simp)
theorem peekI_I12 {H : AH} {s : AV} {l : List Int} {cid : Int} (hs : Bs H s l) (hb : By l) (hl : l.length ≤ 65536) (m : Nat) (hm : 30 ≤ m)
    {f : Int} {a : Nat} (hO : octetI l 0 0 = (f, a, 0)) (h128 : 128 ≤ f) (h256 : f < 256) {V : List Int} {a1 : Nat} {c1 : Int} (hV : takeI l a 0 4 = (V, a1, c1)) {D : List Int} {a2 : Nat} {c2 : Int} (hD : cidI l a1 c1 = (D, a2, c2))
    {S : List Int} {a3 : Nat} (hS : cidI l a2 c2 = (S, a3, 0)) (hv0 : ¬ (valP V = 0)) (hx : 192 ≤ f) (hx2 : f < 208) {k : Int} {a5 : Nat} {c5 : Int} (hN0 : numberI l a3 0 = (k, a5, c5)) {T : List Int} {a7 : Nat} {c7 : Int} (hT0 : takeI l a5 (if 64 < k ∧ c5 = 0 then 3 else c5) k = (T, a7, c7)) (hk64 : 64 < k) {n : Int} {a4 : Nat} {c4 : Int} (hN : numberI l a7 c7 = (n, a4, c4)) {T2 : List Int} {a6 : Nat} {c6 : Int} (hT : takeI l a4 (if (c4 = 0 ∧ (n < 12 ∨ 1508 < n)) ∧ c4 = 0 then 3 else c4) n = (T2, a6, c6)) (hc4 : c4 = 0) (p1 : ¬ n < 12) (p2 : ¬ 1508 < n) : PkRes H s cid m 1 (valP V) D S T a6 c6 := by
  obtain ⟨m, rfl⟩ : ∃ k, m = k + 1 := ⟨m - 1, by omega⟩
  obtain ⟨H1, r0, H2, r1, H3, r2, H4, k1, k2, k4, k5, j1, j2, b1, b2, b3, e1, e2, e3, hr, hq4, ha3, K4, n3, n4, hDo, hSo⟩ := peekI_mid hs hb hl m (by omega) hO hV hD hS
  obtain ⟨s5, x1, x2⟩ := cutDrop hs a3 ha3
  have hL : ∀ h, lenA Try.prog 22 s h = some (.int .i64 l.length) := hs.len
  have n1 : ¬ (f < 64) := by omega
  have n2 : ¬ (f < 128) := by omega
  have wf : IntKind.i64.wrap (f - 192) = f - 192 := wrap_i64 (by omega) (by omega)
  have hk : (f - 192).tdiv 16 = 0 := by rw [Int.tdiv_eq_ediv_of_nonneg (by omega)]; omega
  have n3' : ¬ (f < 192) := by omega
  have wk : IntKind.i64.wrap 0 = 0 := wrap_i64 (by omega) (by omega)
  have x3 := x1 _ (K4.set (b := H.next + 2) (by omega) (.cells 24 false [.int .i64 0, .int .i64 0, r1, r2, .nilSlice, .int .i64 0, .int .i64 0, .int .i64 0]))
  have K5 : Kp H (H4.set (H.next + 2) (.cells 24 false [.int .i64 1, .int .i64 (valP V), r1, r2, .nilSlice, .int .i64 0, .int .i64 0, .int .i64 0])) := K4.set (by omega) _
  obtain ⟨A5, A6, r5, A7, v1, v2, v3, v4, v5, v6, v7, v8, v9, v10, v11, v12, v13, v14⟩ := end_ev (q := H.next + 1) (a := a3) (c := 0) hs hb K5 (by omega) (by simp; omega) (by simp [hq4]) ha3 hl (64 < k) hN0 hT0 m (by omega)
  simp only [AH.set_next] at v11
  have hTl : T.length ≤ 65536 := by have := (takeI_len l a5 (if 64 < k ∧ c5 = 0 then 3 else c5) k).2; rw [hT0] at this; simp only at this; omega
  obtain ⟨w, A8, y1, y2, y3⟩ := copied_ev v7 v12 (by omega) m (by omega)
  have hwo := y3.bs.one
  have hn8 := y2.next
  have d1 : A7.get (H.next + 2) = some (.cells 24 false [.int .i64 1, .int .i64 (valP V), r1, r2, .nilSlice, .int .i64 0, .int .i64 0, .int .i64 0]) := by rw [v10.get _ (by simp; omega) (by omega)]; simp
  have d2 : A7.get H.next = some (.cells 24 false zh) := by rw [v10.get _ (by simp; omega) (by omega)]; simp [hr]
  have d3 : A8.get (H.next + 2) = some (.cells 24 false [.int .i64 1, .int .i64 (valP V), r1, r2, .nilSlice, .int .i64 0, .int .i64 0, .int .i64 0]) := by rw [y2.get _ (by omega)]; exact d1
  have d4 : A8.get H.next = some (.cells 24 false zh) := by rw [y2.get _ (by omega)]; exact d2
  have d5 : A8.get (H.next + 1) = some (scB s a7 c7) := by rw [y2.get _ (by omega)]; exact v8
  have K8 : Kp H (A8.set (H.next + 2) (.cells 24 false [.int .i64 1, .int .i64 (valP V), r1, r2, w, .int .i64 0, .int .i64 0, .int .i64 0])) := (v12.trans y2).set (by omega) _
  obtain ⟨H5, H6, r6, H7, u1, u2, u3, u4, u5, u6, u7, u8, u9, u10, u11, u12, u13, u14⟩ := end_ev (q := H.next + 1) (a := a7) (c := c7) hs hb K8 (by omega) (by simp; omega) (by simp [d5]) v9 hl (c4 = 0 ∧ (n < 12 ∨ 1508 < n)) hN hT m (by omega)
  simp only [AH.set_next] at u11
  have g1 : H7.get (H.next + 2) = some (.cells 24 false [.int .i64 1, .int .i64 (valP V), r1, r2, w, .int .i64 0, .int .i64 0, .int .i64 0]) := by rw [u10.get _ (by simp; omega) (by omega)]; simp
  have g2 : H7.get H.next = some (.cells 24 false zh) := by rw [u10.get _ (by simp; omega) (by omega)]; simp [d4]
  replace v3 := v3 hk64
  have hP : ¬ (c4 = 0 ∧ (n < 12 ∨ 1508 < n)) := fun h => by rcases h.2 with h | h <;> omega
  have u4' := u4 hP
  subst u4'
  subst hc4
  generalize (if (0 = 0 ∧ (n < 12 ∨ 1508 < n)) ∧ (0 : Int) = 0 then (3 : Int) else 0) = cc at *
  generalize (if 64 < k ∧ c5 = 0 then (3 : Int) else c5) = cd at *
  simp only [scB, zh] at *
  unfold PkRes
  rw [ev_eq Try.func88 ok88 m _ H (by simp [Try.f88])]
  simp [Try.f88, ldVar, stVar, hs.one, cells_one hs.one, k1, k2, k4, k5, j1, j2, b1, b2, b3, cells_one b3, e1, e2, e3, cells_one e3, hr, hq4, hL, n1, n2, evHist, ObsOk, ObOk, x3, hv0, wf, hk, wk, n3', v1, v2, v5, v6, v8, d1, d2, d3, d4, d5, y1, hwo, cells_one hwo, u1, u2, u5, u6, u8, g1, g2, v3, hk64, p1, p2]
  refine ⟨_, _, _, _, _, ⟨⟨rfl, rfl⟩, rfl⟩, u12.set (by omega) _, H3.next, by omega, H4.next, n4, by simp <;> omega, ?_, ?_, ?_⟩
  · exact (((((((hDo.set _ (by omega)).kx v10 (by omega)).kp y2).set _ (by omega)).kx u10 (by omega)).set _ (by omega)).wide (by omega) (Nat.le_refl _) (by simp; omega))
  · exact (((((hSo.set _ (by omega)).kx v10 (by omega)).kp y2).set _ (by omega)).kx u10 (by omega)).set _ (by omega)
  · exact (((y3.set _ (by omega)).kx u10 (by omega)).set _ (by omega)).wide (by omega) (by simp; omega) (by simp)
theorem peekI_I13 {H : AH} {s : AV} {l : List Int} {cid : Int} (hs : Bs H s l) (hb : By l) (hl : l.length ≤ 65536) (m : Nat) (hm : 30 ≤ m)
    {f : Int} {a : Nat} (hO : octetI l 0 0 = (f, a, 0)) (h128 : 128 ≤ f) (h256 : f < 256) {V : List Int} {a1 : Nat} {c1 : Int} (hV : takeI l a 0 4 = (V, a1, c1)) {D : List Int} {a2 : Nat} {c2 : Int} (hD : cidI l a1 c1 = (D, a2, c2))
    {S : List Int} {a3 : Nat} (hS : cidI l a2 c2 = (S, a3, 0)) (hv0 : ¬ (valP V = 0)) (hx : 192 ≤ f) (hx2 : f < 208) {k : Int} {a5 : Nat} {c5 : Int} (hN0 : numberI l a3 0 = (k, a5, c5)) {T : List Int} {a7 : Nat} {c7 : Int} (hT0 : takeI l a5 (if 64 < k ∧ c5 = 0 then 3 else c5) k = (T, a7, c7)) (hk64 : 64 < k) {n : Int} {a4 : Nat} {c4 : Int} (hN : numberI l a7 c7 = (n, a4, c4)) {T2 : List Int} {a6 : Nat} {c6 : Int} (hT : takeI l a4 (if (c4 = 0 ∧ (n < 12 ∨ 1508 < n)) ∧ c4 = 0 then 3 else c4) n = (T2, a6, c6)) (hc4 : ¬ c4 = 0) : PkRes H s cid m 1 (valP V) D S T a6 c6 := by
  obtain ⟨m, rfl⟩ : ∃ k, m = k + 1 := ⟨m - 1, by omega⟩
  obtain ⟨H1, r0, H2, r1, H3, r2, H4, k1, k2, k4, k5, j1, j2, b1, b2, b3, e1, e2, e3, hr, hq4, ha3, K4, n3, n4, hDo, hSo⟩ := peekI_mid hs hb hl m (by omega) hO hV hD hS
  obtain ⟨s5, x1, x2⟩ := cutDrop hs a3 ha3
  have hL : ∀ h, lenA Try.prog 22 s h = some (.int .i64 l.length) := hs.len
  have n1 : ¬ (f < 64) := by omega
  have n2 : ¬ (f < 128) := by omega
  have wf : IntKind.i64.wrap (f - 192) = f - 192 := wrap_i64 (by omega) (by omega)
  have hk : (f - 192).tdiv 16 = 0 := by rw [Int.tdiv_eq_ediv_of_nonneg (by omega)]; omega
  have n3' : ¬ (f < 192) := by omega
  have wk : IntKind.i64.wrap 0 = 0 := wrap_i64 (by omega) (by omega)
  have x3 := x1 _ (K4.set (b := H.next + 2) (by omega) (.cells 24 false [.int .i64 0, .int .i64 0, r1, r2, .nilSlice, .int .i64 0, .int .i64 0, .int .i64 0]))
  have K5 : Kp H (H4.set (H.next + 2) (.cells 24 false [.int .i64 1, .int .i64 (valP V), r1, r2, .nilSlice, .int .i64 0, .int .i64 0, .int .i64 0])) := K4.set (by omega) _
  obtain ⟨A5, A6, r5, A7, v1, v2, v3, v4, v5, v6, v7, v8, v9, v10, v11, v12, v13, v14⟩ := end_ev (q := H.next + 1) (a := a3) (c := 0) hs hb K5 (by omega) (by simp; omega) (by simp [hq4]) ha3 hl (64 < k) hN0 hT0 m (by omega)
  simp only [AH.set_next] at v11
  have hTl : T.length ≤ 65536 := by have := (takeI_len l a5 (if 64 < k ∧ c5 = 0 then 3 else c5) k).2; rw [hT0] at this; simp only at this; omega
  obtain ⟨w, A8, y1, y2, y3⟩ := copied_ev v7 v12 (by omega) m (by omega)
  have hwo := y3.bs.one
  have hn8 := y2.next
  have d1 : A7.get (H.next + 2) = some (.cells 24 false [.int .i64 1, .int .i64 (valP V), r1, r2, .nilSlice, .int .i64 0, .int .i64 0, .int .i64 0]) := by rw [v10.get _ (by simp; omega) (by omega)]; simp
  have d2 : A7.get H.next = some (.cells 24 false zh) := by rw [v10.get _ (by simp; omega) (by omega)]; simp [hr]
  have d3 : A8.get (H.next + 2) = some (.cells 24 false [.int .i64 1, .int .i64 (valP V), r1, r2, .nilSlice, .int .i64 0, .int .i64 0, .int .i64 0]) := by rw [y2.get _ (by omega)]; exact d1
  have d4 : A8.get H.next = some (.cells 24 false zh) := by rw [y2.get _ (by omega)]; exact d2
  have d5 : A8.get (H.next + 1) = some (scB s a7 c7) := by rw [y2.get _ (by omega)]; exact v8
  have K8 : Kp H (A8.set (H.next + 2) (.cells 24 false [.int .i64 1, .int .i64 (valP V), r1, r2, w, .int .i64 0, .int .i64 0, .int .i64 0])) := (v12.trans y2).set (by omega) _
  obtain ⟨H5, H6, r6, H7, u1, u2, u3, u4, u5, u6, u7, u8, u9, u10, u11, u12, u13, u14⟩ := end_ev (q := H.next + 1) (a := a7) (c := c7) hs hb K8 (by omega) (by simp; omega) (by simp [d5]) v9 hl (c4 = 0 ∧ (n < 12 ∨ 1508 < n)) hN hT m (by omega)
  simp only [AH.set_next] at u11
  have g1 : H7.get (H.next + 2) = some (.cells 24 false [.int .i64 1, .int .i64 (valP V), r1, r2, w, .int .i64 0, .int .i64 0, .int .i64 0]) := by rw [u10.get _ (by simp; omega) (by omega)]; simp
  have g2 : H7.get H.next = some (.cells 24 false zh) := by rw [u10.get _ (by simp; omega) (by omega)]; simp [d4]
  replace v3 := v3 hk64
  have hP : ¬ (c4 = 0 ∧ (n < 12 ∨ 1508 < n)) := fun h => hc4 h.1
  have u4' := u4 hP
  subst u4'
  generalize (if (c4 = 0 ∧ (n < 12 ∨ 1508 < n)) ∧ c4 = 0 then (3 : Int) else c4) = cc at *
  generalize (if 64 < k ∧ c5 = 0 then (3 : Int) else c5) = cd at *
  simp only [scB, zh] at *
  unfold PkRes
  rw [ev_eq Try.func88 ok88 m _ H (by simp [Try.f88])]
  simp [Try.f88, ldVar, stVar, hs.one, cells_one hs.one, k1, k2, k4, k5, j1, j2, b1, b2, b3, cells_one b3, e1, e2, e3, cells_one e3, hr, hq4, hL, n1, n2, evHist, ObsOk, ObOk, x3, hv0, wf, hk, wk, n3', v1, v2, v5, v6, v8, d1, d2, d3, d4, d5, y1, hwo, cells_one hwo, u1, u2, u5, u6, u8, g1, g2, v3, hk64, hc4, U]
  refine ⟨_, _, _, _, _, ⟨⟨rfl, rfl⟩, rfl⟩, u12.set (by omega) _, H3.next, by omega, H4.next, n4, by simp <;> omega, ?_, ?_, ?_⟩
  · exact (((((((hDo.set _ (by omega)).kx v10 (by omega)).kp y2).set _ (by omega)).kx u10 (by omega)).set _ (by omega)).wide (by omega) (Nat.le_refl _) (by simp; omega))
  · exact (((((hSo.set _ (by omega)).kx v10 (by omega)).kp y2).set _ (by omega)).kx u10 (by omega)).set _ (by omega)
  · exact (((y3.set _ (by omega)).kx u10 (by omega)).set _ (by omega)).wide (by omega) (by simp; omega) (by simp)
end Go.Ev

/- The program's peek, whole; Peek. -/
namespace Go.Ev
open Go Go.Proofs
set_option linter.unusedSimpArgs false
set_option linter.unusedVariables false

/-- code, form, version, the three rows, the length -/
structure PR where
  c : Int
  f : Int
  v : Int
  D : List Int
  S : List Int
  T : List Int
  n : Int
def perr (c : Int) : PR := ⟨c, 0, 0, [], [], [], 0⟩
def endP (l : List Int) (f v : Int) (D S T : List Int) (a : Nat) (c : Int) : PR :=
  if (takeI l (numberI l a c).2.1 (if ((numberI l a c).2.2 = 0 ∧ ((numberI l a c).1 < 12 ∨ 1508 < (numberI l a c).1)) ∧ (numberI l a c).2.2 = 0 then 3 else (numberI l a c).2.2) (numberI l a c).1).2.2 ≠ 0
  then perr (takeI l (numberI l a c).2.1 (if ((numberI l a c).2.2 = 0 ∧ ((numberI l a c).1 < 12 ∨ 1508 < (numberI l a c).1)) ∧ (numberI l a c).2.2 = 0 then 3 else (numberI l a c).2.2) (numberI l a c).1).2.2
  else ⟨0, f, v, D, S, T, (takeI l (numberI l a c).2.1 (if ((numberI l a c).2.2 = 0 ∧ ((numberI l a c).1 < 12 ∨ 1508 < (numberI l a c).1)) ∧ (numberI l a c).2.2 = 0 then 3 else (numberI l a c).2.2) (numberI l a c).1).2.1⟩
def tokP (l : List Int) (v : Int) (D S : List Int) (k : Int × Nat × Int) : PR :=
  endP l 1 v D S (takeI l k.2.1 (if 64 < k.1 ∧ k.2.2 = 0 then 3 else k.2.2) k.1).1 (takeI l k.2.1 (if 64 < k.1 ∧ k.2.2 = 0 then 3 else k.2.2) k.1).2.1 (takeI l k.2.1 (if 64 < k.1 ∧ k.2.2 = 0 then 3 else k.2.2) k.1).2.2
def longP (l : List Int) (f : Int) (V : List Int × Nat × Int) (D : List Int × Nat × Int) (S : List Int × Nat × Int) : PR :=
  if S.2.2 ≠ 0 then perr S.2.2
  else if valP V.1 = 0 then (if f = 128 ∧ versP (l.drop S.2.1) = true then ⟨0, 5, 0, D.1, S.1, [], l.length⟩ else perr 3)
  else if f < 192 ∨ (208 ≤ f ∧ f < 224) then perr 3
  else if 240 ≤ f then (if l.length - S.2.1 < 9 then perr 2 else if 72 < l.length - S.2.1 then perr 3 else ⟨0, 3, valP V.1, D.1, S.1, (l.drop S.2.1).take (l.length - S.2.1 - 8), l.length⟩)
  else if 224 ≤ f then endP l 2 (valP V.1) D.1 S.1 [] S.2.1 0
  else tokP l (valP V.1) D.1 S.1 (numberI l S.2.1 0)
def idsP (l : List Int) (f : Int) (V : List Int × Nat × Int) : PR :=
  longP l f V (cidI l V.2.1 V.2.2) (cidI l (cidI l V.2.1 V.2.2).2.1 (cidI l V.2.1 V.2.2).2.2)
def peekP (l : List Int) (cid : Int) : PR :=
  if (octetI l 0 0).2.2 ≠ 0 then perr (octetI l 0 0).2.2
  else if (octetI l 0 0).1 < 64 then perr 3
  else if (octetI l 0 0).1 < 128 then
    (if (takeI l (takeI l (octetI l 0 0).2.1 0 cid).2.1 (takeI l (octetI l 0 0).2.1 0 cid).2.2 12).2.2 ≠ 0 then perr (takeI l (takeI l (octetI l 0 0).2.1 0 cid).2.1 (takeI l (octetI l 0 0).2.1 0 cid).2.2 12).2.2
      else ⟨0, 4, 0, (takeI l (octetI l 0 0).2.1 0 cid).1, [], [], l.length⟩)
  else idsP l (octetI l 0 0).1 (takeI l (octetI l 0 0).2.1 0 4)

def PkAll (H : AH) (s : AV) (cid : Int) (m : Nat) (R : PR) : Prop := (∃ c, c ≠ 0 ∧ R = perr c ∧ PkErr H s cid m c) ∨ (R.c = 0 ∧ PkOk H s cid m R.f R.v R.D R.S R.T R.n)
theorem PkAll.err {H : AH} {s : AV} {cid : Int} {m : Nat} {c : Int} (hc : c ≠ 0) (h : PkErr H s cid m c) : PkAll H s cid m (perr c) := .inl ⟨c, hc, rfl, h⟩
theorem PkRes.all {H : AH} {s : AV} {cid : Int} {m : Nat} {f v : Int} {D S T : List Int} {n c : Int} (h : PkRes H s cid m f v D S T n c) : PkAll H s cid m (if c ≠ 0 then perr c else ⟨0, f, v, D, S, T, n⟩) := by
  by_cases hc : c = 0
  · subst hc; simp; exact .inr ⟨rfl, h.ok⟩
  · rw [if_pos hc]; exact .err hc h.err

theorem peekI_all {H : AH} {s : AV} {l : List Int} {cid : Int} (hs : Bs H s l) (hb : By l) (hl : l.length ≤ 65536) (hcid : 0 ≤ cid) (hcid8 : cid ≤ 8) (m : Nat) (hm : 30 ≤ m) : PkAll H s cid m (peekP l cid) := by
  unfold peekP
  have hf : 0 ≤ (octetI l 0 0).1 ∧ (octetI l 0 0).1 < 256 := octV_by (takeI_by hb _ _ _)
  by_cases hc : (octetI l 0 0).2.2 = 0
  · rw [if_neg (fun h => h hc)]
    by_cases h64 : (octetI l 0 0).1 < 64
    · rw [if_pos h64]; exact .err (by decide) (peekI_B hs hb hl m hm hc h64)
    · rw [if_neg h64]
      generalize hO : octetI l 0 0 = O at *
      obtain ⟨f, a, c⟩ := O
      simp only at hc h64 hf ⊢
      subst hc
      by_cases h128 : f < 128
      · rw [if_pos h128]
        generalize hD : takeI l a 0 cid = D at *
        obtain ⟨D, a1, c1⟩ := D
        simp only
        generalize hT : takeI l a1 c1 12 = T at *
        obtain ⟨T, a2, c2⟩ := T
        exact (peekI_C hs hb hl hcid hcid8 m hm hO (by omega) h128 hD hT).all
      · rw [if_neg h128]
        unfold idsP
        generalize hV : takeI l a 0 4 = V at *
        obtain ⟨V, a1, c1⟩ := V
        simp only
        generalize hD : cidI l a1 c1 = D at *
        obtain ⟨D, a2, c2⟩ := D
        simp only
        generalize hS : cidI l a2 c2 = S at *
        obtain ⟨S, a3, c3⟩ := S
        unfold longP
        simp only
        by_cases hc3 : c3 = 0
        · subst hc3
          rw [if_neg (by decide)]
          have h128' : 128 ≤ f := by omega
          by_cases h0 : valP V = 0
          · rw [if_pos h0]
            by_cases hx : f = 128
            · by_cases hv : versP (l.drop a3) = true
              · rw [if_pos ⟨hx, hv⟩]; exact .inr ⟨rfl, (peekI_E1 hs hb hl m hm hO h128' hf.2 hV hD hS h0 hx hv).ok⟩
              · rw [if_neg (fun h => hv h.2)]; exact .err (by decide) (peekI_E3 hs hb hl m hm hO h128' hf.2 hV hD hS h0 hx (by simpa using hv)).err
            · rw [if_neg (fun h => hx h.1)]; exact .err (by decide) (peekI_E2 hs hb hl m hm hO h128' hf.2 hV hD hS h0 hx).err
          · rw [if_neg h0]
            by_cases hx : f < 192
            · rw [if_pos (.inl hx)]; exact .err (by decide) (peekI_F1 hs hb hl m hm hO h128' hf.2 hV hD hS h0 hx).err
            · by_cases hy : 208 ≤ f ∧ f < 224
              · rw [if_pos (.inr hy)]; exact .err (by decide) (peekI_F2 hs hb hl m hm hO h128' hf.2 hV hD hS h0 hy.1 hy.2).err
              · rw [if_neg (by omega)]
                by_cases hz : 240 ≤ f
                · rw [if_pos hz]
                  by_cases hR : l.length - a3 < 9
                  · rw [if_pos hR]; exact .err (by decide) (peekI_G1 hs hb hl m hm hO h128' hf.2 hV hD hS h0 hz hR).err
                  · rw [if_neg hR]
                    by_cases hR2 : 72 < l.length - a3
                    · rw [if_pos hR2]; exact .err (by decide) (peekI_G2 hs hb hl m hm hO h128' hf.2 hV hD hS h0 hz hR2).err
                    · rw [if_neg hR2]; exact .inr ⟨rfl, (peekI_G3 hs hb hl m hm hO h128' hf.2 hV hD hS h0 hz (by omega) (by omega)).ok⟩
                · rw [if_neg hz]
                  by_cases hw : 224 ≤ f
                  · rw [if_pos hw]
                    unfold endP
                    generalize hN : numberI l a3 0 = N at *
                    obtain ⟨n, a4, c4⟩ := N
                    simp only
                    generalize hT : takeI l a4 (if (c4 = 0 ∧ (n < 12 ∨ 1508 < n)) ∧ c4 = 0 then 3 else c4) n = T at *
                    obtain ⟨T, a6, c6⟩ := T
                    simp only
                    by_cases q0 : c4 = 0
                    · by_cases q1 : n < 12
                      · exact (peekI_H0 hs hb hl m hm hO h128' hf.2 hV hD hS h0 hw (by omega) hN hT q0 q1).all
                      · by_cases q2 : 1508 < n
                        · exact (peekI_H1 hs hb hl m hm hO h128' hf.2 hV hD hS h0 hw (by omega) hN hT q0 q1 q2).all
                        · exact (peekI_H2 hs hb hl m hm hO h128' hf.2 hV hD hS h0 hw (by omega) hN hT q0 q1 q2).all
                    · exact (peekI_H3 hs hb hl m hm hO h128' hf.2 hV hD hS h0 hw (by omega) hN hT q0).all
                  · rw [if_neg hw]
                    unfold tokP
                    generalize hN0 : numberI l a3 0 = N0 at *
                    obtain ⟨k, a5, c5⟩ := N0
                    simp only
                    generalize hT0 : takeI l a5 (if 64 < k ∧ c5 = 0 then 3 else c5) k = T0 at *
                    obtain ⟨T0, a7, c7⟩ := T0
                    simp only
                    unfold endP
                    generalize hN : numberI l a7 c7 = N at *
                    obtain ⟨n, a4, c4⟩ := N
                    simp only
                    generalize hT : takeI l a4 (if (c4 = 0 ∧ (n < 12 ∨ 1508 < n)) ∧ c4 = 0 then 3 else c4) n = T at *
                    obtain ⟨T, a6, c6⟩ := T
                    simp only
                    by_cases q3 : 64 < k
                    · by_cases q0 : c4 = 0
                      · by_cases q1 : n < 12
                        · exact (peekI_I10 hs hb hl m hm hO h128' hf.2 hV hD hS h0 (by omega) (by omega) hN0 hT0 q3 hN hT q0 q1).all
                        · by_cases q2 : 1508 < n
                          · exact (peekI_I11 hs hb hl m hm hO h128' hf.2 hV hD hS h0 (by omega) (by omega) hN0 hT0 q3 hN hT q0 q1 q2).all
                          · exact (peekI_I12 hs hb hl m hm hO h128' hf.2 hV hD hS h0 (by omega) (by omega) hN0 hT0 q3 hN hT q0 q1 q2).all
                      · exact (peekI_I13 hs hb hl m hm hO h128' hf.2 hV hD hS h0 (by omega) (by omega) hN0 hT0 q3 hN hT q0).all
                    · by_cases q0 : c4 = 0
                      · by_cases q1 : n < 12
                        · exact (peekI_I00 hs hb hl m hm hO h128' hf.2 hV hD hS h0 (by omega) (by omega) hN0 hT0 q3 hN hT q0 q1).all
                        · by_cases q2 : 1508 < n
                          · exact (peekI_I01 hs hb hl m hm hO h128' hf.2 hV hD hS h0 (by omega) (by omega) hN0 hT0 q3 hN hT q0 q1 q2).all
                          · exact (peekI_I02 hs hb hl m hm hO h128' hf.2 hV hD hS h0 (by omega) (by omega) hN0 hT0 q3 hN hT q0 q1 q2).all
                      · exact (peekI_I03 hs hb hl m hm hO h128' hf.2 hV hD hS h0 (by omega) (by omega) hN0 hT0 q3 hN hT q0).all
        · rw [if_pos hc3]
          exact .err hc3 (peekI_D hs hb hl m hm hO (by omega) hV hD hS hc3)
  · rw [if_pos hc]; exact .err hc (peekI_A hs hb hl m hm hc)

/-- what Peek answers -/
def PeekP (l : List Int) (cid : Int) : PR := if 65536 < l.length then perr 4 else if cid < 0 ∨ 8 < cid then perr 1 else peekP l cid
theorem PeekI_ev {H : AH} {s : AV} {l : List Int} {cid : Int} (hs : Bs H s l) (hb : By l) (m : Nat) (hm : 31 ≤ m) :
    ∃ d s' t H' a b, ev Try.prog m 42 [s, .int .i64 cid] H = some (.tuple [hdr (PeekP l cid).f (PeekP l cid).v d s' t, .int .i64 (PeekP l cid).n, .int .i64 (PeekP l cid).c], H') ∧ Kp H H' ∧
      H.next ≤ a ∧ a ≤ b ∧ b ≤ H'.next ∧ Ow H.next a H' d (PeekP l cid).D ∧ Ow a b H' s' (PeekP l cid).S ∧ Ow b H'.next H' t (PeekP l cid).T := by
  obtain ⟨m, rfl⟩ : ∃ k, m = k + 1 := ⟨m - 1, by omega⟩
  rw [ev_eq Try.func42 ok42 m _ H (by simp [Try.f42])]
  have c1 := tooLong_ev hs (H.push (.cells 24 false zh)) m (by omega)
  unfold PeekP
  simp only [zh] at *
  by_cases h1 : 65536 < l.length
  · have h1' : 65536 < (l.length : Int) := by omega
    simp [h1'] at c1
    rw [if_pos h1]
    simp [Try.f42, ldVar, stVar, c1, perr, hdr]
    exact ⟨_, _, _, _, ⟨⟨rfl, rfl, rfl⟩, rfl⟩, (Kp.refl H).push _, H.next, Nat.le_refl _, H.next, Nat.le_refl _, by simp, Ow.nil _ _ _, Ow.nil _ _ _, Ow.nil _ _ _⟩
  · have h1' : ¬ (65536 < (l.length : Int)) := by omega
    simp [h1'] at c1
    rw [if_neg h1]
    by_cases h2 : cid < 0
    · rw [if_pos (.inl h2)]
      simp [Try.f42, ldVar, stVar, c1, perr, hdr, h2]
      exact ⟨_, _, _, _, ⟨⟨rfl, rfl, rfl⟩, rfl⟩, (Kp.refl H).push _, H.next, Nat.le_refl _, H.next, Nat.le_refl _, by simp, Ow.nil _ _ _, Ow.nil _ _ _, Ow.nil _ _ _⟩
    · by_cases h3 : 8 < cid
      · rw [if_pos (.inr h3)]
        simp [Try.f42, ldVar, stVar, c1, perr, hdr, h2, h3]
        exact ⟨_, _, _, _, ⟨⟨rfl, rfl, rfl⟩, rfl⟩, (Kp.refl H).push _, H.next, Nat.le_refl _, H.next, Nat.le_refl _, by simp, Ow.nil _ _ _, Ow.nil _ _ _, Ow.nil _ _ _⟩
      · rw [if_neg (by omega)]
        have hK0 : Kp H (H.push (.cells 24 false [.int .i64 0, .int .i64 0, .nilSlice, .nilSlice, .nilSlice, .int .i64 0, .int .i64 0, .int .i64 0])) := (Kp.refl H).push _
        rcases peekI_all (hs.kp hK0) hb (by omega) (by omega) (by omega) m (by omega) (cid := cid) with ⟨c, hc, hR, f, v, d, s', t, n, num, H', g1, g2, g3, g4, g5⟩ | ⟨hc, d, s', t, num, H', a, b, g1, g2, g3, g4, g5, g6, g7, g8⟩
        · have e1 : H'.get H.next = some (.cells 24 false [.int .i64 0, .int .i64 0, .nilSlice, .nilSlice, .nilSlice, .int .i64 0, .int .i64 0, .int .i64 0]) := by rw [g2.get _ (by simp)]; simp
          have hn := g2.next
          simp only [AH.push_next] at hn
          have hne : ¬ (H.next = H'.next) := by omega
          rw [hR]
          simp only [hdr] at g1
          simp [Try.f42, ldVar, stVar, c1, perr, hdr, h2, h3, g1, e1, hne, g3, g4, g5, hc]
          exact ⟨_, _, _, _, ⟨⟨rfl, rfl, rfl⟩, rfl⟩, ((hK0.trans g2).push _).set (Nat.le_refl _) _, H.next, Nat.le_refl _, H.next, Nat.le_refl _, by simp; omega, Ow.nil _ _ _, Ow.nil _ _ _, Ow.nil _ _ _⟩
        · have e1 : H'.get H.next = some (.cells 24 false [.int .i64 0, .int .i64 0, .nilSlice, .nilSlice, .nilSlice, .int .i64 0, .int .i64 0, .int .i64 0]) := by rw [g2.get _ (by simp)]; simp
          have hn := g2.next
          simp only [AH.push_next] at hn g3
          have hne : ¬ (H.next = H'.next) := by omega
          generalize peekP l cid = R at *
          obtain ⟨rc, rf, rv, RD, RS, RT, rn⟩ := R
          simp only at *
          subst hc
          simp only [hdr] at g1
          simp [Try.f42, ldVar, stVar, c1, hdr, h2, h3, g1, e1, hne, g6.bs.one, g7.bs.one, g8.bs.one]
          simp only [AH.push_next] at g6
          have kk := (Kp.refl H').push (.cells 24 false [.int .i64 rf, .int .i64 rv, d, s', t, .int .i64 0, .int .i64 0, .int .i64 0])
          exact ⟨_, _, _, _, ⟨⟨rfl, rfl, rfl⟩, rfl⟩, ((hK0.trans g2).push _).set (Nat.le_refl _) _, a, by omega, b, g4, by simp; omega, ((g6.kp kk).set _ (by omega)).wide (by omega) (Nat.le_refl _) (by simp; omega), (g7.kp kk).set _ (by omega), ((g8.kp kk).set _ (by omega)).wide (Nat.le_refl _) (by simp) (by simp)⟩
end Go.Ev

/- The specification's reader. -/
namespace Go.Ev
open Go Go.Proofs
set_option linter.unusedSimpArgs false
set_option linter.unusedVariables false

theorem fault_ev {H : AH} {q a : Nat} {s : AV} {sh : Bool} (hq : H.get q = some (rdB s a sh)) (m : Nat) (hm : 1 ≤ m) :
    ev Try.prog m 100 [.ptr q 0] H = some (.int .i64 (if sh = true then 2 else 3), H) := by
  obtain ⟨m, rfl⟩ : ∃ k, m = k + 1 := ⟨m - 1, by omega⟩
  unfold rdB at hq
  rw [ev_eq Try.func100 ok100 m _ H (by simp [Try.f100])]
  cases sh <;> simp [Try.f100, ldVar, hq]
end Go.Ev

/- The specification's list of versions; a token to be tried. -/
namespace Go.Ev
open Go Go.Proofs
set_option linter.unusedSimpArgs false
set_option linter.unusedVariables false

theorem rvLoop {Hb H : AH} {q a : Nat} {s : AV} {l : List Int} (hs : Bs Hb s l) (hb : By l) (hK : Kp Hb H) (hqb : Hb.next ≤ q) (hqn : q < H.next) (ha : a ≤ l.length) (hl : l.length ≤ 65536) (G : Nat) (hG : l.length = a + 4 * G) (hG8 : G ≤ 8) (m : Nat) (hm : 20 ≤ m) (τ : Tm) (h : AH) (hK0 : Kx q H h)
    (hq : h.get q = some (rdB s a false)) (t0 : τ 0 = .ptr q 0) (b : Nat) (t3 : τ 3 = .slice b 0 0) (hb0 : H.next ≤ b) (hb1 : b < h.next) (hb2 : h.get b = some (.cells 3 false [])) :
    ∃ e τ' H', evLoop Try.prog (ev Try.prog m) m (lp Try.prog 101 124) τ h = some (e, τ', H') ∧ Kx q H H' ∧
      ((e = .exit 0 ∧ (∃ b, τ' 3 = .slice b 0 G) ∧ (∀ j, j < G → grp (l.drop a) j ≠ 0)) ∨ (e = .ret ∧ (∃ b, τ' 2 = .slice b 0 0) ∧ ¬ (∀ j, j < G → grp (l.drop a) j ≠ 0))) := by
  refine loop_rule (d := G) (fun d τ h => Kx q H h ∧ ∃ k, k + d = G ∧ τ 0 = .ptr q 0 ∧ h.get q = some (rdB s (a + 4 * k) false) ∧ (∃ b xs, τ 3 = .slice b 0 k ∧ xs.length = k ∧ H.next ≤ b ∧ b < h.next ∧ h.get b = some (.cells 3 false xs)) ∧ ∀ j, j < k → grp (l.drop a) j ≠ 0)
    (fun e τ h => Kx q H h ∧ ((e = .exit 0 ∧ (∃ b, τ 3 = .slice b 0 G) ∧ (∀ j, j < G → grp (l.drop a) j ≠ 0)) ∨ (e = .ret ∧ (∃ b, τ 2 = .slice b 0 0) ∧ ¬ (∀ j, j < G → grp (l.drop a) j ≠ 0))))
    ?_ ⟨hK0, 0, by omega, t0, by simpa using hq, ⟨b, [], t3, rfl, hb0, hb1, hb2⟩, by omega⟩ (by omega)
  rintro d τ h ⟨hk, k, hkd, t0, hq, ⟨b, xs, t3, hx, hb0, hb1, hb2⟩, hnz⟩
  have hKh := hk.kp hK hqb
  have hs' := hs.kp hKh
  have hL : ∀ h, lenA Try.prog 22 s h = some (.int .i64 l.length) := hs.len
  have hq0 := hq
  generalize hA : a + 4 * k = A at *
  unfold rdB at hq
  by_cases h0 : d = 0
  · subst h0
    have e1 : A = l.length := by omega
    subst e1
    have hkG : k = G := by omega
    subst hkG
    rewrite [lp101_124]
    simp [Try.f101, t0, hq, ldVar, hL, t3]
    exact ⟨hk, hnz⟩
  · have hd0 : 1 ≤ d := by omega
    have hlt : (A : Int) < l.length := by omega
    obtain ⟨h2, k1, k2, k3, k4⟩ := fixed_ev hs hb hKh hqb (by have := hk.next; omega) hq0 (by omega) hl 4 (by omega) (by omega) m (by omega)
    have hT : takeS l A false 4 = ((l.drop A).take 4, A + 4, false) := by
      unfold takeS; rw [if_neg (by simp; omega)]; rfl
    rw [hT] at k1 k3 k4
    simp only at k1 k3 k4
    have hgr : valP ((l.drop A).take 4) = grp (l.drop a) k := by unfold grp; rw [List.drop_drop, hA]
    rw [hgr] at k1
    have hb2' : h2.get b = some (.cells 3 false xs) := by rw [k2.get b hb1 (by omega)]; exact hb2
    have hbn : b < h2.next := Nat.lt_of_lt_of_le hb1 k2.next
    have happ := appInt (v := .int .i64 (grp (l.drop a) k)) hb2' hx (by omega) hbn
    have hqn2 : q < h2.next := by have := hk.next; have := k2.next; omega
    by_cases hg : grp (l.drop a) k = 0
    · rewrite [lp101_124]
      simp only [hg] at k1
      simp [Try.f101, t0, hq, ldVar, hL, t3, hlt, k1]
      refine ⟨?_, k, by omega, hg⟩
      exact (hk.trans k2).trans (Kx.of ((Kp.refl _).push _))
    · rewrite [lp101_124]
      simp [Try.f101, t0, hq, ldVar, hL, t3, hlt, k1, hg, happ, zerosA]
      have hkn := hk.next
      have h2n := k2.next
      have hget : (((h2.push (.cells 3 false [.int .i64 (grp (l.drop a) k)])).kill b).push (.cells 3 false (xs ++ [.int .i64 (grp (l.drop a) k)]))).get q = some (rdB s (a + 4 * (k + 1)) false) := by
        rw [AH.push_get, if_neg (by simp; omega), AH.kill_get, if_neg (by omega), AH.push_get, if_neg (by omega), k3, show a + 4 * (k + 1) = A + 4 by omega]
      refine ⟨d - 1, by omega, ?_, k + 1, by omega, by simpa using hget, ⟨h2.next + 1, ⟨rfl, rfl⟩, xs ++ [.int .i64 (grp (l.drop a) k)], by simp [hx], by omega, by omega, by simp⟩, ?_⟩
      · refine ⟨by simp; omega, fun c hc hcq => ?_⟩
        rw [AH.push_get, if_neg (by simp; omega), AH.kill_get, if_neg (by omega), AH.push_get, if_neg (by omega), k2.get c (by omega) hcq, hk.get c hc hcq]
      · intro j hj
        by_cases hjk : j = k
        · subst hjk; exact hg
        · exact hnz j (by omega)
theorem readVersions_ev {Hb H : AH} {q a : Nat} {s : AV} {l : List Int} (hs : Bs Hb s l) (hb : By l) (hK : Kp Hb H) (hqb : Hb.next ≤ q) (hqn : q < H.next) (hq : H.get q = some (rdB s a false)) (ha : a ≤ l.length) (hl : l.length ≤ 65536) (m : Nat) (hm : 21 ≤ m) :
    ∃ r H' n, ev Try.prog m 101 [.ptr q 0] H = some (r, H') ∧ Kx q H H' ∧ (∀ h, lenA Try.prog 33 r h = some (.int .i64 n)) ∧ (versP (l.drop a) = true → ¬ n = 0) ∧ (versP (l.drop a) = false → n = 0) := by
  obtain ⟨m, rfl⟩ : ∃ k, m = k + 1 := ⟨m - 1, by omega⟩
  have hs' := hs.kp hK
  have hL : ∀ h, lenA Try.prog 22 s h = some (.int .i64 l.length) := hs.len
  have hne : ¬ (q = H.next) := by omega
  have hq0 := hq
  unfold rdB at hq
  rw [ev_eq Try.func101 ok101 m _ H (by simp [Try.f101])]
  generalize hR : (l.length - a : Nat) = R at *
  have hRl : (l.drop a).length = R := by rw [List.length_drop]; exact hR
  have w0 : IntKind.i64.wrap ((l.length : Int) - a) = R := by rw [wrap_i64 (by omega) (by omega)]; omega
  have hw' : (R : Int).tmod 4 = (R % 4 : Nat) := by rw [Int.tmod_eq_emod_of_nonneg (by omega)]; omega
  have hw : IntKind.i64.wrap ((R % 4 : Nat) : Int) = (R % 4 : Nat) := wrap_i64 (by omega) (by omega)
  by_cases h2 : R % 4 = 0
  · by_cases h1 : R < 4
    · have hf : versP (l.drop a) = false := by simp only [versP, decide_eq_false_iff_not, hRl]; intro hh; omega
      have h1' : (R : Int) < 4 := by omega
      refine ⟨.slice H.next 0 0, H.push (.cells 3 false []), 0, ?_, Kx.of ((Kp.refl H).push _), by simp, by simp [hf], by simp⟩
      simp [Try.f101, hq, hne, ldVar, hL, w0, hw', hw, h2, h1', wrap_i64 (n := 0) (by omega) (by omega)]
    · by_cases h3 : R ≤ 32
      · have h1' : ¬ ((R : Int) < 4) := by omega
        have h3' : ¬ (32 < (R : Int)) := by omega
        simp [Try.f101, hq, hne, ldVar, hL, w0, hw', hw, h2, h1', h3', wrap_i64 (n := 0) (by omega) (by omega)]
        generalize hLp : evLoop _ _ _ _ _ _ = X
        obtain ⟨e, τ', H', rfl, hK', ⟨rfl, ⟨b, g1⟩, g⟩ | ⟨rfl, ⟨b, g1⟩, g⟩⟩ := loop_at hLp (rvLoop hs hb hK hqb hqn ha hl (R / 4) (by omega) (by omega) m (by omega) _ _ (Kx.of ((Kp.refl H).push _)) (by simp [hne, hq, rdB]) (by simp) H.next (by simp) (Nat.le_refl _) (by simp) (by simp))
        · have hv : versP (l.drop a) = true := by simp only [versP, decide_eq_true_eq, hRl]; exact ⟨by omega, h2, h3, g⟩
          simp [g1]
          exact ⟨_, _, ⟨rfl, rfl⟩, hK', ((R / 4 : Nat) : Int), fun h => by simp, fun _ => by omega, by simp [hv]⟩
        · have hv : versP (l.drop a) = false := by simp only [versP, decide_eq_false_iff_not, hRl]; intro hh; exact g hh.2.2.2
          simp [g1]
          exact ⟨_, _, ⟨rfl, rfl⟩, hK', 0, fun h => by simp, by simp [hv], fun _ => rfl⟩
      · have hf : versP (l.drop a) = false := by simp only [versP, decide_eq_false_iff_not, hRl]; intro hh; omega
        have h1' : ¬ ((R : Int) < 4) := by omega
        have h3' : 32 < (R : Int) := by omega
        refine ⟨.slice H.next 0 0, H.push (.cells 3 false []), 0, ?_, Kx.of ((Kp.refl H).push _), by simp, by simp [hf], by simp⟩
        simp [Try.f101, hq, hne, ldVar, hL, w0, hw', hw, h2, h1', h3', wrap_i64 (n := 0) (by omega) (by omega)]
  · have hf : versP (l.drop a) = false := by simp only [versP, decide_eq_false_iff_not, hRl]; intro hh; omega
    refine ⟨.slice H.next 0 0, H.push (.cells 3 false []), 0, ?_, Kx.of ((Kp.refl H).push _), by simp, by simp [hf], by simp⟩
    generalize (R % 4 : Nat) = Y at *
    simp [Try.f101, hq, hne, ldVar, hL, w0, hw', hw, h2]
end Go.Ev

/- The specification's peek: its first steps. -/
namespace Go.Ev
open Go Go.Proofs
set_option linter.unusedSimpArgs false
set_option linter.unusedVariables false

theorem n11 (n : Nat) : n + 1 + 1 = n + 2 := rfl
theorem n21 (n : Nat) : n + 2 + 1 = n + 3 := rfl
theorem push_set2P (H : AH) (a b y : Blk) : ((H.push a).push b).set (H.next + 1) y = (H.push a).push y := push_set b y rfl
/-- a block of its own, made behind n -/
def Ox (n : Nat) (H : AH) (s : AV) (l : List Int) : Prop := ∃ lo hi, n ≤ lo ∧ Ow lo hi H s l
theorem Ow.ox {lo hi n : Nat} {H : AH} {s : AV} {l : List Int} (h : Ow lo hi H s l) (hn : n ≤ lo) : Ox n H s l := ⟨lo, hi, hn, h⟩
theorem Ox.nil (n : Nat) (H : AH) : Ox n H .nilSlice [] := ⟨n, n, Nat.le_refl _, .inl ⟨rfl, rfl⟩⟩
theorem Ox.bs {n : Nat} {H : AH} {s : AV} {l : List Int} (h : Ox n H s l) : Bs H s l := by obtain ⟨_, _, _, h⟩ := h; exact h.bs
theorem Ox.set {n b : Nat} {H : AH} {s : AV} {l : List Int} (h : Ox n H s l) (x : Blk) (hb : b < n) : Ox n (H.set b x) s l := by
  obtain ⟨lo, hi, h1, h2⟩ := h; exact ⟨lo, hi, h1, h2.set _ (.inl (by omega))⟩
def PsRes (H : AH) (s : AV) (cid : Int) (m : Nat) (R : PR) : Prop := ∃ d s' t H', ev Try.prog m 58 [s, .int .i64 cid] H = some (.tuple [hdr R.f R.v d s' t, .int .i64 R.n, .int .i64 R.c], H') ∧ Kp H H' ∧ Ox H.next H' d R.D ∧ Ox H.next H' s' R.S ∧ Ox H.next H' t R.T
theorem peekS_pro {H : AH} {s : AV} {l : List Int} (hs : Bs H s l) (hb : By l) (hl : l.length ≤ 65536) (m : Nat) (hm : 29 ≤ m) {O : List Int} {a : Nat} {s0 : Bool} (hO : takeS l 0 false 1 = (O, a, s0)) :
    ∃ H1, ev Try.prog m 98 [.ptr (H.next + 2) 0, .int .i64 1] (((H.push (.cells 24 false zh)).push (.cells 24 false zh)).push (.cells 106 false [s, .int .i64 0, .bool false])) = some (.int .i64 (valP O), H1) ∧ H.next + 3 ≤ H1.next ∧ Kp H H1 ∧
      H1.get H.next = some (.cells 24 false zh) ∧ H1.get (H.next + 1) = some (.cells 24 false zh) ∧ H1.get (H.next + 2) = some (rdB s a s0) ∧ a ≤ l.length := by
  have K0 : Kp H (((H.push (.cells 24 false zh)).push (.cells 24 false zh)).push (.cells 106 false [s, .int .i64 0, .bool false])) := (((Kp.refl H).push _).push _).push _
  obtain ⟨H1, k1, k2, k3, k4⟩ := fixed_ev hs hb K0 (q := H.next + 2) (a := 0) (sh := false) (by omega) (by simp) (by simp [rdB]) (by omega) hl 1 (by omega) (by omega) m (by omega)
  rw [hO] at k1 k3 k4
  refine ⟨H1, k1, by have := k2.next; simp at this; omega, k2.kp K0 (by omega), ?_, ?_, k3, k4⟩
  · rw [k2.get _ (by simp <;> omega) (by omega)]; simp <;> omega
  · rw [k2.get _ (by simp <;> omega) (by omega)]; simp <;> omega
theorem valP1 {l : List Int} (hb : By l) (h : l.length ≤ 1) : 0 ≤ valP l ∧ valP l < 256 := by
  have h1 := valP_lt l hb
  match l, h with
  | [], _ => simp [valP]
  | [x], _ => simpa using h1
  | x :: y :: t, h => simp at h
theorem peekS_ids {Hb H : AH} {q a : Nat} {s : AV} {l : List Int} {s0 : Bool} (hs : Bs Hb s l) (hb : By l) (hK : Kp Hb H) (hqb : Hb.next ≤ q) (hqn : q < H.next) (hq : H.get q = some (rdB s a s0)) (ha : a ≤ l.length) (hl : l.length ≤ 65536) (m : Nat) (hm : 20 ≤ m)
    {V : List Int} {a1 : Nat} {s1 : Bool} (hV : takeS l a s0 4 = (V, a1, s1)) {N1 : List Int} {a2 : Nat} {s2 : Bool} (hN1 : takeS l a1 s1 1 = (N1, a2, s2)) {D : List Int} {a3 : Nat} {s3 : Bool} (hD : takeS l a2 s2 (valP N1) = (D, a3, s3))
    {N2 : List Int} {a4 : Nat} {s4 : Bool} (hN2 : takeS l a3 s3 1 = (N2, a4, s4)) {S : List Int} {a5 : Nat} {s5 : Bool} (hS : takeS l a4 s4 (valP N2) = (S, a5, s5)) :
    ∃ H2 H4 d H5 H6 t H7, ev Try.prog m 98 [.ptr q 0, .int .i64 4] H = some (.int .i64 (valP V), H2) ∧
      ev Try.prog m 98 [.ptr q 0, .int .i64 1] (H2.push (.cells 24 false [.int .i64 0, .int .i64 (valP V), .nilSlice, .nilSlice, .nilSlice, .int .i64 0, .int .i64 0, .int .i64 0])) = some (.int .i64 (valP N1), H4) ∧ H4.get q = some (rdB s a2 s2) ∧
      ev Try.prog m 99 [.ptr q 0, .int .i64 (valP N1)] H4 = some (d, H5) ∧ d.one = true ∧
      H5.get H2.next = some (.cells 24 false [.int .i64 0, .int .i64 (valP V), .nilSlice, .nilSlice, .nilSlice, .int .i64 0, .int .i64 0, .int .i64 0]) ∧
      ev Try.prog m 98 [.ptr q 0, .int .i64 1] (H5.set H2.next (.cells 24 false [.int .i64 0, .int .i64 (valP V), d, .nilSlice, .nilSlice, .int .i64 0, .int .i64 0, .int .i64 0])) = some (.int .i64 (valP N2), H6) ∧ H6.get q = some (rdB s a4 s4) ∧
      ev Try.prog m 99 [.ptr q 0, .int .i64 (valP N2)] H6 = some (t, H7) ∧ t.one = true ∧
      H7.get H2.next = some (.cells 24 false [.int .i64 0, .int .i64 (valP V), d, .nilSlice, .nilSlice, .int .i64 0, .int .i64 0, .int .i64 0]) ∧ H7.get q = some (rdB s a5 s5) ∧ a5 ≤ l.length ∧
      H.next ≤ H2.next ∧ H2.next < H4.next ∧ H4.next ≤ H5.next ∧ H5.next ≤ H6.next ∧ H6.next ≤ H7.next ∧
      (∀ b, b < H.next → b ≠ q → H4.get b = H.get b) ∧ (∀ b, b < H.next → b ≠ q → H6.get b = H.get b) ∧ (∀ b, b < H.next → b ≠ q → H7.get b = H.get b) ∧ Kp Hb H4 ∧ Kp Hb H6 ∧ Kp Hb H7 ∧ Ow H4.next H5.next H7 d D ∧ Ow H6.next H7.next H7 t S := by
  obtain ⟨H2, k1, k2, k3, k4⟩ := fixed_ev hs hb hK hqb hqn hq ha hl 4 (by omega) (by omega) m (by omega)
  rw [hV] at k1 k3 k4; simp only at k1 k3 k4
  have K2 := k2.kp hK hqb
  have n2 := k2.next
  have hne : ¬ (q = H2.next) := by omega
  have K3 := K2.push (.cells 24 false [.int .i64 0, .int .i64 (valP V), .nilSlice, .nilSlice, .nilSlice, .int .i64 0, .int .i64 0, .int .i64 0])
  obtain ⟨H4, l1, l2, l3, l4⟩ := fixed_ev hs hb K3 hqb (by simp; omega) (by rw [AH.push_get, if_neg hne]; exact k3) k4 hl 1 (by omega) (by omega) m (by omega)
  have hb1 := valP1 (takeS_by hb a1 s1 1) (by simpa using (takeS_len l a1 s1 1).1)
  rw [hN1] at l1 l3 l4 hb1; simp only at l1 l3 l4 hb1
  have K4 := l2.kp K3 hqb
  have n4 := l2.next
  simp only [AH.push_next] at n4
  obtain ⟨d, H5, i1, i2, i3, i4, i5⟩ := takeR_ev hs K4 hqb (by omega) l3 l4 hl (valP N1) hb1.1 (by omega) m (by omega)
  rw [hD] at i3 i4 i5; simp only at i3 i4 i5
  have K5 := i2.kp K4 hqb
  have n5 := i2.next
  have g5 : H5.get H2.next = some (.cells 24 false [.int .i64 0, .int .i64 (valP V), .nilSlice, .nilSlice, .nilSlice, .int .i64 0, .int .i64 0, .int .i64 0]) := by
    rw [i2.get _ (by omega) (by omega), l2.get _ (by simp) (by omega), AH.push_get, if_pos rfl]
  have K5' : Kp Hb (H5.set H2.next (.cells 24 false [.int .i64 0, .int .i64 (valP V), d, .nilSlice, .nilSlice, .int .i64 0, .int .i64 0, .int .i64 0])) := K5.set (by have := K2.next; omega) _
  obtain ⟨H6, j1, j2, j3, j4⟩ := fixed_ev hs hb K5' hqb (by simp; omega) (by rw [AH.set_get, if_neg hne]; exact i4) i5 hl 1 (by omega) (by omega) m (by omega)
  have hb2 := valP1 (takeS_by hb a3 s3 1) (by simpa using (takeS_len l a3 s3 1).1)
  rw [hN2] at j1 j3 j4 hb2; simp only at j1 j3 j4 hb2
  have K6 := j2.kp K5' hqb
  have n6 := j2.next
  simp only [AH.set_next] at n6
  obtain ⟨t, H7, p1, p2, p3, p4, p5⟩ := takeR_ev hs K6 hqb (by omega) j3 j4 hl (valP N2) hb2.1 (by omega) m (by omega)
  rw [hS] at p3 p4 p5; simp only at p3 p4 p5
  have n7 := p2.next
  have g4 : ∀ b, b < H.next → b ≠ q → H4.get b = H.get b := fun b h h' => by rw [l2.get b (by simp; omega) h', AH.push_get, if_neg (by omega), k2.get b h h']
  have g6 : ∀ b, b < H.next → b ≠ q → H6.get b = H.get b := fun b h h' => by rw [j2.get b (by simp; omega) h', AH.set_get, if_neg (by omega), i2.get b (by omega) h', g4 b h h']
  refine ⟨H2, H4, d, H5, H6, t, H7, k1, l1, l3, i1, i3.bs.one, g5, j1, j3, p1, p3.bs.one, ?_, p4, p5, n2, by omega, n5, n6, n7, g4, g6, fun b h h' => by rw [p2.get b (by omega) h', g6 b h h'], K4, K6, p2.kp K6 hqb, ?_, p3⟩
  · rw [p2.get _ (by omega) (by omega), j2.get _ (by simp; omega) (by omega), AH.set_get, if_pos rfl]
  · exact ((i3.set (b := H2.next) _ (by omega)).kx j2 (by omega)).kx p2 (by omega)
end Go.Ev

/- The specification's peek: short headers. -/
namespace Go.Ev
open Go Go.Proofs
set_option linter.unusedSimpArgs false
set_option linter.unusedVariables false

theorem peekS_A {H : AH} {s : AV} {l : List Int} {cid : Int} (hs : Bs H s l) (hb : By l) (hl : l.length ≤ 65536) (m : Nat) (hm : 40 ≤ m)
    {O : List Int} {a : Nat} {s0 : Bool} (hO : takeS l 0 false 1 = (O, a, s0)) (h0 : s0 = true) : PsRes H s cid m (perr 2) := by
  obtain ⟨m, rfl⟩ : ∃ k, m = k + 1 := ⟨m - 1, by omega⟩
  obtain ⟨H1, k1, n1', K1, z0, z1, hq1, ha⟩ := peekS_pro hs hb hl m (by omega) hO
  have hL : ∀ h, lenA Try.prog 22 s h = some (.int .i64 l.length) := hs.len
  subst h0
  simp only [rdB, zh] at *
  unfold PsRes
  rw [ev_eq Try.func58 ok58 m _ H (by simp [Try.f58])]
  simp [Try.f58, push_set2P, n11, n21, ldVar, stVar, perr, hdr, hs.one, cells_one hs.one, hL, k1, z0, z1, hq1, evHist, ObsOk, ObOk]
  exact ⟨_, _, _, _, ⟨⟨rfl, rfl, rfl⟩, rfl⟩, K1.set (Nat.le_refl _) _, Ox.nil _ _, Ox.nil _ _, Ox.nil _ _⟩
theorem peekS_B {H : AH} {s : AV} {l : List Int} {cid : Int} (hs : Bs H s l) (hb : By l) (hl : l.length ≤ 65536) (m : Nat) (hm : 40 ≤ m)
    {O : List Int} {a : Nat} {s0 : Bool} (hO : takeS l 0 false 1 = (O, a, s0)) (h0 : s0 = false) (h64 : valP O < 64) : PsRes H s cid m (perr 3) := by
  obtain ⟨m, rfl⟩ : ∃ k, m = k + 1 := ⟨m - 1, by omega⟩
  obtain ⟨H1, k1, n1', K1, z0, z1, hq1, ha⟩ := peekS_pro hs hb hl m (by omega) hO
  have hL : ∀ h, lenA Try.prog 22 s h = some (.int .i64 l.length) := hs.len
  subst h0
  simp only [rdB, zh] at *
  unfold PsRes
  rw [ev_eq Try.func58 ok58 m _ H (by simp [Try.f58])]
  simp [Try.f58, push_set2P, n11, n21, ldVar, stVar, perr, hdr, hs.one, cells_one hs.one, hL, k1, z0, z1, hq1, evHist, ObsOk, ObOk, h64]
  exact ⟨_, _, _, _, ⟨⟨rfl, rfl, rfl⟩, rfl⟩, K1.set (Nat.le_refl _) _, Ox.nil _ _, Ox.nil _ _, Ox.nil _ _⟩
theorem peekS_C1 {H : AH} {s : AV} {l : List Int} {cid : Int} (hs : Bs H s l) (hb : By l) (hl : l.length ≤ 65536) (m : Nat) (hm : 40 ≤ m)
    {O : List Int} {a : Nat} {s0 : Bool} (hO : takeS l 0 false 1 = (O, a, s0)) (h0 : s0 = false) (h64 : ¬ valP O < 64) (h128 : valP O < 128) (hc0 : 0 ≤ cid) (hc8 : cid ≤ 8) {D : List Int} {a1 : Nat} {s1 : Bool} (hD : takeS l a false cid = (D, a1, s1)) (h1 : s1 = true) : PsRes H s cid m (perr 2) := by
  obtain ⟨m, rfl⟩ : ∃ k, m = k + 1 := ⟨m - 1, by omega⟩
  obtain ⟨H1, k1, n1', K1, z0, z1, hq1, ha⟩ := peekS_pro hs hb hl m (by omega) hO
  have hL : ∀ h, lenA Try.prog 22 s h = some (.int .i64 l.length) := hs.len
  subst h0
  obtain ⟨d, H2, i1, i2, i3, i4, i5⟩ := takeR_ev hs K1 (q := H.next + 2) (by omega) (by omega) hq1 ha hl cid hc0 (by omega) m (by omega)
  rw [hD] at i3 i4 i5; simp only at i3 i4 i5
  have n2 := i2.next
  have K2 := i2.kp K1 (by omega)
  have y0 := (i2.get H.next (by omega) (by omega)).trans z0
  have y1 := (i2.get (H.next + 1) (by omega) (by omega)).trans z1
  subst h1
  have w0 : IntKind.i64.wrap ((l.length : Int) - a1) = l.length - a1 := wrap_i64 (by omega) (by omega)
  simp only [rdB, zh] at *
  unfold PsRes
  rw [ev_eq Try.func58 ok58 m _ H (by simp [Try.f58])]
  simp [Try.f58, push_set2P, n11, n21, ldVar, stVar, perr, hdr, hs.one, cells_one hs.one, hL, k1, z0, z1, hq1, evHist, ObsOk, ObOk, h64, h128, i1, y0, y1, i4, w0, i3.bs.one, cells_one i3.bs.one]
  exact ⟨_, _, _, _, ⟨⟨rfl, rfl, rfl⟩, rfl⟩, K2.set (Nat.le_refl _) _, Ox.nil _ _, Ox.nil _ _, Ox.nil _ _⟩
theorem peekS_C2 {H : AH} {s : AV} {l : List Int} {cid : Int} (hs : Bs H s l) (hb : By l) (hl : l.length ≤ 65536) (m : Nat) (hm : 40 ≤ m)
    {O : List Int} {a : Nat} {s0 : Bool} (hO : takeS l 0 false 1 = (O, a, s0)) (h0 : s0 = false) (h64 : ¬ valP O < 64) (h128 : valP O < 128) (hc0 : 0 ≤ cid) (hc8 : cid ≤ 8) {D : List Int} {a1 : Nat} {s1 : Bool} (hD : takeS l a false cid = (D, a1, s1)) (h1 : s1 = false) (h2 : (l.length : Int) - a1 < 12) : PsRes H s cid m (perr 2) := by
  obtain ⟨m, rfl⟩ : ∃ k, m = k + 1 := ⟨m - 1, by omega⟩
  obtain ⟨H1, k1, n1', K1, z0, z1, hq1, ha⟩ := peekS_pro hs hb hl m (by omega) hO
  have hL : ∀ h, lenA Try.prog 22 s h = some (.int .i64 l.length) := hs.len
  subst h0
  obtain ⟨d, H2, i1, i2, i3, i4, i5⟩ := takeR_ev hs K1 (q := H.next + 2) (by omega) (by omega) hq1 ha hl cid hc0 (by omega) m (by omega)
  rw [hD] at i3 i4 i5; simp only at i3 i4 i5
  have n2 := i2.next
  have K2 := i2.kp K1 (by omega)
  have y0 := (i2.get H.next (by omega) (by omega)).trans z0
  have y1 := (i2.get (H.next + 1) (by omega) (by omega)).trans z1
  subst h1
  have w0 : IntKind.i64.wrap ((l.length : Int) - a1) = l.length - a1 := wrap_i64 (by omega) (by omega)
  simp only [rdB, zh] at *
  unfold PsRes
  rw [ev_eq Try.func58 ok58 m _ H (by simp [Try.f58])]
  simp [Try.f58, push_set2P, n11, n21, ldVar, stVar, perr, hdr, hs.one, cells_one hs.one, hL, k1, z0, z1, hq1, evHist, ObsOk, ObOk, h64, h128, i1, y0, y1, i4, w0, i3.bs.one, cells_one i3.bs.one, h2]
  exact ⟨_, _, _, _, ⟨⟨rfl, rfl, rfl⟩, rfl⟩, K2.set (Nat.le_refl _) _, Ox.nil _ _, Ox.nil _ _, Ox.nil _ _⟩
theorem peekS_C3 {H : AH} {s : AV} {l : List Int} {cid : Int} (hs : Bs H s l) (hb : By l) (hl : l.length ≤ 65536) (m : Nat) (hm : 40 ≤ m)
    {O : List Int} {a : Nat} {s0 : Bool} (hO : takeS l 0 false 1 = (O, a, s0)) (h0 : s0 = false) (h64 : ¬ valP O < 64) (h128 : valP O < 128) (hc0 : 0 ≤ cid) (hc8 : cid ≤ 8) {D : List Int} {a1 : Nat} {s1 : Bool} (hD : takeS l a false cid = (D, a1, s1)) (h1 : s1 = false) (h2 : ¬ (l.length : Int) - a1 < 12) : PsRes H s cid m ⟨0, 4, 0, D, [], [], l.length⟩ := by
  obtain ⟨m, rfl⟩ : ∃ k, m = k + 1 := ⟨m - 1, by omega⟩
  obtain ⟨H1, k1, n1', K1, z0, z1, hq1, ha⟩ := peekS_pro hs hb hl m (by omega) hO
  have hL : ∀ h, lenA Try.prog 22 s h = some (.int .i64 l.length) := hs.len
  subst h0
  obtain ⟨d, H2, i1, i2, i3, i4, i5⟩ := takeR_ev hs K1 (q := H.next + 2) (by omega) (by omega) hq1 ha hl cid hc0 (by omega) m (by omega)
  rw [hD] at i3 i4 i5; simp only at i3 i4 i5
  have n2 := i2.next
  have K2 := i2.kp K1 (by omega)
  have y0 := (i2.get H.next (by omega) (by omega)).trans z0
  have y1 := (i2.get (H.next + 1) (by omega) (by omega)).trans z1
  subst h1
  have w0 : IntKind.i64.wrap ((l.length : Int) - a1) = l.length - a1 := wrap_i64 (by omega) (by omega)
  simp only [rdB, zh] at *
  unfold PsRes
  rw [ev_eq Try.func58 ok58 m _ H (by simp [Try.f58])]
  simp [Try.f58, push_set2P, n11, n21, ldVar, stVar, perr, hdr, hs.one, cells_one hs.one, hL, k1, z0, z1, hq1, evHist, ObsOk, ObOk, h64, h128, i1, y0, y1, i4, w0, i3.bs.one, cells_one i3.bs.one, h2]
  exact ⟨_, _, _, _, ⟨⟨rfl, rfl, rfl⟩, rfl⟩, K2.set (Nat.le_refl _) _, (i3.set _ (by omega)).ox (by omega), Ox.nil _ _, Ox.nil _ _⟩
end Go.Ev
