/- Lemmas of an evaluator of the given code and of what the functions answer; no condition of its own. -/
import Derived.Test.YtnoacfilglgbgaaEv5
/- From the evaluator's answer to the machine's call: slices of whole numbers that came in. -/
namespace Go.Ev
open Go Go.RowKit
set_option linter.unusedSimpArgs false
set_option linter.unusedVariables false

/-- A slice of whole numbers that came in. -/
structure InRow where
  k : IntKind
  e : TypeId
  a : Option Addr
  len : Nat
  cap : Nat
  zs : List Int
def InRow.av (b : Nat) (r : InRow) : AV := match r.a with | none => .nilSlice | some _ => .slice b 0 r.len
def InRow.loc (r : InRow) : Loc := match r.a with | none => ⟨0, 0, 0, 1⟩ | some x => ⟨x.block, x.off, x.off + r.cap, 1⟩
def H0 (rs : List InRow) : AH := { get := fun b => rs[b]?.map fun r => .cells r.e true (r.zs.map (.int r.k)), next := rs.length }
def mu0 (rs : List InRow) : Mu := fun b => rs[b]?.map InRow.loc
def InRow.row (w : World) (r : InRow) : Prop :=
  (r.a = none ∧ r.len = 0 ∧ r.cap = 0 ∧ r.zs = []) ∨
  ∃ x, r.a = some x ∧ r.len ≤ r.cap ∧ r.cap ≤ maxLen ∧ r.zs.length = r.cap ∧ (∀ i, i < r.zs.length → w.cell? (x.add i) = some (.int r.k (r.zs.getD i 0))) ∧ ∀ n ∈ r.zs, (Lit.int r.k n).wf = true
def InRow.ok (P : Program) (w : World) (r : InRow) : Prop := (P.info? r.e).map (·.size) = some 1 ∧ r.row w

theorem cell_spot {w : World} {x : Addr} {v : Value} (h : w.cell? x = some v) : x.spot = none ∧ x.block < w.heap.size := by
  unfold World.cell? at h
  split at h
  · rename_i c _ _ hc
    refine ⟨?_, ?_⟩
    · split at h
      · simp at h
      · rename_i hs; simpa using hs
    · rcases Nat.lt_or_ge x.block w.heap.size with hl | hl
      · exact hl
      · rw [Array.getElem?_eq_none hl] at hc; simp at hc
  · simp at h

theorem rel0 {P : Program} {w : World} {rs : List InRow} (h : ∀ r ∈ rs, r.ok P w) : Rel P w (H0 rs) (mu0 rs) w := by
  refine ⟨Below.refl _ _, ?_, ?_, ?_, ?_⟩
  · intro b hb; simp only [mu0]; rw [List.getElem?_eq_none hb]; rfl
  · intro b x hb
    simp only [H0, Option.map_eq_some_iff] at hb
    obtain ⟨r, hr, _⟩ := hb
    exact (List.getElem?_eq_some_iff.mp hr).1
  · intro b x hb
    simp only [H0, Option.map_eq_some_iff] at hb
    obtain ⟨r, hr, rfl⟩ := hb
    have hok := h r (List.mem_of_getElem? hr)
    refine ⟨r.loc, by simp [mu0, hr], by rw [List.all_eq_true]; intro a ha; obtain ⟨z, _, rfl⟩ := List.mem_map.mp ha; rfl, ?_, ?_, ?_⟩
    · rw [hok.1]; unfold InRow.loc; split <;> rfl
    · rcases hok.2 with ⟨h1, h2, h3, h4⟩ | ⟨y, h1, h2, h3, h4, h5⟩
      · simp [InRow.loc, h1, h4]
      · simp [InRow.loc, h1, h4]
    · intro i a ha
      rcases hok.2 with ⟨h1, h2, h3, h4⟩ | ⟨y, h1, h2, h3, h4, h5, h6⟩
      · simp [h4] at ha
      · have hi : i < r.zs.length := by
          have := (List.getElem?_eq_some_iff.mp ha).1
          simpa using this
        have hsp : y.spot = none := (cell_spot (by have := h5 0 (by omega); simpa [Addr.add] using this)).1
        have hc := h5 i hi
        have he : y.add i = ⟨y.block, y.off + i, none⟩ := by
          unfold Addr.add; split
          · rename_i h0; subst h0; obtain ⟨b, o, s⟩ := y; simp at hsp; subst hsp; rfl
          · rfl
        rw [he] at hc
        simp only [InRow.loc, h1]
        refine ⟨(cell_spot hc).2, _, hc, ?_⟩
        rw [List.getElem?_map, List.getElem?_eq_getElem hi] at ha
        simp only [Option.map_some, Option.some.injEq] at ha
        subst ha
        simp [VR, List.getD_eq_getElem?_getD, List.getElem?_eq_getElem hi]
  · intro b x hb hrw
    simp only [H0, Option.map_eq_some_iff] at hb
    obtain ⟨r, hr, rfl⟩ := hb
    simp [Blk.rw] at hrw

theorem vr_row {P : Program} {w : World} {rs : List InRow} {b : Nat} {r : InRow} (hb : rs[b]? = some r) (h : r.ok P w) : VR (mu0 rs) (r.av b) (.slice r.a r.len r.cap) := by
  rcases h.2 with ⟨h1, h2, h3, h4⟩ | ⟨y, h1, h2, h3, h4, h5, h6⟩
  · simp [InRow.av, h1, h2, h3, VR]
  · simp only [InRow.av, h1, VR]
    refine ⟨r.loc, r.cap, y, by simp [mu0, hb], rfl, h2, fun hc => ?_⟩
    have hsp : y.spot = none := (cell_spot (by have := h5 0 (by omega); simpa [Addr.add] using this)).1
    obtain ⟨b, o, s⟩ := y; simp at hsp; subst hsp
    simp [InRow.loc, h1]

theorem sl_row {P : Program} {w : World} {rs : List InRow} {b : Nat} {r : InRow} {t : TypeId} (hb : rs[b]? = some r) (h : r.ok P w) (ht : P.underlying t = some (.slice r.e)) (hs : sizeT P r.e = some 1) (ha : aggT P r.e = some false) :
    Sl P t r.e (H0 rs) (r.av b) ((r.zs.take r.len).map (.int r.k)) := by
  refine ⟨ht, hs, ha, ?_⟩
  rcases h.2 with ⟨h1, h2, h3, h4⟩ | ⟨y, h1, h2, h3, h4, h5, h6⟩
  · exact .inl (by simp [InRow.av, h1, h4])
  · refine .inr ⟨b, 0, true, r.zs.map (.int r.k), ?_, ?_, by simp [H0, hb], ?_, ?_⟩
    · have : min r.len r.zs.length = r.len := by omega
      simp [InRow.av, h1, this]
    · exact (List.getElem?_eq_some_iff.mp hb).1
    · simp; omega
    · have : min r.len r.zs.length = r.len := by omega
      simp [this]

theorem law_run {P : Program} (hm : P.follows .mixedOrders = true) {w : World} {rs : List InRow} {n : Nat} {f : FuncId} {args : List AV} {vs : Array Value} {H' : AH}
    (h : ev P n f args (H0 rs) = some (.bool true, H')) (hok : ∀ r ∈ rs, r.ok P w) (hv : VRs (mu0 rs) args vs.toList) :
    Calls P f vs w fun e w' => e = .returned (.bool true) ∧ Below w.heap.size w w' := by
  refine (ev_sound hm n f args (H0 rs) (.bool true) H' (mu0 rs) w vs h (rel0 hok) hv).2.mono ?_
  rintro e w' ⟨v, μ', rfl, hx, hR, hv⟩
  simp only [VR] at hv
  subst hv
  exact ⟨rfl, hR.below⟩
end Go.Ev

/- Data of a type, and how an abstract value shows it in the memory. -/
namespace Go.Ev
open Go Go.RowKit
set_option linter.unusedSimpArgs false
set_option linter.unusedVariables false

/-- The kinds of data: whole numbers, bools, strings, slices (of elements of type e), structs as pairs of fields. -/
inductive Ty where
  | int (k : IntKind)
  | bool
  | str
  | sl (e : TypeId) (t : Ty)
  | pair (a b : Ty)
/-- The data of a kind. -/
@[reducible] def Ty.D : Ty → Type
  | .int _ => Int
  | .bool => Bool
  | .str => ByteArray
  | .sl _ t => List t.D
  | .pair a b => a.D × b.D
/-- How many cells. -/
def Ty.n : Ty → Nat
  | .int _ => 1
  | .bool => 1
  | .str => 1
  | .sl _ _ => 1
  | .pair a b => a.n + b.n

/-- A row of n-cell elements: the cells, what they show, the blocks that they lead to. -/
def Rows {α : Type} (R : List AV → α → List Nat → Prop) (n : Nat) : List AV → List α → List Nat → Prop
  | xs, [], bs => xs = [] ∧ bs = []
  | xs, d :: ds, bs => ∃ c r b1 b2, xs = c ++ r ∧ c.length = n ∧ bs = b1 ++ b2 ∧ R c d b1 ∧ Rows R n r ds b2

/-- The cells c show the datum d; the blocks bs are all that it leads to. With rw: each block is whole and may be written. -/
def Ty.R (rw : Bool) (H : AH) : (t : Ty) → List AV → t.D → List Nat → Prop
  | .int k, c, d, bs => c = [.int k d] ∧ k.min ≤ d ∧ d ≤ k.max ∧ bs = []
  | .bool, c, d, bs => c = [.bool d] ∧ bs = []
  | .str, c, d, bs => c = [.str d] ∧ bs = []
  | .sl e t, c, d, bs => (c = [.nilSlice] ∧ d = [] ∧ bs = []) ∨
      ∃ b o ro xs b', c = [.slice b o d.length] ∧ bs = b :: b' ∧ b < H.next ∧ H.get b = some (.cells e ro xs) ∧ (rw = true → ro = false ∧ o = 0 ∧ xs.length = d.length * t.n) ∧
        o + d.length * t.n ≤ xs.length ∧ Rows (t.R rw H) t.n ((xs.drop o).take (d.length * t.n)) d b'
  | .pair a b, c, d, bs => ∃ c1 c2 b1 b2, c = c1 ++ c2 ∧ bs = b1 ++ b2 ∧ a.R rw H c1 d.1 b1 ∧ b.R rw H c2 d.2 b2

theorem Rows.len {α : Type} {R : List AV → α → List Nat → Prop} {n : Nat} : ∀ {ds : List α} {xs : List AV} {bs : List Nat}, Rows R n xs ds bs → xs.length = ds.length * n
  | [], xs, bs, h => by rw [h.1]; simp
  | d :: ds, xs, bs, ⟨c, r, b1, b2, h1, h2, h3, h4, h5⟩ => by
    rw [h1, List.length_append, h2, h5.len, List.length_cons, Nat.succ_mul]; omega
theorem Rows.imp {α : Type} {R R' : List AV → α → List Nat → Prop} {n : Nat} : ∀ {ds : List α} {xs : List AV} {bs : List Nat}, Rows R n xs ds bs → (∀ c d b1, d ∈ ds → (∀ b ∈ b1, b ∈ bs) → R c d b1 → R' c d b1) → Rows R' n xs ds bs
  | [], xs, bs, h, _ => h
  | d :: ds, xs, bs, ⟨c, r, b1, b2, h1, h2, h3, h4, h5⟩, f =>
    ⟨c, r, b1, b2, h1, h2, h3, f c d b1 (by simp) (fun b hb => by rw [h3]; exact List.mem_append_left _ hb) h4,
      h5.imp fun c d b1 hd hb h => f c d b1 (by simp [hd]) (fun b hb' => by rw [h3]; exact List.mem_append_right _ (hb b hb')) h⟩
theorem Rows.mem {α : Type} {R : List AV → α → List Nat → Prop} {n : Nat} {Q : Nat → Prop} (hR : ∀ c d bs, R c d bs → ∀ b ∈ bs, Q b) : ∀ {ds : List α} {xs : List AV} {bs : List Nat}, Rows R n xs ds bs → ∀ b ∈ bs, Q b
  | [], xs, bs, h => by rw [h.2]; simp
  | d :: ds, xs, bs, ⟨c, r, b1, b2, h1, h2, h3, h4, h5⟩ => by
    intro b hb
    rw [h3] at hb
    rcases List.mem_append.1 hb with hb | hb
    · exact hR _ _ _ h4 b hb
    · exact Rows.mem hR h5 b hb
theorem Rows.app {α : Type} {R : List AV → α → List Nat → Prop} {n : Nat} : ∀ {d1 d2 : List α} {x1 x2 : List AV} {b1 b2 : List Nat}, Rows R n x1 d1 b1 → Rows R n x2 d2 b2 → Rows R n (x1 ++ x2) (d1 ++ d2) (b1 ++ b2)
  | [], d2, x1, x2, b1, b2, h, k => by rw [h.1, h.2]; exact k
  | d :: d1, d2, x1, x2, b1, b2, ⟨c, r, p, q, h1, h2, h3, h4, h5⟩, k =>
    ⟨c, r ++ x2, p, q ++ b2, by rw [h1, List.append_assoc], h2, by rw [h3, List.append_assoc], h4, h5.app k⟩
theorem Rows.split {α : Type} {R : List AV → α → List Nat → Prop} {n : Nat} : ∀ {d1 d2 : List α} {xs : List AV} {bs : List Nat}, Rows R n xs (d1 ++ d2) bs → ∃ x1 x2 b1 b2, xs = x1 ++ x2 ∧ bs = b1 ++ b2 ∧ Rows R n x1 d1 b1 ∧ Rows R n x2 d2 b2
  | [], d2, xs, bs, h => ⟨[], xs, [], bs, rfl, rfl, ⟨rfl, rfl⟩, h⟩
  | d :: d1, d2, xs, bs, ⟨c, r, p, q, h1, h2, h3, h4, h5⟩ => by
    obtain ⟨x1, x2, b1, b2, e1, e2, e3, e4⟩ := Rows.split (d1 := d1) h5
    exact ⟨c ++ x1, x2, p ++ b1, b2, by rw [h1, e1, List.append_assoc], by rw [h3, e2, List.append_assoc], ⟨c, x1, p, b1, rfl, h2, rfl, h4, e3⟩, e4⟩
theorem Rows.one {α : Type} {R : List AV → α → List Nat → Prop} {n : Nat} {d : α} {c : List AV} {bs : List Nat} (h : R c d bs) (hc : c.length = n) : Rows R n c [d] bs :=
  ⟨c, [], bs, [], by simp, hc, by simp, h, rfl, rfl⟩

theorem Ty.R.len {rw : Bool} {H : AH} : ∀ {t : Ty} {c : List AV} {d : t.D} {bs : List Nat}, t.R rw H c d bs → c.length = t.n
  | .int k, c, d, bs, h => by rw [h.1]; rfl
  | .bool, c, d, bs, h => by rw [h.1]; rfl
  | .str, c, d, bs, h => by rw [h.1]; rfl
  | .sl e t, c, d, bs, h => by
    rcases h with h | ⟨b, o, ro, xs, b', h, _⟩
    · rw [h.1]; rfl
    · rw [h]; rfl
  | .pair a b, c, d, bs, ⟨c1, c2, b1, b2, h1, h2, h3, h4⟩ => by
    rw [h1, List.length_append, Ty.R.len h3, Ty.R.len h4]; rfl
theorem Ty.R.mem {rw : Bool} {H : AH} : ∀ {t : Ty} {c : List AV} {d : t.D} {bs : List Nat}, t.R rw H c d bs → ∀ b ∈ bs, b < H.next
  | .int k, c, d, bs, h => by rw [h.2.2.2]; simp
  | .bool, c, d, bs, h => by rw [h.2]; simp
  | .str, c, d, bs, h => by rw [h.2]; simp
  | .sl e t, c, d, bs, h => by
    rcases h with h | ⟨b, o, ro, xs, b', h1, h2, h3, h4, h5, h6, h7⟩
    · rw [h.2.2]; simp
    · intro x hx
      rw [h2] at hx
      rcases List.mem_cons.1 hx with rfl | hx
      · exact h3
      · exact Rows.mem (fun c d bs h => Ty.R.mem h) h7 x hx
  | .pair a b, c, d, bs, ⟨c1, c2, b1, b2, h1, h2, h3, h4⟩ => by
    intro x hx
    rw [h2] at hx
    rcases List.mem_append.1 hx with hx | hx
    · exact Ty.R.mem h3 x hx
    · exact Ty.R.mem h4 x hx
/-- It stays where its blocks stay. -/
theorem Ty.R.stay {rw : Bool} {H H' : AH} (hn : H.next ≤ H'.next) : ∀ {t : Ty} {c : List AV} {d : t.D} {bs : List Nat}, t.R rw H c d bs → (∀ b ∈ bs, H'.get b = H.get b) → t.R rw H' c d bs
  | .int k, c, d, bs, h, _ => h
  | .bool, c, d, bs, h, _ => h
  | .str, c, d, bs, h, _ => h
  | .sl e t, c, d, bs, h, hg => by
    rcases h with h | ⟨b, o, ro, xs, b', h1, h2, h3, h4, h5, h6, h7⟩
    · exact .inl h
    · refine .inr ⟨b, o, ro, xs, b', h1, h2, Nat.lt_of_lt_of_le h3 hn, by rw [hg b (by rw [h2]; simp)]; exact h4, h5, h6, h7.imp fun c d b1 _ hb h => Ty.R.stay hn h fun x hx => hg x (by rw [h2]; exact List.mem_cons_of_mem _ (hb x hx))⟩
  | .pair a b, c, d, bs, ⟨c1, c2, b1, b2, h1, h2, h3, h4⟩, hg =>
    ⟨c1, c2, b1, b2, h1, h2, Ty.R.stay hn h3 fun x hx => hg x (by rw [h2]; exact List.mem_append_left _ hx), Ty.R.stay hn h4 fun x hx => hg x (by rw [h2]; exact List.mem_append_right _ hx)⟩
theorem Ty.R.kp {rw : Bool} {H H' : AH} {t : Ty} {c : List AV} {d : t.D} {bs : List Nat} (h : t.R rw H c d bs) (hK : Kp H H') : t.R rw H' c d bs :=
  h.stay hK.next fun b hb => hK.get b (h.mem b hb)
theorem Ty.R.weak {H : AH} : ∀ {t : Ty} {c : List AV} {d : t.D} {bs : List Nat}, t.R true H c d bs → t.R false H c d bs
  | .int k, c, d, bs, h => h
  | .bool, c, d, bs, h => h
  | .str, c, d, bs, h => h
  | .sl e t, c, d, bs, h => by
    rcases h with h | ⟨b, o, ro, xs, b', h1, h2, h3, h4, h5, h6, h7⟩
    · exact .inl h
    · exact .inr ⟨b, o, ro, xs, b', h1, h2, h3, h4, by simp, h6, h7.imp fun c d b1 _ _ h => Ty.R.weak h⟩
  | .pair a b, c, d, bs, ⟨c1, c2, b1, b2, h1, h2, h3, h4⟩ => ⟨c1, c2, b1, b2, h1, h2, h3.weak, h4.weak⟩
theorem Ty.R.one {rw : Bool} {H : AH} : ∀ {t : Ty} {c : List AV} {d : t.D} {bs : List Nat}, t.R rw H c d bs → c.all AV.one = true
  | .int k, c, d, bs, h => by rw [h.1]; rfl
  | .bool, c, d, bs, h => by rw [h.1]; rfl
  | .str, c, d, bs, h => by rw [h.1]; rfl
  | .sl e t, c, d, bs, h => by
    rcases h with h | ⟨b, o, ro, xs, b', h1, _⟩
    · rw [h.1]; rfl
    · rw [h1]; rfl
  | .pair a b, c, d, bs, ⟨c1, c2, b1, b2, h1, h2, h3, h4⟩ => by
    rw [h1, List.all_append, Ty.R.one h3, Ty.R.one h4]; rfl
/-- Nothing but the blocks of bs turned. -/
structure KoL (bs : List Nat) (H H' : AH) : Prop where
  next : H'.next = H.next
  get : ∀ b, b < H.next → b ∉ bs → H'.get b = H.get b
theorem KoL.refl (bs : List Nat) (H : AH) : KoL bs H H := ⟨rfl, fun _ _ _ => rfl⟩
theorem KoL.trans {bs : List Nat} {A B C : AH} (h : KoL bs A B) (k : KoL bs B C) : KoL bs A C := ⟨k.next.trans h.next, fun b hn hb => (k.get b (by rw [h.next]; exact hn) hb).trans (h.get b hn hb)⟩
theorem KoL.mono {bs bs' : List Nat} {A B : AH} (h : KoL bs A B) (hs : ∀ b ∈ bs, b ∈ bs') : KoL bs' A B := ⟨h.next, fun b hn hb => h.get b hn fun hx => hb (hs b hx)⟩
theorem KoL.kp {bs : List Nat} {A B C : AH} (h : Kp A B) (k : KoL bs B C) (hlo : ∀ b ∈ bs, A.next ≤ b) : Kp A C :=
  ⟨by rw [k.next]; exact h.next, fun b hb => by rw [k.get b (by have := h.next; omega) fun hx => absurd (hlo b hx) (by omega)]; exact h.get b hb⟩
theorem KoL.set {bs : List Nat} {A B : AH} {b : Nat} (h : KoL bs A B) (hb : b ∈ bs) (x : Blk) : KoL bs A (B.set b x) :=
  ⟨h.next, fun c hn hc => by rw [AH.set_get, if_neg (fun e => hc (by rw [e]; exact hb))]; exact h.get c hn hc⟩
theorem Ty.R.koL {rw : Bool} {H H' : AH} {t : Ty} {c : List AV} {d : t.D} {bs bs' : List Nat} (h : t.R rw H c d bs) (hK : KoL bs' H H') (hd : ∀ b ∈ bs, b ∉ bs') : t.R rw H' c d bs :=
  h.stay (by rw [hK.next]; exact Nat.le_refl _) fun b hb => hK.get b (h.mem b hb) (hd b hb)
/-- made anew behind H -/
def Fresh (H H' : AH) (t : Ty) (c : List AV) (d : t.D) (bs : List Nat) : Prop := t.R true H' c d bs ∧ bs.Nodup ∧ ∀ b ∈ bs, H.next ≤ b
/-- The value of cells: a struct is all of them, anything else is its one cell. -/
def vof (agg : Bool) (c : List AV) : AV := if agg then .agg c else c.headD .nilPtr
@[simp] theorem vof_t (c : List AV) : vof true c = .agg c := rfl
@[simp] theorem vof_f (v : AV) (l : List AV) : vof false (v :: l) = v := rfl

/-! slices -/
section
variable {P : Program}
theorem Ty.R.lenA {rw : Bool} {H : AH} {e : TypeId} {t : Ty} {s : AV} {d : List t.D} {bs : List Nat} (h : (Ty.sl e t).R rw H [s] d bs) {T : TypeId} (hT : P.underlying T = some (.slice e)) (h' : AH) : Go.Ev.lenA P T s h' = some (.int .i64 d.length) := by
  rcases h with ⟨h1, h2, _⟩ | ⟨b, o, ro, xs, b', h1, _⟩
  · simp only [List.cons.injEq, and_true] at h1; subst h1; subst h2; simp [Go.Ev.lenA, hT]
  · simp only [List.cons.injEq, and_true] at h1; subst h1; simp [Go.Ev.lenA, hT]
/-- an element: where it lies and what it shows -/
theorem Ty.R.at_ {rw : Bool} {H : AH} {e : TypeId} {t : Ty} {s : AV} {d : List t.D} {bs : List Nat} (h : (Ty.sl e t).R rw H [s] d bs) {T : TypeId} (hT : P.underlying T = some (.slice e)) (hn : sizeT P e = some t.n) {k : Nat} (hk : k < d.length) :
    ∃ b o ro x1 c x2 bk, idxA P T s (.int .i64 k) = some (.ptr b o) ∧ b < H.next ∧ H.get b = some (.cells e ro (x1 ++ c ++ x2)) ∧ x1.length = o ∧ t.R rw H c d[k] bk ∧ (∀ x ∈ bk, x ∈ bs) ∧ b ∈ bs ∧ (rw = true → ro = false) := by
  rcases h with ⟨h1, h2, _⟩ | ⟨b, o, ro, xs, b', h1, h2, h3, h4, h5, h6, h7⟩
  · subst h2; simp at hk
  · simp only [List.cons.injEq, and_true] at h1; subst h1
    have hd : d = d.take k ++ d[k] :: d.drop (k + 1) := by rw [← List.drop_eq_getElem_cons hk, List.take_append_drop]
    rw [hd] at h7
    obtain ⟨p1, p2, q1, q2, e1, e2, e3, e4⟩ := h7.split
    obtain ⟨c, r, b1, b2, g1, g2, g3, g4, g5⟩ := e4
    rw [← hd] at e1
    have hp := e3.len
    rw [List.length_take, Nat.min_eq_left (Nat.le_of_lt hk)] at hp
    have hx : xs = (xs.take o ++ p1) ++ c ++ (r ++ (xs.drop o).drop (d.length * t.n)) := by
      rw [g1] at e1
      have := List.take_append_drop o xs
      rw [← List.take_append_drop (d.length * t.n) (xs.drop o), e1] at this
      refine this.symm.trans ?_
      simp only [List.append_assoc]
    refine ⟨b, o + k * t.n, ro, _, c, _, b1, ?_, h3, by rw [h4]; congr 2, ?_, g4, ?_, by rw [h2]; simp, fun hr => (h5 hr).1⟩
    · simp [idxA, hT, hn, hk]
    · rw [List.length_append, List.length_take, hp, Nat.min_eq_left (by omega)]
    · intro x hx'
      rw [h2, e2, g3]
      simp [hx']
/-- an element that may be written: what else must stay -/
theorem Ty.R.upd {H : AH} {e : TypeId} {t : Ty} {s : AV} {d : List t.D} {bs : List Nat} (h : (Ty.sl e t).R true H [s] d bs) (hnd : bs.Nodup) {T : TypeId} (hT : P.underlying T = some (.slice e)) (hn : sizeT P e = some t.n) {k : Nat} (hk : k < d.length) :
    ∃ b o x1 c x2 bk, idxA P T s (.int .i64 k) = some (.ptr b o) ∧ b < H.next ∧ H.get b = some (.cells e false (x1 ++ c ++ x2)) ∧ x1.length = o ∧ t.R true H c d[k] bk ∧ (∀ x ∈ bk, x ∈ bs) ∧ b ∈ bs ∧ b ∉ bk ∧ bk.Nodup ∧
      ∀ (H' : AH) (c' : List AV) (d' : t.D), H.next ≤ H'.next → (∀ x ∈ bs, x ≠ b → x ∉ bk → H'.get x = H.get x) → H'.get b = some (.cells e false (x1 ++ c' ++ x2)) → t.R true H' c' d' bk → (Ty.sl e t).R true H' [s] (d.set k d') bs := by
  rcases h with ⟨h1, h2, _⟩ | ⟨b, o, ro, xs, b', h1, h2, h3, h4, h5, h6, h7⟩
  · subst h2; simp at hk
  · simp only [List.cons.injEq, and_true] at h1; subst h1
    obtain ⟨rfl, rfl, hw⟩ := h5 rfl
    have hd : d = d.take k ++ d[k] :: d.drop (k + 1) := by rw [← List.drop_eq_getElem_cons hk, List.take_append_drop]
    rw [List.drop_zero, ← hw, List.take_length] at h7
    rw [hd] at h7
    obtain ⟨p1, p2, q1, q2, e1, e2, e3, e4⟩ := h7.split
    obtain ⟨c, r, b1, b2, g1, g2, g3, g4, g5⟩ := e4
    have hp := e3.len
    rw [List.length_take, Nat.min_eq_left (Nat.le_of_lt hk)] at hp
    have hx : xs = p1 ++ c ++ r := by rw [e1, g1, List.append_assoc]
    rw [h2, e2, g3] at hnd
    have hnd' := hnd
    rw [List.nodup_cons, List.nodup_append, List.nodup_append] at hnd
    obtain ⟨n1, n2, ⟨n3, n4, n5⟩, n6⟩ := hnd
    refine ⟨b, 0 + k * t.n, p1, c, r, b1, ?_, h3, by rw [h4, hx], by omega, g4, ?_, by rw [h2]; simp, fun hb => n1 (by simp [hb]), n3, ?_⟩
    · simp [idxA, hT, hn, hk]
    · intro x hx'
      rw [h2, e2, g3]
      simp [hx']
    · intro H' c' d' hnx hst hgb hR
      have hst1 : ∀ x ∈ q1, H'.get x = H.get x := fun x hx' => hst x (by rw [h2, e2, g3]; simp [hx']) (fun e => n1 (by rw [← e]; simp [hx'])) (fun hb => n6 x hx' x (by simp [hb]) rfl)
      have hst2 : ∀ x ∈ b2, H'.get x = H.get x := fun x hx' => hst x (by rw [h2, e2, g3]; simp [hx']) (fun e => n1 (by rw [← e]; simp [hx'])) (fun hb => n5 x hb x hx' rfl)
      have hset : d.set k d' = d.take k ++ d' :: d.drop (k + 1) := by
        rw [List.set_eq_take_append_cons_drop, if_pos hk]
      have hlc := hR.len
      have hlr := g5.len
      have hl : (p1 ++ c' ++ r).length = xs.length := by rw [hx]; simp; omega
      refine .inr ⟨b, 0, false, p1 ++ c' ++ r, b', by simp, h2, Nat.lt_of_lt_of_le h3 hnx, hgb, fun _ => ⟨rfl, rfl, by rw [hl, hw]; simp⟩, by rw [hl, hw]; simp, ?_⟩
      rw [List.length_set, List.drop_zero, ← hw, ← hl, List.take_length, hset, e2, g3, List.append_assoc]
      exact (e3.imp fun c d b3 _ hb h => h.stay hnx fun x hx' => hst1 x (hb x hx')).app ⟨c', r, b1, b2, rfl, hlc, rfl, hR, g5.imp fun c d b3 _ hb h => h.stay hnx fun x hx' => hst2 x (hb x hx')⟩
/-- a load from the middle of a block -/
theorem ld_mid {H : AH} {b o j : Nat} {e T : TypeId} {ro : Bool} {x1 c x2 : List AV} (h : H.get b = some (.cells e ro (x1 ++ c ++ x2))) (ho : x1.length = o) (ha : aggT P T = some false) (hj : j < c.length) : ldVar P T b (o + j) H = c[j]? := by
  rw [ld_one h ha, List.append_assoc, List.getElem?_append_right (by omega), List.getElem?_append_left (by omega)]
  congr 1; omega
theorem ld_mid0 {H : AH} {b o : Nat} {e T : TypeId} {ro : Bool} {x1 x2 : List AV} {v : AV} (h : H.get b = some (.cells e ro (x1 ++ [v] ++ x2))) (ho : x1.length = o) (ha : aggT P T = some false) : ldVar P T b o H = some v := by
  have := ld_mid (j := 0) h ho ha (by simp)
  simpa using this
theorem ld_midA {H : AH} {b o j n : Nat} {e T : TypeId} {ro : Bool} {x1 c x2 : List AV} (h : H.get b = some (.cells e ro (x1 ++ c ++ x2))) (ho : x1.length = o) (ha : aggT P T = some true) (hs : sizeT P T = some n) (hj : j + n ≤ c.length) : ldVar P T b (o + j) H = some (.agg ((c.drop j).take n)) := by
  have hl : (x1 ++ c ++ x2).length = o + c.length + x2.length := by simp; omega
  rw [ld_agg h ha hs (by omega)]
  congr 2
  rw [List.append_assoc, List.drop_append, List.drop_eq_nil_of_le (by omega), List.nil_append]
  have : o + j - x1.length = j := by omega
  rw [this, List.drop_append_of_le_length (by omega), List.take_append_of_le_length (by simp; omega)]
/-- a store into the middle of a block -/
theorem st_mid {H : AH} {b o j : Nat} {e T : TypeId} {x1 c x2 : List AV} {v : AV} (h : H.get b = some (.cells e false (x1 ++ c ++ x2))) (ho : x1.length = o) (hs : sizeT P T = some 1) (h1 : v.one = true) (hj : j < c.length) :
    stVar P T b (o + j) v H = some (H.set b (.cells e false (x1 ++ c.set j v ++ x2))) := by
  rw [st_one h hs h1 (by simp; omega)]
  congr 4
  rw [List.append_assoc, List.set_append_right _ _ (by omega), List.set_append_left _ _ (by omega), ← List.append_assoc]
  congr 3; omega
end

/-! marks -/
/-- the decimal digits of n, ahead of acc -/
def mtDig (n : Nat) (acc : ByteArray) : ByteArray := if h : n = 0 then acc else mtDig (n / 10) (ByteArray.mk #[UInt8.ofNat (48 + n % 10)] ++ acc)
termination_by n
decreasing_by omega
/-- the name that mark lays into a string -/
def markTextD (k : Int) : ByteArray := ByteArray.mk #[109] ++ (if k ≤ 0 then ByteArray.mk #[48] else mtDig k.toNat ByteArray.empty)
def mkRow {α : Type} (f : Int → α → α) (c : α → Nat) : Int → List α → List α
  | _, [] => []
  | k, d :: ds => f k d :: mkRow f c (k + c d) ds
theorem mkRow_len {α : Type} (f : Int → α → α) (c : α → Nat) : ∀ (k : Int) (ds : List α), (mkRow f c k ds).length = ds.length
  | _, [] => rfl
  | k, d :: ds => by simp [mkRow, mkRow_len f c]
def cntL {α : Type} (c : α → Nat) : List α → Nat
  | [] => 0
  | d :: ds => c d + cntL c ds
theorem cntL_app {α : Type} (c : α → Nat) : ∀ (l r : List α), cntL c (l ++ r) = cntL c l + cntL c r
  | [], r => by simp [cntL]
  | d :: l, r => by simp only [List.cons_append, cntL, cntL_app c l r]; omega
theorem mkRow_app {α : Type} (f : Int → α → α) (c : α → Nat) : ∀ (l r : List α) (k : Int), mkRow f c k (l ++ r) = mkRow f c k l ++ mkRow f c (k + (cntL c l : Nat)) r
  | [], r, k => by simp [mkRow, cntL]
  | d :: l, r, k => by
    simp only [List.cons_append, mkRow, mkRow_app f c l r, cntL]
    congr 3; push_cast; omega
/-- how many marks (slot: in a slice's slot) -/
def Ty.cnt (slot : Bool) : (t : Ty) → t.D → Nat
  | .int _, _ => if slot then 1 else 0
  | .bool, _ => if slot then 1 else 0
  | .str, _ => if slot then 1 else 0
  | .sl _ t, ds => cntL (t.cnt true) ds
  | .pair a b, d => a.cnt slot d.1 + b.cnt slot d.2
/-- what mark leaves -/
def Ty.mk (slot : Bool) : (t : Ty) → Int → t.D → t.D
  | .int k, m, d => if slot then k.wrap m else d
  | .bool, m, d => if slot then decide (m % 3 = 0) else d
  | .str, m, d => if slot then markTextD m else d
  | .sl _ t, m, ds => mkRow (t.mk true) (t.cnt true) m ds
  | .pair a b, m, d => (a.mk slot m d.1, b.mk slot (m + (a.cnt slot d.1 : Nat)) d.2)
theorem cnt_int (k : IntKind) (l : List Int) : cntL ((Ty.int k).cnt true) l = l.length := by
  induction l with
  | nil => rfl
  | cons d l ih =>
    have : cntL ((Ty.int k).cnt true) (d :: l) = 1 + cntL ((Ty.int k).cnt true) l := rfl
    rw [this, ih, List.length_cons]; omega
instance Ty.dec : (t : Ty) → DecidableEq t.D
  | .int _ => inferInstanceAs (DecidableEq Int)
  | .bool => inferInstanceAs (DecidableEq Bool)
  | .str => inferInstanceAs (DecidableEq ByteArray)
  | .sl _ t => @instDecidableEqList _ (Ty.dec t)
  | .pair a b => @instDecidableEqProd _ _ (Ty.dec a) (Ty.dec b)
end Go.Ev

/- One element behind a slice of its own. -/
namespace Go.Ev
open Go Go.RowKit
set_option linter.unusedSimpArgs false
set_option linter.unusedVariables false

/-- Nothing but the blocks of bs turned; there may be new ones. -/
structure KoS (bs : List Nat) (H H' : AH) : Prop where
  next : H.next ≤ H'.next
  get : ∀ b, b < H.next → b ∉ bs → H'.get b = H.get b
theorem KoS.refl (bs : List Nat) (H : AH) : KoS bs H H := ⟨Nat.le_refl _, fun _ _ _ => rfl⟩
theorem KoL.koS {bs : List Nat} {A B : AH} (h : KoL bs A B) : KoS bs A B := ⟨by rw [h.next]; exact Nat.le_refl _, h.get⟩
theorem Kp.koS {A B : AH} (h : Kp A B) (bs : List Nat) : KoS bs A B := ⟨h.next, fun b hb _ => h.get b hb⟩
theorem KoS.mono {bs bs' : List Nat} {A B : AH} (h : KoS bs A B) (hs : ∀ b ∈ bs, b ∈ bs' ∨ A.next ≤ b) : KoS bs' A B :=
  ⟨h.next, fun b hn hb => h.get b hn fun hx => by rcases hs b hx with h | h; exact hb h; omega⟩
theorem KoS.trans {bs bs' : List Nat} {A B C : AH} (h : KoS bs A B) (k : KoS bs' B C) (hs : ∀ b ∈ bs', b ∈ bs ∨ A.next ≤ b) : KoS bs A C :=
  ⟨Nat.le_trans h.next k.next, fun b hn hb => (k.get b (Nat.lt_of_lt_of_le hn h.next) fun hx => by rcases hs b hx with h | h; exact hb h; omega).trans (h.get b hn hb)⟩
theorem KoS.kp {bs : List Nat} {A B C : AH} (h : Kp A B) (k : KoS bs B C) (hlo : ∀ b ∈ bs, A.next ≤ b) : Kp A C :=
  ⟨Nat.le_trans h.next k.next, fun b hb => by rw [k.get b (Nat.lt_of_lt_of_le hb h.next) fun hx => absurd (hlo b hx) (by omega)]; exact h.get b hb⟩
theorem Ty.R.koS {rw : Bool} {H H' : AH} {t : Ty} {c : List AV} {d : t.D} {bs bs' : List Nat} (h : t.R rw H c d bs) (hK : KoS bs' H H') (hd : ∀ b ∈ bs, b ∉ bs') : t.R rw H' c d bs :=
  h.stay hK.next fun b hb => hK.get b (h.mem b hb) (hd b hb)

theorem rows_int {rw : Bool} {H : AH} {k : IntKind} : ∀ {ds : List Int} {xs : List AV} {bs : List Nat}, Rows ((Ty.int k).R rw H) 1 xs ds bs ↔ xs = ds.map (.int k) ∧ bs = [] ∧ ∀ d ∈ ds, k.min ≤ d ∧ d ≤ k.max
  | [], xs, bs => by simp [Rows]
  | d :: ds, xs, bs => by
    constructor
    · rintro ⟨c, r, b1, b2, h1, h2, h3, ⟨h4, h5, h6, h7⟩, h8⟩
      obtain ⟨g1, g2, g3⟩ := rows_int.1 h8
      subst h1 h3 h4 h7 g1 g2
      exact ⟨by simp, by simp, by simpa using ⟨⟨h5, h6⟩, g3⟩⟩
    · rintro ⟨rfl, rfl, h3⟩
      exact ⟨[.int k d], ds.map (.int k), [], [], by simp, rfl, rfl, ⟨rfl, (h3 d (by simp)).1, (h3 d (by simp)).2, rfl⟩, rows_int.2 ⟨rfl, rfl, fun x hx => h3 x (by simp [hx])⟩⟩
variable {P : Program}
theorem conv_int {s d : TypeId} {ds : TypeDesc} {k k0 : IntKind} {n : Int} {H : AH} (hs : P.underlying s = some ds) (hd : P.underlying d = some (.int k)) : convA P s d (.int k0 n) H = some (.int k (k.wrap n), H) := by
  simp [convA, hs, hd]
theorem conv_same {s e : TypeId} {b o n : Nat} {H : AH} {e' : TypeId} {xs : List AV} (hs : P.underlying s = some (.slice e)) (he : P.underlying e = some (.int .u8)) (hb : H.get b = some (.cells e' false xs)) (hn : n ≠ 0) : convA P s s (.slice b o n) H = some (.slice b o n, H) := by
  simp [convA, hs, he, hb, hn]
theorem u8s_map : ∀ (l : List Int), u8s (l.map (.int .u8)) = some l
  | [] => rfl
  | x :: l => by simp [u8s, u8s_map l]
theorem conv_str {s d e : TypeId} {x : AV} {l : List Int} {H : AH} {bs : List Nat} {rw : Bool} (hs : P.underlying s = some (.slice e)) (hd : P.underlying d = some .string) (he : P.underlying e = some (.int .u8)) (h : (Ty.sl e (.int .u8)).R rw H [x] l bs) : convA P s d x H = some (.str (strOf l), H) := by
  have hr : rowOf 1 H x = some (l.map (.int .u8)) := by
    rcases h with ⟨h1, h2, h3⟩ | ⟨b, o, ro, xs, b', h1, h2, h3, h4, h5, h6, h7⟩
    · simp only [List.cons.injEq, and_true] at h1; subst h1 h2; rfl
    · simp only [List.cons.injEq, and_true] at h1; subst h1
      simp only [Ty.n, Nat.mul_one] at h6 h7
      obtain ⟨g1, g2, g3⟩ := rows_int.1 h7
      simp [rowOf, h4, h6, g1]
  cases x <;> simp [convA, hs, hd, he, hr, u8s_map] <;> simp [rowOf] at hr
theorem Ty.R.app1 {H : AH} {e T : TypeId} {t : Ty} {s : AV} {c : List AV} {ds : List t.D} {d : t.D} {bs b1 : List Nat} (h : (Ty.sl e t).R true H [s] ds bs) (hv : t.R true H c d b1) (hnd : (bs ++ b1).Nodup)
    (hT : P.underlying T = some (.slice e)) (hT' : sliceT P T = some e) (hs : sizeT P e = some t.n) {by_ : Nat} (hb : bytesT P e = some by_) {z : List AV} (hz : zeroT P e = some z) (hzl : z.length = t.n)
    (h1 : (ds.length + 1) * by_ ≤ 70368744177664) (h2 : ds.length + 1 ≤ 70368744177664) :
    ∃ s' H' bs', appA P T T s (.slice H.next 0 1) (H.push (.cells e false c)) = some (s', H') ∧ (Ty.sl e t).R true H' [s'] (ds ++ [d]) bs' ∧ bs'.Nodup ∧ (∀ b ∈ bs', b ∈ bs ∨ b ∈ b1 ∨ H.next ≤ b) ∧ KoS bs H H' := by
  have hc := hv.len
  have hnews : newsA P t.n T (.slice H.next 0 1) (H.push (.cells e false c)) = some (1, c) := by
    have ht : c.take t.n = c := by rw [← hc, List.take_length]
    simp [newsA, hT, rowOf, hc, ht]
  unfold appA
  simp only [hT', hs, hb, hz, hnews, if_pos hzl]
  rcases h with ⟨g1, g2, g3⟩ | ⟨b, o, ro, xs, b', g1, g2, g3, g4, g5, g6, g7⟩
  · simp only [List.cons.injEq, and_true] at g1; subst g1 g2 g3
    simp at h1
    refine ⟨.slice (H.next + 1) 0 1, (H.push (.cells e false c)).push (.cells e false c), (H.next + 1) :: b1, by simp [h1], .inr ⟨H.next + 1, 0, false, c, b1, rfl, rfl, by simp, by simp, fun _ => ⟨rfl, rfl, by simp [hc]⟩, by simp [hc], ?_⟩, ?_, ?_, ?_⟩
    · have ht : c.take t.n = c := by rw [← hc, List.take_length]
      simp only [List.nil_append, List.length_singleton, Nat.one_mul, List.drop_zero, ht]
      exact Rows.one (hv.stay (by simp; omega) fun x hx => by
        have := hv.mem x hx
        rw [AH.push_get, if_neg (by simp; omega), AH.push_get, if_neg (by omega)]) hc
    · rw [List.nodup_cons]
      exact ⟨fun hx => by have := hv.mem _ hx; omega, by simpa using hnd⟩
    · intro x hx
      rcases List.mem_cons.1 hx with rfl | hx
      · right; right; omega
      · exact .inr (.inl hx)
    · exact ⟨by simp; omega, fun x hx _ => by rw [AH.push_get, if_neg (by simp; omega), AH.push_get, if_neg (by omega)]⟩
  · simp only [List.cons.injEq, and_true] at g1; subst g1
    obtain ⟨rfl, rfl, hw⟩ := g5 rfl
    have hne : ¬ (b = H.next) := by omega
    have hxs : (xs.drop 0).take (ds.length * t.n) = xs := by rw [List.drop_zero, ← hw, List.take_length]
    rw [hxs] at g7
    subst g2
    have hnd' := hnd
    rw [List.nodup_append, List.nodup_cons] at hnd
    obtain ⟨⟨n1, n2⟩, n3, n4⟩ := hnd
    have hst : ∀ x, x < H.next → x ≠ b → (((H.push (.cells e false c)).kill b).push (.cells e false (xs ++ c))).get x = H.get x := by
      intro x hx hxb
      rw [AH.push_get, if_neg (by simp; omega), AH.kill_get, if_neg hxb, AH.push_get, if_neg (by omega)]
    have hge : (H.push (Blk.cells e false c)).get b = some (.cells e false xs) := by rw [AH.push_get, if_neg hne]; exact g4
    refine ⟨.slice (H.next + 1) 0 (ds.length + 1), ((H.push (.cells e false c)).kill b).push (.cells e false (xs ++ c)), (H.next + 1) :: (b' ++ b1), ?_, .inr ⟨H.next + 1, 0, false, xs ++ c, b' ++ b1, by simp, rfl, by simp, by simp, fun _ => ⟨rfl, rfl, ?_⟩, ?_, ?_⟩, ?_, ?_, ?_⟩
    · simp only [hge]
      rw [if_neg (by omega), if_pos ⟨trivial, by omega, h1, h2⟩, hxs]
      simp
    · rw [List.length_append, hc, hw, List.length_append, List.length_singleton, Nat.succ_mul]
    · rw [List.length_append, List.length_append, hc, hw, List.length_singleton, Nat.succ_mul]; omega
    · have : ((xs ++ c).drop 0).take ((ds ++ [d]).length * t.n) = xs ++ c := by
        rw [List.drop_zero, List.length_append, List.length_singleton, Nat.succ_mul, ← hw, ← hc, ← List.length_append, List.take_length]
      rw [this]
      refine (g7.imp fun c d b3 _ hb h => h.stay (by simp; omega) fun x hx => hst x (h.mem x hx) fun e => n1 (by rw [← e]; exact hb x hx)).app (Rows.one (hv.stay (by simp; omega) fun x hx => hst x (hv.mem x hx) fun e => n4 b (by simp) x hx e.symm) hc)
    · rw [List.nodup_cons, List.nodup_append]
      refine ⟨fun hx => ?_, n2, n3, fun x hx y hy => n4 x (by simp [hx]) y hy⟩
      rcases List.mem_append.1 hx with hx | hx
      · have := Rows.mem (fun c d bs h => Ty.R.mem h) g7 _ hx; omega
      · have := hv.mem _ hx; omega
    · intro x hx
      rcases List.mem_cons.1 hx with rfl | hx
      · right; right; omega
      · rcases List.mem_append.1 hx with hx | hx
        · exact .inl (by simp [hx])
        · exact .inr (.inl hx)
    · exact ⟨by simp; omega, fun x hx hxb => hst x hx fun e => hxb (by simp [e])⟩
/-- a row of whole numbers in one block of its own -/
theorem ints_one {H : AH} {e : TypeId} {k : IntKind} {l : List Int} {b : Nat} (hn : b < H.next) (hg : H.get b = some (.cells e false (l.map (.int k)))) (hb : ∀ d ∈ l, k.min ≤ d ∧ d ≤ k.max) : (Ty.sl e (.int k)).R true H [.slice b 0 l.length] l [b] := by
  refine .inr ⟨b, 0, false, l.map (.int k), [], rfl, rfl, hn, hg, fun _ => ⟨rfl, rfl, by simp [Ty.n]⟩, by simp [Ty.n], ?_⟩
  simp only [Ty.n, Nat.mul_one, List.drop_zero]
  have : (l.map (AV.int k)).take l.length = l.map (.int k) := by rw [List.take_of_length_le (by simp)]
  rw [this]
  exact rows_int.2 ⟨rfl, rfl, hb⟩
theorem ints_in {H : AH} {e : TypeId} {k : IntKind} {l : List Int} {s : AV} {bs : List Nat} {rw : Bool} (h : (Ty.sl e (.int k)).R rw H [s] l bs) : ∀ d ∈ l, k.min ≤ d ∧ d ≤ k.max := by
  rcases h with ⟨h1, h2, h3⟩ | ⟨b, o, ro, xs, b', h1, h2, h3, h4, h5, h6, h7⟩
  · subst h2; simp
  · simp only [Ty.n, Nat.mul_one] at h7
    exact (rows_int.1 h7).2.2
theorem ints_own {H : AH} {e : TypeId} {k : IntKind} {l : List Int} {s : AV} {bs : List Nat} (h : (Ty.sl e (.int k)).R true H [s] l bs) : (s = .nilSlice ∧ l = [] ∧ bs = []) ∨ ∃ b, bs = [b] ∧ s = .slice b 0 l.length ∧ b < H.next ∧ H.get b = some (.cells e false (l.map (.int k))) := by
  rcases h with ⟨h1, h2, h3⟩ | ⟨b, o, ro, xs, b', h1, h2, h3, h4, h5, h6, h7⟩
  · simp only [List.cons.injEq, and_true] at h1; subst h1 h2 h3
    exact .inl ⟨rfl, rfl, rfl⟩
  · simp only [List.cons.injEq, and_true] at h1; subst h1
    obtain ⟨rfl, rfl, hw⟩ := h5 rfl
    simp only [Ty.n, Nat.mul_one] at h6 h7 hw
    obtain ⟨g1, g2, g3⟩ := rows_int.1 h7
    rw [List.drop_zero, ← hw, List.take_length] at g1
    subst g1 g2
    exact .inr ⟨b, by rw [h2], rfl, h3, h4⟩
theorem ints_news {H : AH} {e T : TypeId} {k : IntKind} {l : List Int} {s : AV} {bs : List Nat} {rw : Bool} (h : (Ty.sl e (.int k)).R rw H [s] l bs) (hT : P.underlying T = some (.slice e)) : newsA P 1 T s H = some (l.length, l.map (.int k)) := by
  rcases h with ⟨h1, h2, h3⟩ | ⟨b, o, ro, xs, b', h1, h2, h3, h4, h5, h6, h7⟩
  · simp only [List.cons.injEq, and_true] at h1; subst h1 h2
    simp [newsA, hT]
  · simp only [List.cons.injEq, and_true] at h1; subst h1
    simp only [Ty.n, Nat.mul_one] at h6 h7
    obtain ⟨g1, g2, g3⟩ := rows_int.1 h7
    simp [newsA, hT, rowOf, h4, h6, g1]
/-- whole numbers behind a slice of its own -/
theorem Ty.R.appI {H : AH} {e T : TypeId} {k : IntKind} {s x : AV} {ds xs : List Int} {bs bx : List Nat} {rx : Bool} (h : (Ty.sl e (.int k)).R true H [s] ds bs) (hx : (Ty.sl e (.int k)).R rx H [x] xs bx)
    (hT : P.underlying T = some (.slice e)) (hT' : sliceT P T = some e) (hs : sizeT P e = some 1) {by_ : Nat} (hb : bytesT P e = some by_) {z : List AV} (hz : zeroT P e = some z) (hzl : z.length = 1)
    (h1 : (ds.length + xs.length) * by_ ≤ 70368744177664) (h2 : ds.length + xs.length ≤ 70368744177664) :
    ∃ s' H' bs', appA P T T s x H = some (s', H') ∧ (Ty.sl e (.int k)).R true H' [s'] (ds ++ xs) bs' ∧ bs'.Nodup ∧ (∀ b ∈ bs', b ∈ bs ∨ H.next ≤ b) ∧ KoS bs H H' := by
  have hn := ints_news (P := P) hx hT
  have hin : ∀ d ∈ ds ++ xs, k.min ≤ d ∧ d ≤ k.max := by
    intro d hd
    rcases List.mem_append.1 hd with hd | hd
    · exact ints_in h d hd
    · exact ints_in hx d hd
  unfold appA
  simp only [hT', hs, hb, hz, hn, if_pos hzl]
  rcases ints_own h with ⟨rfl, rfl, rfl⟩ | ⟨b, rfl, rfl, hlt, hg⟩
  · by_cases h0 : xs.length = 0
    · have : xs = [] := List.eq_nil_of_length_eq_zero h0
      subst this
      exact ⟨.nilSlice, H, [], by simp, .inl ⟨rfl, rfl, rfl⟩, by simp, by simp, KoS.refl _ _⟩
    · simp only [List.length_nil, Nat.zero_add] at h1 h2
      refine ⟨.slice H.next 0 xs.length, H.push (.cells e false (xs.map (.int k))), [H.next], by simp [h0, h1, h2], ?_, by simp, by simp, ((Kp.refl H).push _).koS _⟩
      simpa using ints_one (l := xs) (by simp) (by simp) (by simpa using hin)
  · by_cases h0 : xs.length = 0
    · have : xs = [] := List.eq_nil_of_length_eq_zero h0
      subst this
      exact ⟨.slice b 0 ds.length, H, [b], by simp, by simpa using h, by simp, by simp, KoS.refl _ _⟩
    · refine ⟨.slice H.next 0 (ds.length + xs.length), (H.kill b).push (.cells e false ((ds ++ xs).map (.int k))), [H.next], ?_, ?_, by simp, by simp, ⟨by simp, ?_⟩⟩
      · have ht : ((ds.map (AV.int k)).drop 0).take (ds.length * 1) = ds.map (.int k) := by rw [Nat.mul_one, List.drop_zero, List.take_of_length_le (by simp)]
        simp only [if_neg h0, hg, ht]
        rw [if_pos ⟨trivial, by simp, h1, h2⟩, ← List.map_append]
      · have := ints_one (e := e) (k := k) (H := (H.kill b).push (.cells e false ((ds ++ xs).map (.int k)))) (b := H.next) (l := ds ++ xs) (by simp) (by simp) hin
        simpa using this
      · intro c hc hcb
        simp only [List.mem_singleton] at hcb
        rw [AH.push_get, if_neg (by simp; omega), AH.kill_get, if_neg hcb]
end Go.Ev

/- So many zeros behind a slice of its own. -/
namespace Go.Ev
open Go Go.RowKit
set_option linter.unusedSimpArgs false
set_option linter.unusedVariables false
variable {P : Program}
theorem zerosA_map (k : IntKind) : ∀ n, zerosA [.int k 0] n = (List.replicate n (0 : Int)).map (.int k)
  | 0 => rfl
  | n + 1 => by simp [zerosA, zerosA_map k n, List.replicate_succ]
theorem Ty.R.appZ {H : AH} {e T : TypeId} {k kd : IntKind} {s : AV} {ds : List Int} {bs : List Nat} {n : Nat} (h : (Ty.sl e (.int k)).R true H [s] ds bs)
    (hT' : sliceT P T = some e) (hs : sizeT P e = some 1) {by_ : Nat} (hb : bytesT P e = some by_) (hz : zeroT P e = some [.int k 0]) (hk : k.min ≤ 0 ∧ 0 ≤ k.max)
    (h1 : (ds.length + n) * by_ ≤ 70368744177664) (h2 : ds.length + n ≤ 70368744177664) :
    ∃ s' H' bs', appZ P T s (.int kd n) H = some (s', H') ∧ (Ty.sl e (.int k)).R true H' [s'] (ds ++ List.replicate n 0) bs' ∧ bs'.Nodup ∧ (∀ b ∈ bs', b ∈ bs ∨ H.next ≤ b) ∧ KoS bs H H' := by
  have hin : ∀ d ∈ ds ++ List.replicate n 0, k.min ≤ d ∧ d ≤ k.max := by
    intro d hd
    rcases List.mem_append.1 hd with hd | hd
    · exact ints_in h d hd
    · rw [(List.mem_replicate.1 hd).2]; exact hk
  have hz1 : ([.int k 0] : List AV).length = 1 := rfl
  have hc : ([AV.int k 0] : List AV).length = 1 ∧ (0 : Int) ≤ (n : Int) ∧ (n : Int) ≤ 70368744177664 := ⟨rfl, by omega, by omega⟩
  unfold Go.Ev.appZ
  simp only [hT', hs, hb, hz, if_pos hc, Int.toNat_natCast]
  rcases ints_own h with ⟨rfl, rfl, rfl⟩ | ⟨b, rfl, rfl, hlt, hg⟩
  · by_cases h0 : n = 0
    · subst h0
      exact ⟨.nilSlice, H, [], by simp, .inl ⟨rfl, rfl, rfl⟩, by simp, by simp, KoS.refl _ _⟩
    · simp only [List.length_nil, Nat.zero_add] at h1 h2
      refine ⟨.slice H.next 0 n, H.push (.cells e false ((List.replicate n (0 : Int)).map (.int k))), [H.next], by simp [h0, h1, zerosA_map], ?_, by simp, by simp, ((Kp.refl H).push _).koS _⟩
      have := ints_one (e := e) (k := k) (H := H.push (.cells e false ((List.replicate n (0 : Int)).map (.int k)))) (l := List.replicate n 0) (b := H.next) (by simp) (by simp) (by simpa using hin)
      simpa using this
  · by_cases h0 : n = 0
    · subst h0
      exact ⟨.slice b 0 ds.length, H, [b], by simp, by simpa using h, by simp, by simp, KoS.refl _ _⟩
    · refine ⟨.slice H.next 0 (ds.length + n), (H.kill b).push (.cells e false ((ds ++ List.replicate n 0).map (.int k))), [H.next], ?_, ?_, by simp, by simp, ⟨by simp, ?_⟩⟩
      · have ht : ((ds.map (AV.int k)).drop 0).take (ds.length * 1) = ds.map (.int k) := by rw [Nat.mul_one, List.drop_zero, List.take_of_length_le (by simp)]
        simp only [if_neg h0, hg, ht]
        rw [if_pos ⟨trivial, by simp, h1, h2⟩, zerosA_map, ← List.map_append]
      · have := ints_one (e := e) (k := k) (H := (H.kill b).push (.cells e false ((ds ++ List.replicate n 0).map (.int k)))) (b := H.next) (l := ds ++ List.replicate n 0) (by simp) (by simp) hin
        simpa using this
      · intro c hc hcb
        simp only [List.mem_singleton] at hcb
        rw [AH.push_get, if_neg (by simp; omega), AH.kill_get, if_neg hcb]
end Go.Ev
